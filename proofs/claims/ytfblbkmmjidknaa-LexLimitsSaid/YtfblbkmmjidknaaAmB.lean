/- The abstract machine: how its values and heaps stand to the model's. -/
import Derived.Test.YtfblbkmmjidknaaAmA
set_option linter.unusedVariables false
set_option linter.unusedSimpArgs false
namespace Go.Am

def _root_.Go.Value.oneC : Value → Bool
  | .agg _ | .tuple _ => false
  | _ => true

/-- Where an abstract block lies: its block, its shift in it, that block's size, and the cells of one element. -/
structure GEnt where
  B : Nat
  s : Nat
  N : Nat
  E : Nat
abbrev Gm := Nat → Option GEnt

def Gm.le (γ γ' : Gm) : Prop := ∀ i e, γ i = some e → γ' i = some e
theorem Gm.le_refl (γ : Gm) : γ.le γ := fun _ _ h => h
theorem Gm.le_trans {a b c : Gm} (h : a.le b) (k : b.le c) : a.le c := fun i e x => k i e (h i e x)

inductive VR (base : Nat) (γ : Gm) : Value → Value → Prop
  | bool (b) : VR base γ (.bool b) (.bool b)
  | int (k n) : VR base γ (.int k n) (.int k n)
  | float (k n) : VR base γ (.float k n) (.float k n)
  | complex (k n m) : VR base γ (.complex k n m) (.complex k n m)
  | string (s) : VR base γ (.string s) (.string s)
  | ptr0 : VR base γ (.pointer none) (.pointer none)
  | ptrOld (a : Addr) (h : a.block < base) (hs : a.spot = none) : VR base γ (.pointer (some a)) (.pointer (some a))
  | ptrNew (b o : Nat) (e : GEnt) (h : base ≤ b) (hg : γ b = some e) : VR base γ (.pointer (some ⟨b, o, none⟩)) (.pointer (some ⟨e.B, o + e.s, none⟩))
  | sl0 : VR base γ (.slice none 0 0) (.slice none 0 0)
  | slOld (a : Addr) (n c : Nat) (h : a.block < base) (hs : a.spot = none) (hn : n ≤ c) : VR base γ (.slice (some a) n c) (.slice (some a) n c)
  | slNew (b o n c c' : Nat) (e : GEnt) (h : base ≤ b) (hg : γ b = some e) (hn : n ≤ c') (hc : c = n → c' = n) (hN : o + e.s + c' * e.E ≤ e.N) :
      VR base γ (.slice (some ⟨b, o, none⟩) n c) (.slice (some ⟨e.B, o + e.s, none⟩) n c')
  | slEmpty (a a' : Addr) (c : Nat) (hs : a.spot = none) (hs' : a'.spot = none) : VR base γ (.slice (some a) 0 c) (.slice (some a') 0 0)
  | map0 : VR base γ (.map none) (.map none)
  | map (b : Nat) (e : GEnt) (h : base ≤ b) (hg : γ b = some e) : VR base γ (.map (some b)) (.map (some e.B))
  | func (fn : Fn) (a a' c c' : Array Value) (ha : a.size = a'.size) (hc : c.size = c'.size)
      (va : ∀ (i : Nat) v v', a[i]? = some v → a'[i]? = some v' → VR base γ v v') (vc : ∀ (i : Nat) v v', c[i]? = some v → c'[i]? = some v' → VR base γ v v') :
      VR base γ (.func fn a c) (.func fn a' c')
  | nilFunc : VR base γ .nilFunc .nilFunc
  | nilIface : VR base γ .nilIface .nilIface
  | iface (t v v') (h : VR base γ v v') : VR base γ (.iface t v) (.iface t v')
  | agg (a a' : Array Value) (ha : a.size = a'.size) (h1 : ∀ (i : Nat) v, a[i]? = some v → v.oneC = true)
      (va : ∀ (i : Nat) v v', a[i]? = some v → a'[i]? = some v' → VR base γ v v') : VR base γ (.agg a) (.agg a')
  | tuple (a a' : Array Value) (ha : a.size = a'.size)
      (va : ∀ (i : Nat) v v', a[i]? = some v → a'[i]? = some v' → VR base γ v v') : VR base γ (.tuple a) (.tuple a')

theorem VR.mono {base : Nat} {γ γ' : Gm} {v v' : Value} (h : VR base γ v v') (hg : γ.le γ') : VR base γ' v v' := by
  induction h with
  | bool b => exact .bool b
  | int k n => exact .int k n
  | float k n => exact .float k n
  | complex k n m => exact .complex k n m
  | string s => exact .string s
  | ptr0 => exact .ptr0
  | ptrOld a h hs => exact .ptrOld a h hs
  | ptrNew b o e h he => exact .ptrNew b o e h (hg _ _ he)
  | sl0 => exact .sl0
  | slOld a n c h hs hn => exact .slOld a n c h hs hn
  | slNew b o n c c' e h he hn hc hN => exact .slNew b o n c c' e h (hg _ _ he) hn hc hN
  | slEmpty a a' c hs hs' => exact .slEmpty a a' c hs hs'
  | map0 => exact .map0
  | map b e h he => exact .map b e h (hg _ _ he)
  | func fn a a' c c' ha hc _ _ ia ic => exact .func fn a a' c c' ha hc ia ic
  | nilFunc => exact .nilFunc
  | nilIface => exact .nilIface
  | iface t v v' _ ih => exact .iface t v v' ih
  | agg a a' ha h1 _ ih => exact .agg a a' ha h1 ih
  | tuple a a' ha _ ih => exact .tuple a a' ha ih

theorem VR.undef {base : Nat} {γ : Gm} : VR base γ undef undef := .tuple _ _ rfl (fun i v v' h => by simp at h)

theorem VR.oneCell {base : Nat} {γ : Gm} {v v' : Value} (h : VR base γ v v') : v'.oneC = v.oneC := by
  cases h <;> rfl
theorem VR.noTuple {base : Nat} {γ : Gm} {v v' : Value} (h : VR base γ v v') : noTuple v' = noTuple v := by
  cases h <;> rfl

/-! ### Rows of values -/
def LR (base : Nat) (γ : Gm) (l l' : List Value) : Prop := l.length = l'.length ∧ ∀ (i : Nat) v v', l[i]? = some v → l'[i]? = some v' → VR base γ v v'

section
variable {base : Nat} {γ γ' : Gm}
theorem LR.mono {l l' : List Value} (h : LR base γ l l') (hg : γ.le γ') : LR base γ' l l' := ⟨h.1, fun i v v' x y => (h.2 i v v' x y).mono hg⟩
theorem LR.nil : LR base γ [] [] := ⟨rfl, fun i v v' h => by simp at h⟩
theorem LR.cons {v v' : Value} {l l' : List Value} (h : VR base γ v v') (hl : LR base γ l l') : LR base γ (v :: l) (v' :: l') := by
  refine ⟨by simp [hl.1], fun i u u' hu hu' => ?_⟩
  cases i with
  | zero => simp at hu hu'; subst hu; subst hu'; exact h
  | succ i => simp at hu hu'; exact hl.2 i u u' hu hu'
theorem LR.uncons {v : Value} {l l' : List Value} (h : LR base γ (v :: l) l') : ∃ v' r', l' = v' :: r' ∧ VR base γ v v' ∧ LR base γ l r' := by
  obtain ⟨h1, h2⟩ := h
  cases l' with
  | nil => simp at h1
  | cons v' r' =>
    refine ⟨v', r', rfl, h2 0 v v' (by simp) (by simp), by simpa using h1, fun i u u' hu hu' => h2 (i + 1) u u' (by simpa using hu) (by simpa using hu')⟩
theorem LR.append {a a' b b' : List Value} (h : LR base γ a a') (k : LR base γ b b') : LR base γ (a ++ b) (a' ++ b') := by
  refine ⟨by simp [h.1, k.1], fun i u u' hu hu' => ?_⟩
  by_cases hi : i < a.length
  · rw [List.getElem?_append_left hi] at hu
    rw [List.getElem?_append_left (by have := h.1; omega)] at hu'
    exact h.2 i u u' hu hu'
  · rw [List.getElem?_append_right (by omega)] at hu
    rw [List.getElem?_append_right (by have := h.1; omega), ← h.1] at hu'
    exact k.2 _ u u' hu hu'
theorem LR.take {a a' : List Value} (n : Nat) (h : LR base γ a a') : LR base γ (a.take n) (a'.take n) := by
  refine ⟨by simp [h.1], fun i u u' hu hu' => ?_⟩
  rw [List.getElem?_take] at hu hu'
  split at hu
  · rename_i hi; simp only [hi, if_true] at hu'; exact h.2 i u u' hu hu'
  · simp at hu
theorem LR.drop {a a' : List Value} (n : Nat) (h : LR base γ a a') : LR base γ (a.drop n) (a'.drop n) := by
  refine ⟨by simp [h.1], fun i u u' hu hu' => ?_⟩
  rw [List.getElem?_drop] at hu hu'
  exact h.2 _ u u' hu hu'
theorem LR.get {a a' : List Value} (h : LR base γ a a') {i : Nat} {v : Value} (hv : a[i]? = some v) : ∃ v', a'[i]? = some v' ∧ VR base γ v v' := by
  have hi : i < a.length := by
    rcases Nat.lt_or_ge i a.length with h | h
    · exact h
    · simp [List.getElem?_eq_none h] at hv
  have hi' : i < a'.length := by have := h.1; omega
  exact ⟨a'[i], List.getElem?_eq_getElem hi', h.2 i v _ hv (List.getElem?_eq_getElem hi')⟩
theorem LR.arr {a a' : Array Value} (hs : a.size = a'.size) (h : ∀ (i : Nat) v v', a[i]? = some v → a'[i]? = some v' → VR base γ v v') : LR base γ a.toList a'.toList :=
  ⟨by simpa using hs, fun i v v' x y => h i v v' (by simpa using x) (by simpa using y)⟩
theorem LR.toArr {l l' : List Value} (h : LR base γ l l') : ∀ (i : Nat) v v', l.toArray[i]? = some v → l'.toArray[i]? = some v' → VR base γ v v' := by
  intro i v v' x y
  exact h.2 i v v' (by simpa using x) (by simpa using y)
theorem LR.map {α : Type} (l : List α) (f f' : α → Value) (h : ∀ x ∈ l, VR base γ (f x) (f' x)) : LR base γ (l.map f) (l.map f') := by
  induction l with
  | nil => exact LR.nil
  | cons x l ih => exact LR.cons (h x (by simp)) (ih fun y hy => h y (by simp [hy]))
theorem VR.aggL {l l' : List Value} (h : LR base γ l l') (h1 : ∀ v ∈ l, v.oneC = true) : VR base γ (.agg l.toArray) (.agg l'.toArray) :=
  .agg _ _ (by simpa using h.1) (fun i v hv => h1 v (List.mem_of_getElem? (by simpa using hv))) h.toArr
theorem VR.aggInv {a : Array Value} {v : Value} (h : VR base γ (.agg a) v) : ∃ a', v = .agg a' ∧ LR base γ a.toList a'.toList ∧ ∀ v ∈ a.toList, v.oneC = true := by
  cases h with
  | agg _ a' ha h1 va =>
    refine ⟨a', rfl, LR.arr ha va, fun v hv => ?_⟩
    obtain ⟨i, hi⟩ := List.getElem?_of_mem hv
    exact h1 i v (by simpa using hi)
theorem VR.cells {v v' : Value} (h : VR base γ v v') (hn : Go.Am.noTuple v = true) : LR base γ v.cells.toList v'.cells.toList ∧ ∀ u ∈ v.cells.toList, u.oneC = true := by
  cases h <;> first
    | (rename_i a a' ha h1 va
       refine ⟨LR.arr ha va, fun v hv => ?_⟩
       replace hv : v ∈ a.toList := hv
       obtain ⟨i, hi⟩ := List.getElem?_of_mem hv
       exact h1 i v (by simpa using hi))
    | (simp [Go.Am.noTuple] at hn; done)
    | (refine ⟨LR.cons ?_ LR.nil, fun u hu => ?_⟩
       · first
           | exact .bool _ | exact .int _ _ | exact .float _ _ | exact .complex _ _ _ | exact .string _ | exact .ptr0 | exact .ptrOld _ ‹_› ‹_› | exact .ptrNew _ _ _ ‹_› ‹_› | exact .sl0
           | exact .slOld _ _ _ ‹_› ‹_› ‹_› | exact .slNew _ _ _ _ _ _ ‹_› ‹_› ‹_› ‹_› ‹_› | exact .slEmpty _ _ _ ‹_› ‹_› | exact .map0 | exact .map _ _ ‹_› ‹_› | exact .nilFunc | exact .nilIface
           | exact .iface _ _ _ ‹_› | exact .func _ _ _ _ _ ‹_› ‹_› ‹_› ‹_›
       · simp [Value.cells] at hu
         subst hu
         rfl)
end

/-! ### Values without addresses -/
theorem constCell_oneCell {v : Value} (h : constCell v = true) : v.oneC = true := by
  cases v <;> simp_all [constCell, Value.oneC]
theorem VR.ofConstCell {base : Nat} {γ : Gm} {v : Value} (h : constCell v = true) : VR base γ v v := by
  cases v with
  | bool b => exact .bool b
  | int k n => exact .int k n
  | float k n => exact .float k n
  | complex k n m => exact .complex k n m
  | string s => exact .string s
  | pointer a => cases a with
    | none => exact .ptr0
    | some a => simp [constCell] at h
  | slice a n c => cases a with
    | none => simp [constCell] at h; obtain ⟨rfl, rfl⟩ := h; exact .sl0
    | some a => simp [constCell] at h
  | map r => cases r with
    | none => exact .map0
    | some r => simp [constCell] at h
  | nilFunc => exact .nilFunc
  | nilIface => exact .nilIface
  | chan r => simp [constCell] at h
  | func fn a c => simp [constCell] at h
  | iface t v => simp [constCell] at h
  | agg cs => simp [constCell] at h
  | tuple vs => simp [constCell] at h
theorem VR.ofConst {base : Nat} {γ : Gm} {v : Value} (h : constOk v = true) : VR base γ v v := by
  cases v with
  | agg cs =>
    simp only [constOk] at h
    have h' : ∀ (i : Nat) v, cs[i]? = some v → constCell v = true := fun i v hv => by
      rw [Array.all_eq_true_iff_forall_mem] at h
      exact h v (Array.mem_of_getElem? hv)
    exact .agg _ _ rfl (fun i v hv => constCell_oneCell (h' i v hv)) (fun i v v' hv hv' => by
      rw [hv] at hv'; injection hv' with e; subst e; exact VR.ofConstCell (h' i v hv))
  | _ => exact VR.ofConstCell h
theorem constOk_noTuple {v : Value} (h : constOk v = true) : noTuple v = true := by
  cases v <;> simp_all [constOk, constCell, noTuple]
theorem constOk_cells {v : Value} (h : constOk v = true) : ∀ u ∈ v.cells.toList, constCell u = true := by
  cases v with
  | agg cs => intro u hu; simp only [constOk, Array.all_eq_true_iff_forall_mem] at h; exact h u (by simpa [Value.cells] using hu)
  | _ => intro u hu; simp [Value.cells] at hu; subst hu; exact h
theorem LR.ofConst {base : Nat} {γ : Gm} {l : List Value} (h : ∀ u ∈ l, constCell u = true) : LR base γ l l :=
  ⟨rfl, fun i v v' hv hv' => by rw [hv] at hv'; injection hv' with e; subst e; exact VR.ofConstCell (h v (List.mem_of_getElem? hv))⟩

/-- A scalar stands for itself. -/
theorem VR.eq_of_const {base : Nat} {γ : Gm} {v v' : Value} (h : VR base γ v v') (hc : constCell v = true) : v' = v := by
  cases h <;> first | rfl | (simp [constCell] at hc; done)

end Go.Am
