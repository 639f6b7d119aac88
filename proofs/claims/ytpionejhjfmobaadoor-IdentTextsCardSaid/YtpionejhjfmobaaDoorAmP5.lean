/- Plain words for laws: bytes that are appended one by one. -/
import Derived.Test.YtpionejhjfmobaaDoorAmP1
set_option linter.unusedVariables false
set_option linter.unusedSimpArgs false
namespace Go.Am
def encB (c : Int) : List Value := [Value.int .u8 c]
theorem encB_len (c : Int) : (encB c).length = 1 := rfl
def bytesS (l : List Int) : ByteArray := ⟨(l.map fun c => UInt8.ofNat c.toNat).toArray⟩
theorem bytesS_size (l : List Int) : (bytesS l).size = l.length := by simp [bytesS, ByteArray.size]
theorem bytesOf_enc : ∀ l : List Int, bytesOfCells (l.flatMap encB) = some (l.map fun c => UInt8.ofNat c.toNat) := by
  intro l
  induction l with
  | nil => rfl
  | cons c l ih => simp only [List.flatMap_cons, encB, List.singleton_append, bytesOfCells, List.map_cons]; rw [ih]; rfl
theorem strOf_enc {σ : AHeap} {e : TypeId} {sl : Sl} {l : List Int} (h : LRd encB σ e sl l) : strOf σ sl = some (bytesS l) := by
  unfold strOf
  rcases h.2 with ⟨h1, h2⟩ | ⟨b, ch, h1, h2, h3, h4⟩
  · subst h1; subst h2; rfl
  · rw [h1]
    simp only
    have hl : (l.flatMap encB).length = l.length := by rw [flatMap_len encB_len]; omega
    have := ldN_own (off := 0) (n := sl.n) h2 h4 (by rw [hl, h.1]; omega)
    unfold ldN at this
    simp only [Option.bind_some] at this
    rw [this, Option.bind_some, List.drop_zero, h.1, ← hl, List.take_length, bytesOf_enc]
    rfl
theorem B_eq {s : ByteArray} {i : Nat} (h : i < s.size) : B s i = ((s[i]'h).toNat : Int) := by unfold B; rw [dif_pos h]
theorem B_out {s : ByteArray} {i : Nat} (h : ¬ i < s.size) : B s i = 0 := by unfold B; rw [dif_neg h]
theorem B_append_left {a b : ByteArray} {i : Nat} (h : i < a.size) : B (a ++ b) i = B a i := by
  rw [B_eq (by rw [ByteArray.size_append]; omega), B_eq h, ByteArray.getElem_append_left h]
theorem B_append_right {a b : ByteArray} {i : Nat} (h : a.size ≤ i) : B (a ++ b) i = B b (i - a.size) := by
  by_cases hb : i - a.size < b.size
  · rw [B_eq (by rw [ByteArray.size_append]; omega), B_eq hb, ByteArray.getElem_append_right h]
  · rw [B_out hb, B_out (by rw [ByteArray.size_append]; omega)]
theorem B_bytesS {l : List Int} {i : Nat} (h : i < l.length) (h0 : 0 ≤ l[i]) (h1 : l[i] < 256) : B (bytesS l) i = l[i] := by
  rw [B_eq (by rw [bytesS_size]; exact h)]
  show (((l.map fun c => UInt8.ofNat c.toNat).toArray[i]'(by simpa using h)).toNat : Int) = l[i]
  simp only [List.getElem_toArray, List.getElem_map]
  rw [UInt8.toNat_ofNat', Nat.mod_eq_of_lt (by omega)]
  omega
end Go.Am
