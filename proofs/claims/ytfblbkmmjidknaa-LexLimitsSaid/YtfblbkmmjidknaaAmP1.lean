/- Plain words for laws: bytes of texts, loops that look for an end. -/
import Derived.Test.YtfblbkmmjidknaaAmZ
set_option linter.unusedVariables false
set_option linter.unusedSimpArgs false
namespace Go.Am
/-- The byte at a place, 0 behind the end. -/
def B (s : ByteArray) (i : Nat) : Int := if h : i < s.size then ((s[i]'h).toNat : Int) else 0
theorem B_range (s : ByteArray) (i : Nat) : 0 ≤ B s i ∧ B s i ≤ 255 := by
  unfold B
  split
  · have := (s[i]).toNat_lt; omega
  · omega
theorem idxS_eq {s : ByteArray} {i : Nat} (h : i < s.size) : idxS s i = some (B s i) := by
  unfold idxS B
  rw [dif_pos h, dif_pos ⟨by omega, by simpa using h⟩]
  rfl
theorem wrap64 {x : Int} (h : -9223372036854775808 ≤ x) (h' : x < 9223372036854775808) : IntKind.wrap .i64 x = x := by
  unfold IntKind.wrap; simp [IntKind.bits, IntKind.signed]; omega
theorem wrap8 {x : Int} (h : 0 ≤ x) (h' : x < 256) : IntKind.wrap .u8 x = x := by
  unfold IntKind.wrap; simp [IntKind.bits, IntKind.signed]; omega
def scanTo (p : Int → Bool) (s : ByteArray) (i : Nat) : Nat := if h : i < s.size then (if p (B s i) then scanTo p s (i + 1) else i) else i
termination_by s.size - i
theorem scanTo_ge (p : Int → Bool) (s : ByteArray) (i : Nat) : i ≤ scanTo p s i := by
  unfold scanTo
  split
  · split
    · have := scanTo_ge p s (i + 1); omega
    · omega
  · omega
termination_by s.size - i
theorem scanTo_le (p : Int → Bool) (s : ByteArray) (i : Nat) (h : i ≤ s.size) : scanTo p s i ≤ s.size := by
  unfold scanTo
  split
  · split
    · exact scanTo_le p s (i + 1) (by omega)
    · omega
  · omega
termination_by s.size - i
theorem loop_scanTo {p : Int → Bool} {s : ByteArray} {L : Int → Option (Int ⊕ Int)}
    (h1 : ∀ i : Nat, i < s.size → p (B s i) = true → L i = some (.inl ((i + 1 : Nat) : Int))) (h2 : ∀ i : Nat, i < s.size → p (B s i) = false → L i = some (.inr (i : Int))) (h3 : L (s.size : Int) = some (.inr (s.size : Int))) :
    ∀ i : Nat, i ≤ s.size → loopT L (i : Int) = some ((scanTo p s i : Nat) : Int) := by
  intro i hi
  rw [loopT_eq, scanTo]
  by_cases h : i < s.size
  · rw [dif_pos h]
    cases hp : p (B s i) with
    | true => rw [h1 i h hp]; exact loop_scanTo h1 h2 h3 (i + 1) h
    | false => rw [h2 i h hp]; rfl
  · have : i = s.size := by omega
    subst this
    rw [h3, dif_neg (by omega)]
termination_by i => s.size - i
end Go.Am
