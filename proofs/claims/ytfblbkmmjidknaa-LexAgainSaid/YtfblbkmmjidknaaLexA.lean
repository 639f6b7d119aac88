/- LexA -/
import Derived.Test.YtfblbkmmjidknaaL1G
import Derived.Test.YtfblbkmmjidknaaAmP1
set_option linter.unusedVariables false
set_option linter.unusedSimpArgs false
namespace Go.Am
theorem bd_some {α β : Type} (a : α) (f : α → Option β) : bd (some a) f = f a := rfl
theorem lt_eq {α β : Type} (a : α) (f : α → β) : lt a f = f a := rfl

def allowedB (c : Int) : Bool := decide (c = 9) || decide (c = 10) || decide (c = 13) || (decide (32 ≤ c) && decide (c ≤ 126))
def letterB (c : Int) : Bool := (decide (97 ≤ c) && decide (c ≤ 122)) || (decide (65 ≤ c) && decide (c ≤ 90))
def digitB (c : Int) : Bool := decide (48 ≤ c) && decide (c ≤ 57)
def innerB (c : Int) : Bool := letterB c || digitB c || decide (c = 95)
theorem lex_allowed (c : Int) : G_lex_allowed c = some (allowedB c) := rfl
theorem lex_letter (c : Int) : G_lex_letter c = some (letterB c) := rfl
theorem lex_digit (c : Int) : G_lex_digit c = some (digitB c) := rfl
theorem lex_inner (c : Int) : G_lex_inner c = some (innerB c) := by
  unfold G_lex_inner innerB
  simp only [lex_letter, lex_digit, bd_some, lt_eq]
  cases letterB c <;> simp [bd_some]
theorem ref_white (c : Int) : G_semvcsref01_white c = some (decide (c = 9) || decide (c = 10) || decide (c = 13) || decide (c = 32)) := rfl
theorem ref_printed (c : Int) : G_semvcsref01_printed c = some (decide (32 ≤ c) && decide (c ≤ 126)) := rfl
theorem ref_allowed (c : Int) : G_semvcsref01_allowed c = some (allowedB c) := by
  unfold G_semvcsref01_allowed
  simp only [ref_white, ref_printed, bd_some, lt_eq]
  by_cases h : c = 32
  · subst h; rfl
  · unfold allowedB
    cases h9 : decide (c = 9) <;> cases h10 : decide (c = 10) <;> cases h13 : decide (c = 13) <;> simp [h, bd_some]
theorem ref_digit (c : Int) : G_semvcsref01_digit c = some (digitB c) := rfl
def lowerB (c : Int) : Bool := decide (97 ≤ c) && decide (c ≤ 122)
def upperB (c : Int) : Bool := decide (65 ≤ c) && decide (c ≤ 90)
theorem ref_lower (c : Int) : G_semvcsref01_lower c = some (lowerB c) := rfl
theorem ref_upper (c : Int) : G_semvcsref01_upper c = some (upperB c) := rfl
theorem ref_inWord (c : Int) : G_semvcsref01_inWord c = some (innerB c) := by
  unfold G_semvcsref01_inWord
  simp only [ref_lower, ref_upper, ref_digit, bd_some, lt_eq]
  unfold innerB letterB
  show _ = some ((lowerB c || upperB c) || digitB c || decide (c = 95))
  cases lowerB c <;> cases upperB c <;> simp [bd_some]

/-! ### Words -/
theorem run_eq {s : ByteArray} (hs : s.size < 2 ^ 62) {i : Nat} (hi : i ≤ s.size) : G_lex_run s i = some ((scanTo innerB s i : Nat) : Int) := by
  unfold G_lex_run
  have := loop_scanTo (p := innerB) (s := s) (L := G_lex_run_l1 s) ?_ ?_ ?_ i hi
  · rw [this]; rfl
  · intro i hi hp
    unfold G_lex_run_l1
    have h1 : (decide ((i : Int) < (s.size : Int))) = true := by simpa using hi
    simp only [lt_eq, h1, cond_true, idxS_eq hi, bd_some, lex_inner, hp, Bool.and_self]
    rw [wrap64 (by omega) (by omega)]; rfl
  · intro i hi hp
    unfold G_lex_run_l1
    have h1 : (decide ((i : Int) < (s.size : Int))) = true := by simpa using hi
    simp only [lt_eq, h1, cond_true, idxS_eq hi, bd_some, lex_inner, hp, Bool.and_false, cond_false]
  · unfold G_lex_run_l1
    simp [lt_eq, bd_some]
theorem word_eq {s : ByteArray} (hs : s.size < 2 ^ 62) {i : Nat} (hi : i ≤ s.size) : G_semvcsref01_word s i = some (if i < s.size ∧ letterB (B s i) = true then (scanTo innerB s i : Int) - i else 0) := by
  have hl : loopT (G_semvcsref01_word_l1 s i) (i : Int) = some ((scanTo innerB s i : Nat) : Int) := by
    refine loop_scanTo ?_ ?_ ?_ i hi
    · intro i hi hp
      unfold G_semvcsref01_word_l1
      have h1 : (decide ((i : Int) < (s.size : Int))) = true := by simpa using hi
      simp only [lt_eq, h1, cond_true, idxS_eq hi, bd_some, ref_inWord, hp, Bool.and_self]
      rw [wrap64 (by omega) (by omega)]; rfl
    · intro i hi hp
      unfold G_semvcsref01_word_l1
      have h1 : (decide ((i : Int) < (s.size : Int))) = true := by simpa using hi
      simp only [lt_eq, h1, cond_true, idxS_eq hi, bd_some, ref_inWord, hp, Bool.and_false, cond_false]
    · unfold G_semvcsref01_word_l1
      simp [lt_eq, bd_some]
  have hg := scanTo_ge innerB s i
  have hle := scanTo_le innerB s i hi
  unfold G_semvcsref01_word
  by_cases h : i < s.size
  · have h1 : decide ((s.size : Int) ≤ (i : Int)) = false := by simpa using h
    simp only [lt_eq, h1, Bool.not_false, cond_true, idxS_eq h, bd_some, ref_lower, ref_upper, Bool.true_and, Bool.false_or]
    have hL : letterB (B s i) = (lowerB (B s i) || upperB (B s i)) := rfl
    rw [hl]
    simp only [bd_some, h, true_and, hL]
    rw [wrap64 (by omega) (by omega)]
    cases e1 : lowerB (B s i) <;> cases e2 : upperB (B s i) <;> simp [bd_some, e1, e2]
  · have h1 : decide ((s.size : Int) ≤ (i : Int)) = true := by simp; omega
    simp only [lt_eq, h1, Bool.not_true, cond_false, bd_some, Bool.false_and, Bool.true_or, cond_true, h, false_and, if_false]
/-! ### Reserved words -/
theorem ex_cond {c : Bool} {b : Bool} {x : Option Bool} (h : ∃ r, x = some r) : ∃ r, (bif c then some b else x) = some r := by
  cases c
  · exact h
  · exact ⟨b, rfl⟩
theorem reserved_some (w : ByteArray) : ∃ r, G_lex_reserved w = some r := by
  unfold G_lex_reserved G_lex_reserved_j1
  simp only [lt_eq]
  repeat (first | exact ⟨_, rfl⟩ | apply ex_cond)
noncomputable def resB (w : ByteArray) : Bool := match G_lex_reserved w with
  | some b => b
  | none => false
theorem lex_reserved (w : ByteArray) : G_lex_reserved w = some (resB w) := by
  obtain ⟨r, hr⟩ := reserved_some w
  unfold resB; rw [hr]
theorem ref_reserved (w : ByteArray) : G_semvcsref01_reserved w = some (resB w) := by
  rw [← lex_reserved]; rfl
end Go.Am
/- LexB -/
set_option linter.unusedVariables false
set_option linter.unusedSimpArgs false
namespace Go.Am
theorem slS_eq {s : ByteArray} {i j : Nat} (h : i ≤ j) (h' : j ≤ s.size) : slS s (some (i : Int)) (some (j : Int)) = some (s.extract i j) := by
  unfold slS
  simp only [Option.getD_some]
  rw [if_pos ⟨by omega, by omega, by omega⟩]; simp
theorem slS_end {s : ByteArray} {i : Nat} (h : i ≤ s.size) : slS s (some (i : Int)) none = some (s.extract i s.size) := by
  unfold slS
  simp only [Option.getD_some, Option.getD_none]
  rw [if_pos ⟨by omega, by omega, by omega⟩]; simp
theorem size_extract {s : ByteArray} {i j : Nat} (h : i ≤ j) (h' : j ≤ s.size) : (s.extract i j).size = j - i := by
  rw [ByteArray.size_extract]; omega
theorem B_extract {s : ByteArray} {i j k : Nat} (h : i + k < j) (h' : j ≤ s.size) : B (s.extract i j) k = B s (i + k) := by
  unfold B
  have h1 : k < (s.extract i j).size := by rw [ByteArray.size_extract]; omega
  rw [dif_pos h1, dif_pos (by omega)]
  rw [ByteArray.getElem_extract]

def wordS (s : ByteArray) (i : Nat) (e1 e2 : Nat) (r1 r2 : Bool) : Int × Int × Int × Int :=
  if (decide (B s i ≤ 90) && !r1 && decide (e1 + 1 < s.size) && decide (B s e1 = 46) && letterB (B s (e1 + 1))) = true then
    if 24 < e1 - i ∨ 24 < e2 - (e1 + 1) then (0, 0, i, 3) else if r2 = true then (0, 0, i, 2) else if B s (e1 + 1) ≤ 90 then (4, e2, 0, 0) else (3, e2, 0, 0)
  else if r1 = true then (7, e1, 0, 0) else if 24 < e1 - i then (0, 0, i, 3) else if B s i ≤ 90 then (2, e1, 0, 0) else (1, e1, 0, 0)
theorem scanTo_gt {p : Int → Bool} {s : ByteArray} {i : Nat} (h : i < s.size) (hp : p (B s i) = true) : i < scanTo p s i := by
  unfold scanTo
  rw [dif_pos h, if_pos hp]
  have := scanTo_ge p s (i + 1); omega
theorem inner_letter {c : Int} (h : letterB c = true) : innerB c = true := by unfold innerB; simp [h]
theorem lex_word {s : ByteArray} (hs : s.size < 2 ^ 62) {i : Nat} (hi : i < s.size) (hl : letterB (B s i) = true) :
    G_lex_word s i = some (wordS s i (scanTo innerB s i) (scanTo innerB s (scanTo innerB s i + 1)) (resB (s.extract i (scanTo innerB s i))) (resB (s.extract (scanTo innerB s i + 1) (scanTo innerB s (scanTo innerB s i + 1))))) := by
  have g1 := scanTo_gt (p := innerB) hi (inner_letter hl)
  have l1 := scanTo_le innerB s i (by omega)
  unfold G_lex_word
  rw [run_eq hs (by omega)]
  simp only [bd_some, lt_eq]
  generalize he1 : scanTo innerB s i = e1 at *
  rw [slS_eq (by omega) l1]
  simp only [bd_some]
  have hz : (s.extract i e1).size = e1 - i := size_extract (by omega) l1
  have h0 := idxS_eq (s := s.extract i e1) (i := 0) (by omega)
  have hB := B_extract (s := s) (i := i) (j := e1) (k := 0) (by omega) l1
  simp only [Nat.add_zero] at hB
  rw [hB] at h0
  have h0' : idxS (s.extract i e1) 0 = some (B s i) := h0
  simp only [h0', bd_some, lex_reserved]
  rw [wrap64 (by omega) (by omega)]
  have e0 : ((e1 : Int) + 1) = ((e1 + 1 : Nat) : Int) := by omega
  rw [e0]
  generalize hr1 : resB (s.extract i e1) = r1
  have hcast : ∀ b : Bool, (bif b then some r1 else some false) = some (b && r1) := by intro b; cases b <;> rfl
  rw [hcast]
  simp only [bd_some, hz]
  have hlt : decide (((e1 + 1 : Nat) : Int) < (s.size : Int)) = decide (e1 + 1 < s.size) := by
    by_cases h : e1 + 1 < s.size <;> simp [h] <;> omega
  rw [hlt]
  have h24 : decide ((24 : Int) < ((e1 - i : Nat) : Int)) = decide (24 < e1 - i) := by
    by_cases h : 24 < e1 - i <;> simp [h] <;> omega
  rw [h24]
  have hu : (decide (B s i ≤ 90) && !(decide (B s i ≤ 90) && r1)) = (decide (B s i ≤ 90) && !r1) := by cases decide (B s i ≤ 90) <;> simp
  rw [hu]
  unfold wordS
  by_cases hc : (decide (B s i ≤ 90) && !r1 && decide (e1 + 1 < s.size)) = true
  · rw [hc]
    have h3 : e1 + 1 < s.size := by simp only [Bool.and_eq_true, decide_eq_true_eq] at hc; exact hc.2
    have hi1 : idxS s (e1 : Int) = some (B s e1) := idxS_eq (by omega)
    have hi2 : idxS s ((e1 + 1 : Nat) : Int) = some (B s (e1 + 1)) := idxS_eq h3
    simp only [cond_true, hi1, bd_some, Bool.true_and]
    cases h4 : decide (B s e1 = 46) with
    | false =>
      simp only [cond_false, bd_some, Bool.false_and, Bool.false_eq_true, if_false]
      cases r1 <;> simp only [cond_true, cond_false, if_true, Bool.false_eq_true, if_false]
      by_cases h : 24 < e1 - i <;> by_cases h' : B s i ≤ 90 <;> simp [h, h']
    | true =>
      simp only [cond_true, hi2, bd_some, lex_letter, Bool.true_and]
      cases h5 : letterB (B s (e1 + 1)) with
      | false =>
        simp only [cond_false, Bool.false_eq_true, if_false]
        cases r1 <;> simp only [cond_true, cond_false, if_true, Bool.false_eq_true, if_false]
        by_cases h : 24 < e1 - i <;> by_cases h' : B s i ≤ 90 <;> simp [h, h']
      | true =>
        have g2 := scanTo_gt (p := innerB) h3 (inner_letter h5)
        have l2 := scanTo_le innerB s (e1 + 1) (by omega)
        rw [run_eq hs (by omega)]
        generalize scanTo innerB s (e1 + 1) = e2 at *
        simp only [cond_true, bd_some, if_true]
        rw [slS_eq (by omega) l2]
        have hz2 : (s.extract (e1 + 1) e2).size = e2 - (e1 + 1) := size_extract (by omega) l2
        have hB2 := B_extract (s := s) (i := e1 + 1) (j := e2) (k := 0) (by omega) l2
        have h02 : idxS (s.extract (e1 + 1) e2) 0 = some (B s (e1 + 1)) := by
          have := idxS_eq (s := s.extract (e1 + 1) e2) (i := 0) (by omega)
          rw [hB2] at this; exact this
        simp only [bd_some, hz2, h02]
        have h24' : decide ((24 : Int) < ((e2 - (e1 + 1) : Nat) : Int)) = decide (24 < e2 - (e1 + 1)) := by
          by_cases h : 24 < e2 - (e1 + 1) <;> simp [h] <;> omega
        rw [h24']
        generalize resB (s.extract (e1 + 1) e2) = r2
        by_cases h : 24 < e1 - i <;> by_cases h' : 24 < e2 - (e1 + 1) <;> by_cases h'' : B s (e1 + 1) ≤ 90 <;> cases r2 <;> simp [h, h', h'']
  · simp only [Bool.not_eq_true] at hc
    rw [hc]
    simp only [cond_false, bd_some, Bool.false_and, Bool.false_eq_true, if_false]
    cases r1 <;> simp only [cond_true, cond_false, if_true, Bool.false_eq_true, if_false]
    by_cases h : 24 < e1 - i <;> by_cases h' : B s i ≤ 90 <;> simp [h, h']
end Go.Am
/- LexC -/
set_option linter.unusedVariables false
set_option linter.unusedSimpArgs false
namespace Go.Am
def textS (s : ByteArray) (i j : Nat) : Int × Int × Int × Int :=
  if h : j < s.size then
    if B s j = 34 then (6, (j + 1 : Nat), 0, 0)
    else if B s j = 92 ∨ B s j = 9 ∨ B s j = 10 ∨ B s j = 13 then (0, 0, i, 2)
    else if allowedB (B s j) = true then textS s i (j + 1) else (0, 0, j, 1)
  else (0, 0, i, 2)
termination_by s.size - j
theorem lex_text_loop {s : ByteArray} (hs : s.size < 2 ^ 62) {i : Nat} : ∀ j : Nat, j ≤ s.size → (bd (loopT (G_lex_text_l1 s i) (j : Int)) fun r => match r with
    | .inl _ => some ((0 : Int), (0 : Int), (i : Int), (2 : Int))
    | .inr (a, b, c, d) => some (a, b, c, d)) = some (textS s i j) := by
  intro j hj
  rw [loopT_eq, textS]
  by_cases h : j < s.size
  · have h1 : (decide ((j : Int) < (s.size : Int))) = true := by simpa using h
    rw [dif_pos h]
    unfold G_lex_text_l1
    simp only [lt_eq, h1, cond_true, idxS_eq h, bd_some, lex_allowed]
    by_cases h34 : B s j = 34
    · simp only [h34, decide_true, cond_true, if_true]
      rw [wrap64 (by omega) (by omega)]; rfl
    · simp only [h34, decide_false, cond_false, if_false]
      by_cases h92 : B s j = 92 ∨ B s j = 9 ∨ B s j = 10 ∨ B s j = 13
      · rw [if_pos h92]
        have : (decide (B s j = 92) || decide (B s j = 9) || decide (B s j = 10) || decide (B s j = 13)) = true := by simpa [or_assoc] using h92
        rw [this]; rfl
      · rw [if_neg h92]
        have : (decide (B s j = 92) || decide (B s j = 9) || decide (B s j = 10) || decide (B s j = 13)) = false := by simpa [not_or, and_assoc] using h92
        rw [this]
        simp only [cond_false]
        cases ha : allowedB (B s j) with
        | false => rfl
        | true =>
          simp only [Bool.not_true, cond_false, if_true]
          rw [wrap64 (by omega) (by omega)]
          exact lex_text_loop hs (j + 1) h
  · have : j = s.size := by omega
    subst this
    rw [dif_neg h]
    unfold G_lex_text_l1
    simp [lt_eq, bd_some]
termination_by j => s.size - j
theorem lex_text {s : ByteArray} (hs : s.size < 2 ^ 62) {i : Nat} (hi : i < s.size) : G_lex_text s i = some (textS s i (i + 1)) := by
  unfold G_lex_text
  simp only [lt_eq]
  rw [wrap64 (by omega) (by omega)]
  exact lex_text_loop hs (i + 1) (by omega)

def signB (c : Int) : Bool := decide (c = 40) || decide (c = 41) || decide (c = 91) || decide (c = 93) || decide (c = 58) || decide (c = 44) || decide (c = 61) || decide (c = 43) || decide (c = 45) || decide (c = 42) || decide (c = 60) || decide (c = 63)
theorem index_sign {c : Int} (h0 : 0 ≤ c) (h1 : c ≤ 255) : ∃ r, G_strings_IndexByte (⟨#[40, 41, 91, 93, 58, 44, 61, 43, 45, 42, 60, 63]⟩ : ByteArray) c = some r ∧ decide (0 ≤ r) = signB c := by
  refine ⟨_, rfl, ?_⟩
  obtain ⟨n, rfl⟩ : ∃ n : Nat, c = n := ⟨c.toNat, by omega⟩
  have : (List.range 256).all (fun n => decide (0 ≤ firstIdx (⟨#[40, 41, 91, 93, 58, 44, 61, 43, 45, 42, 60, 63]⟩ : ByteArray) ((n : Int)).toNat.toUInt8) == signB (n : Int)) = true := by kernel_rfl
  rw [List.all_eq_true] at this
  simpa using this n (by rw [List.mem_range]; omega)
end Go.Am
/- LexD -/
set_option linter.unusedVariables false
set_option linter.unusedSimpArgs false
namespace Go.Am
noncomputable def wordT (s : ByteArray) (i : Nat) : Int × Int × Int × Int := wordS s i (scanTo innerB s i) (scanTo innerB s (scanTo innerB s i + 1)) (resB (s.extract i (scanTo innerB s i))) (resB (s.extract (scanTo innerB s i + 1) (scanTo innerB s (scanTo innerB s i + 1))))
noncomputable def tokS (s : ByteArray) (i : Nat) : Int × Int × Int × Int :=
  if letterB (B s i) = true then wordT s i
  else if digitB (B s i) = true then
    if i + 1 < scanTo digitB s i ∧ B s i = 48 then (0, 0, i, 2) else if 15 < scanTo digitB s i - i then (0, 0, i, 3) else (5, (scanTo digitB s i : Nat), 0, 0)
  else if B s i = 34 then textS s i (i + 1)
  else if B s i = 61 ∧ i + 1 < s.size ∧ B s (i + 1) = 61 then (8, (i + 2 : Nat), 0, 0)
  else if signB (B s i) = true then (8, (i + 1 : Nat), 0, 0)
  else if allowedB (B s i) = true then (0, 0, i, 2) else (0, 0, i, 1)
theorem lex_digits {s : ByteArray} (hs : s.size < 2 ^ 62) {at' : Int} {c : Int} {i : Nat} (hi : i ≤ s.size) : loopT (G_lex_token_l1 s at' c) (i : Int) = some ((scanTo digitB s i : Nat) : Int) := by
  refine loop_scanTo ?_ ?_ ?_ i hi
  · intro i hi hp
    unfold G_lex_token_l1
    have h1 : (decide ((i : Int) < (s.size : Int))) = true := by simpa using hi
    simp only [lt_eq, h1, cond_true, idxS_eq hi, bd_some, lex_digit, hp, Bool.and_self]
    rw [wrap64 (by omega) (by omega)]; rfl
  · intro i hi hp
    unfold G_lex_token_l1
    have h1 : (decide ((i : Int) < (s.size : Int))) = true := by simpa using hi
    simp only [lt_eq, h1, cond_true, idxS_eq hi, bd_some, lex_digit, hp, Bool.and_false, cond_false]
  · unfold G_lex_token_l1
    simp [lt_eq, bd_some]
theorem lex_token {s : ByteArray} (hs : s.size < 2 ^ 62) {i : Nat} (hi : i < s.size) : G_lex_token s i = some (tokS s i) := by
  unfold G_lex_token tokS
  rw [idxS_eq hi]
  simp only [bd_some, lt_eq, lex_letter]
  cases hl : letterB (B s i) with
  | true =>
    simp only [cond_true, if_true]
    rw [lex_word hs hi hl]; rfl
  | false =>
    simp only [cond_false, lex_digit, bd_some, Bool.false_eq_true, if_false]
    cases hd : digitB (B s i) with
    | true =>
      have g := scanTo_gt (p := digitB) hi hd
      have l := scanTo_le digitB s i (by omega)
      simp only [cond_true, if_true]
      rw [lex_digits hs (by omega)]
      generalize scanTo digitB s i = e at *
      simp only [bd_some]
      rw [wrap64 (by omega) (by omega), wrap64 (by omega) (by omega)]
      by_cases h1 : i + 1 < e ∧ B s i = 48
      · have : (decide ((i : Int) + 1 < (e : Int)) && decide (B s i = 48)) = true := by simp; omega
        rw [this, if_pos h1]; rfl
      · have : (decide ((i : Int) + 1 < (e : Int)) && decide (B s i = 48)) = false := by simp; omega
        rw [this, if_neg h1]
        simp only [cond_false]
        by_cases h2 : 15 < e - i
        · have : decide ((15 : Int) < (e : Int) - (i : Int)) = true := by simp; omega
          rw [this, if_pos h2]; rfl
        · have : decide ((15 : Int) < (e : Int) - (i : Int)) = false := by simp; omega
          rw [this, if_neg h2]; rfl
    | false =>
      simp only [cond_false, Bool.false_eq_true, if_false]
      by_cases h34 : B s i = 34
      · rw [if_pos h34, decide_eq_true h34]
        simp only [cond_true]
        rw [lex_text hs hi]; rfl
      · rw [if_neg h34, decide_eq_false h34]
        simp only [cond_false]
        rw [wrap64 (x := (i : Int) + 1) (by omega) (by omega), wrap64 (x := (i : Int) + 2) (by omega) (by omega)]
        have e1 : ((i : Int) + 1) = ((i + 1 : Nat) : Int) := by omega
        have e2 : ((i : Int) + 2) = ((i + 2 : Nat) : Int) := by omega
        rw [e1, e2]
        obtain ⟨r, hr, hrs⟩ := index_sign (B_range s i).1 (B_range s i).2
        have hlt : decide (((i + 1 : Nat) : Int) < (s.size : Int)) = decide (i + 1 < s.size) := by
          by_cases h : i + 1 < s.size <;> simp [h] <;> omega
        rw [hlt, hr]
        simp only [bd_some, hrs, lex_allowed]
        have tail : (bif signB (B s i) then some ((8 : Int), ((i + 1 : Nat) : Int), (0 : Int), (0 : Int)) else bif !allowedB (B s i) then some (0, 0, (i : Int), 1) else some (0, 0, (i : Int), 2)) =
            some (if signB (B s i) = true then (8, ((i + 1 : Nat) : Int), 0, 0) else if allowedB (B s i) = true then (0, 0, (i : Int), 2) else (0, 0, (i : Int), 1)) := by
          cases signB (B s i) <;> cases allowedB (B s i) <;> rfl
        rw [tail]
        generalize (if signB (B s i) = true then ((8 : Int), ((i + 1 : Nat) : Int), (0 : Int), (0 : Int)) else if allowedB (B s i) = true then (0, 0, (i : Int), 2) else (0, 0, (i : Int), 1)) = T
        cases h1 : decide (B s i = 61) with
        | false =>
          have : ¬ (B s i = 61) := by simpa using h1
          rw [if_neg (fun h => this h.1)]
          simp only [Bool.false_and, cond_false, bd_some]
        | true =>
          have h61 : B s i = 61 := by simpa using h1
          cases h2 : decide (i + 1 < s.size) with
          | false =>
            have : ¬ (i + 1 < s.size) := by simpa using h2
            rw [if_neg (fun h => this h.2.1)]
            simp only [Bool.and_false, Bool.false_and, cond_false, bd_some]
          | true =>
            have hh : i + 1 < s.size := by simpa using h2
            simp only [Bool.and_self, cond_true, idxS_eq hh, bd_some, Bool.true_and]
            by_cases h3 : B s (i + 1) = 61
            · rw [if_pos ⟨h61, hh, h3⟩, decide_eq_true h3]; rfl
            · rw [if_neg (fun h => h3 h.2.2), decide_eq_false h3]; rfl
end Go.Am
