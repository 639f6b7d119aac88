/- IdB -/
import Derived.Test.YtpionejhjfmobaaDoorI2G
import Derived.Test.YtpionejhjfmobaaDoorAmP1
import Derived.Test.YtpionejhjfmobaaDoorAmP5
import Derived.Lib.Bytealg
set_option linter.unusedVariables false
set_option linter.unusedSimpArgs false
namespace Go.Am
theorem bd_some' {α β : Type} (a : α) (f : α → Option β) : bd (some a) f = f a := rfl
theorem lt_eq' {α β : Type} (a : α) (f : α → β) : lt a f = f a := rfl
theorem and_mask {x : Int} : andI .i64 x 1048575 = x % 1048576 := by
  unfold andI
  have hb : IntKind.bits .i64 = 64 := rfl
  rw [BitVec.toNat_and, BitVec.toNat_ofInt, BitVec.toNat_ofInt]
  have h2 : ((1048575 : Int) % ((2 ^ (IntKind.bits .i64) : Nat) : Int)).toNat = 2 ^ 20 - 1 := by decide
  rw [h2, Nat.and_two_pow_sub_one_eq_mod, hb]
  have h3 : ((x % ((2 ^ 64 : Nat) : Int)).toNat % 2 ^ 20 : Nat) = (x % 1048576).toNat := by
    have : ((2 ^ 64 : Nat) : Int) = 18446744073709551616 := by decide
    rw [this]
    have e : (2 : Nat) ^ 20 = 1048576 := by decide
    rw [e]
    omega
  rw [h3, wrap64 (by omega) (by omega)]
  omega
theorem shr_20 {x : Int} : shrI .i64 x 20 = some (x / 1048576) := by
  unfold shrI
  rw [if_neg (by decide)]
  have : (2 : Int) ^ (min (20 : Int).toNat (IntKind.bits .i64)) = 1048576 := by decide
  rw [this, Int.fdiv_eq_ediv_of_nonneg _ (by decide)]
theorem shl_20 {x : Int} (h : 0 ≤ x) (h' : x ≤ 32) : shlI .i64 x 20 = some (x * 1048576) := by
  unfold shlI
  rw [if_neg (by decide)]
  have : (2 : Int) ^ (min (20 : Int).toNat (IntKind.bits .i64)) = 1048576 := by decide
  rw [this, wrap64 (by omega) (by omega)]
def begunI (x : Int) : Bool := decide (1048576 ≤ x ∧ x < 34603008)
def validI (x : Int) : Bool := begunI x && decide (x % 1048576 ≠ 0)
theorem ident_begun (x : Int) : G_ident_begun x = some (begunI x) := by
  unfold G_ident_begun begunI
  rw [shr_20, bd_some']
  simp only [lt_eq']
  by_cases h : 1 ≤ x / 1048576
  · rw [decide_eq_true h]
    simp only [cond_true, bd_some', Bool.true_and]
    congr 1
    rw [decide_eq_decide]; omega
  · rw [decide_eq_false h]
    simp only [cond_false, bd_some', Bool.false_and]
    congr 1
    symm; rw [decide_eq_false_iff_not]; omega
theorem ident_Valid (x : Int) : G_ident_Valid x = some (validI x) := by
  unfold G_ident_Valid validI
  rw [ident_begun, bd_some']
  simp only [lt_eq', and_mask]
theorem begun_iff {x : Int} : begunI x = true ↔ 1048576 ≤ x ∧ x < 34603008 := by unfold begunI; simp
theorem valid_iff {x : Int} : validI x = true ↔ (1048576 ≤ x ∧ x < 34603008) ∧ x % 1048576 ≠ 0 := by unfold validI begunI; simp
theorem ident_Site (x : Int) : G_ident_Site x = some (if validI x = true then x / 1048576 else 0) := by
  unfold G_ident_Site
  rw [ident_Valid, bd_some']
  simp only [lt_eq', shr_20]
  cases validI x <;> rfl
theorem ident_Serial (x : Int) : G_ident_Serial x = some (if validI x = true then x % 1048576 else 0) := by
  unfold G_ident_Serial
  rw [ident_Valid, bd_some']
  simp only [lt_eq', and_mask]
  cases validI x <;> rfl
theorem ref_Valid (x : Int) : G_semvcsref10_Valid x = some (validI x) := by
  unfold G_semvcsref10_Valid
  simp only [lt_eq']
  congr 1
  rw [Bool.eq_iff_iff, valid_iff]
  simp only [Bool.and_eq_true, decide_eq_true_eq]
  by_cases h : 0 ≤ x
  · rw [Int.tmod_eq_emod_of_nonneg h]; omega
  · constructor <;> intro h2 <;> omega
theorem ref_Site (x : Int) (hx : -9223372036854775808 ≤ x) (hx' : x < 9223372036854775808) : G_semvcsref10_Site x = some (if validI x = true then x / 1048576 else 0) := by
  unfold G_semvcsref10_Site
  rw [ref_Valid, bd_some']
  simp only [lt_eq']
  cases h : validI x with
  | false => rfl
  | true =>
    have := valid_iff.1 h
    simp only [Bool.not_true, cond_false, if_true]
    rw [Int.tdiv_eq_ediv_of_nonneg (by omega), wrap64 (by omega) (by omega)]
theorem ref_Serial (x : Int) : G_semvcsref10_Serial x = some (if validI x = true then x % 1048576 else 0) := by
  unfold G_semvcsref10_Serial
  rw [ref_Valid, bd_some']
  simp only [lt_eq']
  cases h : validI x with
  | false => rfl
  | true =>
    have := valid_iff.1 h
    simp only [Bool.not_true, cond_false, if_true]
    rw [Int.tmod_eq_emod_of_nonneg (by omega)]
def makeI (s n : Int) : Int × Int := if s < 1 ∨ 32 < s ∨ n < 1 ∨ 1048575 < n then (0, 5) else (s * 1048576 + n, 0)
theorem ident_Make (s n : Int) : G_ident_Make s n = some (makeI s n) := by
  unfold G_ident_Make makeI
  simp only [lt_eq']
  by_cases h : s < 1 ∨ 32 < s ∨ n < 1 ∨ 1048575 < n
  · rw [if_pos h]
    have : (decide (s < 1) || decide (32 < s) || decide (n < 1) || decide (1048575 < n)) = true := by simp; omega
    rw [this]; rfl
  · rw [if_neg h]
    have : (decide (s < 1) || decide (32 < s) || decide (n < 1) || decide (1048575 < n)) = false := by simp; omega
    rw [this]
    simp only [cond_false]
    rw [shl_20 (by omega) (by omega), bd_some', wrap64 (by omega) (by omega)]
theorem ref_Make (s n : Int) : G_semvcsref10_Make s n = some (makeI s n) := by
  unfold G_semvcsref10_Make makeI
  simp only [lt_eq']
  by_cases h : s < 1 ∨ 32 < s ∨ n < 1 ∨ 1048575 < n
  · rw [if_pos h]
    have : (decide (s < 1) || decide (32 < s) || decide (n < 1) || decide (1048575 < n)) = true := by simp; omega
    rw [this]; rfl
  · rw [if_neg h]
    have : (decide (s < 1) || decide (32 < s) || decide (n < 1) || decide (1048575 < n)) = false := by simp; omega
    rw [this]
    simp only [cond_false]
    rw [wrap64 (x := s * 1048576) (by omega) (by omega), wrap64 (by omega) (by omega)]
def nextI (x n : Int) : Int × Int := if begunI x = false ∨ n < 0 then (0, 5) else if 1048575 - x % 1048576 < n then (0, 17) else if x % 1048576 + n = 0 then (0, 5) else (x + n, 0)
theorem ident_Next (x n : Int) (hn : n < 9223372036854775808) : G_ident_Next x n = some (nextI x n) := by
  unfold G_ident_Next nextI
  rw [ident_begun, bd_some']
  simp only [lt_eq', and_mask]
  by_cases h : begunI x = false ∨ n < 0
  · rw [if_pos h]
    have : (!begunI x || decide (n < 0)) = true := by simpa using h
    rw [this]; rfl
  · rw [if_neg h]
    have hb := begun_iff.1 (show begunI x = true by simp at h; exact h.1)
    have : (!begunI x || decide (n < 0)) = false := by simp at h ⊢; exact h
    rw [this]
    simp only [cond_false]
    rw [wrap64 (x := 1048575 - x % 1048576) (by omega) (by omega)]
    by_cases h2 : 1048575 - x % 1048576 < n
    · rw [if_pos h2, decide_eq_true h2]; rfl
    · rw [if_neg h2, decide_eq_false h2]
      simp only [cond_false]
      rw [wrap64 (x := x % 1048576 + n) (by omega) (by omega)]
      by_cases h3 : x % 1048576 + n = 0
      · rw [if_pos h3, decide_eq_true h3]; rfl
      · rw [if_neg h3, decide_eq_false h3]
        simp only [cond_false]
        rw [wrap64 (by omega) (by omega)]
theorem ref_Next (x n : Int) (hn : n < 9223372036854775808) : G_semvcsref10_Next x n = some (nextI x n) := by
  unfold G_semvcsref10_Next G_semvcsref10_Start nextI
  simp only [lt_eq', bd_some']
  have hbb : (decide (1048576 ≤ x) && decide (x < 34603008)) = begunI x := by
    unfold begunI; rw [Bool.eq_iff_iff]; simp
  rw [hbb]
  by_cases h : begunI x = false ∨ n < 0
  · rw [if_pos h]
    have : (!begunI x || decide (n < 0)) = true := by simpa using h
    rw [this]; rfl
  · rw [if_neg h]
    have hb := begun_iff.1 (show begunI x = true by simp at h; exact h.1)
    have : (!begunI x || decide (n < 0)) = false := by simp at h ⊢; exact h
    rw [this]
    simp only [cond_false]
    rw [Int.tmod_eq_emod_of_nonneg (by omega)]
    rw [wrap64 (x := 1048575 - x % 1048576) (by omega) (by omega)]
    by_cases h2 : 1048575 - x % 1048576 < n
    · rw [if_pos h2, decide_eq_true h2]; rfl
    · rw [if_neg h2, decide_eq_false h2]
      simp only [cond_false]
      rw [wrap64 (x := x % 1048576 + n) (by omega) (by omega)]
      by_cases h3 : x % 1048576 + n = 0
      · rw [if_pos h3, decide_eq_true h3]; rfl
      · rw [if_neg h3, decide_eq_false h3]
        simp only [cond_false]
        rw [wrap64 (by omega) (by omega)]
theorem number_3 : G_ident_number (⟨#[51]⟩ : ByteArray) = some (3, true) := by
  have l0 : G_ident_number_l1 (⟨#[51]⟩ : ByteArray) (0, 0) = some (.inl (3, 1)) := rfl
  have l1 : G_ident_number_l1 (⟨#[51]⟩ : ByteArray) (3, 1) = some (.inr (.inl 3)) := rfl
  have hl : loopT (G_ident_number_l1 (⟨#[51]⟩ : ByteArray)) (0, 0) = some (.inl 3) := by
    rw [loopT_eq, l0]; simp only; rw [loopT_eq, l1]
  show bd (loopT (G_ident_number_l1 (⟨#[51]⟩ : ByteArray)) (0, 0)) _ = _
  rw [hl]; rfl
theorem number_17 : G_ident_number (⟨#[49, 55]⟩ : ByteArray) = some (17, true) := by
  have l0 : G_ident_number_l1 (⟨#[49, 55]⟩ : ByteArray) (0, 0) = some (.inl (1, 1)) := rfl
  have l1 : G_ident_number_l1 (⟨#[49, 55]⟩ : ByteArray) (1, 1) = some (.inl (17, 2)) := rfl
  have l2 : G_ident_number_l1 (⟨#[49, 55]⟩ : ByteArray) (17, 2) = some (.inr (.inl 17)) := rfl
  have hl : loopT (G_ident_number_l1 (⟨#[49, 55]⟩ : ByteArray)) (0, 0) = some (.inl 17) := by
    rw [loopT_eq, l0]; simp only; rw [loopT_eq, l1]; simp only; rw [loopT_eq, l2]
  show bd (loopT (G_ident_number_l1 (⟨#[49, 55]⟩ : ByteArray)) (0, 0)) _ = _
  rw [hl]; rfl
theorem cut_ex (σ : AHeap) : G_strings_Cut (⟨#[51, 46, 49, 55]⟩ : ByteArray) (⟨#[46]⟩ : ByteArray) σ = some (⟨#[51]⟩, ⟨#[49, 55]⟩, true) := rfl
theorem parse_ex (σ : AHeap) : G_ident_Parse (⟨#[51, 46, 49, 55]⟩ : ByteArray) σ = some (3145745, 0) := by
  unfold G_ident_Parse
  rw [cut_ex, bd_some']
  simp only [lt_eq', Bool.not_true, cond_false, number_3, number_17, bd_some', ident_Make, Bool.or_self]
  rfl
def Tb (σ : AHeap) : Prop := TabAt V_internal_strconv_uint64pow10 .u64 Lib.pow10Tab σ.old
theorem itoa_ok {σ : AHeap} (ht : Tb σ) {n : Nat} (hn : n < 2 ^ 62) : G_strconv_Itoa (n : Int) σ = some ⟨(Lib.decDigits n).toArray⟩ := by
  unfold G_strconv_Itoa itoaT
  rw [if_pos ⟨by omega, by omega, ht⟩]
  unfold itoaS Lib.itoa
  rw [if_neg (by omega), Int.toNat_natCast]
theorem dd_lt {u : Nat} (h : u < 10) : Lib.decDigits u = [UInt8.ofNat (48 + u)] := by rw [Lib.decDigits, dif_pos h]
theorem dd_ge {u : Nat} (h : ¬ u < 10) : Lib.decDigits u = Lib.decDigits (u / 10) ++ [UInt8.ofNat (48 + u % 10)] := by rw [Lib.decDigits, dif_neg h]
theorem itoa_3 {σ : AHeap} (ht : Tb σ) : G_strconv_Itoa 3 σ = some ⟨#[51]⟩ := by
  have := itoa_ok ht (n := 3) (by decide)
  rw [dd_lt (by decide)] at this
  exact this
theorem itoa_17 {σ : AHeap} (ht : Tb σ) : G_strconv_Itoa 17 σ = some ⟨#[49, 55]⟩ := by
  have := itoa_ok ht (n := 17) (by decide)
  rw [dd_ge (by decide), dd_lt (by decide)] at this
  exact this
theorem valid_ex : validI 3145745 = true := by decide
theorem format_ex {σ : AHeap} (ht : Tb σ) : G_ident_Format 3145745 σ = some (⟨#[51, 46, 49, 55]⟩ : ByteArray) := by
  unfold G_ident_Format
  rw [ident_Valid, valid_ex, bd_some']
  simp only [lt_eq', Bool.not_true, cond_false, shr_20, and_mask, bd_some', show (3145745 : Int) / 1048576 = 3 by decide, show (3145745 : Int) % 1048576 = 17 by decide, itoa_3 ht, itoa_17 ht]
  rfl
theorem awake10 {σ : AHeap} (ht : Tb σ) : G_semvcslaw10_awake σ = some true := by
  unfold G_semvcslaw10_awake
  have hm : makeI 3 17 = (3145745, 0) := by decide
  simp only [ident_Make, hm, bd_some', parse_ex, lt_eq', decide_true, Bool.and_self, cond_true, format_ex ht, ident_Site, ident_Serial, ident_Valid, valid_ex, if_true, show (3145745 : Int) / 1048576 = 3 by decide, show (3145745 : Int) % 1048576 = 17 by decide]
theorem i64_range {c : Int} (h : (Lit.int .i64 c).wf = true) : -9223372036854775808 ≤ c ∧ c < 9223372036854775808 := by
  simp [Lit.wf, IntKind.min, IntKind.max, IntKind.bits, IntKind.signed] at h
  omega
end Go.Am
/- IdC -/
set_option linter.unusedVariables false
set_option linter.unusedSimpArgs false
namespace Go.Am
/-! ### Numerals -/
def digU (c : UInt8) : Prop := 48 ≤ c.toNat ∧ c.toNat ≤ 57
def valL (l : List UInt8) : Nat := l.foldl (fun n c => 10 * n + (c.toNat - 48)) 0
theorem valL_snoc (l : List UInt8) (c : UInt8) : valL (l ++ [c]) = 10 * valL l + (c.toNat - 48) := by
  unfold valL; rw [List.foldl_append]; rfl
theorem snoc_cases (l : List UInt8) : l = [] ∨ ∃ l' c, l = l' ++ [c] := by
  rcases List.eq_nil_or_concat l with h | ⟨l', c, h⟩
  · exact .inl h
  · exact .inr ⟨l', c, by rw [h, List.concat_eq_append]⟩
theorem valL_lt : ∀ (n : Nat) (l : List UInt8), l.length = n → (∀ c ∈ l, digU c) → valL l < 10 ^ n := by
  intro n
  induction n with
  | zero => intro l h _; rw [List.eq_nil_of_length_eq_zero h]; simp [valL]
  | succ n ih =>
    intro l h hd
    rcases snoc_cases l with rfl | ⟨l', c, rfl⟩
    · simp at h
    · rw [valL_snoc]
      have h1 := ih l' (by simpa using h) (fun c hc => hd c (by simp [hc]))
      have h2 := hd c (by simp)
      unfold digU at h2
      rw [Nat.pow_succ]; omega
/-- A number's text: digits, the first of them no 0. -/
structure Num (l : List UInt8) : Prop where
  ne : l ≠ []
  dig : ∀ c ∈ l, digU c
  first : l.head? ≠ some 48
theorem u8_eq {c : UInt8} {n : Nat} (h : c.toNat = n) : UInt8.ofNat n = c := by
  subst h; simp
theorem num_pos {l : List UInt8} (h : Num l) : 1 ≤ valL l := by
  obtain ⟨n, hn⟩ : ∃ n, l.length = n := ⟨_, rfl⟩
  induction n generalizing l with
  | zero => exact absurd (List.eq_nil_of_length_eq_zero hn) h.ne
  | succ n ih =>
    rcases snoc_cases l with rfl | ⟨l', c, rfl⟩
    · exact absurd rfl h.ne
    · rw [valL_snoc]
      by_cases hl : l' = []
      · subst hl
        have h1 := h.dig c (by simp)
        have h2 := h.first
        simp only [List.nil_append, List.head?_cons, ne_eq, Option.some.injEq] at h2
        unfold digU at h1
        have : c.toNat ≠ 48 := fun e => h2 (by have := u8_eq e; rw [← this]; rfl)
        omega
      · have := ih (l := l') ⟨hl, fun c hc => h.dig c (by simp [hc]), by
          have := h.first
          cases l' with
          | nil => exact absurd rfl hl
          | cons a l' => simpa using this⟩ (by simpa using hn)
        omega
theorem dd_val {l : List UInt8} (h : Num l) : Lib.decDigits (valL l) = l := by
  obtain ⟨n, hn⟩ : ∃ n, l.length = n := ⟨_, rfl⟩
  induction n generalizing l with
  | zero => exact absurd (List.eq_nil_of_length_eq_zero hn) h.ne
  | succ n ih =>
    rcases snoc_cases l with rfl | ⟨l', c, rfl⟩
    · exact absurd rfl h.ne
    · rw [valL_snoc]
      have h1 := h.dig c (by simp)
      unfold digU at h1
      by_cases hl : l' = []
      · subst hl
        have : valL [] = 0 := rfl
        have e := u8_eq (c := c) (n := 48 + (10 * 0 + (c.toNat - 48))) (by omega)
        rw [this, dd_lt (by omega), e]; rfl
      · have hN : Num l' := ⟨hl, fun c hc => h.dig c (by simp [hc]), by
          have := h.first
          cases l' with
          | nil => exact absurd rfl hl
          | cons a l' => simpa using this⟩
        have hp := num_pos hN
        have e := u8_eq (c := c) (n := 48 + (c.toNat - 48)) (by omega)
        rw [dd_ge (by omega), show (10 * valL l' + (c.toNat - 48)) / 10 = valL l' by omega, ih hN (by simpa using hn), show (10 * valL l' + (c.toNat - 48)) % 10 = c.toNat - 48 by omega, e]
theorem dd_num : ∀ (v : Nat), 1 ≤ v → Num (Lib.decDigits v) ∧ valL (Lib.decDigits v) = v := by
  intro v
  induction v using Nat.strongRecOn with
  | ind v ih =>
    intro hv
    have ofn : ∀ d, d < 10 → (UInt8.ofNat (48 + d)).toNat = 48 + d := fun d hd => by rw [UInt8.toNat_ofNat', Nat.mod_eq_of_lt (by omega)]
    by_cases h : v < 10
    · rw [dd_lt h]
      have hn := ofn v h
      refine ⟨⟨by simp, fun c hc => ?_, ?_⟩, ?_⟩
      · rw [List.mem_singleton] at hc; subst hc; unfold digU; omega
      · simp only [List.head?_cons, ne_eq, Option.some.injEq]
        intro e
        rw [e] at hn
        have : (48 : UInt8).toNat = 48 := rfl
        omega
      · unfold valL; simp only [List.foldl_cons, List.foldl_nil, hn]; omega
    · rw [dd_ge h]
      obtain ⟨h1, h2⟩ := ih (v / 10) (by omega) (by omega)
      have hn := ofn (v % 10) (by omega)
      refine ⟨⟨by simp, fun c hc => ?_, ?_⟩, ?_⟩
      · rcases List.mem_append.1 hc with hc | hc
        · exact h1.dig c hc
        · rw [List.mem_singleton] at hc; subst hc; unfold digU; omega
      · have := h1.first
        have hne := h1.ne
        cases hd : Lib.decDigits (v / 10) with
        | nil => exact absurd hd hne
        | cons a l => rw [hd] at this; simpa using this
      · rw [valL_snoc, h2, hn]; omega
theorem dd_len {v n : Nat} (h1 : 1 ≤ v) (h : v < 10 ^ n) : (Lib.decDigits v).length ≤ n := by
  obtain ⟨m, hm⟩ : ∃ m, (Lib.decDigits v).length = m := ⟨_, rfl⟩
  induction n generalizing v m with
  | zero => simp at h; omega
  | succ n ih =>
    by_cases hv : v < 10
    · rw [dd_lt hv]; simp
    · rw [dd_ge hv, List.length_append, List.length_singleton]
      have := ih (v := v / 10) (by omega) (by rw [Nat.pow_succ] at h; omega) _ rfl
      omega
/-! ### Bytes -/
theorem B_list {s : ByteArray} {i : Nat} (h : i < s.data.toList.length) : B s i = ((s.data.toList[i]).toNat : Int) := by
  have hs : i < s.size := h
  rw [B_eq hs]
  rfl
theorem take_succ_val {l : List UInt8} {i : Nat} (h : i < l.length) : valL (l.take (i + 1)) = 10 * valL (l.take i) + (l[i].toNat - 48) := by
  rw [List.take_succ_eq_append_getElem h, valL_snoc]
/-- The program's reader of a number. -/
theorem number_spec (s : ByteArray) : OptW (G_ident_number s) fun r => (r = ((valL s.data.toList : Int), true) ∧ Num s.data.toList ∧ s.size ≤ 7) ∨ (r = (0, false) ∧ ¬ (Num s.data.toList ∧ s.size ≤ 7)) := by
  unfold G_ident_number
  simp only [lt_eq']
  generalize hl : s.data.toList = l
  have hsz : s.size = l.length := by rw [← hl]; rfl
  by_cases h0 : s.size = 0 ∨ 7 < s.size
  · have : (decide (s = (⟨#[]⟩ : ByteArray)) || decide ((7 : Int) < (s.size : Int))) = true := by
      rcases h0 with h | h
      · have : s = (⟨#[]⟩ : ByteArray) := by
          apply ByteArray.ext
          apply Array.ext'
          rw [hl]
          exact List.eq_nil_of_length_eq_zero (by omega)
        simp [this]
      · simp; omega
    rw [this]
    simp only [Bool.not_true, cond_false, bd_some', Bool.true_or, cond_true]
    refine OptW.some_iff.2 (.inr ⟨rfl, ?_⟩)
    rintro ⟨h1, h2⟩
    rcases h0 with h | h
    · exact h1.ne (List.eq_nil_of_length_eq_zero (by omega))
    · omega
  · have : (decide (s = (⟨#[]⟩ : ByteArray)) || decide ((7 : Int) < (s.size : Int))) = false := by
      have hne : s ≠ (⟨#[]⟩ : ByteArray) := by
        intro e; subst e
        exact h0 (.inl rfl)
      simp [hne]; omega
    rw [this]
    have hi0 : idxS s 0 = some (B s 0) := idxS_eq (i := 0) (by omega)
    simp only [Bool.not_false, cond_true, hi0, bd_some', Bool.false_or]
    have hb0 : B s 0 = ((l[0]'(by omega)).toNat : Int) := by subst hl; exact B_list (by omega)
    by_cases hz : B s 0 = 48
    · rw [decide_eq_true hz]
      simp only [cond_true]
      refine OptW.some_iff.2 (.inr ⟨rfl, ?_⟩)
      rintro ⟨h1, _⟩
      apply h1.first
      cases l with
      | nil => exact absurd (by simpa using hsz) (fun e : s.size = 0 => h0 (.inl e))
      | cons a l =>
        simp only [List.getElem_cons_zero] at hb0
        simp only [List.head?_cons, Option.some.injEq]
        have : a.toNat = 48 := by omega
        have := u8_eq this
        rw [← this]; rfl
    · rw [decide_eq_false hz]
      simp only [cond_false]
      refine OptW.bdI (C := fun r => match r with
        | .inl n => n = (valL l : Int) ∧ ∀ c ∈ l, digU c
        | .inr r => r = (0, false) ∧ ¬ ∀ c ∈ l, digU c) ?_ ?_
      · refine OptW.loopI (fun y => ∃ i : Nat, y.2 = (i : Int) ∧ i ≤ l.length ∧ y.1 = (valL (l.take i) : Int) ∧ ∀ c ∈ l.take i, digU c) (fun y => l.length - y.2.toNat) ?_ _ ⟨0, rfl, by omega, rfl, by simp⟩
        rintro ⟨n, p⟩ ⟨i, hp, h1, h2, h3⟩
        simp only at hp h2
        subst hp h2
        unfold G_ident_number_l1
        simp only [lt_eq']
        have hlt := valL_lt i (l.take i) (by simp; omega) h3
        have hpow : (10 : Nat) ^ i ≤ 10 ^ 7 := Nat.pow_le_pow_right (by omega) (by omega)
        by_cases h : i < l.length
        · rw [decide_eq_true (by omega)]
          have hx : idxS s (i : Int) = some (B s i) := idxS_eq (by omega)
          have hbi : B s i = ((l[i]).toNat : Int) := by subst hl; exact B_list h
          simp only [cond_true, hx, bd_some', hbi]
          by_cases hd : digU l[i]
          · unfold digU at hd
            have e1 : decide (((l[i]).toNat : Int) < 48) = false := decide_eq_false (by omega)
            have e2 : decide ((57 : Int) < ((l[i]).toNat : Int)) = false := decide_eq_false (by omega)
            rw [e1]
            simp only [Bool.not_false, cond_true, bd_some', e2, Bool.or_self, cond_false]
            rw [wrap8 (by omega) (by omega)]
            rw [wrap64 (x := (10 : Int) * (valL (l.take i) : Int)) (by omega) (by omega), wrap64 (x := ((l[i]).toNat : Int) - 48) (by omega) (by omega), wrap64 (x := (10 : Int) * (valL (l.take i) : Int) + (((l[i]).toNat : Int) - 48)) (by omega) (by omega), wrap64 (x := (i : Int) + 1) (by omega) (by omega)]
            refine OptW.some_iff.2 ⟨⟨i + 1, by simp, h, ?_, ?_⟩, by simp; omega⟩
            · rw [take_succ_val h]; simp only; omega
            · intro c hc
              rw [List.take_succ_eq_append_getElem h] at hc
              rcases List.mem_append.1 hc with hc | hc
              · exact h3 c hc
              · rw [List.mem_singleton] at hc; subst hc; exact hd
          · have : (decide (((l[i]).toNat : Int) < 48) || decide ((57 : Int) < ((l[i]).toNat : Int))) = true := by
              unfold digU at hd
              simp; omega
            refine OptW.bdI (C := fun x => x = ((l[i]).toNat : Int) ∨ decide (((l[i]).toNat : Int) < 48) = true) ?_ ?_
            · exact OptW.bifI (fun _ => OptW.some_iff.2 (.inl rfl)) (fun hb => OptW.some_iff.2 (.inr (by simpa using hb)))
            · intro x hx
              have hor : (decide (((l[i]).toNat : Int) < 48) || decide ((57 : Int) < x)) = true := by
                rcases hx with rfl | hx
                · exact this
                · rw [hx]; rfl
              rw [hor]
              exact OptW.some_iff.2 ⟨rfl, fun hall => hd (hall _ (List.getElem_mem h))⟩
        · rw [decide_eq_false (by omega)]
          have : i = l.length := by omega
          subst this
          rw [List.take_length] at h3 ⊢
          exact OptW.some_iff.2 ⟨rfl, h3⟩
      · rintro (n | r) hr
        · obtain ⟨rfl, hd⟩ := hr
          refine OptW.some_iff.2 (.inl ⟨rfl, ⟨fun e => ?_, hd, ?_⟩, by omega⟩)
          · subst e; exact h0 (.inl (by simpa using hsz))
          · intro hf
            cases l with
            | nil => simp at hf
            | cons a l =>
              simp only [List.head?_cons, Option.some.injEq] at hf
              simp only [List.getElem_cons_zero] at hb0
              subst hf
              exact hz hb0
        · obtain ⟨rfl, hd⟩ := hr
          exact OptW.some_iff.2 (.inr ⟨rfl, fun h => hd h.1.dig⟩)
end Go.Am
/- IdD -/
set_option linter.unusedVariables false
set_option linter.unusedSimpArgs false
namespace Go.Am
theorem addS_ok {a b : ByteArray} (h : a.size + b.size < 2 ^ 62) : addS a b = some (a ++ b) := by
  unfold addS; rw [if_pos (by omega)]
theorem bytes_ap {l : List UInt8} {b : ByteArray} : (⟨l.toArray⟩ : ByteArray) ++ b = ⟨(l ++ b.data.toList).toArray⟩ := by
  apply ByteArray.ext
  simp
theorem bytes_n {l : List UInt8} : (⟨l.toArray⟩ : ByteArray).size = l.length := by simp [ByteArray.size]
def textI (s n : Nat) : List UInt8 := Lib.decDigits s ++ 46 :: Lib.decDigits n
theorem ident_Format {σ : AHeap} (ht : Tb σ) (x : Int) : G_ident_Format x σ = some (if validI x = true then (⟨(textI (x / 1048576).toNat (x % 1048576).toNat).toArray⟩ : ByteArray) else ⟨#[]⟩) := by
  unfold G_ident_Format
  rw [ident_Valid, bd_some']
  simp only [lt_eq']
  cases hv : validI x with
  | false => rfl
  | true =>
    have h := valid_iff.1 hv
    simp only [Bool.not_true, cond_false, if_true, shr_20, and_mask, bd_some']
    have e1 : x / 1048576 = (((x / 1048576).toNat : Nat) : Int) := by omega
    have e2 : x % 1048576 = (((x % 1048576).toNat : Nat) : Int) := by omega
    have i1 := itoa_ok ht (n := (x / 1048576).toNat) (by omega)
    have i2 := itoa_ok ht (n := (x % 1048576).toNat) (by omega)
    rw [← e1] at i1
    rw [← e2] at i2
    have l1 := dd_len (v := (x / 1048576).toNat) (n := 2) (by omega) (by omega)
    have l2 := dd_len (v := (x % 1048576).toNat) (n := 7) (by omega) (by omega)
    have g46 : (⟨#[46]⟩ : ByteArray).size = 1 := rfl
    rw [i1, bd_some', addS_ok (by rw [bytes_n]; omega), bd_some', i2, bd_some', bytes_ap, addS_ok (by rw [bytes_n, bytes_n]; simp; omega), bd_some', bytes_ap]
    congr 3
    unfold textI
    simp
theorem index_dot : ∀ (x y : List UInt8), (∀ c ∈ x, c ≠ 46) → Lib.indexByte (x ++ 46 :: y) 46 = (x.length : Int) := by
  intro x
  induction x with
  | nil => intro y _; simp [Lib.indexByte]
  | cons a x ih =>
    intro y h
    have h1 := ih y (fun c hc => h c (by simp [hc]))
    have h2 := h a (by simp)
    simp only [List.cons_append, Lib.indexByte, h1]
    have : (a == 46) = false := by simpa using h2
    rw [this]
    simp only [Bool.false_eq_true, if_false]
    have h3 : ((x.length : Int) == -1) = false := by simp
    rw [h3]; simp
theorem index_none : ∀ (l : List UInt8), (∀ c ∈ l, c ≠ 46) → Lib.indexByte l 46 = -1 := by
  intro l
  induction l with
  | nil => intro _; rfl
  | cons a l ih =>
    intro h
    have h1 := ih (fun c hc => h c (by simp [hc]))
    have h2 := h a (by simp)
    have : (a == 46) = false := by simpa using h2
    simp [Lib.indexByte, h1, this]
theorem split_dot : ∀ (l : List UInt8), (∀ c ∈ l, c ≠ 46) ∨ ∃ x y, l = x ++ 46 :: y ∧ ∀ c ∈ x, c ≠ 46 := by
  intro l
  induction l with
  | nil => left; simp
  | cons a l ih =>
    by_cases ha : a = 46
    · right; exact ⟨[], l, by rw [ha]; rfl, by simp⟩
    · rcases ih with h | ⟨x, y, h1, h2⟩
      · left; intro c hc; rcases List.mem_cons.1 hc with rfl | hc; exact ha; exact h c hc
      · right; exact ⟨a :: x, y, by rw [h1]; rfl, fun c hc => by rcases List.mem_cons.1 hc with rfl | hc; exact ha; exact h2 c hc⟩
theorem byteIdx (s : ByteArray) : G_stringslite_IndexByte s 46 = some (Lib.indexByte s.data.toList 46) := by
  unfold G_stringslite_IndexByte G_bytealg_IndexByteString
  rw [bd_some', ← Lib.firstIdx_eq]
  rfl
theorem bytes_self (s : ByteArray) : (⟨s.data.toList.toArray⟩ : ByteArray) = s := by apply ByteArray.ext; simp
theorem cut_none {s : ByteArray} (h : ∀ c ∈ s.data.toList, c ≠ 46) (σ : AHeap) : G_strings_Cut s (⟨#[46]⟩ : ByteArray) σ = some (s, ⟨#[]⟩, false) := by
  have hne : (⟨#[46]⟩ : ByteArray) ≠ s := by intro e; subst e; exact h 46 (by simp) rfl
  unfold G_strings_Cut G_stringslite_Cut G_stringslite_Index
  simp only [lt_eq']
  have : (decide (((⟨#[46]⟩ : ByteArray).size : Int) = 0) || decide ((⟨#[46]⟩ : ByteArray) = s)) = false := by rw [decide_eq_false hne]; rfl
  rw [this]
  have h1 : decide (((⟨#[46]⟩ : ByteArray).size : Int) = 1) = true := rfl
  have h2 : idxS (⟨#[46]⟩ : ByteArray) 0 = some 46 := rfl
  simp only [cond_false, h1, cond_true, h2, bd_some', byteIdx, index_none _ h]
  rfl
theorem cut_some {s : ByteArray} {x y : List UInt8} (hs : s.data.toList = x ++ 46 :: y) (hx : ∀ c ∈ x, c ≠ 46) (hz : s.size < 2 ^ 62) (σ : AHeap) : G_strings_Cut s (⟨#[46]⟩ : ByteArray) σ = some (⟨x.toArray⟩, ⟨y.toArray⟩, true) := by
  have hl : s.size = x.length + 1 + y.length := by have := congrArg List.length hs; simp at this; omega
  have e1 : s.extract 0 x.length = ⟨x.toArray⟩ := by
    apply ByteArray.ext; apply Array.ext'
    rw [ByteArray.data_extract, Array.toList_extract, List.extract_eq_take_drop, hs]
    simp
  have e2 : s.extract (x.length + 1) s.size = ⟨y.toArray⟩ := by
    apply ByteArray.ext; apply Array.ext'
    rw [ByteArray.data_extract, Array.toList_extract, List.extract_eq_take_drop, hs, hl]
    simp
  unfold G_strings_Cut G_stringslite_Cut
  by_cases he : (⟨#[46]⟩ : ByteArray) = s
  · subst he
    have h1 : [46] = x ++ 46 :: y := hs
    have : x = [] := by
      cases x with
      | nil => rfl
      | cons a x => simp at h1
    subst this
    have : y = [] := by simpa using h1
    subst this
    rfl
  · have hidx : G_stringslite_Index s (⟨#[46]⟩ : ByteArray) σ = some (x.length : Int) := by
      unfold G_stringslite_Index
      simp only [lt_eq']
      have : (decide (((⟨#[46]⟩ : ByteArray).size : Int) = 0) || decide ((⟨#[46]⟩ : ByteArray) = s)) = false := by rw [decide_eq_false he]; rfl
      rw [this]
      have h1 : decide (((⟨#[46]⟩ : ByteArray).size : Int) = 1) = true := rfl
      have h2 : idxS (⟨#[46]⟩ : ByteArray) 0 = some 46 := rfl
      simp only [cond_false, h1, cond_true, h2, bd_some', byteIdx, hs, index_dot x y hx]
    rw [hidx, bd_some']
    simp only [lt_eq']
    rw [decide_eq_true (by omega)]
    simp only [cond_true]
    have h1 : slS s none (some (x.length : Int)) = some (s.extract 0 x.length) := by
      unfold slS
      simp only [Option.getD_none, Option.getD_some]
      rw [if_pos (by omega)]; rfl
    have g46 : ((⟨#[46]⟩ : ByteArray).size : Int) = 1 := rfl
    rw [h1, bd_some', g46, wrap64 (by omega) (by omega)]
    have h2 : slS s (some ((x.length : Int) + 1)) none = some (s.extract (x.length + 1) s.size) := by
      unfold slS
      simp only [Option.getD_none, Option.getD_some]
      rw [if_pos (by omega)]
      congr 1
    rw [h2, bd_some', e1, e2]
    rfl
/-- What the program's Parse gives. -/
def IdText (s : ByteArray) (id : Int) : Prop := ∃ a b : Nat, 1 ≤ a ∧ a ≤ 32 ∧ 1 ≤ b ∧ b ≤ 1048575 ∧ id = (a : Int) * 1048576 + b ∧ s.data.toList = textI a b
theorem num_no_dot {l : List UInt8} (h : Num l) : ∀ c ∈ l, c ≠ 46 := by
  intro c hc e
  have := h.dig c hc
  subst e
  unfold digU at this
  have : (46 : UInt8).toNat = 46 := rfl
  omega
theorem ident_Parse {s : ByteArray} (hz : s.size < 2 ^ 62) (σ : AHeap) : OptW (G_ident_Parse s σ) fun r => (r.2 = 0 ∧ IdText s r.1) ∨ (r = (0, 13) ∧ ∀ id, ¬ IdText s id) := by
  unfold G_ident_Parse
  have noText : (∀ x y : List UInt8, s.data.toList = x ++ 46 :: y → Num x → x.length ≤ 7 → Num y → y.length ≤ 7 → makeI (valL x) (valL y) = (0, 5) ∨ False) → ∀ id, ¬ IdText s id := by
    rintro h id ⟨a, b, h1, h2, h3, h4, _, h6⟩
    obtain ⟨n1, v1⟩ := dd_num a h1
    obtain ⟨n2, v2⟩ := dd_num b h3
    have := h _ _ h6 n1 (by have := dd_len (n := 2) h1 (by omega); omega) n2 (dd_len h3 (by omega))
    rcases this with h | h
    · rw [v1, v2] at h
      unfold makeI at h
      rw [if_neg (by omega)] at h
      injection h with _ h; cases h
    · exact h
  rcases split_dot s.data.toList with hn | ⟨x, y, hs, hx⟩
  · rw [cut_none hn, bd_some']
    refine OptW.some_iff.2 (.inr ⟨rfl, noText fun x y h _ _ _ _ => ?_⟩)
    exfalso
    exact hn 46 (by rw [h]; simp) rfl
  · rw [cut_some hs hx hz, bd_some']
    simp only [lt_eq', Bool.not_true, cond_false]
    have uniq : ∀ x' y' : List UInt8, s.data.toList = x' ++ 46 :: y' → Num x' → x' = x ∧ y' = y := by
      intro x' y' h hN
      have h1 := index_dot x y hx
      have h2 := index_dot x' y' (num_no_dot hN)
      rw [← hs] at h1
      rw [← h, h1] at h2
      have h3 : x'.length = x.length := by omega
      rw [h] at hs
      obtain ⟨h4, h5⟩ := List.append_inj hs h3
      injection h5 with _ h5
      exact ⟨h4, h5⟩
    refine OptW.bdI (number_spec ⟨x.toArray⟩) ?_
    rintro ⟨n1, f1⟩ h1
    simp only at h1 ⊢
    refine OptW.bdI (number_spec ⟨y.toArray⟩) ?_
    rintro ⟨n2, f2⟩ h2
    simp only at h1 h2 ⊢
    rw [bytes_n] at h1 h2
    rcases h1 with ⟨e1, k1, k1'⟩ | ⟨e1, k1⟩
    · rcases h2 with ⟨e2, k2, k2'⟩ | ⟨e2, k2⟩
      · injection e1 with e1 e1'
        injection e2 with e2 e2'
        subst e1 e1' e2 e2'
        simp only [Bool.not_true, Bool.or_self, cond_false, ident_Make, bd_some']
        by_cases hm : (valL x : Int) < 1 ∨ 32 < (valL x : Int) ∨ (valL y : Int) < 1 ∨ 1048575 < (valL y : Int)
        · have hmk : makeI (valL x) (valL y) = (0, 5) := by unfold makeI; rw [if_pos hm]
          rw [hmk]
          refine OptW.some_iff.2 (.inr ⟨rfl, noText fun x' y' h hN _ _ _ => ?_⟩)
          obtain ⟨rfl, rfl⟩ := uniq x' y' h hN
          exact .inl hmk
        · have hmk : makeI (valL x) (valL y) = ((valL x : Int) * 1048576 + valL y, 0) := by unfold makeI; rw [if_neg hm]
          rw [hmk]
          refine OptW.some_iff.2 (.inl ⟨rfl, valL x, valL y, by omega, by omega, by omega, by omega, rfl, ?_⟩)
          unfold textI
          rw [dd_val k1, dd_val k2]; exact hs
      · injection e1 with e1 e1'
        injection e2 with e2 e2'
        subst e1 e1' e2 e2'
        refine OptW.some_iff.2 (.inr ⟨rfl, noText fun x' y' h hN _ hN2 hl2 => ?_⟩)
        obtain ⟨rfl, rfl⟩ := uniq x' y' h hN
        exact .inr (k2 ⟨hN2, hl2⟩)
    · injection e1 with e1 e1'
      subst e1 e1'
      refine OptW.some_iff.2 (.inr ⟨rfl, noText fun x' y' h hN hl hN2 hl2 => ?_⟩)
      obtain ⟨rfl, rfl⟩ := uniq x' y' h hN
      exact .inr (k1 ⟨hN, hl⟩)
end Go.Am
/- IdE -/
set_option linter.unusedVariables false
set_option linter.unusedSimpArgs false
namespace Go.Am
theorem Tb.ext {σ τ : AHeap} (h : Tb σ) (x : Ext σ τ) : Tb τ := by unfold Tb at h ⊢; rw [x.old]; exact h
theorem textI_inj {a b a' b' : Nat} (h1 : 1 ≤ a) (h2 : 1 ≤ b) (h3 : 1 ≤ a') (h4 : 1 ≤ b') (h : textI a b = textI a' b') : a = a' ∧ b = b' := by
  obtain ⟨n1, v1⟩ := dd_num a h1
  obtain ⟨n2, v2⟩ := dd_num b h2
  obtain ⟨n3, v3⟩ := dd_num a' h3
  obtain ⟨n4, v4⟩ := dd_num b' h4
  unfold textI at h
  have i1 := index_dot (Lib.decDigits a) (Lib.decDigits b) (num_no_dot n1)
  have i2 := index_dot (Lib.decDigits a') (Lib.decDigits b') (num_no_dot n3)
  rw [h, i2] at i1
  obtain ⟨h5, h6⟩ := List.append_inj h (by omega)
  injection h6 with _ h6
  exact ⟨by rw [← v1, ← v3, h5], by rw [← v2, ← v4, h6]⟩
theorem IdText.uniq {s : ByteArray} {i j : Int} (h : IdText s i) (k : IdText s j) : i = j := by
  obtain ⟨a, b, h1, h2, h3, h4, h5, h6⟩ := h
  obtain ⟨a', b', k1, k2, k3, k4, k5, k6⟩ := k
  rw [h6] at k6
  obtain ⟨e1, e2⟩ := textI_inj h1 h3 k1 k3 k6
  rw [h5, k5, e1, e2]
theorem textI_len {a b : Nat} (h1 : 1 ≤ a) (h2 : a ≤ 32) (h3 : 1 ≤ b) (h4 : b ≤ 1048575) : (textI a b).length ≤ 10 := by
  have l1 := dd_len (v := a) (n := 2) h1 (by omega)
  have l2 := dd_len (v := b) (n := 7) h3 (by omega)
  unfold textI
  simp; omega
theorem valid_parts {x : Int} (h : validI x = true) : ∃ a b : Nat, 1 ≤ a ∧ a ≤ 32 ∧ 1 ≤ b ∧ b ≤ 1048575 ∧ x = (a : Int) * 1048576 + b ∧ (x / 1048576).toNat = a ∧ (x % 1048576).toNat = b := by
  have := valid_iff.1 h
  exact ⟨(x / 1048576).toNat, (x % 1048576).toNat, by omega, by omega, by omega, by omega, by omega, rfl, rfl⟩
theorem IdText_self {a b : Nat} (h1 : 1 ≤ a) (h2 : a ≤ 32) (h3 : 1 ≤ b) (h4 : b ≤ 1048575) : IdText (⟨(textI a b).toArray⟩ : ByteArray) ((a : Int) * 1048576 + b) := ⟨a, b, h1, h2, h3, h4, rfl, by simp⟩
theorem IdentBack_true {a0 a1 : Int} (w0 : (Lit.int .i64 a0).wf = true) (w1 : (Lit.int .i64 a1).wf = true) {σ : AHeap} (ht : Tb σ) : OptW (G_semvcslaw10_IdentBack a0 a1 σ) fun r => r = true := by
  unfold G_semvcslaw10_IdentBack
  rw [ident_Make, bd_some']
  simp only [lt_eq']
  by_cases hm : a0 < 1 ∨ 32 < a0 ∨ a1 < 1 ∨ 1048575 < a1
  · have hmk : makeI a0 a1 = (0, 5) := by unfold makeI; rw [if_pos hm]
    rw [hmk]
    simp only [awake10 ht, bd_some']
    have h5 : decide ((5 : Int) ≠ 0) = true := rfl
    rw [h5]
    simp only [cond_true, decide_true, Bool.and_self]
    have : (decide (a0 < 1) || decide (32 < a0) || decide (a1 < 1) || decide (1048575 < a1)) = true := by simp; omega
    rw [this]
    exact OptW.some_iff.2 rfl
  · have hmk : makeI a0 a1 = (a0 * 1048576 + a1, 0) := by unfold makeI; rw [if_neg hm]
    rw [hmk]
    simp only [ne_eq, not_true_eq_false, decide_false, cond_false]
    have hv : validI (a0 * 1048576 + a1) = true := valid_iff.2 (by omega)
    rw [ident_Format ht, hv, bd_some', if_pos rfl]
    have e1 : ((a0 * 1048576 + a1) / 1048576).toNat = a0.toNat := by omega
    have e2 : ((a0 * 1048576 + a1) % 1048576).toNat = a1.toNat := by omega
    rw [e1, e2]
    have hl := textI_len (a := a0.toNat) (b := a1.toNat) (by omega) (by omega) (by omega) (by omega)
    have hself := IdText_self (a := a0.toNat) (b := a1.toNat) (by omega) (by omega) (by omega) (by omega)
    refine OptW.bdI (ident_Parse (by rw [bytes_n]; omega) σ) ?_
    rintro ⟨r1, r2⟩ hr
    simp only at hr
    rcases hr with ⟨rfl, hr⟩ | ⟨_, hr⟩
    · have hu := hr.uniq hself
      simp only [awake10 ht, bd_some', decide_true, Bool.and_self]
      have e3 : ((a0.toNat : Nat) : Int) * 1048576 + ((a1.toNat : Nat) : Int) = a0 * 1048576 + a1 := by omega
      rw [hu, e3]
      simp only [decide_true, Bool.and_self, cond_true, ident_Site, ident_Serial, ident_Valid, hv, if_true, bd_some']
      have e4 : (a0 * 1048576 + a1) / 1048576 = a0 := by omega
      have e5 : (a0 * 1048576 + a1) % 1048576 = a1 := by omega
      rw [e4, e5]
      simp only [decide_true, Bool.and_self, cond_true, bd_some']
      exact OptW.some_iff.2 rfl
    · exact absurd hself (hr _)
/-! ### The reference -/
theorem ref_decimal {n : Nat} (hn : n < 2 ^ 60) {σ : AHeap} (hσ : Wf σ) : OptW (G_semvcsref10_decimal n σ) fun r => r.1 = (⟨(Lib.decDigits n).toArray⟩ : ByteArray) ∧ Wf r.2 ∧ Ext σ r.2 := by
  unfold G_semvcsref10_decimal
  have hlen : (Lib.decDigits n).length ≤ 19 := by
    by_cases h : 1 ≤ n
    · exact dd_len h (by have : (2 : Nat) ^ 60 < 10 ^ 19 := by decide
                         omega)
    · rw [dd_lt (by omega)]; simp
  refine OptW.bdI (C := fun r => r.1 = (⟨(Lib.decDigits n).toArray⟩ : ByteArray) ∧ Wf r.2 ∧ Ext σ r.2) ?_ (fun r h => OptW.some_iff.2 h)
  refine OptW.loopI (fun y => ∃ (k : Nat) (l : List UInt8), y.1 = (k : Int) ∧ k ≤ n ∧ y.2.1 = (⟨l.toArray⟩ : ByteArray) ∧ Lib.decDigits k ++ l = Lib.decDigits n ∧ Wf y.2.2 ∧ Ext σ y.2.2) (fun y => y.1.toNat) ?_ _ ⟨n, [], rfl, Nat.le_refl _, rfl, by simp, hσ, Ext.refl σ⟩
  rintro ⟨m, s, τ⟩ ⟨k, l, hm, hk, hs, hl, w, x⟩
  simp only at hm hs w x
  subst hm hs
  unfold G_semvcsref10_decimal_l1
  simp only [lt_eq', newSl]
  have e0 : Int.tmod (k : Int) 10 = ((k % 10 : Nat) : Int) := by rw [Int.tmod_eq_emod_of_nonneg (by omega)]; omega
  have e1 : Int.tdiv (k : Int) 10 = ((k / 10 : Nat) : Int) := by rw [Int.tdiv_eq_ediv_of_nonneg (by omega)]; omega
  rw [e0, e1, wrap64 (x := 48 + ((k % 10 : Nat) : Int)) (by omega) (by omega), wrap8 (by omega) (by omega), wrap64 (by omega) (by omega)]
  generalize hτ : τ.push (.cells [(Value.int .u8 (48 + ((k % 10 : Nat) : Int)))] T_u8 τ.next) = τ1
  have w1 : Wf τ1 := by rw [← hτ]; exact w.push (Nat.le_refl _)
  have x1 : Ext τ τ1 := by rw [← hτ]; exact Ext.push
  have g1 : τ1.get τ.next = .cells [(Value.int .u8 (48 + ((k % 10 : Nat) : Int)))] T_u8 τ.next := by rw [← hτ]; exact push_get
  have hrd : LRd encB τ1 T_u8 ⟨some ⟨τ.next, 0, none⟩, 1, 1⟩ [48 + ((k % 10 : Nat) : Int)] :=
    ⟨rfl, .inr ⟨τ.next, τ.next, rfl, by rw [x1.base_eq]; exact w.base, by rw [← hτ]; exact Nat.lt_succ_self _, g1⟩⟩
  have hb : bytesS [48 + ((k % 10 : Nat) : Int)] = (⟨[UInt8.ofNat (48 + k % 10)].toArray⟩ : ByteArray) := by
    unfold bytesS
    simp only [List.map_cons, List.map_nil]
    rw [show (48 + ((k % 10 : Nat) : Int)).toNat = 48 + k % 10 by omega]
  have hll : l.length ≤ 19 := by
    have := congrArg List.length hl
    rw [List.length_append] at this
    omega
  rw [strOf_enc hrd, bd_some', hb, addS_ok (by rw [bytes_n, bytes_n]; simp; omega), bd_some', bytes_ap]
  simp only
  by_cases h : k < 10
  · rw [decide_eq_true (by omega)]
    rw [dd_lt h] at hl
    refine OptW.some_iff.2 ⟨?_, w1, x.trans x1⟩
    rw [← hl, show k % 10 = k by omega]
  · rw [decide_eq_false (by omega)]
    rw [dd_ge h] at hl
    exact OptW.some_iff.2 ⟨⟨k / 10, UInt8.ofNat (48 + k % 10) :: l, rfl, by omega, rfl, by rw [← hl]; simp, w1, x.trans x1⟩, by simp; omega⟩
theorem ref_Format {x : Int} (hx : -9223372036854775808 ≤ x) (hx' : x < 9223372036854775808) {σ : AHeap} (hσ : Wf σ) : OptW (G_semvcsref10_Format x σ) fun r => r.1 = (if validI x = true then (⟨(textI (x / 1048576).toNat (x % 1048576).toNat).toArray⟩ : ByteArray) else ⟨#[]⟩) ∧ Wf r.2 ∧ Ext σ r.2 := by
  unfold G_semvcsref10_Format
  rw [ref_Valid, bd_some']
  simp only [lt_eq']
  cases hv : validI x with
  | false => exact OptW.some_iff.2 ⟨rfl, hσ, Ext.refl σ⟩
  | true =>
    obtain ⟨a, b, h1, h2, h3, h4, h5, h6, h7⟩ := valid_parts hv
    simp only [Bool.not_true, cond_false, if_true]
    rw [ref_Site x hx hx', hv, if_pos rfl, bd_some', h6, h7]
    have l1 := dd_len (v := a) (n := 2) h1 (by omega)
    have l2 := dd_len (v := b) (n := 7) h3 (by omega)
    have g46 : (⟨#[46]⟩ : ByteArray).size = 1 := rfl
    rw [show x / 1048576 = (a : Int) by omega]
    refine OptW.bdI (ref_decimal (by omega) hσ) ?_
    rintro ⟨s1, τ1⟩ ⟨e1, w1, x1⟩
    simp only at e1 w1 x1 ⊢
    subst e1
    rw [addS_ok (by rw [bytes_n]; omega), bd_some', ref_Serial, hv, if_pos rfl, bd_some', show x % 1048576 = (b : Int) by omega]
    refine OptW.bdI (ref_decimal (by omega) w1) ?_
    rintro ⟨s2, τ2⟩ ⟨e2, w2, x2⟩
    simp only at e2 w2 x2 ⊢
    subst e2
    rw [bytes_ap, addS_ok (by rw [bytes_n, bytes_n]; simp; omega), bd_some', bytes_ap]
    refine OptW.some_iff.2 ⟨?_, w2, x1.trans x2⟩
    unfold textI
    simp
end Go.Am
/- IdF -/
set_option linter.unusedVariables false
set_option linter.unusedSimpArgs false
namespace Go.Am
theorem at_dot {x y : List UInt8} {i : Nat} (h : i < (x ++ 46 :: y).length) : (∃ h' : i < x.length, (x ++ 46 :: y)[i] = x[i]) ∨ (i = x.length ∧ (x ++ 46 :: y)[i] = 46) ∨ (x.length < i ∧ ∃ h' : i - x.length - 1 < y.length, (x ++ 46 :: y)[i] = y[i - x.length - 1]) := by
  rcases Nat.lt_trichotomy i x.length with h1 | h1 | h1
  · exact .inl ⟨h1, by rw [List.getElem_append_left h1]⟩
  · exact .inr (.inl ⟨h1, by subst h1; simp⟩)
  · have h2 : i - x.length - 1 < y.length := by simp at h; omega
    refine .inr (.inr ⟨h1, h2, ?_⟩)
    rw [List.getElem_append_right (by omega), List.getElem_cons]
    rw [dif_neg (by omega)]
theorem val_take_le (l : List UInt8) (i : Nat) : valL (l.take i) ≤ valL l := by
  have h : ∀ k, valL (l.take i) ≤ valL (l.take (i + k)) := by
    intro k
    induction k with
    | zero => exact Nat.le_refl _
    | succ k ih =>
      by_cases hk : i + k < l.length
      · rw [← Nat.add_assoc, take_succ_val hk]; omega
      · rw [List.take_of_length_le (show l.length ≤ i + (k + 1) by omega)]
        rw [List.take_of_length_le (show l.length ≤ i + k by omega)] at ih
        exact ih
  have := h l.length
  rw [List.take_of_length_le (show l.length ≤ i + l.length by omega)] at this
  exact this
def Okp (l : List UInt8) (site n dots : Int) (i : Nat) : Prop := ∀ a b : Nat, 1 ≤ a → a ≤ 32 → 1 ≤ b → b ≤ 1048575 → l = textI a b →
  (i ≤ (Lib.decDigits a).length ∧ site = (valL ((Lib.decDigits a).take i) : Int) ∧ n = 0 ∧ dots = 0) ∨
  ((Lib.decDigits a).length < i ∧ site = (a : Int) ∧ n = (valL ((Lib.decDigits b).take (i - (Lib.decDigits a).length - 1)) : Int) ∧ dots = 1)
theorem ref_loop {s : ByteArray} (hs : s.size ≤ 20) (σ : AHeap) : OptW (loopT (G_semvcsref10_Parse_l1 s) (0, 0, 0, 0, σ)) fun r => match r with
    | .inl (site, n, τ) => τ = σ ∧ -1 ≤ site ∧ site ≤ 20000000 ∧ -1 ≤ n ∧ n ≤ 20000000 ∧ ∀ a b : Nat, 1 ≤ a → a ≤ 32 → 1 ≤ b → b ≤ 1048575 → s.data.toList = textI a b → site = (a : Int) ∧ n = (b : Int)
    | .inr r => r = (0, 13, σ) ∧ ∀ id, ¬ IdText s id := by
  generalize hl : s.data.toList = l
  have hsz : s.size = l.length := by rw [← hl]; rfl
  refine OptW.loopI (fun y => ∃ i : Nat, y.2.2.2.1 = (i : Int) ∧ i ≤ l.length ∧ y.2.2.2.2 = σ ∧ 0 ≤ y.1 ∧ y.1 ≤ 20000000 ∧ 0 ≤ y.2.1 ∧ y.2.1 ≤ 20000000 ∧ 0 ≤ y.2.2.1 ∧ y.2.2.1 ≤ (i : Int) ∧ Okp l y.1 y.2.1 y.2.2.1 i) (fun y => l.length - y.2.2.2.1.toNat) ?_ _ ⟨0, rfl, by omega, rfl, by simp, by simp, by simp, by simp, by simp, by simp, fun a b h1 h2 h3 h4 e => .inl ⟨by omega, rfl, rfl, rfl⟩⟩
  rintro ⟨site, n, dots, p, τ⟩ ⟨i, hp, hi, hτ, b1, b2, b3, b4, b5, b6, ok⟩
  simp only at hp hτ b1 b2 b3 b4 b5 b6 ok
  subst hp hτ
  unfold G_semvcsref10_Parse_l1 G_semvcsref10_Parse_j1
  simp only [lt_eq']
  by_cases h : i < l.length
  · rw [decide_eq_true (show (i : Int) < (s.size : Int) by omega)]
    have hx : idxS s (i : Int) = some (B s i) := idxS_eq (by omega)
    have hbi : B s i = ((l[i]).toNat : Int) := by subst hl; exact B_list h
    simp only [cond_true, hx, bd_some', hbi]
    rw [wrap64 (x := (i : Int) + 1) (by omega) (by omega)]
    by_cases hd : ((l[i]).toNat : Int) = 46
    · rw [decide_eq_true hd]
      have hc : l[i] = 46 := by have := u8_eq (c := l[i]) (n := 46) (by omega); rw [← this]; rfl
      simp only [cond_true]
      rw [wrap64 (x := dots + 1) (by omega) (by omega)]
      refine OptW.some_iff.2 ⟨⟨i + 1, by simp, h, rfl, b1, b2, b3, b4, by simp only; omega, by simp only; omega, ?_⟩, by simp; omega⟩
      intro a b h1 h2 h3 h4 e
      obtain ⟨n1, v1⟩ := dd_num a h1
      obtain ⟨n2, v2⟩ := dd_num b h3
      have ho := ok a b h1 h2 h3 h4 e
      unfold textI at e
      subst e
      rcases at_dot h with ⟨k, ek⟩ | ⟨k, ek⟩ | ⟨k, k', ek⟩
      · exact absurd (ek.symm.trans hc) (num_no_dot n1 _ (List.getElem_mem k))
      · right
        rcases ho with ⟨q1, q2, q3, q4⟩ | ⟨q1, _⟩
        · refine ⟨by omega, ?_, ?_, by simp only; omega⟩
          · rw [q2, k, List.take_length, v1]
          · rw [q3, k, show (Lib.decDigits a).length + 1 - (Lib.decDigits a).length - 1 = 0 by omega]; rfl
        · omega
      · exact absurd (ek.symm.trans hc) (num_no_dot n2 _ (List.getElem_mem k'))
    · rw [decide_eq_false hd]
      have hc : l[i] ≠ 46 := by intro e; rw [e] at hd; exact hd rfl
      simp only [cond_false]
      refine OptW.bdI (C := fun x => x = ((l[i]).toNat : Int) ∨ decide (((l[i]).toNat : Int) < 48) = true) ?_ ?_
      · exact OptW.bifI (fun _ => OptW.some_iff.2 (.inl rfl)) (fun hb => OptW.some_iff.2 (.inr (by simpa using hb)))
      · intro x hx
        by_cases hg : digU l[i] ∧ site ≤ 1048576 ∧ n ≤ 1048576
        · obtain ⟨g1, g2, g3⟩ := hg
          have g1' := g1
          unfold digU at g1
          have hx' : x = ((l[i]).toNat : Int) := by
            rcases hx with hx | hx
            · exact hx
            · have := of_decide_eq_true hx; omega
          subst hx'
          rw [decide_eq_false (show ¬ ((l[i]).toNat : Int) < 48 by omega), decide_eq_false (show ¬ (57 : Int) < ((l[i]).toNat : Int) by omega), decide_eq_false (show ¬ (1048576 : Int) < site by omega), decide_eq_false (show ¬ (1048576 : Int) < n by omega)]
          simp only [Bool.or_self, cond_false]
          rw [wrap8 (by omega) (by omega), wrap64 (x := ((l[i]).toNat : Int) - 48) (by omega) (by omega), wrap64 (x := site * 10) (by omega) (by omega), wrap64 (x := n * 10) (by omega) (by omega), wrap64 (x := site * 10 + (((l[i]).toNat : Int) - 48)) (by omega) (by omega), wrap64 (x := n * 10 + (((l[i]).toNat : Int) - 48)) (by omega) (by omega)]
          by_cases h0 : dots = 0
          · rw [decide_eq_true h0]
            simp only [cond_true]
            refine OptW.some_iff.2 ⟨⟨i + 1, by simp, h, rfl, by simp only; omega, by simp only; omega, b3, b4, b5, by simp only; omega, ?_⟩, by simp; omega⟩
            intro a b h1 h2 h3 h4 e
            obtain ⟨n1, v1⟩ := dd_num a h1
            obtain ⟨n2, v2⟩ := dd_num b h3
            have ho := ok a b h1 h2 h3 h4 e
            unfold textI at e
            subst e
            left
            rcases ho with ⟨q1, q2, q3, q4⟩ | ⟨q1, _, _, q4⟩
            · rcases at_dot h with ⟨k, ek⟩ | ⟨k, ek⟩ | ⟨k, k', ek⟩
              · refine ⟨k, ?_, q3, q4⟩
                rw [take_succ_val k, q2, ek]
                rw [ek] at g1
                simp only; omega
              · exact absurd ek hc
              · omega
            · omega
          · rw [decide_eq_false h0]
            simp only [cond_false]
            refine OptW.some_iff.2 ⟨⟨i + 1, by simp, h, rfl, b1, b2, by simp only; omega, by simp only; omega, b5, by simp only; omega, ?_⟩, by simp; omega⟩
            intro a b h1 h2 h3 h4 e
            obtain ⟨n1, v1⟩ := dd_num a h1
            obtain ⟨n2, v2⟩ := dd_num b h3
            have ho := ok a b h1 h2 h3 h4 e
            unfold textI at e
            subst e
            right
            rcases ho with ⟨q1, q2, q3, q4⟩ | ⟨q1, q2, q3, q4⟩
            · exact absurd q4 h0
            · rcases at_dot h with ⟨k, ek⟩ | ⟨k, ek⟩ | ⟨k, k', ek⟩
              · omega
              · omega
              · refine ⟨by omega, q2, ?_, q4⟩
                rw [show i + 1 - (Lib.decDigits a).length - 1 = (i - (Lib.decDigits a).length - 1) + 1 by omega, take_succ_val k', q3, ek]
                rw [ek] at g1
                simp only; omega
        · have hor : (decide (((l[i]).toNat : Int) < 48) || decide ((57 : Int) < x) || decide ((1048576 : Int) < site) || decide ((1048576 : Int) < n)) = true := by
            by_cases g1 : digU l[i]
            · by_cases g2 : site ≤ 1048576
              · have : ¬ n ≤ 1048576 := fun g3 => hg ⟨g1, g2, g3⟩
                simp; omega
              · simp; omega
            · unfold digU at g1
              rcases hx with rfl | hx
              · simp; omega
              · rw [hx]; rfl
          rw [hor]
          refine OptW.some_iff.2 ⟨rfl, ?_⟩
          rintro id ⟨a, b, h1, h2, h3, h4, _, e⟩
          rw [hl] at e
          obtain ⟨n1, v1⟩ := dd_num a h1
          obtain ⟨n2, v2⟩ := dd_num b h3
          have ho := ok a b h1 h2 h3 h4 e
          have t1 := val_take_le (Lib.decDigits a) i
          have t2 := val_take_le (Lib.decDigits b) (i - (Lib.decDigits a).length - 1)
          unfold textI at e
          subst e
          apply hg
          refine ⟨?_, by omega, by omega⟩
          rcases at_dot h with ⟨k, ek⟩ | ⟨k, ek⟩ | ⟨k, k', ek⟩
          · rw [ek]; exact n1.dig _ (List.getElem_mem k)
          · exact absurd ek hc
          · rw [ek]; exact n2.dig _ (List.getElem_mem k')
  · rw [decide_eq_false (show ¬ (i : Int) < (s.size : Int) by omega)]
    simp only [cond_false]
    refine OptW.some_iff.2 ⟨rfl, by omega, b2, by omega, b4, ?_⟩
    intro a b h1 h2 h3 h4 e
    obtain ⟨n1, v1⟩ := dd_num a h1
    obtain ⟨n2, v2⟩ := dd_num b h3
    have ho := ok a b h1 h2 h3 h4 e
    unfold textI at e
    have hlen := congrArg List.length e
    simp at hlen
    rcases ho with ⟨q1, _⟩ | ⟨q1, q2, q3, q4⟩
    · omega
    · refine ⟨q2, ?_⟩
      rw [q3, List.take_of_length_le (by omega), v2]
theorem ref_Parse (s : ByteArray) {σ : AHeap} (hσ : Wf σ) : OptW (G_semvcsref10_Parse s σ) fun r => ((r.2.1 = 0 ∧ IdText s r.1) ∨ (r.1 = 0 ∧ r.2.1 = 13 ∧ ∀ id, ¬ IdText s id)) ∧ Wf r.2.2 ∧ Ext σ r.2.2 := by
  unfold G_semvcsref10_Parse
  simp only [lt_eq']
  by_cases hs : s.size ≤ 20
  · rw [decide_eq_false (show ¬ (20 : Int) < (s.size : Int) by omega)]
    simp only [cond_false]
    refine OptW.bdI (ref_loop hs σ) ?_
    rintro (⟨site, n, τ⟩ | r) hr
    · simp only at hr
      obtain ⟨rfl, c1, c2, c3, c4, hc⟩ := hr
      simp only [ref_Make, bd_some']
      by_cases hm : site < 1 ∨ 32 < site ∨ n < 1 ∨ 1048575 < n
      · have hmk : makeI site n = (0, 5) := by unfold makeI; rw [if_pos hm]
        rw [hmk]
        have h5 : decide ((5 : Int) ≠ 0) = true := rfl
        simp only [h5, Bool.not_true, cond_false, bd_some', Bool.true_or, cond_true]
        refine OptW.some_iff.2 ⟨.inr ⟨rfl, rfl, ?_⟩, hσ, Ext.refl _⟩
        rintro id ⟨a, b, h1, h2, h3, h4, _, e⟩
        have := hc a b h1 h2 h3 h4 e
        omega
      · have hmk : makeI site n = (site * 1048576 + n, 0) := by unfold makeI; rw [if_neg hm]
        have hv : validI (site * 1048576 + n) = true := valid_iff.2 (by omega)
        have e1 : ((site * 1048576 + n) / 1048576).toNat = site.toNat := by omega
        have e2 : ((site * 1048576 + n) % 1048576).toNat = n.toNat := by omega
        rw [hmk]
        have h5 : decide ((0 : Int) ≠ 0) = false := rfl
        simp only [h5, Bool.not_false, cond_true, Bool.false_or]
        refine OptW.bdI (ref_Format (by omega) (by omega) hσ) ?_
        rintro ⟨t, τ2⟩ ⟨et, w2, x2⟩
        simp only at et w2 x2 ⊢
        rw [if_pos hv, e1, e2] at et
        by_cases hts : t = s
        · rw [decide_eq_false (by simpa using hts)]
          simp only [cond_false]
          refine OptW.some_iff.2 ⟨.inl ⟨rfl, site.toNat, n.toNat, by omega, by omega, by omega, by omega, by simp only; omega, ?_⟩, w2, x2⟩
          rw [← hts, et]
        · rw [decide_eq_true (by simpa using hts)]
          simp only [cond_true]
          refine OptW.some_iff.2 ⟨.inr ⟨rfl, rfl, ?_⟩, w2, x2⟩
          rintro id ⟨a, b, h1, h2, h3, h4, _, e⟩
          obtain ⟨u1, u2⟩ := hc a b h1 h2 h3 h4 e
          apply hts
          rw [et, u1, u2, Int.toNat_natCast, Int.toNat_natCast, ← e, bytes_self]
    · obtain ⟨rfl, hr⟩ := hr
      exact OptW.some_iff.2 ⟨.inr ⟨rfl, rfl, hr⟩, hσ, Ext.refl _⟩
  · rw [decide_eq_true (show (20 : Int) < (s.size : Int) by omega)]
    simp only [cond_true]
    refine OptW.some_iff.2 ⟨.inr ⟨rfl, rfl, ?_⟩, hσ, Ext.refl _⟩
    rintro id ⟨a, b, h1, h2, h3, h4, _, e⟩
    have := textI_len h1 h2 h3 h4
    rw [← e] at this
    have h6 : s.data.toList.length = s.size := rfl
    omega
theorem IdentTexts_true {a0 : Int} {a1 : ByteArray} (w0 : (Lit.int .i64 a0).wf = true) (w1 : a1.size < 2 ^ 62) {σ : AHeap} (ht : Tb σ) (hσ : Wf σ) : OptW (G_semvcslaw10_IdentTexts a0 a1 σ) fun r => r.1 = true := by
  obtain ⟨l0, l1⟩ := i64_range w0
  unfold G_semvcslaw10_IdentTexts
  refine OptW.bdI (ident_Parse w1 σ) ?_
  rintro ⟨p1, p2⟩ hp
  refine OptW.bdI (ref_Parse a1 hσ) ?_
  rintro ⟨q1, q2, τ⟩ ⟨hq, wτ, xτ⟩
  simp only at hp hq wτ xτ ⊢
  have ht2 := ht.ext xτ
  rw [awake10 ht2, bd_some']
  simp only [cond_true]
  rw [ident_Format ht2, bd_some']
  refine OptW.bdI (ref_Format l0 l1 wτ) ?_
  rintro ⟨f, τ2⟩ ⟨ef, _, _⟩
  simp only at ef ⊢
  simp only [lt_eq', ef, decide_true, Bool.and_self, Bool.true_and]
  refine OptW.some_iff.2 ?_
  simp only
  have : p1 = q1 ∧ p2 = q2 := by
    rcases hp with ⟨e1, e2⟩ | ⟨e1, e2⟩
    · rcases hq with ⟨k1, k2⟩ | ⟨k1, k2, k3⟩
      · exact ⟨e2.uniq k2, by rw [e1, k1]⟩
      · exact absurd e2 (k3 _)
    · injection e1 with e1 e1'
      rcases hq with ⟨k1, k2⟩ | ⟨k1, k2, k3⟩
      · exact absurd k2 (e2 _)
      · exact ⟨by rw [e1, k1], by rw [e1', k2]⟩
  rw [decide_eq_true this.1, decide_eq_true this.2]; rfl
end Go.Am
