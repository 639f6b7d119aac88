/- Ids: what the plain functions are. -/
import Derived.Test.YtpionejhjfmobaaDoorI1G
import Derived.Test.YtpionejhjfmobaaDoorAmP1
set_option linter.unusedVariables false
set_option linter.unusedSimpArgs false
namespace Go.Am
theorem bd_some' {α β : Type} (a : α) (f : α → Option β) : bd (some a) f = f a := rfl
theorem lt_eq' {α β : Type} (a : α) (f : α → β) : lt a f = f a := rfl
theorem and_mask {x : Int} : andI .i64 x 1048575 = x % 1048576 := by
  unfold andI
  have hb : IntKind.bits .i64 = 64 := rfl
  rw [BitVec.toNat_and, BitVec.toNat_ofInt, BitVec.toNat_ofInt]
  have h2 : ((1048575 : Int) % ((2 ^ (IntKind.bits .i64) : Nat) : Int)).toNat = 2 ^ 20 - 1 := by decide
  rw [h2, Nat.and_two_pow_sub_one_eq_mod, hb]
  have h3 : ((x % ((2 ^ 64 : Nat) : Int)).toNat % 2 ^ 20 : Nat) = (x % 1048576).toNat := by
    have : ((2 ^ 64 : Nat) : Int) = 18446744073709551616 := by decide
    rw [this]
    have e : (2 : Nat) ^ 20 = 1048576 := by decide
    rw [e]
    omega
  rw [h3, wrap64 (by omega) (by omega)]
  omega
theorem shr_20 {x : Int} : shrI .i64 x 20 = some (x / 1048576) := by
  unfold shrI
  rw [if_neg (by decide)]
  have : (2 : Int) ^ (min (20 : Int).toNat (IntKind.bits .i64)) = 1048576 := by decide
  rw [this, Int.fdiv_eq_ediv_of_nonneg _ (by decide)]
theorem shl_20 {x : Int} (h : 0 ≤ x) (h' : x ≤ 32) : shlI .i64 x 20 = some (x * 1048576) := by
  unfold shlI
  rw [if_neg (by decide)]
  have : (2 : Int) ^ (min (20 : Int).toNat (IntKind.bits .i64)) = 1048576 := by decide
  rw [this, wrap64 (by omega) (by omega)]
def begunI (x : Int) : Bool := decide (1048576 ≤ x ∧ x < 34603008)
def validI (x : Int) : Bool := begunI x && decide (x % 1048576 ≠ 0)
theorem ident_begun (x : Int) : G_ident_begun x = some (begunI x) := by
  unfold G_ident_begun begunI
  rw [shr_20, bd_some']
  simp only [lt_eq']
  by_cases h : 1 ≤ x / 1048576
  · rw [decide_eq_true h]
    simp only [cond_true, bd_some', Bool.true_and]
    congr 1
    rw [decide_eq_decide]; omega
  · rw [decide_eq_false h]
    simp only [cond_false, bd_some', Bool.false_and]
    congr 1
    symm; rw [decide_eq_false_iff_not]; omega
theorem ident_Valid (x : Int) : G_ident_Valid x = some (validI x) := by
  unfold G_ident_Valid validI
  rw [ident_begun, bd_some']
  simp only [lt_eq', and_mask]
theorem begun_iff {x : Int} : begunI x = true ↔ 1048576 ≤ x ∧ x < 34603008 := by unfold begunI; simp
theorem valid_iff {x : Int} : validI x = true ↔ (1048576 ≤ x ∧ x < 34603008) ∧ x % 1048576 ≠ 0 := by unfold validI begunI; simp
theorem ident_Site (x : Int) : G_ident_Site x = some (if validI x = true then x / 1048576 else 0) := by
  unfold G_ident_Site
  rw [ident_Valid, bd_some']
  simp only [lt_eq', shr_20]
  cases validI x <;> rfl
theorem ident_Serial (x : Int) : G_ident_Serial x = some (if validI x = true then x % 1048576 else 0) := by
  unfold G_ident_Serial
  rw [ident_Valid, bd_some']
  simp only [lt_eq', and_mask]
  cases validI x <;> rfl
theorem ref_Valid (x : Int) : G_semvcsref10_Valid x = some (validI x) := by
  unfold G_semvcsref10_Valid
  simp only [lt_eq']
  congr 1
  rw [Bool.eq_iff_iff, valid_iff]
  simp only [Bool.and_eq_true, decide_eq_true_eq]
  by_cases h : 0 ≤ x
  · rw [Int.tmod_eq_emod_of_nonneg h]; omega
  · constructor <;> intro h2 <;> omega
theorem ref_Site (x : Int) (hx : -9223372036854775808 ≤ x) (hx' : x < 9223372036854775808) : G_semvcsref10_Site x = some (if validI x = true then x / 1048576 else 0) := by
  unfold G_semvcsref10_Site
  rw [ref_Valid, bd_some']
  simp only [lt_eq']
  cases h : validI x with
  | false => rfl
  | true =>
    have := valid_iff.1 h
    simp only [Bool.not_true, cond_false, if_true]
    rw [Int.tdiv_eq_ediv_of_nonneg (by omega), wrap64 (by omega) (by omega)]
theorem ref_Serial (x : Int) : G_semvcsref10_Serial x = some (if validI x = true then x % 1048576 else 0) := by
  unfold G_semvcsref10_Serial
  rw [ref_Valid, bd_some']
  simp only [lt_eq']
  cases h : validI x with
  | false => rfl
  | true =>
    have := valid_iff.1 h
    simp only [Bool.not_true, cond_false, if_true]
    rw [Int.tmod_eq_emod_of_nonneg (by omega)]
def makeI (s n : Int) : Int × Int := if s < 1 ∨ 32 < s ∨ n < 1 ∨ 1048575 < n then (0, 5) else (s * 1048576 + n, 0)
theorem ident_Make (s n : Int) : G_ident_Make s n = some (makeI s n) := by
  unfold G_ident_Make makeI
  simp only [lt_eq']
  by_cases h : s < 1 ∨ 32 < s ∨ n < 1 ∨ 1048575 < n
  · rw [if_pos h]
    have : (decide (s < 1) || decide (32 < s) || decide (n < 1) || decide (1048575 < n)) = true := by simp; omega
    rw [this]; rfl
  · rw [if_neg h]
    have : (decide (s < 1) || decide (32 < s) || decide (n < 1) || decide (1048575 < n)) = false := by simp; omega
    rw [this]
    simp only [cond_false]
    rw [shl_20 (by omega) (by omega), bd_some', wrap64 (by omega) (by omega)]
theorem ref_Make (s n : Int) : G_semvcsref10_Make s n = some (makeI s n) := by
  unfold G_semvcsref10_Make makeI
  simp only [lt_eq']
  by_cases h : s < 1 ∨ 32 < s ∨ n < 1 ∨ 1048575 < n
  · rw [if_pos h]
    have : (decide (s < 1) || decide (32 < s) || decide (n < 1) || decide (1048575 < n)) = true := by simp; omega
    rw [this]; rfl
  · rw [if_neg h]
    have : (decide (s < 1) || decide (32 < s) || decide (n < 1) || decide (1048575 < n)) = false := by simp; omega
    rw [this]
    simp only [cond_false]
    rw [wrap64 (x := s * 1048576) (by omega) (by omega), wrap64 (by omega) (by omega)]
def nextI (x n : Int) : Int × Int := if begunI x = false ∨ n < 0 then (0, 5) else if 1048575 - x % 1048576 < n then (0, 17) else if x % 1048576 + n = 0 then (0, 5) else (x + n, 0)
theorem ident_Next (x n : Int) (hn : n < 9223372036854775808) : G_ident_Next x n = some (nextI x n) := by
  unfold G_ident_Next nextI
  rw [ident_begun, bd_some']
  simp only [lt_eq', and_mask]
  by_cases h : begunI x = false ∨ n < 0
  · rw [if_pos h]
    have : (!begunI x || decide (n < 0)) = true := by simpa using h
    rw [this]; rfl
  · rw [if_neg h]
    have hb := begun_iff.1 (show begunI x = true by simp at h; exact h.1)
    have : (!begunI x || decide (n < 0)) = false := by simp at h ⊢; exact h
    rw [this]
    simp only [cond_false]
    rw [wrap64 (x := 1048575 - x % 1048576) (by omega) (by omega)]
    by_cases h2 : 1048575 - x % 1048576 < n
    · rw [if_pos h2, decide_eq_true h2]; rfl
    · rw [if_neg h2, decide_eq_false h2]
      simp only [cond_false]
      rw [wrap64 (x := x % 1048576 + n) (by omega) (by omega)]
      by_cases h3 : x % 1048576 + n = 0
      · rw [if_pos h3, decide_eq_true h3]; rfl
      · rw [if_neg h3, decide_eq_false h3]
        simp only [cond_false]
        rw [wrap64 (by omega) (by omega)]
theorem ref_Next (x n : Int) (hn : n < 9223372036854775808) : G_semvcsref10_Next x n = some (nextI x n) := by
  unfold G_semvcsref10_Next G_semvcsref10_Start nextI
  simp only [lt_eq', bd_some']
  have hbb : (decide (1048576 ≤ x) && decide (x < 34603008)) = begunI x := by
    unfold begunI; rw [Bool.eq_iff_iff]; simp
  rw [hbb]
  by_cases h : begunI x = false ∨ n < 0
  · rw [if_pos h]
    have : (!begunI x || decide (n < 0)) = true := by simpa using h
    rw [this]; rfl
  · rw [if_neg h]
    have hb := begun_iff.1 (show begunI x = true by simp at h; exact h.1)
    have : (!begunI x || decide (n < 0)) = false := by simp at h ⊢; exact h
    rw [this]
    simp only [cond_false]
    rw [Int.tmod_eq_emod_of_nonneg (by omega)]
    rw [wrap64 (x := 1048575 - x % 1048576) (by omega) (by omega)]
    by_cases h2 : 1048575 - x % 1048576 < n
    · rw [if_pos h2, decide_eq_true h2]; rfl
    · rw [if_neg h2, decide_eq_false h2]
      simp only [cond_false]
      rw [wrap64 (x := x % 1048576 + n) (by omega) (by omega)]
      by_cases h3 : x % 1048576 + n = 0
      · rw [if_pos h3, decide_eq_true h3]; rfl
      · rw [if_neg h3, decide_eq_false h3]
        simp only [cond_false]
        rw [wrap64 (by omega) (by omega)]
theorem number_3 : G_ident_number (⟨#[51]⟩ : ByteArray) = some (3, true) := by
  have l0 : G_ident_number_l1 (⟨#[51]⟩ : ByteArray) (0, 0) = some (.inl (3, 1)) := rfl
  have l1 : G_ident_number_l1 (⟨#[51]⟩ : ByteArray) (3, 1) = some (.inr (.inl 3)) := rfl
  have hl : loopT (G_ident_number_l1 (⟨#[51]⟩ : ByteArray)) (0, 0) = some (.inl 3) := by
    rw [loopT_eq, l0]; simp only; rw [loopT_eq, l1]
  show bd (loopT (G_ident_number_l1 (⟨#[51]⟩ : ByteArray)) (0, 0)) _ = _
  rw [hl]; rfl
theorem number_17 : G_ident_number (⟨#[49, 55]⟩ : ByteArray) = some (17, true) := by
  have l0 : G_ident_number_l1 (⟨#[49, 55]⟩ : ByteArray) (0, 0) = some (.inl (1, 1)) := rfl
  have l1 : G_ident_number_l1 (⟨#[49, 55]⟩ : ByteArray) (1, 1) = some (.inl (17, 2)) := rfl
  have l2 : G_ident_number_l1 (⟨#[49, 55]⟩ : ByteArray) (17, 2) = some (.inr (.inl 17)) := rfl
  have hl : loopT (G_ident_number_l1 (⟨#[49, 55]⟩ : ByteArray)) (0, 0) = some (.inl 17) := by
    rw [loopT_eq, l0]; simp only; rw [loopT_eq, l1]; simp only; rw [loopT_eq, l2]
  show bd (loopT (G_ident_number_l1 (⟨#[49, 55]⟩ : ByteArray)) (0, 0)) _ = _
  rw [hl]; rfl
theorem cut_ex (σ : AHeap) : G_strings_Cut (⟨#[51, 46, 49, 55]⟩ : ByteArray) (⟨#[46]⟩ : ByteArray) σ = some (⟨#[51]⟩, ⟨#[49, 55]⟩, true) := rfl
theorem parse_ex (σ : AHeap) : G_ident_Parse (⟨#[51, 46, 49, 55]⟩ : ByteArray) σ = some (3145745, 0) := by
  unfold G_ident_Parse
  rw [cut_ex, bd_some']
  simp only [lt_eq', Bool.not_true, cond_false, number_3, number_17, bd_some', ident_Make, Bool.or_self]
  rfl
theorem itoa_3 (σ : AHeap) : G_strconv_Itoa_x 3 σ = some (⟨#[51]⟩, σ) := rfl
set_option maxRecDepth 100000 in
theorem itoa_17 (σ : AHeap) : G_strconv_Itoa_x 17 σ = some (⟨#[49, 55]⟩, σ) := rfl
theorem valid_ex : validI 3145745 = true := by decide
theorem format_ex (σ : AHeap) : G_ident_Format 3145745 σ = some (⟨#[51, 46, 49, 55]⟩, σ) := by
  unfold G_ident_Format
  rw [ident_Valid, valid_ex, bd_some']
  simp only [lt_eq', Bool.not_true, cond_false, shr_20, and_mask, bd_some', show (3145745 : Int) / 1048576 = 3 by decide, show (3145745 : Int) % 1048576 = 17 by decide, itoa_3, itoa_17]
  rfl
theorem awake10 (σ : AHeap) : G_semvcslaw10_awake σ = some (true, σ) := by
  unfold G_semvcslaw10_awake
  have hm : makeI 3 17 = (3145745, 0) := by decide
  simp only [ident_Make, hm, bd_some', parse_ex, lt_eq', decide_true, Bool.and_self, cond_true, format_ex, ident_Site, ident_Serial, ident_Valid, valid_ex, if_true, show (3145745 : Int) / 1048576 = 3 by decide, show (3145745 : Int) % 1048576 = 17 by decide]
theorem i64_range {c : Int} (h : (Lit.int .i64 c).wf = true) : -9223372036854775808 ≤ c ∧ c < 9223372036854775808 := by
  simp [Lit.wf, IntKind.min, IntKind.max, IntKind.bits, IntKind.signed] at h
  omega
theorem IdentMakes_true {a0 a1 a2 : Int} (w0 : (Lit.int .i64 a0).wf = true) (w1 : (Lit.int .i64 a1).wf = true) (w2 : (Lit.int .i64 a2).wf = true) {σ : AHeap} (hσ : Wf σ) : OptW (G_semvcslaw10_IdentMakes a0 a1 a2 σ) fun r => r.1 = true := by
  obtain ⟨h1, h2⟩ := i64_range w2
  unfold G_semvcslaw10_IdentMakes
  simp only [ident_Make, ref_Make, bd_some', awake10, lt_eq', decide_true, Bool.and_self, cond_true, ident_Valid, ref_Valid, beq_self_eq_true, ident_Site, ref_Site a2 h1 h2, ident_Serial, ref_Serial]
  exact OptW.some_iff.2 rfl
theorem IdentNext_true {a0 a1 : Int} (w0 : (Lit.int .i64 a0).wf = true) (w1 : (Lit.int .i64 a1).wf = true) {σ : AHeap} (hσ : Wf σ) : OptW (G_semvcslaw10_IdentNext a0 a1 σ) fun r => r.1 = true := by
  obtain ⟨h1, h2⟩ := i64_range w1
  unfold G_semvcslaw10_IdentNext
  simp only [ident_Next _ _ h2, ref_Next _ _ h2, bd_some', awake10, lt_eq', decide_true, Bool.and_self, cond_true]
  exact OptW.some_iff.2 rfl
theorem IdentOrder_true {a0 a1 : Int} (w0 : (Lit.int .i64 a0).wf = true) (w1 : (Lit.int .i64 a1).wf = true) {σ : AHeap} (hσ : Wf σ) : OptW (G_semvcslaw10_IdentOrder a0 a1 σ) fun r => r.1 = true := by
  unfold G_semvcslaw10_IdentOrder
  simp only [ident_Valid, bd_some', lt_eq', awake10, ident_Site, ident_Serial]
  cases h0 : validI a0 with
  | false => exact OptW.some_iff.2 rfl
  | true =>
    cases h1 : validI a1 with
    | false => exact OptW.some_iff.2 rfl
    | true =>
      have v0 := valid_iff.1 h0
      have v1 := valid_iff.1 h1
      simp only [Bool.not_true, Bool.not_false, cond_true, cond_false, bd_some', Bool.or_self, if_true, Bool.true_and]
      by_cases c1 : a0 / 1048576 < a1 / 1048576
      · rw [decide_eq_true c1]
        simp only [Bool.not_true, cond_false, bd_some', Bool.false_and]
        refine OptW.some_iff.2 ?_
        simp only [Bool.true_or]
        rw [decide_eq_true (by omega)]; rfl
      · rw [decide_eq_false c1]
        simp only [Bool.not_false, cond_true, bd_some', Bool.true_and]
        by_cases c2 : a0 / 1048576 = a1 / 1048576
        · rw [decide_eq_true c2]
          simp only [cond_true, bd_some', Bool.true_and, Bool.false_or]
          refine OptW.some_iff.2 ?_
          have : decide (a0 < a1) = decide (a0 % 1048576 < a1 % 1048576) := by rw [decide_eq_decide]; omega
          rw [this]; simp
        · rw [decide_eq_false c2]
          simp only [cond_false, bd_some', Bool.false_and, Bool.or_self]
          refine OptW.some_iff.2 ?_
          rw [decide_eq_false (show ¬ a0 < a1 by omega)]; rfl
theorem IdentSteps_true {a0 a1 a2 : Int} (w0 : (Lit.int .i64 a0).wf = true) (w1 : (Lit.int .i64 a1).wf = true) (w2 : (Lit.int .i64 a2).wf = true) {σ : AHeap} (hσ : Wf σ) : OptW (G_semvcslaw10_IdentSteps a0 a1 a2 σ) fun r => r.1 = true := by
  obtain ⟨h1, h2⟩ := i64_range w0
  unfold G_semvcslaw10_IdentSteps
  simp only [lt_eq', awake10, bd_some']
  by_cases hg : a1 < 0 ∨ a2 < 0 ∨ 1048575 < a1 ∨ 1048575 < a2
  · have : (decide (a1 < 0) || decide (a2 < 0) || decide (1048575 < a1) || decide (1048575 < a2)) = true := by simp; omega
    rw [this]; exact OptW.some_iff.2 rfl
  · have : (decide (a1 < 0) || decide (a2 < 0) || decide (1048575 < a1) || decide (1048575 < a2)) = false := by simp; omega
    rw [this]
    simp only [cond_false]
    rw [wrap64 (x := a1 + a2) (by omega) (by omega), ident_Next _ _ (by omega), bd_some']
    rw [ident_Next _ _ (by omega), bd_some', ident_Next _ _ (by omega), bd_some']
    simp only [ident_Serial]
    by_cases he : (nextI a0 a1).2 = 0
    · rw [decide_eq_false (by simp [he])]
      simp only [cond_false]
      have hn : begunI a0 = true ∧ ¬ (1048575 - a0 % 1048576 < a1) ∧ ¬ (a0 % 1048576 + a1 = 0) ∧ nextI a0 a1 = (a0 + a1, 0) := by
        unfold nextI at he ⊢
        split at he
        · cases he
        · rename_i q1
          split at he
          · cases he
          · rename_i q2
            split at he
            · cases he
            · rename_i q3
              rw [if_neg q1, if_neg q2, if_neg q3]
              simp at q1
              exact ⟨q1.1, q2, q3, rfl⟩
      obtain ⟨n1, n2, n3, n4⟩ := hn
      have b0 := begun_iff.1 n1
      rw [n4]
      simp only
      have hb : begunI (a0 + a1) = true := begun_iff.2 (by omega)
      have hmod : (a0 + a1) % 1048576 = a0 % 1048576 + a1 := by omega
      have hsame : nextI (a0 + a1) a2 = nextI a0 (a1 + a2) := by
        have e1 : nextI (a0 + a1) a2 = if 1048575 - (a0 + a1) % 1048576 < a2 then (0, 17) else if (a0 + a1) % 1048576 + a2 = 0 then (0, 5) else (a0 + a1 + a2, 0) := by
          unfold nextI; rw [if_neg (by simp [hb]; omega)]
        have e2 : nextI a0 (a1 + a2) = if 1048575 - a0 % 1048576 < a1 + a2 then (0, 17) else if a0 % 1048576 + (a1 + a2) = 0 then (0, 5) else (a0 + (a1 + a2), 0) := by
          unfold nextI; rw [if_neg (by simp [n1]; omega)]
        rw [e1, e2, hmod]
        by_cases c1 : 1048575 - (a0 % 1048576 + a1) < a2
        · rw [if_pos c1, if_pos (by omega)]
        · rw [if_neg c1, if_neg (by omega), if_neg (by omega), if_neg (by omega)]
          congr 1; omega
      rw [hsame]
      simp only [decide_true, Bool.and_self, Bool.true_and]
      by_cases c : (nextI a0 (a1 + a2)).2 = 0
      · rw [decide_eq_false (by simp [c])]
        simp only [Bool.not_false, cond_true, bd_some', Bool.false_or]
        have hv : nextI a0 (a1 + a2) = (a0 + (a1 + a2), 0) ∧ ¬ (1048575 - a0 % 1048576 < a1 + a2) := by
          unfold nextI at c ⊢
          rw [n1] at c ⊢
          rw [if_neg (by simp; omega)] at c ⊢
          split at c
          · cases c
          · rename_i q2
            split at c
            · cases c
            · rename_i q3
              rw [if_neg q2, if_neg q3]
              exact ⟨rfl, q2⟩
        obtain ⟨hv, hq⟩ := hv
        rw [hv]
        simp only
        have u1 : validI (a0 + (a1 + a2)) = true := valid_iff.2 (by omega)
        have u2 : validI (a0 + a1) = true := valid_iff.2 (by omega)
        rw [u1, u2, if_pos rfl, if_pos rfl]
        refine OptW.some_iff.2 ?_
        simp only
        rw [wrap64 (by omega) (by omega), decide_eq_true (by omega)]
      · rw [decide_eq_true c]
        simp only [Bool.not_true, cond_false, bd_some', Bool.true_or]
        exact OptW.some_iff.2 rfl
    · rw [decide_eq_true he]
      exact OptW.some_iff.2 rfl
end Go.Am
