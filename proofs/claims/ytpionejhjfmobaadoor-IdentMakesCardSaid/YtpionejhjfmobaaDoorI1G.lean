/- I1G -/
import Derived.Test.YtpionejhjfmobaaDoorAmY
set_option linter.unusedVariables false
namespace Go.Am
def T_arr24_u8 : TypeId := 42
def T_arr65_u8 : TypeId := 53
def T_u8 : TypeId := 5
/- semvcs/ident.Make -/
noncomputable def G_ident_Make (site_3 : Int) (n_4 : Int) : Option (Int × Int) :=
  lt (decide (site_3 < (1))) fun x5 =>
  lt (decide ((32) < site_3)) fun x6 =>
  lt (x5 || x6) fun x7 =>
  lt (decide (n_4 < (1))) fun x8 =>
  lt (x7 || x8) fun x9 =>
  lt (decide ((1048575) < n_4)) fun x10 =>
  lt (x9 || x10) fun x11 =>
  bif x11 then (
    some ((0), (5))
  ) else (
    bd (shlI .i64 site_3 (20)) fun x12 =>
    lt (IntKind.wrap .i64 (x12 + n_4)) fun x13 =>
    some (x13, (0))
  )
/- semvcs/semvcsref10.Make -/
noncomputable def G_semvcsref10_Make (site_3 : Int) (n_4 : Int) : Option (Int × Int) :=
  lt (decide (site_3 < (1))) fun x5 =>
  lt (decide ((32) < site_3)) fun x6 =>
  lt (x5 || x6) fun x7 =>
  lt (decide (n_4 < (1))) fun x8 =>
  lt (x7 || x8) fun x9 =>
  lt (decide ((1048575) < n_4)) fun x10 =>
  lt (x9 || x10) fun x11 =>
  bif x11 then (
    some ((0), (5))
  ) else (
    lt (IntKind.wrap .i64 (site_3 * (1048576))) fun x12 =>
    lt (IntKind.wrap .i64 (x12 + n_4)) fun x13 =>
    some (x13, (0))
  )
/- semvcs/ident.begun -/
noncomputable def G_ident_begun (id_2 : Int) : Option Bool :=
  bd (shrI .i64 id_2 (20)) fun x3 =>
  lt (decide ((1) ≤ x3)) fun x4 =>
  bd (bif x4 then shrI .i64 id_2 (20) else some 0) fun x5 =>
  lt (decide (x5 ≤ (32))) fun x6 =>
  lt (x4 && x6) fun x7 =>
  some x7
/- semvcs/ident.Valid -/
noncomputable def G_ident_Valid (id_2 : Int) : Option Bool :=
  bd (G_ident_begun id_2) fun x3 =>
  lt (andI .i64 id_2 (1048575)) fun x4 =>
  lt (decide (x4 ≠ (0))) fun x5 =>
  lt (x3 && x5) fun x6 =>
  some x6
/- semvcs/ident.Site -/
noncomputable def G_ident_Site (id_2 : Int) : Option Int :=
  bd (G_ident_Valid id_2) fun x3 =>
  lt (!x3) fun x4 =>
  bif x4 then (
    some (0)
  ) else (
    bd (shrI .i64 id_2 (20)) fun x5 =>
    some x5
  )
/- semvcs/ident.Serial -/
noncomputable def G_ident_Serial (id_2 : Int) : Option Int :=
  bd (G_ident_Valid id_2) fun x3 =>
  lt (!x3) fun x4 =>
  bif x4 then (
    some (0)
  ) else (
    lt (andI .i64 id_2 (1048575)) fun x5 =>
    some x5
  )
/- internal/stringslite.IndexByte -/
noncomputable def G_stringslite_IndexByte (s_2 : ByteArray) (c_3 : Int) : Option Int :=
  bd (G_bytealg_IndexByteString s_2 c_3) fun x4 =>
  some x4
/- internal/bytealg.Cutover -/
noncomputable def G_bytealg_Cutover (n_2 : Int) : Option Int :=
  lt (IntKind.wrap .i64 (n_2 + (16))) fun x3 =>
  lt (IntKind.wrap .i64 (Int.tdiv x3 (8))) fun x4 =>
  some x4
/- internal/bytealg.hashStr[string] -/
noncomputable def G_bytealg_hashStr_string_l1 (sep_4 : ByteArray) : (Int × Int) → Option ((Int × Int) ⊕ Int) := fun (hash_5, i_6) =>
  lt ((ByteArray.size sep_4 : Int)) fun x8 =>
  lt (decide (i_6 < x8)) fun x9 =>
  bif x9 then (
    lt (IntKind.wrap .u32 (hash_5 * (16777619))) fun x10 =>
    bd (idxS sep_4 i_6) fun x11 =>
    lt (IntKind.wrap .u32 x11) fun x12 =>
    lt (IntKind.wrap .u32 (x10 + x12)) fun x13 =>
    lt (IntKind.wrap .i64 (i_6 + (1))) fun x14 =>
    some (.inl (x13, x14))
  ) else (
    some (.inr hash_5)
  )
noncomputable def G_bytealg_hashStr_string_j1 (hash_17 : Int) (pow_26 : Int) (sq_27 : Int) (i_28 : Int) : Option ((Int × Int × Int) ⊕ Int) :=
  lt (IntKind.wrap .u32 (sq_27 * sq_27)) fun x29 =>
  bd (shrI .i64 i_28 (1)) fun x30 =>
  some (.inl (pow_26, x29, x30))
noncomputable def G_bytealg_hashStr_string_l2 (hash_17 : Int) : (Int × Int × Int) → Option ((Int × Int × Int) ⊕ Int) := fun (pow_18, sq_19, i_20) =>
  lt (decide ((0) < i_20)) fun x22 =>
  bif x22 then (
    lt (andI .i64 i_20 (1)) fun x23 =>
    lt (decide (x23 ≠ (0))) fun x24 =>
    bif x24 then (
      lt (IntKind.wrap .u32 (pow_18 * sq_19)) fun x25 =>
      G_bytealg_hashStr_string_j1 hash_17 x25 sq_19 i_20
    ) else (
      lt (IntKind.wrap .u32 (sq_19 * sq_19)) fun x31 =>
      bd (shrI .i64 i_20 (1)) fun x32 =>
      some (.inl (pow_18, x31, x32))
    )
  ) else (
    some (.inr pow_18)
  )
noncomputable def G_bytealg_hashStr_string (sep_3 : ByteArray) : Option (Int × Int) :=
  bd (loopT (G_bytealg_hashStr_string_l1 sep_3) ((0), (0))) fun hash_15 =>
  lt ((ByteArray.size sep_3 : Int)) fun x16 =>
  bd (loopT (G_bytealg_hashStr_string_l2 hash_15) ((1), (16777619), x16)) fun pow_33 =>
  some (hash_15, pow_33)
/- internal/bytealg.IndexRabinKarp[string] -/
noncomputable def G_bytealg_IndexRabinKarp_string_l1 (s_7 : ByteArray) (sep_8 : ByteArray) (hashss_9 : Int) (pow_10 : Int) (n_11 : Int) : (Int × Int) → Option ((Int × Int) ⊕ Int) := fun (h_12, i_13) =>
  lt (decide (i_13 < n_11)) fun x15 =>
  bif x15 then (
    lt (IntKind.wrap .u32 (h_12 * (16777619))) fun x16 =>
    bd (idxS s_7 i_13) fun x17 =>
    lt (IntKind.wrap .u32 x17) fun x18 =>
    lt (IntKind.wrap .u32 (x16 + x18)) fun x19 =>
    lt (IntKind.wrap .i64 (i_13 + (1))) fun x20 =>
    some (.inl (x19, x20))
  ) else (
    some (.inr h_12)
  )
noncomputable def G_bytealg_IndexRabinKarp_string_l2 (s_26 : ByteArray) (sep_27 : ByteArray) (hashss_28 : Int) (pow_29 : Int) (n_30 : Int) : (Int × Int) → Option ((Int × Int) ⊕ (Unit ⊕ Int)) := fun (h_31, i_32) =>
  lt ((ByteArray.size s_26 : Int)) fun x34 =>
  lt (decide (i_32 < x34)) fun x35 =>
  bif x35 then (
    lt (IntKind.wrap .u32 (h_31 * (16777619))) fun x36 =>
    bd (idxS s_26 i_32) fun x37 =>
    lt (IntKind.wrap .u32 x37) fun x38 =>
    lt (IntKind.wrap .u32 (x36 + x38)) fun x39 =>
    lt (IntKind.wrap .i64 (i_32 - n_30)) fun x40 =>
    bd (idxS s_26 x40) fun x41 =>
    lt (IntKind.wrap .u32 x41) fun x42 =>
    lt (IntKind.wrap .u32 (pow_29 * x42)) fun x43 =>
    lt (IntKind.wrap .u32 (x39 - x43)) fun x44 =>
    lt (IntKind.wrap .i64 (i_32 + (1))) fun x45 =>
    lt (decide (x44 = hashss_28)) fun x46 =>
    lt (IntKind.wrap .i64 (x45 - n_30)) fun x47 =>
    bd (bif x46 then slS s_26 (some x47) (some x45) else some ByteArray.empty) fun x48 =>
    lt (decide (x48 = sep_27)) fun x49 =>
    lt (x46 && x49) fun x50 =>
    bif x50 then (
      lt (IntKind.wrap .i64 (x45 - n_30)) fun x51 =>
      some (.inr (.inr x51))
    ) else (
      some (.inl (x44, x45))
    )
  ) else (
    some (.inr (.inl ()))
  )
noncomputable def G_bytealg_IndexRabinKarp_string (s_2 : ByteArray) (sep_3 : ByteArray) : Option Int :=
  bd (G_bytealg_hashStr_string sep_3) fun (x4, x5) =>
  lt ((ByteArray.size sep_3 : Int)) fun x6 =>
  bd (loopT (G_bytealg_IndexRabinKarp_string_l1 s_2 sep_3 x4 x5 x6) ((0), (0))) fun h_21 =>
  lt (decide (h_21 = x4)) fun x22 =>
  bd (bif x22 then slS s_2 none (some x6) else some ByteArray.empty) fun x23 =>
  lt (decide (x23 = sep_3)) fun x24 =>
  lt (x22 && x24) fun x25 =>
  bif x25 then (
    some (0)
  ) else (
    bd (loopT (G_bytealg_IndexRabinKarp_string_l2 s_2 sep_3 x4 x5 x6) (h_21, x6)) fun r =>
    match r with
    | (.inl _) =>
      some (-1)
    | (.inr x52) =>
      some x52
  )
/- internal/stringslite.Index -/
noncomputable def G_stringslite_Index (s_2 : ByteArray) (substr_3 : ByteArray) (σ : AHeap) : Option Int :=
  lt ((ByteArray.size substr_3 : Int)) fun x4 =>
  lt (decide (x4 = (0))) fun x5 =>
  lt (decide (substr_3 = s_2)) fun x6 =>
  lt (x5 || x6) fun x7 =>
  bif x7 then (
    some (0)
  ) else (
    lt (decide (x4 = (1))) fun x8 =>
    bif x8 then (
      bd (idxS substr_3 (0)) fun x9 =>
      bd (G_stringslite_IndexByte s_2 x9) fun x10 =>
      some x10
    ) else (
      lt ((ByteArray.size s_2 : Int)) fun x11 =>
      lt (decide (x11 ≤ x4)) fun x12 =>
      bif x12 then (
        some (-1)
      ) else (
        none
      )
    )
  )
/- internal/stringslite.Cut -/
noncomputable def G_stringslite_Cut (s_4 : ByteArray) (sep_5 : ByteArray) (σ : AHeap) : Option (ByteArray × ByteArray × Bool) :=
  bd (G_stringslite_Index s_4 sep_5 σ) fun x6 =>
  lt (decide ((0) ≤ x6)) fun x7 =>
  bif x7 then (
    bd (slS s_4 none (some x6)) fun x8 =>
    lt ((ByteArray.size sep_5 : Int)) fun x9 =>
    lt (IntKind.wrap .i64 (x6 + x9)) fun x10 =>
    bd (slS s_4 (some x10) none) fun x11 =>
    some (x8, x11, true)
  ) else (
    some (s_4, (⟨#[]⟩ : ByteArray), false)
  )
/- strings.Cut -/
noncomputable def G_strings_Cut (s_4 : ByteArray) (sep_5 : ByteArray) (σ : AHeap) : Option (ByteArray × ByteArray × Bool) :=
  bd (G_stringslite_Cut s_4 sep_5 σ) fun (x6, x7, x8) =>
  some (x6, x7, x8)
/- semvcs/ident.number -/
noncomputable def G_ident_number_l1 (s_11 : ByteArray) : (Int × Int) → Option ((Int × Int) ⊕ (Int ⊕ (Int × Bool))) := fun (n_12, i_13) =>
  lt ((ByteArray.size s_11 : Int)) fun x17 =>
  lt (decide (i_13 < x17)) fun x18 =>
  bif x18 then (
    bd (idxS s_11 i_13) fun x19 =>
    lt (decide (x19 < (48))) fun x20 =>
    bd (bif !x20 then idxS s_11 i_13 else some 0) fun x21 =>
    lt (decide ((57) < x21)) fun x22 =>
    lt (x20 || x22) fun x23 =>
    bif x23 then (
      some (.inr (.inr ((0), false)))
    ) else (
      lt (IntKind.wrap .i64 ((10) * n_12)) fun x24 =>
      bd (idxS s_11 i_13) fun x25 =>
      lt (IntKind.wrap .u8 (x25 - (48))) fun x26 =>
      lt (IntKind.wrap .i64 x26) fun x27 =>
      lt (IntKind.wrap .i64 (x24 + x27)) fun x28 =>
      lt (IntKind.wrap .i64 (i_13 + (1))) fun x29 =>
      some (.inl (x28, x29))
    )
  ) else (
    some (.inr (.inl n_12))
  )
noncomputable def G_ident_number (s_3 : ByteArray) : Option (Int × Bool) :=
  lt (decide (s_3 = (⟨#[]⟩ : ByteArray))) fun x4 =>
  lt ((ByteArray.size s_3 : Int)) fun x5 =>
  lt (decide ((7) < x5)) fun x6 =>
  lt (x4 || x6) fun x7 =>
  bd (bif !x7 then idxS s_3 (0) else some 0) fun x8 =>
  lt (decide (x8 = (48))) fun x9 =>
  lt (x7 || x9) fun x10 =>
  bif x10 then (
    some ((0), false)
  ) else (
    bd (loopT (G_ident_number_l1 s_3) ((0), (0))) fun r =>
    match r with
    | (.inl n_30) =>
      some (n_30, true)
    | (.inr (x31, x32)) =>
      some (x31, x32)
  )
/- semvcs/ident.Parse -/
noncomputable def G_ident_Parse (s_3 : ByteArray) (σ : AHeap) : Option (Int × Int) :=
  bd (G_strings_Cut s_3 (⟨#[46]⟩ : ByteArray) σ) fun (x4, x5, x6) =>
  lt (!x6) fun x7 =>
  bif x7 then (
    some ((0), (13))
  ) else (
    bd (G_ident_number x4) fun (x8, x9) =>
    bd (G_ident_number x5) fun (x10, x11) =>
    lt (!x9) fun x12 =>
    lt (!x11) fun x13 =>
    lt (x12 || x13) fun x14 =>
    bif x14 then (
      some ((0), (13))
    ) else (
      bd (G_ident_Make x8 x10) fun (x15, x16) =>
      lt (decide (x16 ≠ (0))) fun x17 =>
      bif x17 then (
        some ((0), (13))
      ) else (
        some (x15, (0))
      )
    )
  )
/- internal/strconv.small -/
noncomputable def G_strconv_small (i_2 : Int) : Option ByteArray :=
  lt (decide (i_2 < (10))) fun x3 =>
  bif x3 then (
    lt (IntKind.wrap .i64 (i_2 + (1))) fun x4 =>
    bd (slS (⟨#[48, 49, 50, 51, 52, 53, 54, 55, 56, 57, 97, 98, 99, 100, 101, 102, 103, 104, 105, 106, 107, 108, 109, 110, 111, 112, 113, 114, 115, 116, 117, 118, 119, 120, 121, 122]⟩ : ByteArray) (some i_2) (some x4)) fun x5 =>
    some x5
  ) else (
    lt (IntKind.wrap .i64 (i_2 * (2))) fun x6 =>
    lt (IntKind.wrap .i64 (i_2 * (2))) fun x7 =>
    lt (IntKind.wrap .i64 (x7 + (2))) fun x8 =>
    bd (slS (⟨#[48, 48, 48, 49, 48, 50, 48, 51, 48, 52, 48, 53, 48, 54, 48, 55, 48, 56, 48, 57, 49, 48, 49, 49, 49, 50, 49, 51, 49, 52, 49, 53, 49, 54, 49, 55, 49, 56, 49, 57, 50, 48, 50, 49, 50, 50, 50, 51, 50, 52, 50, 53, 50, 54, 50, 55, 50, 56, 50, 57, 51, 48, 51, 49, 51, 50, 51, 51, 51, 52, 51, 53, 51, 54, 51, 55, 51, 56, 51, 57, 52, 48, 52, 49, 52, 50, 52, 51, 52, 52, 52, 53, 52, 54, 52, 55, 52, 56, 52, 57, 53, 48, 53, 49, 53, 50, 53, 51, 53, 52, 53, 53, 53, 54, 53, 55, 53, 56, 53, 57, 54, 48, 54, 49, 54, 50, 54, 51, 54, 52, 54, 53, 54, 54, 54, 55, 54, 56, 54, 57, 55, 48, 55, 49, 55, 50, 55, 51, 55, 52, 55, 53, 55, 54, 55, 55, 55, 56, 55, 57, 56, 48, 56, 49, 56, 50, 56, 51, 56, 52, 56, 53, 56, 54, 56, 55, 56, 56, 56, 57, 57, 48, 57, 49, 57, 50, 57, 51, 57, 52, 57, 53, 57, 54, 57, 55, 57, 56, 57, 57]⟩ : ByteArray) (some x6) (some x8)) fun x9 =>
    some x9
  )
/- internal/strconv.log10Pow2 -/
noncomputable def G_strconv_log10Pow2 (x_2 : Int) : Option Int :=
  lt (IntKind.wrap .i64 (x_2 * (78913))) fun x3 =>
  bd (shrI .i64 x3 (18)) fun x4 =>
  some x4
/- math/bits.Len64 -/
noncomputable def G_bits_Len64_j3 (x_15 : Int) (n_16 : Int) : Option Int :=
  lt (IntKind.wrap .u8 x_15) fun x17 =>
  bd (idxS (⟨#[0, 1, 2, 2, 3, 3, 3, 3, 4, 4, 4, 4, 4, 4, 4, 4, 5, 5, 5, 5, 5, 5, 5, 5, 5, 5, 5, 5, 5, 5, 5, 5, 6, 6, 6, 6, 6, 6, 6, 6, 6, 6, 6, 6, 6, 6, 6, 6, 6, 6, 6, 6, 6, 6, 6, 6, 6, 6, 6, 6, 6, 6, 6, 6, 7, 7, 7, 7, 7, 7, 7, 7, 7, 7, 7, 7, 7, 7, 7, 7, 7, 7, 7, 7, 7, 7, 7, 7, 7, 7, 7, 7, 7, 7, 7, 7, 7, 7, 7, 7, 7, 7, 7, 7, 7, 7, 7, 7, 7, 7, 7, 7, 7, 7, 7, 7, 7, 7, 7, 7, 7, 7, 7, 7, 7, 7, 7, 7, 8, 8, 8, 8, 8, 8, 8, 8, 8, 8, 8, 8, 8, 8, 8, 8, 8, 8, 8, 8, 8, 8, 8, 8, 8, 8, 8, 8, 8, 8, 8, 8, 8, 8, 8, 8, 8, 8, 8, 8, 8, 8, 8, 8, 8, 8, 8, 8, 8, 8, 8, 8, 8, 8, 8, 8, 8, 8, 8, 8, 8, 8, 8, 8, 8, 8, 8, 8, 8, 8, 8, 8, 8, 8, 8, 8, 8, 8, 8, 8, 8, 8, 8, 8, 8, 8, 8, 8, 8, 8, 8, 8, 8, 8, 8, 8, 8, 8, 8, 8, 8, 8, 8, 8, 8, 8, 8, 8, 8, 8, 8, 8, 8, 8, 8, 8, 8, 8, 8, 8, 8, 8, 8, 8, 8, 8, 8, 8]⟩ : ByteArray) x17) fun x18 =>
  lt (IntKind.wrap .i64 x18) fun x19 =>
  lt (IntKind.wrap .i64 (n_16 + x19)) fun x20 =>
  some x20
noncomputable def G_bits_Len64_j2 (x_10 : Int) (n_11 : Int) : Option Int :=
  lt (decide ((256) ≤ x_10)) fun x12 =>
  bif x12 then (
    bd (shrI .u64 x_10 (8)) fun x13 =>
    lt (IntKind.wrap .i64 (n_11 + (8))) fun x14 =>
    G_bits_Len64_j3 x13 x14
  ) else (
    lt (IntKind.wrap .u8 x_10) fun x21 =>
    bd (idxS (⟨#[0, 1, 2, 2, 3, 3, 3, 3, 4, 4, 4, 4, 4, 4, 4, 4, 5, 5, 5, 5, 5, 5, 5, 5, 5, 5, 5, 5, 5, 5, 5, 5, 6, 6, 6, 6, 6, 6, 6, 6, 6, 6, 6, 6, 6, 6, 6, 6, 6, 6, 6, 6, 6, 6, 6, 6, 6, 6, 6, 6, 6, 6, 6, 6, 7, 7, 7, 7, 7, 7, 7, 7, 7, 7, 7, 7, 7, 7, 7, 7, 7, 7, 7, 7, 7, 7, 7, 7, 7, 7, 7, 7, 7, 7, 7, 7, 7, 7, 7, 7, 7, 7, 7, 7, 7, 7, 7, 7, 7, 7, 7, 7, 7, 7, 7, 7, 7, 7, 7, 7, 7, 7, 7, 7, 7, 7, 7, 7, 8, 8, 8, 8, 8, 8, 8, 8, 8, 8, 8, 8, 8, 8, 8, 8, 8, 8, 8, 8, 8, 8, 8, 8, 8, 8, 8, 8, 8, 8, 8, 8, 8, 8, 8, 8, 8, 8, 8, 8, 8, 8, 8, 8, 8, 8, 8, 8, 8, 8, 8, 8, 8, 8, 8, 8, 8, 8, 8, 8, 8, 8, 8, 8, 8, 8, 8, 8, 8, 8, 8, 8, 8, 8, 8, 8, 8, 8, 8, 8, 8, 8, 8, 8, 8, 8, 8, 8, 8, 8, 8, 8, 8, 8, 8, 8, 8, 8, 8, 8, 8, 8, 8, 8, 8, 8, 8, 8, 8, 8, 8, 8, 8, 8, 8, 8, 8, 8, 8, 8, 8, 8, 8, 8, 8, 8, 8, 8]⟩ : ByteArray) x21) fun x22 =>
    lt (IntKind.wrap .i64 x22) fun x23 =>
    lt (IntKind.wrap .i64 (n_11 + x23)) fun x24 =>
    some x24
  )
noncomputable def G_bits_Len64_j1 (x_5 : Int) (n_6 : Int) : Option Int :=
  lt (decide ((65536) ≤ x_5)) fun x7 =>
  bif x7 then (
    bd (shrI .u64 x_5 (16)) fun x8 =>
    lt (IntKind.wrap .i64 (n_6 + (16))) fun x9 =>
    G_bits_Len64_j2 x8 x9
  ) else (
    lt (decide ((256) ≤ x_5)) fun x25 =>
    bif x25 then (
      bd (shrI .u64 x_5 (8)) fun x26 =>
      lt (IntKind.wrap .i64 (n_6 + (8))) fun x27 =>
      G_bits_Len64_j3 x26 x27
    ) else (
      lt (IntKind.wrap .u8 x_5) fun x28 =>
      bd (idxS (⟨#[0, 1, 2, 2, 3, 3, 3, 3, 4, 4, 4, 4, 4, 4, 4, 4, 5, 5, 5, 5, 5, 5, 5, 5, 5, 5, 5, 5, 5, 5, 5, 5, 6, 6, 6, 6, 6, 6, 6, 6, 6, 6, 6, 6, 6, 6, 6, 6, 6, 6, 6, 6, 6, 6, 6, 6, 6, 6, 6, 6, 6, 6, 6, 6, 7, 7, 7, 7, 7, 7, 7, 7, 7, 7, 7, 7, 7, 7, 7, 7, 7, 7, 7, 7, 7, 7, 7, 7, 7, 7, 7, 7, 7, 7, 7, 7, 7, 7, 7, 7, 7, 7, 7, 7, 7, 7, 7, 7, 7, 7, 7, 7, 7, 7, 7, 7, 7, 7, 7, 7, 7, 7, 7, 7, 7, 7, 7, 7, 8, 8, 8, 8, 8, 8, 8, 8, 8, 8, 8, 8, 8, 8, 8, 8, 8, 8, 8, 8, 8, 8, 8, 8, 8, 8, 8, 8, 8, 8, 8, 8, 8, 8, 8, 8, 8, 8, 8, 8, 8, 8, 8, 8, 8, 8, 8, 8, 8, 8, 8, 8, 8, 8, 8, 8, 8, 8, 8, 8, 8, 8, 8, 8, 8, 8, 8, 8, 8, 8, 8, 8, 8, 8, 8, 8, 8, 8, 8, 8, 8, 8, 8, 8, 8, 8, 8, 8, 8, 8, 8, 8, 8, 8, 8, 8, 8, 8, 8, 8, 8, 8, 8, 8, 8, 8, 8, 8, 8, 8, 8, 8, 8, 8, 8, 8, 8, 8, 8, 8, 8, 8, 8, 8, 8, 8, 8, 8]⟩ : ByteArray) x28) fun x29 =>
      lt (IntKind.wrap .i64 x29) fun x30 =>
      lt (IntKind.wrap .i64 (n_6 + x30)) fun x31 =>
      some x31
    )
  )
noncomputable def G_bits_Len64 (x_2 : Int) : Option Int :=
  lt (decide ((4294967296) ≤ x_2)) fun x3 =>
  bif x3 then (
    bd (shrI .u64 x_2 (32)) fun x4 =>
    G_bits_Len64_j1 x4 (32)
  ) else (
    lt (decide ((65536) ≤ x_2)) fun x32 =>
    bif x32 then (
      bd (shrI .u64 x_2 (16)) fun x33 =>
      lt (IntKind.wrap .i64 ((0) + (16))) fun x34 =>
      G_bits_Len64_j2 x33 x34
    ) else (
      lt (decide ((256) ≤ x_2)) fun x35 =>
      bif x35 then (
        bd (shrI .u64 x_2 (8)) fun x36 =>
        lt (IntKind.wrap .i64 ((0) + (8))) fun x37 =>
        G_bits_Len64_j3 x36 x37
      ) else (
        lt (IntKind.wrap .u8 x_2) fun x38 =>
        bd (idxS (⟨#[0, 1, 2, 2, 3, 3, 3, 3, 4, 4, 4, 4, 4, 4, 4, 4, 5, 5, 5, 5, 5, 5, 5, 5, 5, 5, 5, 5, 5, 5, 5, 5, 6, 6, 6, 6, 6, 6, 6, 6, 6, 6, 6, 6, 6, 6, 6, 6, 6, 6, 6, 6, 6, 6, 6, 6, 6, 6, 6, 6, 6, 6, 6, 6, 7, 7, 7, 7, 7, 7, 7, 7, 7, 7, 7, 7, 7, 7, 7, 7, 7, 7, 7, 7, 7, 7, 7, 7, 7, 7, 7, 7, 7, 7, 7, 7, 7, 7, 7, 7, 7, 7, 7, 7, 7, 7, 7, 7, 7, 7, 7, 7, 7, 7, 7, 7, 7, 7, 7, 7, 7, 7, 7, 7, 7, 7, 7, 7, 8, 8, 8, 8, 8, 8, 8, 8, 8, 8, 8, 8, 8, 8, 8, 8, 8, 8, 8, 8, 8, 8, 8, 8, 8, 8, 8, 8, 8, 8, 8, 8, 8, 8, 8, 8, 8, 8, 8, 8, 8, 8, 8, 8, 8, 8, 8, 8, 8, 8, 8, 8, 8, 8, 8, 8, 8, 8, 8, 8, 8, 8, 8, 8, 8, 8, 8, 8, 8, 8, 8, 8, 8, 8, 8, 8, 8, 8, 8, 8, 8, 8, 8, 8, 8, 8, 8, 8, 8, 8, 8, 8, 8, 8, 8, 8, 8, 8, 8, 8, 8, 8, 8, 8, 8, 8, 8, 8, 8, 8, 8, 8, 8, 8, 8, 8, 8, 8, 8, 8, 8, 8, 8, 8, 8, 8, 8, 8]⟩ : ByteArray) x38) fun x39 =>
        lt (IntKind.wrap .i64 x39) fun x40 =>
        lt (IntKind.wrap .i64 ((0) + x40)) fun x41 =>
        some x41
      )
    )
  )
/- internal/strconv.bool2[int] -/
noncomputable def G_strconv_bool2_int (b_2 : Bool) : Option Int :=
  bif b_2 then (
    some (1)
  ) else (
    some (0)
  )
/- internal/strconv.formatBase10 -/
noncomputable def G_strconv_formatBase10_l1 (a_4 : Sl) : (Int × Int × AHeap) → Option ((Int × Int × AHeap) ⊕ (Int × Int × AHeap)) := fun (u_5, nd_6, σ) =>
  lt (decide ((8) ≤ nd_6)) fun x9 =>
  bif x9 then (
    lt (Int.tmod u_5 (100000000)) fun x10 =>
    lt (IntKind.wrap .u32 x10) fun x11 =>
    lt (IntKind.wrap .u64 (Int.tdiv u_5 (100000000))) fun x12 =>
    lt (IntKind.wrap .u32 (Int.tdiv x11 (10000))) fun x13 =>
    lt (Int.tmod x11 (10000)) fun x14 =>
    lt (IntKind.wrap .u32 (Int.tdiv x14 (100))) fun x15 =>
    lt (IntKind.wrap .u32 (x15 * (2))) fun x16 =>
    lt (Int.tmod x14 (100)) fun x17 =>
    lt (IntKind.wrap .u32 (x17 * (2))) fun x18 =>
    lt (IntKind.wrap .u32 (Int.tdiv x13 (100))) fun x19 =>
    lt (IntKind.wrap .u32 (x19 * (2))) fun x20 =>
    lt (Int.tmod x13 (100)) fun x21 =>
    lt (IntKind.wrap .u32 (x21 * (2))) fun x22 =>
    lt (IntKind.wrap .i64 (nd_6 - (1))) fun x23 =>
    lt (IntKind.wrap .u32 (x18 + (1))) fun x24 =>
    bd (idxS (⟨#[48, 48, 48, 49, 48, 50, 48, 51, 48, 52, 48, 53, 48, 54, 48, 55, 48, 56, 48, 57, 49, 48, 49, 49, 49, 50, 49, 51, 49, 52, 49, 53, 49, 54, 49, 55, 49, 56, 49, 57, 50, 48, 50, 49, 50, 50, 50, 51, 50, 52, 50, 53, 50, 54, 50, 55, 50, 56, 50, 57, 51, 48, 51, 49, 51, 50, 51, 51, 51, 52, 51, 53, 51, 54, 51, 55, 51, 56, 51, 57, 52, 48, 52, 49, 52, 50, 52, 51, 52, 52, 52, 53, 52, 54, 52, 55, 52, 56, 52, 57, 53, 48, 53, 49, 53, 50, 53, 51, 53, 52, 53, 53, 53, 54, 53, 55, 53, 56, 53, 57, 54, 48, 54, 49, 54, 50, 54, 51, 54, 52, 54, 53, 54, 54, 54, 55, 54, 56, 54, 57, 55, 48, 55, 49, 55, 50, 55, 51, 55, 52, 55, 53, 55, 54, 55, 55, 55, 56, 55, 57, 56, 48, 56, 49, 56, 50, 56, 51, 56, 52, 56, 53, 56, 54, 56, 55, 56, 56, 56, 57, 57, 48, 57, 49, 57, 50, 57, 51, 57, 52, 57, 53, 57, 54, 57, 55, 57, 56, 57, 57]⟩ : ByteArray) x24) fun x25 =>
    bd (iaSl a_4 1 x23) fun x26 =>
    bd (stN σ x26 [(Value.int .u8 x25)]) fun σ27 =>
    lt (IntKind.wrap .i64 (nd_6 - (2))) fun x28 =>
    bd (idxS (⟨#[48, 48, 48, 49, 48, 50, 48, 51, 48, 52, 48, 53, 48, 54, 48, 55, 48, 56, 48, 57, 49, 48, 49, 49, 49, 50, 49, 51, 49, 52, 49, 53, 49, 54, 49, 55, 49, 56, 49, 57, 50, 48, 50, 49, 50, 50, 50, 51, 50, 52, 50, 53, 50, 54, 50, 55, 50, 56, 50, 57, 51, 48, 51, 49, 51, 50, 51, 51, 51, 52, 51, 53, 51, 54, 51, 55, 51, 56, 51, 57, 52, 48, 52, 49, 52, 50, 52, 51, 52, 52, 52, 53, 52, 54, 52, 55, 52, 56, 52, 57, 53, 48, 53, 49, 53, 50, 53, 51, 53, 52, 53, 53, 53, 54, 53, 55, 53, 56, 53, 57, 54, 48, 54, 49, 54, 50, 54, 51, 54, 52, 54, 53, 54, 54, 54, 55, 54, 56, 54, 57, 55, 48, 55, 49, 55, 50, 55, 51, 55, 52, 55, 53, 55, 54, 55, 55, 55, 56, 55, 57, 56, 48, 56, 49, 56, 50, 56, 51, 56, 52, 56, 53, 56, 54, 56, 55, 56, 56, 56, 57, 57, 48, 57, 49, 57, 50, 57, 51, 57, 52, 57, 53, 57, 54, 57, 55, 57, 56, 57, 57]⟩ : ByteArray) x18) fun x29 =>
    bd (iaSl a_4 1 x28) fun x30 =>
    bd (stN σ27 x30 [(Value.int .u8 x29)]) fun σ31 =>
    lt (IntKind.wrap .i64 (nd_6 - (3))) fun x32 =>
    lt (IntKind.wrap .u32 (x16 + (1))) fun x33 =>
    bd (idxS (⟨#[48, 48, 48, 49, 48, 50, 48, 51, 48, 52, 48, 53, 48, 54, 48, 55, 48, 56, 48, 57, 49, 48, 49, 49, 49, 50, 49, 51, 49, 52, 49, 53, 49, 54, 49, 55, 49, 56, 49, 57, 50, 48, 50, 49, 50, 50, 50, 51, 50, 52, 50, 53, 50, 54, 50, 55, 50, 56, 50, 57, 51, 48, 51, 49, 51, 50, 51, 51, 51, 52, 51, 53, 51, 54, 51, 55, 51, 56, 51, 57, 52, 48, 52, 49, 52, 50, 52, 51, 52, 52, 52, 53, 52, 54, 52, 55, 52, 56, 52, 57, 53, 48, 53, 49, 53, 50, 53, 51, 53, 52, 53, 53, 53, 54, 53, 55, 53, 56, 53, 57, 54, 48, 54, 49, 54, 50, 54, 51, 54, 52, 54, 53, 54, 54, 54, 55, 54, 56, 54, 57, 55, 48, 55, 49, 55, 50, 55, 51, 55, 52, 55, 53, 55, 54, 55, 55, 55, 56, 55, 57, 56, 48, 56, 49, 56, 50, 56, 51, 56, 52, 56, 53, 56, 54, 56, 55, 56, 56, 56, 57, 57, 48, 57, 49, 57, 50, 57, 51, 57, 52, 57, 53, 57, 54, 57, 55, 57, 56, 57, 57]⟩ : ByteArray) x33) fun x34 =>
    bd (iaSl a_4 1 x32) fun x35 =>
    bd (stN σ31 x35 [(Value.int .u8 x34)]) fun σ36 =>
    lt (IntKind.wrap .i64 (nd_6 - (4))) fun x37 =>
    bd (idxS (⟨#[48, 48, 48, 49, 48, 50, 48, 51, 48, 52, 48, 53, 48, 54, 48, 55, 48, 56, 48, 57, 49, 48, 49, 49, 49, 50, 49, 51, 49, 52, 49, 53, 49, 54, 49, 55, 49, 56, 49, 57, 50, 48, 50, 49, 50, 50, 50, 51, 50, 52, 50, 53, 50, 54, 50, 55, 50, 56, 50, 57, 51, 48, 51, 49, 51, 50, 51, 51, 51, 52, 51, 53, 51, 54, 51, 55, 51, 56, 51, 57, 52, 48, 52, 49, 52, 50, 52, 51, 52, 52, 52, 53, 52, 54, 52, 55, 52, 56, 52, 57, 53, 48, 53, 49, 53, 50, 53, 51, 53, 52, 53, 53, 53, 54, 53, 55, 53, 56, 53, 57, 54, 48, 54, 49, 54, 50, 54, 51, 54, 52, 54, 53, 54, 54, 54, 55, 54, 56, 54, 57, 55, 48, 55, 49, 55, 50, 55, 51, 55, 52, 55, 53, 55, 54, 55, 55, 55, 56, 55, 57, 56, 48, 56, 49, 56, 50, 56, 51, 56, 52, 56, 53, 56, 54, 56, 55, 56, 56, 56, 57, 57, 48, 57, 49, 57, 50, 57, 51, 57, 52, 57, 53, 57, 54, 57, 55, 57, 56, 57, 57]⟩ : ByteArray) x16) fun x38 =>
    bd (iaSl a_4 1 x37) fun x39 =>
    bd (stN σ36 x39 [(Value.int .u8 x38)]) fun σ40 =>
    lt (IntKind.wrap .i64 (nd_6 - (5))) fun x41 =>
    lt (IntKind.wrap .u32 (x22 + (1))) fun x42 =>
    bd (idxS (⟨#[48, 48, 48, 49, 48, 50, 48, 51, 48, 52, 48, 53, 48, 54, 48, 55, 48, 56, 48, 57, 49, 48, 49, 49, 49, 50, 49, 51, 49, 52, 49, 53, 49, 54, 49, 55, 49, 56, 49, 57, 50, 48, 50, 49, 50, 50, 50, 51, 50, 52, 50, 53, 50, 54, 50, 55, 50, 56, 50, 57, 51, 48, 51, 49, 51, 50, 51, 51, 51, 52, 51, 53, 51, 54, 51, 55, 51, 56, 51, 57, 52, 48, 52, 49, 52, 50, 52, 51, 52, 52, 52, 53, 52, 54, 52, 55, 52, 56, 52, 57, 53, 48, 53, 49, 53, 50, 53, 51, 53, 52, 53, 53, 53, 54, 53, 55, 53, 56, 53, 57, 54, 48, 54, 49, 54, 50, 54, 51, 54, 52, 54, 53, 54, 54, 54, 55, 54, 56, 54, 57, 55, 48, 55, 49, 55, 50, 55, 51, 55, 52, 55, 53, 55, 54, 55, 55, 55, 56, 55, 57, 56, 48, 56, 49, 56, 50, 56, 51, 56, 52, 56, 53, 56, 54, 56, 55, 56, 56, 56, 57, 57, 48, 57, 49, 57, 50, 57, 51, 57, 52, 57, 53, 57, 54, 57, 55, 57, 56, 57, 57]⟩ : ByteArray) x42) fun x43 =>
    bd (iaSl a_4 1 x41) fun x44 =>
    bd (stN σ40 x44 [(Value.int .u8 x43)]) fun σ45 =>
    lt (IntKind.wrap .i64 (nd_6 - (6))) fun x46 =>
    bd (idxS (⟨#[48, 48, 48, 49, 48, 50, 48, 51, 48, 52, 48, 53, 48, 54, 48, 55, 48, 56, 48, 57, 49, 48, 49, 49, 49, 50, 49, 51, 49, 52, 49, 53, 49, 54, 49, 55, 49, 56, 49, 57, 50, 48, 50, 49, 50, 50, 50, 51, 50, 52, 50, 53, 50, 54, 50, 55, 50, 56, 50, 57, 51, 48, 51, 49, 51, 50, 51, 51, 51, 52, 51, 53, 51, 54, 51, 55, 51, 56, 51, 57, 52, 48, 52, 49, 52, 50, 52, 51, 52, 52, 52, 53, 52, 54, 52, 55, 52, 56, 52, 57, 53, 48, 53, 49, 53, 50, 53, 51, 53, 52, 53, 53, 53, 54, 53, 55, 53, 56, 53, 57, 54, 48, 54, 49, 54, 50, 54, 51, 54, 52, 54, 53, 54, 54, 54, 55, 54, 56, 54, 57, 55, 48, 55, 49, 55, 50, 55, 51, 55, 52, 55, 53, 55, 54, 55, 55, 55, 56, 55, 57, 56, 48, 56, 49, 56, 50, 56, 51, 56, 52, 56, 53, 56, 54, 56, 55, 56, 56, 56, 57, 57, 48, 57, 49, 57, 50, 57, 51, 57, 52, 57, 53, 57, 54, 57, 55, 57, 56, 57, 57]⟩ : ByteArray) x22) fun x47 =>
    bd (iaSl a_4 1 x46) fun x48 =>
    bd (stN σ45 x48 [(Value.int .u8 x47)]) fun σ49 =>
    lt (IntKind.wrap .i64 (nd_6 - (7))) fun x50 =>
    lt (IntKind.wrap .u32 (x20 + (1))) fun x51 =>
    bd (idxS (⟨#[48, 48, 48, 49, 48, 50, 48, 51, 48, 52, 48, 53, 48, 54, 48, 55, 48, 56, 48, 57, 49, 48, 49, 49, 49, 50, 49, 51, 49, 52, 49, 53, 49, 54, 49, 55, 49, 56, 49, 57, 50, 48, 50, 49, 50, 50, 50, 51, 50, 52, 50, 53, 50, 54, 50, 55, 50, 56, 50, 57, 51, 48, 51, 49, 51, 50, 51, 51, 51, 52, 51, 53, 51, 54, 51, 55, 51, 56, 51, 57, 52, 48, 52, 49, 52, 50, 52, 51, 52, 52, 52, 53, 52, 54, 52, 55, 52, 56, 52, 57, 53, 48, 53, 49, 53, 50, 53, 51, 53, 52, 53, 53, 53, 54, 53, 55, 53, 56, 53, 57, 54, 48, 54, 49, 54, 50, 54, 51, 54, 52, 54, 53, 54, 54, 54, 55, 54, 56, 54, 57, 55, 48, 55, 49, 55, 50, 55, 51, 55, 52, 55, 53, 55, 54, 55, 55, 55, 56, 55, 57, 56, 48, 56, 49, 56, 50, 56, 51, 56, 52, 56, 53, 56, 54, 56, 55, 56, 56, 56, 57, 57, 48, 57, 49, 57, 50, 57, 51, 57, 52, 57, 53, 57, 54, 57, 55, 57, 56, 57, 57]⟩ : ByteArray) x51) fun x52 =>
    bd (iaSl a_4 1 x50) fun x53 =>
    bd (stN σ49 x53 [(Value.int .u8 x52)]) fun σ54 =>
    lt (IntKind.wrap .i64 (nd_6 - (8))) fun x55 =>
    bd (idxS (⟨#[48, 48, 48, 49, 48, 50, 48, 51, 48, 52, 48, 53, 48, 54, 48, 55, 48, 56, 48, 57, 49, 48, 49, 49, 49, 50, 49, 51, 49, 52, 49, 53, 49, 54, 49, 55, 49, 56, 49, 57, 50, 48, 50, 49, 50, 50, 50, 51, 50, 52, 50, 53, 50, 54, 50, 55, 50, 56, 50, 57, 51, 48, 51, 49, 51, 50, 51, 51, 51, 52, 51, 53, 51, 54, 51, 55, 51, 56, 51, 57, 52, 48, 52, 49, 52, 50, 52, 51, 52, 52, 52, 53, 52, 54, 52, 55, 52, 56, 52, 57, 53, 48, 53, 49, 53, 50, 53, 51, 53, 52, 53, 53, 53, 54, 53, 55, 53, 56, 53, 57, 54, 48, 54, 49, 54, 50, 54, 51, 54, 52, 54, 53, 54, 54, 54, 55, 54, 56, 54, 57, 55, 48, 55, 49, 55, 50, 55, 51, 55, 52, 55, 53, 55, 54, 55, 55, 55, 56, 55, 57, 56, 48, 56, 49, 56, 50, 56, 51, 56, 52, 56, 53, 56, 54, 56, 55, 56, 56, 56, 57, 57, 48, 57, 49, 57, 50, 57, 51, 57, 52, 57, 53, 57, 54, 57, 55, 57, 56, 57, 57]⟩ : ByteArray) x20) fun x56 =>
    bd (iaSl a_4 1 x55) fun x57 =>
    bd (stN σ54 x57 [(Value.int .u8 x56)]) fun σ58 =>
    lt (IntKind.wrap .i64 (nd_6 - (8))) fun x59 =>
    some (.inl (x12, x59, σ58))
  ) else (
    some (.inr (u_5, nd_6, σ))
  )
noncomputable def G_strconv_formatBase10_j2 (a_107 : Sl) (nd_108 : Int) (x_109 : Int) (σ : AHeap) : Option AHeap :=
  lt (decide ((0) < nd_108)) fun x110 =>
  bif x110 then (
    lt (IntKind.wrap .u32 ((48) + x_109)) fun x111 =>
    lt (IntKind.wrap .u8 x111) fun x112 =>
    bd (iaSl a_107 1 (0)) fun x113 =>
    bd (stN σ x113 [(Value.int .u8 x112)]) fun σ114 =>
    some σ114
  ) else (
    some σ
  )
noncomputable def G_strconv_formatBase10_j1 (a_90 : Sl) (nd_91 : Int) (x_92 : Int) (σ : AHeap) : Option AHeap :=
  lt (decide ((2) ≤ nd_91)) fun x93 =>
  bif x93 then (
    lt (Int.tmod x_92 (100)) fun x94 =>
    lt (IntKind.wrap .u32 (x94 * (2))) fun x95 =>
    lt (IntKind.wrap .u32 (Int.tdiv x_92 (100))) fun x96 =>
    lt (IntKind.wrap .i64 (nd_91 - (1))) fun x97 =>
    lt (IntKind.wrap .u32 (x95 + (1))) fun x98 =>
    bd (idxS (⟨#[48, 48, 48, 49, 48, 50, 48, 51, 48, 52, 48, 53, 48, 54, 48, 55, 48, 56, 48, 57, 49, 48, 49, 49, 49, 50, 49, 51, 49, 52, 49, 53, 49, 54, 49, 55, 49, 56, 49, 57, 50, 48, 50, 49, 50, 50, 50, 51, 50, 52, 50, 53, 50, 54, 50, 55, 50, 56, 50, 57, 51, 48, 51, 49, 51, 50, 51, 51, 51, 52, 51, 53, 51, 54, 51, 55, 51, 56, 51, 57, 52, 48, 52, 49, 52, 50, 52, 51, 52, 52, 52, 53, 52, 54, 52, 55, 52, 56, 52, 57, 53, 48, 53, 49, 53, 50, 53, 51, 53, 52, 53, 53, 53, 54, 53, 55, 53, 56, 53, 57, 54, 48, 54, 49, 54, 50, 54, 51, 54, 52, 54, 53, 54, 54, 54, 55, 54, 56, 54, 57, 55, 48, 55, 49, 55, 50, 55, 51, 55, 52, 55, 53, 55, 54, 55, 55, 55, 56, 55, 57, 56, 48, 56, 49, 56, 50, 56, 51, 56, 52, 56, 53, 56, 54, 56, 55, 56, 56, 56, 57, 57, 48, 57, 49, 57, 50, 57, 51, 57, 52, 57, 53, 57, 54, 57, 55, 57, 56, 57, 57]⟩ : ByteArray) x98) fun x99 =>
    bd (iaSl a_90 1 x97) fun x100 =>
    bd (stN σ x100 [(Value.int .u8 x99)]) fun σ101 =>
    lt (IntKind.wrap .i64 (nd_91 - (2))) fun x102 =>
    bd (idxS (⟨#[48, 48, 48, 49, 48, 50, 48, 51, 48, 52, 48, 53, 48, 54, 48, 55, 48, 56, 48, 57, 49, 48, 49, 49, 49, 50, 49, 51, 49, 52, 49, 53, 49, 54, 49, 55, 49, 56, 49, 57, 50, 48, 50, 49, 50, 50, 50, 51, 50, 52, 50, 53, 50, 54, 50, 55, 50, 56, 50, 57, 51, 48, 51, 49, 51, 50, 51, 51, 51, 52, 51, 53, 51, 54, 51, 55, 51, 56, 51, 57, 52, 48, 52, 49, 52, 50, 52, 51, 52, 52, 52, 53, 52, 54, 52, 55, 52, 56, 52, 57, 53, 48, 53, 49, 53, 50, 53, 51, 53, 52, 53, 53, 53, 54, 53, 55, 53, 56, 53, 57, 54, 48, 54, 49, 54, 50, 54, 51, 54, 52, 54, 53, 54, 54, 54, 55, 54, 56, 54, 57, 55, 48, 55, 49, 55, 50, 55, 51, 55, 52, 55, 53, 55, 54, 55, 55, 55, 56, 55, 57, 56, 48, 56, 49, 56, 50, 56, 51, 56, 52, 56, 53, 56, 54, 56, 55, 56, 56, 56, 57, 57, 48, 57, 49, 57, 50, 57, 51, 57, 52, 57, 53, 57, 54, 57, 55, 57, 56, 57, 57]⟩ : ByteArray) x95) fun x103 =>
    bd (iaSl a_90 1 x102) fun x104 =>
    bd (stN σ101 x104 [(Value.int .u8 x103)]) fun σ105 =>
    lt (IntKind.wrap .i64 (nd_91 - (2))) fun x106 =>
    G_strconv_formatBase10_j2 a_90 x106 x96 σ105
  ) else (
    lt (decide ((0) < nd_91)) fun x115 =>
    bif x115 then (
      lt (IntKind.wrap .u32 ((48) + x_92)) fun x116 =>
      lt (IntKind.wrap .u8 x116) fun x117 =>
      bd (iaSl a_90 1 (0)) fun x118 =>
      bd (stN σ x118 [(Value.int .u8 x117)]) fun σ119 =>
      some σ119
    ) else (
      some σ
    )
  )
noncomputable def G_strconv_formatBase10 (a_1 : Sl) (u_2 : Int) (σ : AHeap) : Option AHeap :=
  lt ((Sl.n a_1 : Int)) fun x3 =>
  bd (loopT (G_strconv_formatBase10_l1 a_1) (u_2, x3, σ)) fun (u_60, nd_61, σ62) =>
  lt (IntKind.wrap .u32 u_60) fun x63 =>
  lt (decide ((4) ≤ nd_61)) fun x64 =>
  bif x64 then (
    lt (Int.tmod x63 (10000)) fun x65 =>
    lt (IntKind.wrap .u32 (Int.tdiv x63 (10000))) fun x66 =>
    lt (IntKind.wrap .u32 (Int.tdiv x65 (100))) fun x67 =>
    lt (IntKind.wrap .u32 (x67 * (2))) fun x68 =>
    lt (Int.tmod x65 (100)) fun x69 =>
    lt (IntKind.wrap .u32 (x69 * (2))) fun x70 =>
    lt (IntKind.wrap .i64 (nd_61 - (1))) fun x71 =>
    lt (IntKind.wrap .u32 (x70 + (1))) fun x72 =>
    bd (idxS (⟨#[48, 48, 48, 49, 48, 50, 48, 51, 48, 52, 48, 53, 48, 54, 48, 55, 48, 56, 48, 57, 49, 48, 49, 49, 49, 50, 49, 51, 49, 52, 49, 53, 49, 54, 49, 55, 49, 56, 49, 57, 50, 48, 50, 49, 50, 50, 50, 51, 50, 52, 50, 53, 50, 54, 50, 55, 50, 56, 50, 57, 51, 48, 51, 49, 51, 50, 51, 51, 51, 52, 51, 53, 51, 54, 51, 55, 51, 56, 51, 57, 52, 48, 52, 49, 52, 50, 52, 51, 52, 52, 52, 53, 52, 54, 52, 55, 52, 56, 52, 57, 53, 48, 53, 49, 53, 50, 53, 51, 53, 52, 53, 53, 53, 54, 53, 55, 53, 56, 53, 57, 54, 48, 54, 49, 54, 50, 54, 51, 54, 52, 54, 53, 54, 54, 54, 55, 54, 56, 54, 57, 55, 48, 55, 49, 55, 50, 55, 51, 55, 52, 55, 53, 55, 54, 55, 55, 55, 56, 55, 57, 56, 48, 56, 49, 56, 50, 56, 51, 56, 52, 56, 53, 56, 54, 56, 55, 56, 56, 56, 57, 57, 48, 57, 49, 57, 50, 57, 51, 57, 52, 57, 53, 57, 54, 57, 55, 57, 56, 57, 57]⟩ : ByteArray) x72) fun x73 =>
    bd (iaSl a_1 1 x71) fun x74 =>
    bd (stN σ62 x74 [(Value.int .u8 x73)]) fun σ75 =>
    lt (IntKind.wrap .i64 (nd_61 - (2))) fun x76 =>
    bd (idxS (⟨#[48, 48, 48, 49, 48, 50, 48, 51, 48, 52, 48, 53, 48, 54, 48, 55, 48, 56, 48, 57, 49, 48, 49, 49, 49, 50, 49, 51, 49, 52, 49, 53, 49, 54, 49, 55, 49, 56, 49, 57, 50, 48, 50, 49, 50, 50, 50, 51, 50, 52, 50, 53, 50, 54, 50, 55, 50, 56, 50, 57, 51, 48, 51, 49, 51, 50, 51, 51, 51, 52, 51, 53, 51, 54, 51, 55, 51, 56, 51, 57, 52, 48, 52, 49, 52, 50, 52, 51, 52, 52, 52, 53, 52, 54, 52, 55, 52, 56, 52, 57, 53, 48, 53, 49, 53, 50, 53, 51, 53, 52, 53, 53, 53, 54, 53, 55, 53, 56, 53, 57, 54, 48, 54, 49, 54, 50, 54, 51, 54, 52, 54, 53, 54, 54, 54, 55, 54, 56, 54, 57, 55, 48, 55, 49, 55, 50, 55, 51, 55, 52, 55, 53, 55, 54, 55, 55, 55, 56, 55, 57, 56, 48, 56, 49, 56, 50, 56, 51, 56, 52, 56, 53, 56, 54, 56, 55, 56, 56, 56, 57, 57, 48, 57, 49, 57, 50, 57, 51, 57, 52, 57, 53, 57, 54, 57, 55, 57, 56, 57, 57]⟩ : ByteArray) x70) fun x77 =>
    bd (iaSl a_1 1 x76) fun x78 =>
    bd (stN σ75 x78 [(Value.int .u8 x77)]) fun σ79 =>
    lt (IntKind.wrap .i64 (nd_61 - (3))) fun x80 =>
    lt (IntKind.wrap .u32 (x68 + (1))) fun x81 =>
    bd (idxS (⟨#[48, 48, 48, 49, 48, 50, 48, 51, 48, 52, 48, 53, 48, 54, 48, 55, 48, 56, 48, 57, 49, 48, 49, 49, 49, 50, 49, 51, 49, 52, 49, 53, 49, 54, 49, 55, 49, 56, 49, 57, 50, 48, 50, 49, 50, 50, 50, 51, 50, 52, 50, 53, 50, 54, 50, 55, 50, 56, 50, 57, 51, 48, 51, 49, 51, 50, 51, 51, 51, 52, 51, 53, 51, 54, 51, 55, 51, 56, 51, 57, 52, 48, 52, 49, 52, 50, 52, 51, 52, 52, 52, 53, 52, 54, 52, 55, 52, 56, 52, 57, 53, 48, 53, 49, 53, 50, 53, 51, 53, 52, 53, 53, 53, 54, 53, 55, 53, 56, 53, 57, 54, 48, 54, 49, 54, 50, 54, 51, 54, 52, 54, 53, 54, 54, 54, 55, 54, 56, 54, 57, 55, 48, 55, 49, 55, 50, 55, 51, 55, 52, 55, 53, 55, 54, 55, 55, 55, 56, 55, 57, 56, 48, 56, 49, 56, 50, 56, 51, 56, 52, 56, 53, 56, 54, 56, 55, 56, 56, 56, 57, 57, 48, 57, 49, 57, 50, 57, 51, 57, 52, 57, 53, 57, 54, 57, 55, 57, 56, 57, 57]⟩ : ByteArray) x81) fun x82 =>
    bd (iaSl a_1 1 x80) fun x83 =>
    bd (stN σ79 x83 [(Value.int .u8 x82)]) fun σ84 =>
    lt (IntKind.wrap .i64 (nd_61 - (4))) fun x85 =>
    bd (idxS (⟨#[48, 48, 48, 49, 48, 50, 48, 51, 48, 52, 48, 53, 48, 54, 48, 55, 48, 56, 48, 57, 49, 48, 49, 49, 49, 50, 49, 51, 49, 52, 49, 53, 49, 54, 49, 55, 49, 56, 49, 57, 50, 48, 50, 49, 50, 50, 50, 51, 50, 52, 50, 53, 50, 54, 50, 55, 50, 56, 50, 57, 51, 48, 51, 49, 51, 50, 51, 51, 51, 52, 51, 53, 51, 54, 51, 55, 51, 56, 51, 57, 52, 48, 52, 49, 52, 50, 52, 51, 52, 52, 52, 53, 52, 54, 52, 55, 52, 56, 52, 57, 53, 48, 53, 49, 53, 50, 53, 51, 53, 52, 53, 53, 53, 54, 53, 55, 53, 56, 53, 57, 54, 48, 54, 49, 54, 50, 54, 51, 54, 52, 54, 53, 54, 54, 54, 55, 54, 56, 54, 57, 55, 48, 55, 49, 55, 50, 55, 51, 55, 52, 55, 53, 55, 54, 55, 55, 55, 56, 55, 57, 56, 48, 56, 49, 56, 50, 56, 51, 56, 52, 56, 53, 56, 54, 56, 55, 56, 56, 56, 57, 57, 48, 57, 49, 57, 50, 57, 51, 57, 52, 57, 53, 57, 54, 57, 55, 57, 56, 57, 57]⟩ : ByteArray) x68) fun x86 =>
    bd (iaSl a_1 1 x85) fun x87 =>
    bd (stN σ84 x87 [(Value.int .u8 x86)]) fun σ88 =>
    lt (IntKind.wrap .i64 (nd_61 - (4))) fun x89 =>
    G_strconv_formatBase10_j1 a_1 x89 x66 σ88
  ) else (
    lt (decide ((2) ≤ nd_61)) fun x120 =>
    bif x120 then (
      lt (Int.tmod x63 (100)) fun x121 =>
      lt (IntKind.wrap .u32 (x121 * (2))) fun x122 =>
      lt (IntKind.wrap .u32 (Int.tdiv x63 (100))) fun x123 =>
      lt (IntKind.wrap .i64 (nd_61 - (1))) fun x124 =>
      lt (IntKind.wrap .u32 (x122 + (1))) fun x125 =>
      bd (idxS (⟨#[48, 48, 48, 49, 48, 50, 48, 51, 48, 52, 48, 53, 48, 54, 48, 55, 48, 56, 48, 57, 49, 48, 49, 49, 49, 50, 49, 51, 49, 52, 49, 53, 49, 54, 49, 55, 49, 56, 49, 57, 50, 48, 50, 49, 50, 50, 50, 51, 50, 52, 50, 53, 50, 54, 50, 55, 50, 56, 50, 57, 51, 48, 51, 49, 51, 50, 51, 51, 51, 52, 51, 53, 51, 54, 51, 55, 51, 56, 51, 57, 52, 48, 52, 49, 52, 50, 52, 51, 52, 52, 52, 53, 52, 54, 52, 55, 52, 56, 52, 57, 53, 48, 53, 49, 53, 50, 53, 51, 53, 52, 53, 53, 53, 54, 53, 55, 53, 56, 53, 57, 54, 48, 54, 49, 54, 50, 54, 51, 54, 52, 54, 53, 54, 54, 54, 55, 54, 56, 54, 57, 55, 48, 55, 49, 55, 50, 55, 51, 55, 52, 55, 53, 55, 54, 55, 55, 55, 56, 55, 57, 56, 48, 56, 49, 56, 50, 56, 51, 56, 52, 56, 53, 56, 54, 56, 55, 56, 56, 56, 57, 57, 48, 57, 49, 57, 50, 57, 51, 57, 52, 57, 53, 57, 54, 57, 55, 57, 56, 57, 57]⟩ : ByteArray) x125) fun x126 =>
      bd (iaSl a_1 1 x124) fun x127 =>
      bd (stN σ62 x127 [(Value.int .u8 x126)]) fun σ128 =>
      lt (IntKind.wrap .i64 (nd_61 - (2))) fun x129 =>
      bd (idxS (⟨#[48, 48, 48, 49, 48, 50, 48, 51, 48, 52, 48, 53, 48, 54, 48, 55, 48, 56, 48, 57, 49, 48, 49, 49, 49, 50, 49, 51, 49, 52, 49, 53, 49, 54, 49, 55, 49, 56, 49, 57, 50, 48, 50, 49, 50, 50, 50, 51, 50, 52, 50, 53, 50, 54, 50, 55, 50, 56, 50, 57, 51, 48, 51, 49, 51, 50, 51, 51, 51, 52, 51, 53, 51, 54, 51, 55, 51, 56, 51, 57, 52, 48, 52, 49, 52, 50, 52, 51, 52, 52, 52, 53, 52, 54, 52, 55, 52, 56, 52, 57, 53, 48, 53, 49, 53, 50, 53, 51, 53, 52, 53, 53, 53, 54, 53, 55, 53, 56, 53, 57, 54, 48, 54, 49, 54, 50, 54, 51, 54, 52, 54, 53, 54, 54, 54, 55, 54, 56, 54, 57, 55, 48, 55, 49, 55, 50, 55, 51, 55, 52, 55, 53, 55, 54, 55, 55, 55, 56, 55, 57, 56, 48, 56, 49, 56, 50, 56, 51, 56, 52, 56, 53, 56, 54, 56, 55, 56, 56, 56, 57, 57, 48, 57, 49, 57, 50, 57, 51, 57, 52, 57, 53, 57, 54, 57, 55, 57, 56, 57, 57]⟩ : ByteArray) x122) fun x130 =>
      bd (iaSl a_1 1 x129) fun x131 =>
      bd (stN σ128 x131 [(Value.int .u8 x130)]) fun σ132 =>
      lt (IntKind.wrap .i64 (nd_61 - (2))) fun x133 =>
      G_strconv_formatBase10_j2 a_1 x133 x123 σ132
    ) else (
      lt (decide ((0) < nd_61)) fun x134 =>
      bif x134 then (
        lt (IntKind.wrap .u32 ((48) + x63)) fun x135 =>
        lt (IntKind.wrap .u8 x135) fun x136 =>
        bd (iaSl a_1 1 (0)) fun x137 =>
        bd (stN σ62 x137 [(Value.int .u8 x136)]) fun σ138 =>
        some σ138
      ) else (
        some σ62
      )
    )
  )
/- internal/strconv.isPowerOfTwo -/
noncomputable def G_strconv_isPowerOfTwo (x_2 : Int) : Option Bool :=
  lt (IntKind.wrap .i64 (x_2 - (1))) fun x3 =>
  lt (andI .i64 x_2 x3) fun x4 =>
  lt (decide (x4 = (0))) fun x5 =>
  some x5
/- math/bits.TrailingZeros32 -/
noncomputable def G_bits_TrailingZeros32 (x_2 : Int) (σ : AHeap) : Option Int :=
  lt (decide (x_2 = (0))) fun x3 =>
  bif x3 then (
    some (32)
  ) else (
    none
  )
/- math/bits.TrailingZeros64 -/
noncomputable def G_bits_TrailingZeros64 (x_2 : Int) (σ : AHeap) : Option Int :=
  lt (decide (x_2 = (0))) fun x3 =>
  bif x3 then (
    some (64)
  ) else (
    none
  )
/- math/bits.TrailingZeros -/
noncomputable def G_bits_TrailingZeros (x_2 : Int) (σ : AHeap) : Option Int :=
  bd (G_bits_TrailingZeros64 x_2 σ) fun x3 =>
  some x3
/- internal/strconv.formatBits -/
noncomputable def G_strconv_formatBits_j1 (dst_16 : Sl) (u_17 : Int) (base_18 : Int) (neg_19 : Bool) (append_20 : Bool) (d_21 : Sl) (s_22 : ByteArray) (a_23 : Option Addr) (i_24 : Int) (σ : AHeap) : Option (Sl × ByteArray × AHeap) :=
  bd (G_strconv_isPowerOfTwo base_18) fun x25 =>
  bif x25 then (
    none
  ) else (
    none
  )
noncomputable def G_strconv_formatBits (dst_3 : Sl) (u_4 : Int) (base_5 : Int) (neg_6 : Bool) (append_7 : Bool) (σ : AHeap) : Option (Sl × ByteArray × AHeap) :=
  lt (decide (base_5 < (2))) fun x8 =>
  lt (decide (base_5 = (10))) fun x9 =>
  lt (x8 || x9) fun x10 =>
  lt (decide ((36) < base_5)) fun x11 =>
  lt (x10 || x11) fun x12 =>
  bif x12 then (
    none
  ) else (
    lt (newC σ T_arr65_u8 [(Value.int .u8 0), (Value.int .u8 0), (Value.int .u8 0), (Value.int .u8 0), (Value.int .u8 0), (Value.int .u8 0), (Value.int .u8 0), (Value.int .u8 0), (Value.int .u8 0), (Value.int .u8 0), (Value.int .u8 0), (Value.int .u8 0), (Value.int .u8 0), (Value.int .u8 0), (Value.int .u8 0), (Value.int .u8 0), (Value.int .u8 0), (Value.int .u8 0), (Value.int .u8 0), (Value.int .u8 0), (Value.int .u8 0), (Value.int .u8 0), (Value.int .u8 0), (Value.int .u8 0), (Value.int .u8 0), (Value.int .u8 0), (Value.int .u8 0), (Value.int .u8 0), (Value.int .u8 0), (Value.int .u8 0), (Value.int .u8 0), (Value.int .u8 0), (Value.int .u8 0), (Value.int .u8 0), (Value.int .u8 0), (Value.int .u8 0), (Value.int .u8 0), (Value.int .u8 0), (Value.int .u8 0), (Value.int .u8 0), (Value.int .u8 0), (Value.int .u8 0), (Value.int .u8 0), (Value.int .u8 0), (Value.int .u8 0), (Value.int .u8 0), (Value.int .u8 0), (Value.int .u8 0), (Value.int .u8 0), (Value.int .u8 0), (Value.int .u8 0), (Value.int .u8 0), (Value.int .u8 0), (Value.int .u8 0), (Value.int .u8 0), (Value.int .u8 0), (Value.int .u8 0), (Value.int .u8 0), (Value.int .u8 0), (Value.int .u8 0), (Value.int .u8 0), (Value.int .u8 0), (Value.int .u8 0), (Value.int .u8 0), (Value.int .u8 0)]) fun (a_13, σ14) =>
    bif neg_6 then (
      lt (IntKind.wrap .u64 (0 - u_4)) fun x15 =>
      G_strconv_formatBits_j1 dst_3 x15 base_5 neg_6 append_7 Sl.nil (⟨#[]⟩ : ByteArray) a_13 (65) σ14
    ) else (
      bd (G_strconv_isPowerOfTwo base_5) fun x77 =>
      bif x77 then (
        none
      ) else (
        none
      )
    )
  )
/- internal/strconv.FormatInt -/
noncomputable def G_strconv_FormatInt (i_2 : Int) (base_3 : Int) (σ : AHeap) : Option (ByteArray × AHeap) :=
  lt (decide (base_3 = (10))) fun x4 =>
  bif x4 then (
    lt (decide ((0) ≤ i_2)) fun x5 =>
    lt (decide (i_2 < (100))) fun x6 =>
    lt (x5 && x6) fun x7 =>
    bif x7 then (
      bd (G_strconv_small i_2) fun x8 =>
      some (x8, σ)
    ) else (
      lt (newC σ T_arr24_u8 [(Value.int .u8 0), (Value.int .u8 0), (Value.int .u8 0), (Value.int .u8 0), (Value.int .u8 0), (Value.int .u8 0), (Value.int .u8 0), (Value.int .u8 0), (Value.int .u8 0), (Value.int .u8 0), (Value.int .u8 0), (Value.int .u8 0), (Value.int .u8 0), (Value.int .u8 0), (Value.int .u8 0), (Value.int .u8 0), (Value.int .u8 0), (Value.int .u8 0), (Value.int .u8 0), (Value.int .u8 0), (Value.int .u8 0), (Value.int .u8 0), (Value.int .u8 0), (Value.int .u8 0)]) fun (a_9, σ10) =>
      lt (IntKind.wrap .u64 i_2) fun x11 =>
      lt (decide (i_2 < (0))) fun x12 =>
      bif x12 then (
        none
      ) else (
        none
      )
    )
  ) else (
    lt (IntKind.wrap .u64 i_2) fun x17 =>
    lt (decide (i_2 < (0))) fun x18 =>
    bd (G_strconv_formatBits Sl.nil x17 base_3 x18 false σ) fun (x21, x22, σ23) =>
    some (x22, σ23)
  )
/- internal/strconv.Itoa -/
noncomputable def G_strconv_Itoa (i_2 : Int) (σ : AHeap) : Option (ByteArray × AHeap) :=
  bd (G_strconv_FormatInt i_2 (10) σ) fun (x4, σ5) =>
  some (x4, σ5)
/- strconv.Itoa -/
noncomputable def G_strconv_Itoa_x (i_2 : Int) (σ : AHeap) : Option (ByteArray × AHeap) :=
  bd (G_strconv_Itoa i_2 σ) fun (x4, σ5) =>
  some (x4, σ5)
/- semvcs/ident.Format -/
noncomputable def G_ident_Format (id_2 : Int) (σ : AHeap) : Option (ByteArray × AHeap) :=
  bd (G_ident_Valid id_2) fun x3 =>
  lt (!x3) fun x4 =>
  bif x4 then (
    some ((⟨#[]⟩ : ByteArray), σ)
  ) else (
    bd (shrI .i64 id_2 (20)) fun x5 =>
    bd (G_strconv_Itoa_x x5 σ) fun (x7, σ8) =>
    bd (addS x7 (⟨#[46]⟩ : ByteArray)) fun x9 =>
    lt (andI .i64 id_2 (1048575)) fun x10 =>
    bd (G_strconv_Itoa_x x10 σ8) fun (x12, σ13) =>
    bd (addS x9 x12) fun x14 =>
    some (x14, σ13)
  )
/- semvcs/semvcslaw10.awake -/
noncomputable def G_semvcslaw10_awake (σ : AHeap) : Option (Bool × AHeap) :=
  bd (G_ident_Make (3) (17)) fun (x2, x3) =>
  bd (G_ident_Parse (⟨#[51, 46, 49, 55]⟩ : ByteArray) σ) fun (x4, x5) =>
  lt (decide (x3 = (0))) fun x6 =>
  lt (decide (x5 = (0))) fun x7 =>
  lt (x6 && x7) fun x8 =>
  lt (decide (x2 = (3145745))) fun x9 =>
  lt (x8 && x9) fun x10 =>
  lt (decide (x4 = x2)) fun x11 =>
  lt (x10 && x11) fun x12 =>
  bd (bif x12 then G_ident_Format x2 σ else some (ByteArray.empty, σ)) fun (x14, σ15) =>
  lt (decide (x14 = (⟨#[51, 46, 49, 55]⟩ : ByteArray))) fun x16 =>
  lt (x12 && x16) fun x17 =>
  bd (bif x17 then G_ident_Site x2 else some 0) fun x18 =>
  lt (decide (x18 = (3))) fun x19 =>
  lt (x17 && x19) fun x20 =>
  bd (bif x20 then G_ident_Serial x2 else some 0) fun x21 =>
  lt (decide (x21 = (17))) fun x22 =>
  lt (x20 && x22) fun x23 =>
  bd (bif x23 then G_ident_Valid x2 else some false) fun x24 =>
  lt (x23 && x24) fun x25 =>
  some (x25, σ15)
/- semvcs/semvcsref10.Valid -/
noncomputable def G_semvcsref10_Valid (id_2 : Int) : Option Bool :=
  lt (decide ((1048576) < id_2)) fun x3 =>
  lt (decide (id_2 < (34603008))) fun x4 =>
  lt (x3 && x4) fun x5 =>
  lt (Int.tmod id_2 (1048576)) fun x6 =>
  lt (decide (x6 ≠ (0))) fun x7 =>
  lt (x5 && x7) fun x8 =>
  some x8
/- semvcs/semvcsref10.Site -/
noncomputable def G_semvcsref10_Site (id_2 : Int) : Option Int :=
  bd (G_semvcsref10_Valid id_2) fun x3 =>
  lt (!x3) fun x4 =>
  bif x4 then (
    some (0)
  ) else (
    lt (IntKind.wrap .i64 (Int.tdiv id_2 (1048576))) fun x5 =>
    some x5
  )
/- semvcs/semvcsref10.Serial -/
noncomputable def G_semvcsref10_Serial (id_2 : Int) : Option Int :=
  bd (G_semvcsref10_Valid id_2) fun x3 =>
  lt (!x3) fun x4 =>
  bif x4 then (
    some (0)
  ) else (
    lt (Int.tmod id_2 (1048576)) fun x5 =>
    some x5
  )
/- semvcs/semvcslaw10.IdentMakes -/
noncomputable def G_semvcslaw10_IdentMakes (site_2 : Int) (n_3 : Int) (id_4 : Int) (σ : AHeap) : Option (Bool × AHeap) :=
  bd (G_ident_Make site_2 n_3) fun (x5, x6) =>
  bd (G_semvcsref10_Make site_2 n_3) fun (x7, x8) =>
  bd (G_semvcslaw10_awake σ) fun (x10, σ11) =>
  lt (decide (x5 = x7)) fun x12 =>
  lt (x10 && x12) fun x13 =>
  lt (decide (x6 = x8)) fun x14 =>
  lt (x13 && x14) fun x15 =>
  bd (bif x15 then G_ident_Valid id_4 else some false) fun x16 =>
  bd (bif x15 then G_semvcsref10_Valid id_4 else some false) fun x17 =>
  lt (x16 == x17) fun x18 =>
  lt (x15 && x18) fun x19 =>
  bd (bif x19 then G_ident_Site id_4 else some 0) fun x20 =>
  bd (bif x19 then G_semvcsref10_Site id_4 else some 0) fun x21 =>
  lt (decide (x20 = x21)) fun x22 =>
  lt (x19 && x22) fun x23 =>
  bd (bif x23 then G_ident_Serial id_4 else some 0) fun x24 =>
  bd (bif x23 then G_semvcsref10_Serial id_4 else some 0) fun x25 =>
  lt (decide (x24 = x25)) fun x26 =>
  lt (x23 && x26) fun x27 =>
  some (x27, σ11)
/- semvcs/semvcsref10.decimal -/
noncomputable def G_semvcsref10_decimal_l1  : (Int × ByteArray × AHeap) → Option ((Int × ByteArray × AHeap) ⊕ (ByteArray × AHeap)) := fun (n_3, s_4, σ) =>
  lt (Int.tmod n_3 (10)) fun x6 =>
  lt (IntKind.wrap .i64 ((48) + x6)) fun x7 =>
  lt (IntKind.wrap .u8 x7) fun x8 =>
  lt (newSl σ T_u8 1 [(Value.int .u8 x8)]) fun (x9, σ10) =>
  bd (strOf σ10 x9) fun x11 =>
  bd (addS x11 s_4) fun x12 =>
  lt (IntKind.wrap .i64 (Int.tdiv n_3 (10))) fun x13 =>
  lt (decide (x13 = (0))) fun x14 =>
  bif x14 then (
    some (.inr (x12, σ10))
  ) else (
    some (.inl (x13, x12, σ10))
  )
noncomputable def G_semvcsref10_decimal (n_2 : Int) (σ : AHeap) : Option (ByteArray × AHeap) :=
  bd (loopT (G_semvcsref10_decimal_l1) (n_2, (⟨#[]⟩ : ByteArray), σ)) fun (x15, σ16) =>
  some (x15, σ16)
/- semvcs/semvcsref10.Format -/
noncomputable def G_semvcsref10_Format (id_2 : Int) (σ : AHeap) : Option (ByteArray × AHeap) :=
  bd (G_semvcsref10_Valid id_2) fun x3 =>
  lt (!x3) fun x4 =>
  bif x4 then (
    some ((⟨#[]⟩ : ByteArray), σ)
  ) else (
    bd (G_semvcsref10_Site id_2) fun x5 =>
    bd (G_semvcsref10_decimal x5 σ) fun (x7, σ8) =>
    bd (addS x7 (⟨#[46]⟩ : ByteArray)) fun x9 =>
    bd (G_semvcsref10_Serial id_2) fun x10 =>
    bd (G_semvcsref10_decimal x10 σ8) fun (x12, σ13) =>
    bd (addS x9 x12) fun x14 =>
    some (x14, σ13)
  )
/- semvcs/semvcsref10.Parse -/
noncomputable def G_semvcsref10_Parse_j1 (s_6 : ByteArray) (site_20 : Int) (n_21 : Int) (dots_22 : Int) (i_23 : Int) (σ : AHeap) : Option ((Int × Int × Int × Int × AHeap) ⊕ ((Int × Int × AHeap) ⊕ (Int × Int × AHeap))) :=
  lt (IntKind.wrap .i64 (i_23 + (1))) fun x24 =>
  some (.inl (site_20, n_21, dots_22, x24, σ))
noncomputable def G_semvcsref10_Parse_l1 (s_6 : ByteArray) : (Int × Int × Int × Int × AHeap) → Option ((Int × Int × Int × Int × AHeap) ⊕ ((Int × Int × AHeap) ⊕ (Int × Int × AHeap))) := fun (site_7, n_8, dots_9, i_10, σ) =>
  lt ((ByteArray.size s_6 : Int)) fun x15 =>
  lt (decide (i_10 < x15)) fun x16 =>
  bif x16 then (
    bd (idxS s_6 i_10) fun x17 =>
    lt (decide (x17 = (46))) fun x18 =>
    bif x18 then (
      lt (IntKind.wrap .i64 (dots_9 + (1))) fun x19 =>
      G_semvcsref10_Parse_j1 s_6 site_7 n_8 x19 i_10 σ
    ) else (
      bd (idxS s_6 i_10) fun x25 =>
      lt (decide (x25 < (48))) fun x26 =>
      bd (bif !x26 then idxS s_6 i_10 else some 0) fun x27 =>
      lt (decide ((57) < x27)) fun x28 =>
      lt (x26 || x28) fun x29 =>
      lt (decide ((1048576) < site_7)) fun x30 =>
      lt (x29 || x30) fun x31 =>
      lt (decide ((1048576) < n_8)) fun x32 =>
      lt (x31 || x32) fun x33 =>
      bif x33 then (
        some (.inr (.inr ((0), (13), σ)))
      ) else (
        lt (decide (dots_9 = (0))) fun x34 =>
        bif x34 then (
          lt (IntKind.wrap .i64 (site_7 * (10))) fun x35 =>
          bd (idxS s_6 i_10) fun x36 =>
          lt (IntKind.wrap .u8 (x36 - (48))) fun x37 =>
          lt (IntKind.wrap .i64 x37) fun x38 =>
          lt (IntKind.wrap .i64 (x35 + x38)) fun x39 =>
          G_semvcsref10_Parse_j1 s_6 x39 n_8 dots_9 i_10 σ
        ) else (
          lt (IntKind.wrap .i64 (n_8 * (10))) fun x40 =>
          bd (idxS s_6 i_10) fun x41 =>
          lt (IntKind.wrap .u8 (x41 - (48))) fun x42 =>
          lt (IntKind.wrap .i64 x42) fun x43 =>
          lt (IntKind.wrap .i64 (x40 + x43)) fun x44 =>
          G_semvcsref10_Parse_j1 s_6 site_7 x44 dots_9 i_10 σ
        )
      )
    )
  ) else (
    some (.inr (.inl (site_7, n_8, σ)))
  )
noncomputable def G_semvcsref10_Parse (s_3 : ByteArray) (σ : AHeap) : Option (Int × Int × AHeap) :=
  lt ((ByteArray.size s_3 : Int)) fun x4 =>
  lt (decide ((20) < x4)) fun x5 =>
  bif x5 then (
    some ((0), (13), σ)
  ) else (
    bd (loopT (G_semvcsref10_Parse_l1 s_3) ((0), (0), (0), (0), σ)) fun r =>
    match r with
    | (.inl (site_45, n_46, σ47)) =>
      bd (G_semvcsref10_Make site_45 n_46) fun (x48, x49) =>
      lt (decide (x49 ≠ (0))) fun x50 =>
      bd (bif !x50 then G_semvcsref10_Format x48 σ47 else some (ByteArray.empty, σ47)) fun (x52, σ53) =>
      lt (decide (x52 ≠ s_3)) fun x54 =>
      lt (x50 || x54) fun x55 =>
      bif x55 then (
        some ((0), (13), σ53)
      ) else (
        some (x48, (0), σ53)
      )
    | (.inr (x56, x57, σ58)) =>
      some (x56, x57, σ58)
  )
/- semvcs/semvcslaw10.IdentTexts -/
noncomputable def G_semvcslaw10_IdentTexts (id_2 : Int) (s_3 : ByteArray) (σ : AHeap) : Option (Bool × AHeap) :=
  bd (G_ident_Parse s_3 σ) fun (x4, x5) =>
  bd (G_semvcsref10_Parse s_3 σ) fun (x8, x9, σ10) =>
  bd (G_semvcslaw10_awake σ10) fun (x12, σ13) =>
  bd (bif x12 then G_ident_Format id_2 σ13 else some (ByteArray.empty, σ13)) fun (x15, σ16) =>
  bd (bif x12 then G_semvcsref10_Format id_2 σ16 else some (ByteArray.empty, σ16)) fun (x18, σ19) =>
  lt (decide (x15 = x18)) fun x20 =>
  lt (x12 && x20) fun x21 =>
  lt (decide (x4 = x8)) fun x22 =>
  lt (x21 && x22) fun x23 =>
  lt (decide (x5 = x9)) fun x24 =>
  lt (x23 && x24) fun x25 =>
  some (x25, σ19)
/- semvcs/semvcslaw10.IdentBack -/
noncomputable def G_semvcslaw10_IdentBack (site_2 : Int) (n_3 : Int) (σ : AHeap) : Option (Bool × AHeap) :=
  bd (G_ident_Make site_2 n_3) fun (x4, x5) =>
  lt (decide (x5 ≠ (0))) fun x6 =>
  bif x6 then (
    bd (G_semvcslaw10_awake σ) fun (x8, σ9) =>
    lt (decide (x4 = (0))) fun x10 =>
    lt (x8 && x10) fun x11 =>
    lt (decide (site_2 < (1))) fun x12 =>
    lt (decide ((32) < site_2)) fun x13 =>
    lt (x12 || x13) fun x14 =>
    lt (decide (n_3 < (1))) fun x15 =>
    lt (x14 || x15) fun x16 =>
    lt (decide ((1048575) < n_3)) fun x17 =>
    lt (x16 || x17) fun x18 =>
    lt (x11 && x18) fun x19 =>
    some (x19, σ9)
  ) else (
    bd (G_ident_Format x4 σ) fun (x21, σ22) =>
    bd (G_ident_Parse x21 σ22) fun (x23, x24) =>
    bd (G_semvcslaw10_awake σ22) fun (x26, σ27) =>
    lt (decide (x24 = (0))) fun x28 =>
    lt (x26 && x28) fun x29 =>
    lt (decide (x23 = x4)) fun x30 =>
    lt (x29 && x30) fun x31 =>
    bd (bif x31 then G_ident_Site x4 else some 0) fun x32 =>
    lt (decide (x32 = site_2)) fun x33 =>
    lt (x31 && x33) fun x34 =>
    bd (bif x34 then G_ident_Serial x4 else some 0) fun x35 =>
    lt (decide (x35 = n_3)) fun x36 =>
    lt (x34 && x36) fun x37 =>
    bd (bif x37 then G_ident_Valid x4 else some false) fun x38 =>
    lt (x37 && x38) fun x39 =>
    some (x39, σ27)
  )
/- semvcs/semvcslaw10.IdentOrder -/
noncomputable def G_semvcslaw10_IdentOrder (a_2 : Int) (b_3 : Int) (σ : AHeap) : Option (Bool × AHeap) :=
  bd (G_ident_Valid a_2) fun x4 =>
  lt (!x4) fun x5 =>
  bd (bif !x5 then G_ident_Valid b_3 else some false) fun x6 =>
  lt (!x6) fun x7 =>
  lt (x5 || x7) fun x8 =>
  bif x8 then (
    bd (G_semvcslaw10_awake σ) fun (x10, σ11) =>
    some (x10, σ11)
  ) else (
    bd (G_ident_Site a_2) fun x12 =>
    bd (G_ident_Site b_3) fun x13 =>
    lt (decide (x12 < x13)) fun x14 =>
    bd (bif !x14 then G_ident_Site a_2 else some 0) fun x15 =>
    bd (bif !x14 then G_ident_Site b_3 else some 0) fun x16 =>
    lt (decide (x15 = x16)) fun x17 =>
    bd (bif (!x14 && x17) then G_ident_Serial a_2 else some 0) fun x18 =>
    bd (bif (!x14 && x17) then G_ident_Serial b_3 else some 0) fun x19 =>
    lt (decide (x18 < x19)) fun x20 =>
    lt (x17 && x20) fun x21 =>
    lt (x14 || x21) fun x22 =>
    bd (G_semvcslaw10_awake σ) fun (x24, σ25) =>
    lt (decide (a_2 < b_3)) fun x26 =>
    lt (x26 == x22) fun x27 =>
    lt (x24 && x27) fun x28 =>
    some (x28, σ25)
  )
/- semvcs/ident.Next -/
noncomputable def G_ident_Next (id_3 : Int) (n_4 : Int) : Option (Int × Int) :=
  bd (G_ident_begun id_3) fun x5 =>
  lt (!x5) fun x6 =>
  lt (decide (n_4 < (0))) fun x7 =>
  lt (x6 || x7) fun x8 =>
  bif x8 then (
    some ((0), (5))
  ) else (
    lt (andI .i64 id_3 (1048575)) fun x9 =>
    lt (IntKind.wrap .i64 ((1048575) - x9)) fun x10 =>
    lt (decide (x10 < n_4)) fun x11 =>
    bif x11 then (
      some ((0), (17))
    ) else (
      lt (andI .i64 id_3 (1048575)) fun x12 =>
      lt (IntKind.wrap .i64 (x12 + n_4)) fun x13 =>
      lt (decide (x13 = (0))) fun x14 =>
      bif x14 then (
        some ((0), (5))
      ) else (
        lt (IntKind.wrap .i64 (id_3 + n_4)) fun x15 =>
        some (x15, (0))
      )
    )
  )
/- semvcs/semvcsref10.Start -/
noncomputable def G_semvcsref10_Start (id_2 : Int) : Option Bool :=
  lt (decide ((1048576) ≤ id_2)) fun x3 =>
  lt (decide (id_2 < (34603008))) fun x4 =>
  lt (x3 && x4) fun x5 =>
  some x5
/- semvcs/semvcsref10.Next -/
noncomputable def G_semvcsref10_Next (id_3 : Int) (n_4 : Int) : Option (Int × Int) :=
  bd (G_semvcsref10_Start id_3) fun x5 =>
  lt (!x5) fun x6 =>
  lt (decide (n_4 < (0))) fun x7 =>
  lt (x6 || x7) fun x8 =>
  bif x8 then (
    some ((0), (5))
  ) else (
    lt (Int.tmod id_3 (1048576)) fun x9 =>
    lt (IntKind.wrap .i64 ((1048575) - x9)) fun x10 =>
    lt (decide (x10 < n_4)) fun x11 =>
    bif x11 then (
      some ((0), (17))
    ) else (
      lt (Int.tmod id_3 (1048576)) fun x12 =>
      lt (IntKind.wrap .i64 (x12 + n_4)) fun x13 =>
      lt (decide (x13 = (0))) fun x14 =>
      bif x14 then (
        some ((0), (5))
      ) else (
        lt (IntKind.wrap .i64 (id_3 + n_4)) fun x15 =>
        some (x15, (0))
      )
    )
  )
/- semvcs/semvcslaw10.IdentNext -/
noncomputable def G_semvcslaw10_IdentNext (id_2 : Int) (n_3 : Int) (σ : AHeap) : Option (Bool × AHeap) :=
  bd (G_ident_Next id_2 n_3) fun (x4, x5) =>
  bd (G_semvcsref10_Next id_2 n_3) fun (x6, x7) =>
  bd (G_semvcslaw10_awake σ) fun (x9, σ10) =>
  lt (decide (x4 = x6)) fun x11 =>
  lt (x9 && x11) fun x12 =>
  lt (decide (x5 = x7)) fun x13 =>
  lt (x12 && x13) fun x14 =>
  some (x14, σ10)
/- semvcs/semvcslaw10.IdentSteps -/
noncomputable def G_semvcslaw10_IdentSteps (id_2 : Int) (n_3 : Int) (m_4 : Int) (σ : AHeap) : Option (Bool × AHeap) :=
  lt (decide (n_3 < (0))) fun x5 =>
  lt (decide (m_4 < (0))) fun x6 =>
  lt (x5 || x6) fun x7 =>
  lt (decide ((1048575) < n_3)) fun x8 =>
  lt (x7 || x8) fun x9 =>
  lt (decide ((1048575) < m_4)) fun x10 =>
  lt (x9 || x10) fun x11 =>
  bif x11 then (
    bd (G_semvcslaw10_awake σ) fun (x13, σ14) =>
    some (x13, σ14)
  ) else (
    bd (G_ident_Next id_2 n_3) fun (x15, x16) =>
    bd (G_ident_Next x15 m_4) fun (x17, x18) =>
    lt (IntKind.wrap .i64 (n_3 + m_4)) fun x19 =>
    bd (G_ident_Next id_2 x19) fun (x20, x21) =>
    lt (decide (x16 ≠ (0))) fun x22 =>
    bif x22 then (
      bd (G_semvcslaw10_awake σ) fun (x24, σ25) =>
      some (x24, σ25)
    ) else (
      bd (G_semvcslaw10_awake σ) fun (x27, σ28) =>
      lt (decide (x18 = x21)) fun x29 =>
      lt (x27 && x29) fun x30 =>
      lt (decide (x17 = x20)) fun x31 =>
      lt (x30 && x31) fun x32 =>
      lt (decide (x18 ≠ (0))) fun x33 =>
      bd (bif (x32 && !x33) then G_ident_Serial x17 else some 0) fun x34 =>
      bd (bif (x32 && !x33) then G_ident_Serial x15 else some 0) fun x35 =>
      lt (IntKind.wrap .i64 (x35 + m_4)) fun x36 =>
      lt (decide (x34 = x36)) fun x37 =>
      lt (x33 || x37) fun x38 =>
      lt (x32 && x38) fun x39 =>
      some (x39, σ28)
    )
  )
end Go.Am
