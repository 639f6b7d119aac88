/- I2G -/
import Derived.Test.YtpionejhjfmobaaDoorAmY
set_option linter.unusedVariables false
namespace Go.Am
def T_u8 : TypeId := 5
/- semvcs/ident.Make -/
noncomputable def G_ident_Make (site_3 : Int) (n_4 : Int) : Option (Int × Int) :=
  lt (decide (site_3 < (1))) fun x5 =>
  lt (decide ((32) < site_3)) fun x6 =>
  lt (x5 || x6) fun x7 =>
  lt (decide (n_4 < (1))) fun x8 =>
  lt (x7 || x8) fun x9 =>
  lt (decide ((1048575) < n_4)) fun x10 =>
  lt (x9 || x10) fun x11 =>
  bif x11 then (
    some ((0), (5))
  ) else (
    bd (shlI .i64 site_3 (20)) fun x12 =>
    lt (IntKind.wrap .i64 (x12 + n_4)) fun x13 =>
    some (x13, (0))
  )
/- semvcs/semvcsref10.Make -/
noncomputable def G_semvcsref10_Make (site_3 : Int) (n_4 : Int) : Option (Int × Int) :=
  lt (decide (site_3 < (1))) fun x5 =>
  lt (decide ((32) < site_3)) fun x6 =>
  lt (x5 || x6) fun x7 =>
  lt (decide (n_4 < (1))) fun x8 =>
  lt (x7 || x8) fun x9 =>
  lt (decide ((1048575) < n_4)) fun x10 =>
  lt (x9 || x10) fun x11 =>
  bif x11 then (
    some ((0), (5))
  ) else (
    lt (IntKind.wrap .i64 (site_3 * (1048576))) fun x12 =>
    lt (IntKind.wrap .i64 (x12 + n_4)) fun x13 =>
    some (x13, (0))
  )
/- semvcs/ident.begun -/
noncomputable def G_ident_begun (id_2 : Int) : Option Bool :=
  bd (shrI .i64 id_2 (20)) fun x3 =>
  lt (decide ((1) ≤ x3)) fun x4 =>
  bd (bif x4 then shrI .i64 id_2 (20) else some 0) fun x5 =>
  lt (decide (x5 ≤ (32))) fun x6 =>
  lt (x4 && x6) fun x7 =>
  some x7
/- semvcs/ident.Valid -/
noncomputable def G_ident_Valid (id_2 : Int) : Option Bool :=
  bd (G_ident_begun id_2) fun x3 =>
  lt (andI .i64 id_2 (1048575)) fun x4 =>
  lt (decide (x4 ≠ (0))) fun x5 =>
  lt (x3 && x5) fun x6 =>
  some x6
/- semvcs/ident.Site -/
noncomputable def G_ident_Site (id_2 : Int) : Option Int :=
  bd (G_ident_Valid id_2) fun x3 =>
  lt (!x3) fun x4 =>
  bif x4 then (
    some (0)
  ) else (
    bd (shrI .i64 id_2 (20)) fun x5 =>
    some x5
  )
/- semvcs/ident.Serial -/
noncomputable def G_ident_Serial (id_2 : Int) : Option Int :=
  bd (G_ident_Valid id_2) fun x3 =>
  lt (!x3) fun x4 =>
  bif x4 then (
    some (0)
  ) else (
    lt (andI .i64 id_2 (1048575)) fun x5 =>
    some x5
  )
/- internal/stringslite.IndexByte -/
noncomputable def G_stringslite_IndexByte (s_2 : ByteArray) (c_3 : Int) : Option Int :=
  bd (G_bytealg_IndexByteString s_2 c_3) fun x4 =>
  some x4
/- internal/bytealg.Cutover -/
noncomputable def G_bytealg_Cutover (n_2 : Int) : Option Int :=
  lt (IntKind.wrap .i64 (n_2 + (16))) fun x3 =>
  lt (IntKind.wrap .i64 (Int.tdiv x3 (8))) fun x4 =>
  some x4
/- internal/bytealg.hashStr[string] -/
noncomputable def G_bytealg_hashStr_string_l1 (sep_4 : ByteArray) : (Int × Int) → Option ((Int × Int) ⊕ Int) := fun (hash_5, i_6) =>
  lt ((ByteArray.size sep_4 : Int)) fun x8 =>
  lt (decide (i_6 < x8)) fun x9 =>
  bif x9 then (
    lt (IntKind.wrap .u32 (hash_5 * (16777619))) fun x10 =>
    bd (idxS sep_4 i_6) fun x11 =>
    lt (IntKind.wrap .u32 x11) fun x12 =>
    lt (IntKind.wrap .u32 (x10 + x12)) fun x13 =>
    lt (IntKind.wrap .i64 (i_6 + (1))) fun x14 =>
    some (.inl (x13, x14))
  ) else (
    some (.inr hash_5)
  )
noncomputable def G_bytealg_hashStr_string_j1 (hash_17 : Int) (pow_26 : Int) (sq_27 : Int) (i_28 : Int) : Option ((Int × Int × Int) ⊕ Int) :=
  lt (IntKind.wrap .u32 (sq_27 * sq_27)) fun x29 =>
  bd (shrI .i64 i_28 (1)) fun x30 =>
  some (.inl (pow_26, x29, x30))
noncomputable def G_bytealg_hashStr_string_l2 (hash_17 : Int) : (Int × Int × Int) → Option ((Int × Int × Int) ⊕ Int) := fun (pow_18, sq_19, i_20) =>
  lt (decide ((0) < i_20)) fun x22 =>
  bif x22 then (
    lt (andI .i64 i_20 (1)) fun x23 =>
    lt (decide (x23 ≠ (0))) fun x24 =>
    bif x24 then (
      lt (IntKind.wrap .u32 (pow_18 * sq_19)) fun x25 =>
      G_bytealg_hashStr_string_j1 hash_17 x25 sq_19 i_20
    ) else (
      lt (IntKind.wrap .u32 (sq_19 * sq_19)) fun x31 =>
      bd (shrI .i64 i_20 (1)) fun x32 =>
      some (.inl (pow_18, x31, x32))
    )
  ) else (
    some (.inr pow_18)
  )
noncomputable def G_bytealg_hashStr_string (sep_3 : ByteArray) : Option (Int × Int) :=
  bd (loopT (G_bytealg_hashStr_string_l1 sep_3) ((0), (0))) fun hash_15 =>
  lt ((ByteArray.size sep_3 : Int)) fun x16 =>
  bd (loopT (G_bytealg_hashStr_string_l2 hash_15) ((1), (16777619), x16)) fun pow_33 =>
  some (hash_15, pow_33)
/- internal/bytealg.IndexRabinKarp[string] -/
noncomputable def G_bytealg_IndexRabinKarp_string_l1 (s_7 : ByteArray) (sep_8 : ByteArray) (hashss_9 : Int) (pow_10 : Int) (n_11 : Int) : (Int × Int) → Option ((Int × Int) ⊕ Int) := fun (h_12, i_13) =>
  lt (decide (i_13 < n_11)) fun x15 =>
  bif x15 then (
    lt (IntKind.wrap .u32 (h_12 * (16777619))) fun x16 =>
    bd (idxS s_7 i_13) fun x17 =>
    lt (IntKind.wrap .u32 x17) fun x18 =>
    lt (IntKind.wrap .u32 (x16 + x18)) fun x19 =>
    lt (IntKind.wrap .i64 (i_13 + (1))) fun x20 =>
    some (.inl (x19, x20))
  ) else (
    some (.inr h_12)
  )
noncomputable def G_bytealg_IndexRabinKarp_string_l2 (s_26 : ByteArray) (sep_27 : ByteArray) (hashss_28 : Int) (pow_29 : Int) (n_30 : Int) : (Int × Int) → Option ((Int × Int) ⊕ (Unit ⊕ Int)) := fun (h_31, i_32) =>
  lt ((ByteArray.size s_26 : Int)) fun x34 =>
  lt (decide (i_32 < x34)) fun x35 =>
  bif x35 then (
    lt (IntKind.wrap .u32 (h_31 * (16777619))) fun x36 =>
    bd (idxS s_26 i_32) fun x37 =>
    lt (IntKind.wrap .u32 x37) fun x38 =>
    lt (IntKind.wrap .u32 (x36 + x38)) fun x39 =>
    lt (IntKind.wrap .i64 (i_32 - n_30)) fun x40 =>
    bd (idxS s_26 x40) fun x41 =>
    lt (IntKind.wrap .u32 x41) fun x42 =>
    lt (IntKind.wrap .u32 (pow_29 * x42)) fun x43 =>
    lt (IntKind.wrap .u32 (x39 - x43)) fun x44 =>
    lt (IntKind.wrap .i64 (i_32 + (1))) fun x45 =>
    lt (decide (x44 = hashss_28)) fun x46 =>
    lt (IntKind.wrap .i64 (x45 - n_30)) fun x47 =>
    bd (bif x46 then slS s_26 (some x47) (some x45) else some ByteArray.empty) fun x48 =>
    lt (decide (x48 = sep_27)) fun x49 =>
    lt (x46 && x49) fun x50 =>
    bif x50 then (
      lt (IntKind.wrap .i64 (x45 - n_30)) fun x51 =>
      some (.inr (.inr x51))
    ) else (
      some (.inl (x44, x45))
    )
  ) else (
    some (.inr (.inl ()))
  )
noncomputable def G_bytealg_IndexRabinKarp_string (s_2 : ByteArray) (sep_3 : ByteArray) : Option Int :=
  bd (G_bytealg_hashStr_string sep_3) fun (x4, x5) =>
  lt ((ByteArray.size sep_3 : Int)) fun x6 =>
  bd (loopT (G_bytealg_IndexRabinKarp_string_l1 s_2 sep_3 x4 x5 x6) ((0), (0))) fun h_21 =>
  lt (decide (h_21 = x4)) fun x22 =>
  bd (bif x22 then slS s_2 none (some x6) else some ByteArray.empty) fun x23 =>
  lt (decide (x23 = sep_3)) fun x24 =>
  lt (x22 && x24) fun x25 =>
  bif x25 then (
    some (0)
  ) else (
    bd (loopT (G_bytealg_IndexRabinKarp_string_l2 s_2 sep_3 x4 x5 x6) (h_21, x6)) fun r =>
    match r with
    | (.inl _) =>
      some (-1)
    | (.inr x52) =>
      some x52
  )
/- internal/stringslite.Index -/
noncomputable def G_stringslite_Index (s_2 : ByteArray) (substr_3 : ByteArray) (σ : AHeap) : Option Int :=
  lt ((ByteArray.size substr_3 : Int)) fun x4 =>
  lt (decide (x4 = (0))) fun x5 =>
  lt (decide (substr_3 = s_2)) fun x6 =>
  lt (x5 || x6) fun x7 =>
  bif x7 then (
    some (0)
  ) else (
    lt (decide (x4 = (1))) fun x8 =>
    bif x8 then (
      bd (idxS substr_3 (0)) fun x9 =>
      bd (G_stringslite_IndexByte s_2 x9) fun x10 =>
      some x10
    ) else (
      lt ((ByteArray.size s_2 : Int)) fun x11 =>
      lt (decide (x11 ≤ x4)) fun x12 =>
      bif x12 then (
        some (-1)
      ) else (
        none
      )
    )
  )
/- internal/stringslite.Cut -/
noncomputable def G_stringslite_Cut (s_4 : ByteArray) (sep_5 : ByteArray) (σ : AHeap) : Option (ByteArray × ByteArray × Bool) :=
  bd (G_stringslite_Index s_4 sep_5 σ) fun x6 =>
  lt (decide ((0) ≤ x6)) fun x7 =>
  bif x7 then (
    bd (slS s_4 none (some x6)) fun x8 =>
    lt ((ByteArray.size sep_5 : Int)) fun x9 =>
    lt (IntKind.wrap .i64 (x6 + x9)) fun x10 =>
    bd (slS s_4 (some x10) none) fun x11 =>
    some (x8, x11, true)
  ) else (
    some (s_4, (⟨#[]⟩ : ByteArray), false)
  )
/- strings.Cut -/
noncomputable def G_strings_Cut (s_4 : ByteArray) (sep_5 : ByteArray) (σ : AHeap) : Option (ByteArray × ByteArray × Bool) :=
  bd (G_stringslite_Cut s_4 sep_5 σ) fun (x6, x7, x8) =>
  some (x6, x7, x8)
/- semvcs/ident.number -/
noncomputable def G_ident_number_l1 (s_11 : ByteArray) : (Int × Int) → Option ((Int × Int) ⊕ (Int ⊕ (Int × Bool))) := fun (n_12, i_13) =>
  lt ((ByteArray.size s_11 : Int)) fun x17 =>
  lt (decide (i_13 < x17)) fun x18 =>
  bif x18 then (
    bd (idxS s_11 i_13) fun x19 =>
    lt (decide (x19 < (48))) fun x20 =>
    bd (bif !x20 then idxS s_11 i_13 else some 0) fun x21 =>
    lt (decide ((57) < x21)) fun x22 =>
    lt (x20 || x22) fun x23 =>
    bif x23 then (
      some (.inr (.inr ((0), false)))
    ) else (
      lt (IntKind.wrap .i64 ((10) * n_12)) fun x24 =>
      bd (idxS s_11 i_13) fun x25 =>
      lt (IntKind.wrap .u8 (x25 - (48))) fun x26 =>
      lt (IntKind.wrap .i64 x26) fun x27 =>
      lt (IntKind.wrap .i64 (x24 + x27)) fun x28 =>
      lt (IntKind.wrap .i64 (i_13 + (1))) fun x29 =>
      some (.inl (x28, x29))
    )
  ) else (
    some (.inr (.inl n_12))
  )
noncomputable def G_ident_number (s_3 : ByteArray) : Option (Int × Bool) :=
  lt (decide (s_3 = (⟨#[]⟩ : ByteArray))) fun x4 =>
  lt ((ByteArray.size s_3 : Int)) fun x5 =>
  lt (decide ((7) < x5)) fun x6 =>
  lt (x4 || x6) fun x7 =>
  bd (bif !x7 then idxS s_3 (0) else some 0) fun x8 =>
  lt (decide (x8 = (48))) fun x9 =>
  lt (x7 || x9) fun x10 =>
  bif x10 then (
    some ((0), false)
  ) else (
    bd (loopT (G_ident_number_l1 s_3) ((0), (0))) fun r =>
    match r with
    | (.inl n_30) =>
      some (n_30, true)
    | (.inr (x31, x32)) =>
      some (x31, x32)
  )
/- semvcs/ident.Parse -/
noncomputable def G_ident_Parse (s_3 : ByteArray) (σ : AHeap) : Option (Int × Int) :=
  bd (G_strings_Cut s_3 (⟨#[46]⟩ : ByteArray) σ) fun (x4, x5, x6) =>
  lt (!x6) fun x7 =>
  bif x7 then (
    some ((0), (13))
  ) else (
    bd (G_ident_number x4) fun (x8, x9) =>
    bd (G_ident_number x5) fun (x10, x11) =>
    lt (!x9) fun x12 =>
    lt (!x11) fun x13 =>
    lt (x12 || x13) fun x14 =>
    bif x14 then (
      some ((0), (13))
    ) else (
      bd (G_ident_Make x8 x10) fun (x15, x16) =>
      lt (decide (x16 ≠ (0))) fun x17 =>
      bif x17 then (
        some ((0), (13))
      ) else (
        some (x15, (0))
      )
    )
  )
def V_internal_strconv_uint64pow10 : Nat := 1
noncomputable def G_strconv_Itoa (n : Int) (σ : AHeap) : Option ByteArray := itoaT V_internal_strconv_uint64pow10 n σ
/- semvcs/ident.Format -/
noncomputable def G_ident_Format (id_2 : Int) (σ : AHeap) : Option ByteArray :=
  bd (G_ident_Valid id_2) fun x3 =>
  lt (!x3) fun x4 =>
  bif x4 then (
    some (⟨#[]⟩ : ByteArray)
  ) else (
    bd (shrI .i64 id_2 (20)) fun x5 =>
    bd (G_strconv_Itoa x5 σ) fun x6 =>
    bd (addS x6 (⟨#[46]⟩ : ByteArray)) fun x7 =>
    lt (andI .i64 id_2 (1048575)) fun x8 =>
    bd (G_strconv_Itoa x8 σ) fun x9 =>
    bd (addS x7 x9) fun x10 =>
    some x10
  )
/- semvcs/semvcslaw10.awake -/
noncomputable def G_semvcslaw10_awake (σ : AHeap) : Option Bool :=
  bd (G_ident_Make (3) (17)) fun (x2, x3) =>
  bd (G_ident_Parse (⟨#[51, 46, 49, 55]⟩ : ByteArray) σ) fun (x4, x5) =>
  lt (decide (x3 = (0))) fun x6 =>
  lt (decide (x5 = (0))) fun x7 =>
  lt (x6 && x7) fun x8 =>
  lt (decide (x2 = (3145745))) fun x9 =>
  lt (x8 && x9) fun x10 =>
  lt (decide (x4 = x2)) fun x11 =>
  lt (x10 && x11) fun x12 =>
  bd (bif x12 then G_ident_Format x2 σ else some ByteArray.empty) fun x13 =>
  lt (decide (x13 = (⟨#[51, 46, 49, 55]⟩ : ByteArray))) fun x14 =>
  lt (x12 && x14) fun x15 =>
  bd (bif x15 then G_ident_Site x2 else some 0) fun x16 =>
  lt (decide (x16 = (3))) fun x17 =>
  lt (x15 && x17) fun x18 =>
  bd (bif x18 then G_ident_Serial x2 else some 0) fun x19 =>
  lt (decide (x19 = (17))) fun x20 =>
  lt (x18 && x20) fun x21 =>
  bd (bif x21 then G_ident_Valid x2 else some false) fun x22 =>
  lt (x21 && x22) fun x23 =>
  some x23
/- semvcs/semvcsref10.Valid -/
noncomputable def G_semvcsref10_Valid (id_2 : Int) : Option Bool :=
  lt (decide ((1048576) < id_2)) fun x3 =>
  lt (decide (id_2 < (34603008))) fun x4 =>
  lt (x3 && x4) fun x5 =>
  lt (Int.tmod id_2 (1048576)) fun x6 =>
  lt (decide (x6 ≠ (0))) fun x7 =>
  lt (x5 && x7) fun x8 =>
  some x8
/- semvcs/semvcsref10.Site -/
noncomputable def G_semvcsref10_Site (id_2 : Int) : Option Int :=
  bd (G_semvcsref10_Valid id_2) fun x3 =>
  lt (!x3) fun x4 =>
  bif x4 then (
    some (0)
  ) else (
    lt (IntKind.wrap .i64 (Int.tdiv id_2 (1048576))) fun x5 =>
    some x5
  )
/- semvcs/semvcsref10.Serial -/
noncomputable def G_semvcsref10_Serial (id_2 : Int) : Option Int :=
  bd (G_semvcsref10_Valid id_2) fun x3 =>
  lt (!x3) fun x4 =>
  bif x4 then (
    some (0)
  ) else (
    lt (Int.tmod id_2 (1048576)) fun x5 =>
    some x5
  )
/- semvcs/semvcslaw10.IdentMakes -/
noncomputable def G_semvcslaw10_IdentMakes (site_2 : Int) (n_3 : Int) (id_4 : Int) (σ : AHeap) : Option Bool :=
  bd (G_ident_Make site_2 n_3) fun (x5, x6) =>
  bd (G_semvcsref10_Make site_2 n_3) fun (x7, x8) =>
  bd (G_semvcslaw10_awake σ) fun x9 =>
  lt (decide (x5 = x7)) fun x10 =>
  lt (x9 && x10) fun x11 =>
  lt (decide (x6 = x8)) fun x12 =>
  lt (x11 && x12) fun x13 =>
  bd (bif x13 then G_ident_Valid id_4 else some false) fun x14 =>
  bd (bif x13 then G_semvcsref10_Valid id_4 else some false) fun x15 =>
  lt (x14 == x15) fun x16 =>
  lt (x13 && x16) fun x17 =>
  bd (bif x17 then G_ident_Site id_4 else some 0) fun x18 =>
  bd (bif x17 then G_semvcsref10_Site id_4 else some 0) fun x19 =>
  lt (decide (x18 = x19)) fun x20 =>
  lt (x17 && x20) fun x21 =>
  bd (bif x21 then G_ident_Serial id_4 else some 0) fun x22 =>
  bd (bif x21 then G_semvcsref10_Serial id_4 else some 0) fun x23 =>
  lt (decide (x22 = x23)) fun x24 =>
  lt (x21 && x24) fun x25 =>
  some x25
/- semvcs/semvcsref10.decimal -/
noncomputable def G_semvcsref10_decimal_l1  : (Int × ByteArray × AHeap) → Option ((Int × ByteArray × AHeap) ⊕ (ByteArray × AHeap)) := fun (n_3, s_4, σ) =>
  lt (Int.tmod n_3 (10)) fun x6 =>
  lt (IntKind.wrap .i64 ((48) + x6)) fun x7 =>
  lt (IntKind.wrap .u8 x7) fun x8 =>
  lt (newSl σ T_u8 1 [(Value.int .u8 x8)]) fun (x9, σ10) =>
  bd (strOf σ10 x9) fun x11 =>
  bd (addS x11 s_4) fun x12 =>
  lt (IntKind.wrap .i64 (Int.tdiv n_3 (10))) fun x13 =>
  lt (decide (x13 = (0))) fun x14 =>
  bif x14 then (
    some (.inr (x12, σ10))
  ) else (
    some (.inl (x13, x12, σ10))
  )
noncomputable def G_semvcsref10_decimal (n_2 : Int) (σ : AHeap) : Option (ByteArray × AHeap) :=
  bd (loopT (G_semvcsref10_decimal_l1) (n_2, (⟨#[]⟩ : ByteArray), σ)) fun (x15, σ16) =>
  some (x15, σ16)
/- semvcs/semvcsref10.Format -/
noncomputable def G_semvcsref10_Format (id_2 : Int) (σ : AHeap) : Option (ByteArray × AHeap) :=
  bd (G_semvcsref10_Valid id_2) fun x3 =>
  lt (!x3) fun x4 =>
  bif x4 then (
    some ((⟨#[]⟩ : ByteArray), σ)
  ) else (
    bd (G_semvcsref10_Site id_2) fun x5 =>
    bd (G_semvcsref10_decimal x5 σ) fun (x7, σ8) =>
    bd (addS x7 (⟨#[46]⟩ : ByteArray)) fun x9 =>
    bd (G_semvcsref10_Serial id_2) fun x10 =>
    bd (G_semvcsref10_decimal x10 σ8) fun (x12, σ13) =>
    bd (addS x9 x12) fun x14 =>
    some (x14, σ13)
  )
/- semvcs/semvcsref10.Parse -/
noncomputable def G_semvcsref10_Parse_j1 (s_6 : ByteArray) (site_20 : Int) (n_21 : Int) (dots_22 : Int) (i_23 : Int) (σ : AHeap) : Option ((Int × Int × Int × Int × AHeap) ⊕ ((Int × Int × AHeap) ⊕ (Int × Int × AHeap))) :=
  lt (IntKind.wrap .i64 (i_23 + (1))) fun x24 =>
  some (.inl (site_20, n_21, dots_22, x24, σ))
noncomputable def G_semvcsref10_Parse_l1 (s_6 : ByteArray) : (Int × Int × Int × Int × AHeap) → Option ((Int × Int × Int × Int × AHeap) ⊕ ((Int × Int × AHeap) ⊕ (Int × Int × AHeap))) := fun (site_7, n_8, dots_9, i_10, σ) =>
  lt ((ByteArray.size s_6 : Int)) fun x15 =>
  lt (decide (i_10 < x15)) fun x16 =>
  bif x16 then (
    bd (idxS s_6 i_10) fun x17 =>
    lt (decide (x17 = (46))) fun x18 =>
    bif x18 then (
      lt (IntKind.wrap .i64 (dots_9 + (1))) fun x19 =>
      G_semvcsref10_Parse_j1 s_6 site_7 n_8 x19 i_10 σ
    ) else (
      bd (idxS s_6 i_10) fun x25 =>
      lt (decide (x25 < (48))) fun x26 =>
      bd (bif !x26 then idxS s_6 i_10 else some 0) fun x27 =>
      lt (decide ((57) < x27)) fun x28 =>
      lt (x26 || x28) fun x29 =>
      lt (decide ((1048576) < site_7)) fun x30 =>
      lt (x29 || x30) fun x31 =>
      lt (decide ((1048576) < n_8)) fun x32 =>
      lt (x31 || x32) fun x33 =>
      bif x33 then (
        some (.inr (.inr ((0), (13), σ)))
      ) else (
        lt (decide (dots_9 = (0))) fun x34 =>
        bif x34 then (
          lt (IntKind.wrap .i64 (site_7 * (10))) fun x35 =>
          bd (idxS s_6 i_10) fun x36 =>
          lt (IntKind.wrap .u8 (x36 - (48))) fun x37 =>
          lt (IntKind.wrap .i64 x37) fun x38 =>
          lt (IntKind.wrap .i64 (x35 + x38)) fun x39 =>
          G_semvcsref10_Parse_j1 s_6 x39 n_8 dots_9 i_10 σ
        ) else (
          lt (IntKind.wrap .i64 (n_8 * (10))) fun x40 =>
          bd (idxS s_6 i_10) fun x41 =>
          lt (IntKind.wrap .u8 (x41 - (48))) fun x42 =>
          lt (IntKind.wrap .i64 x42) fun x43 =>
          lt (IntKind.wrap .i64 (x40 + x43)) fun x44 =>
          G_semvcsref10_Parse_j1 s_6 site_7 x44 dots_9 i_10 σ
        )
      )
    )
  ) else (
    some (.inr (.inl (site_7, n_8, σ)))
  )
noncomputable def G_semvcsref10_Parse (s_3 : ByteArray) (σ : AHeap) : Option (Int × Int × AHeap) :=
  lt ((ByteArray.size s_3 : Int)) fun x4 =>
  lt (decide ((20) < x4)) fun x5 =>
  bif x5 then (
    some ((0), (13), σ)
  ) else (
    bd (loopT (G_semvcsref10_Parse_l1 s_3) ((0), (0), (0), (0), σ)) fun r =>
    match r with
    | (.inl (site_45, n_46, σ47)) =>
      bd (G_semvcsref10_Make site_45 n_46) fun (x48, x49) =>
      lt (decide (x49 ≠ (0))) fun x50 =>
      bd (bif !x50 then G_semvcsref10_Format x48 σ47 else some (ByteArray.empty, σ47)) fun (x52, σ53) =>
      lt (decide (x52 ≠ s_3)) fun x54 =>
      lt (x50 || x54) fun x55 =>
      bif x55 then (
        some ((0), (13), σ53)
      ) else (
        some (x48, (0), σ53)
      )
    | (.inr (x56, x57, σ58)) =>
      some (x56, x57, σ58)
  )
/- semvcs/semvcslaw10.IdentTexts -/
noncomputable def G_semvcslaw10_IdentTexts (id_2 : Int) (s_3 : ByteArray) (σ : AHeap) : Option (Bool × AHeap) :=
  bd (G_ident_Parse s_3 σ) fun (x4, x5) =>
  bd (G_semvcsref10_Parse s_3 σ) fun (x8, x9, σ10) =>
  bd (G_semvcslaw10_awake σ10) fun x11 =>
  bd (bif x11 then G_ident_Format id_2 σ10 else some ByteArray.empty) fun x12 =>
  bd (bif x11 then G_semvcsref10_Format id_2 σ10 else some (ByteArray.empty, σ10)) fun (x14, σ15) =>
  lt (decide (x12 = x14)) fun x16 =>
  lt (x11 && x16) fun x17 =>
  lt (decide (x4 = x8)) fun x18 =>
  lt (x17 && x18) fun x19 =>
  lt (decide (x5 = x9)) fun x20 =>
  lt (x19 && x20) fun x21 =>
  some (x21, σ15)
/- semvcs/semvcslaw10.IdentBack -/
noncomputable def G_semvcslaw10_IdentBack (site_2 : Int) (n_3 : Int) (σ : AHeap) : Option Bool :=
  bd (G_ident_Make site_2 n_3) fun (x4, x5) =>
  lt (decide (x5 ≠ (0))) fun x6 =>
  bif x6 then (
    bd (G_semvcslaw10_awake σ) fun x7 =>
    lt (decide (x4 = (0))) fun x8 =>
    lt (x7 && x8) fun x9 =>
    lt (decide (site_2 < (1))) fun x10 =>
    lt (decide ((32) < site_2)) fun x11 =>
    lt (x10 || x11) fun x12 =>
    lt (decide (n_3 < (1))) fun x13 =>
    lt (x12 || x13) fun x14 =>
    lt (decide ((1048575) < n_3)) fun x15 =>
    lt (x14 || x15) fun x16 =>
    lt (x9 && x16) fun x17 =>
    some x17
  ) else (
    bd (G_ident_Format x4 σ) fun x18 =>
    bd (G_ident_Parse x18 σ) fun (x19, x20) =>
    bd (G_semvcslaw10_awake σ) fun x21 =>
    lt (decide (x20 = (0))) fun x22 =>
    lt (x21 && x22) fun x23 =>
    lt (decide (x19 = x4)) fun x24 =>
    lt (x23 && x24) fun x25 =>
    bd (bif x25 then G_ident_Site x4 else some 0) fun x26 =>
    lt (decide (x26 = site_2)) fun x27 =>
    lt (x25 && x27) fun x28 =>
    bd (bif x28 then G_ident_Serial x4 else some 0) fun x29 =>
    lt (decide (x29 = n_3)) fun x30 =>
    lt (x28 && x30) fun x31 =>
    bd (bif x31 then G_ident_Valid x4 else some false) fun x32 =>
    lt (x31 && x32) fun x33 =>
    some x33
  )
/- semvcs/semvcslaw10.IdentOrder -/
noncomputable def G_semvcslaw10_IdentOrder (a_2 : Int) (b_3 : Int) (σ : AHeap) : Option Bool :=
  bd (G_ident_Valid a_2) fun x4 =>
  lt (!x4) fun x5 =>
  bd (bif !x5 then G_ident_Valid b_3 else some false) fun x6 =>
  lt (!x6) fun x7 =>
  lt (x5 || x7) fun x8 =>
  bif x8 then (
    bd (G_semvcslaw10_awake σ) fun x9 =>
    some x9
  ) else (
    bd (G_ident_Site a_2) fun x10 =>
    bd (G_ident_Site b_3) fun x11 =>
    lt (decide (x10 < x11)) fun x12 =>
    bd (bif !x12 then G_ident_Site a_2 else some 0) fun x13 =>
    bd (bif !x12 then G_ident_Site b_3 else some 0) fun x14 =>
    lt (decide (x13 = x14)) fun x15 =>
    bd (bif (!x12 && x15) then G_ident_Serial a_2 else some 0) fun x16 =>
    bd (bif (!x12 && x15) then G_ident_Serial b_3 else some 0) fun x17 =>
    lt (decide (x16 < x17)) fun x18 =>
    lt (x15 && x18) fun x19 =>
    lt (x12 || x19) fun x20 =>
    bd (G_semvcslaw10_awake σ) fun x21 =>
    lt (decide (a_2 < b_3)) fun x22 =>
    lt (x22 == x20) fun x23 =>
    lt (x21 && x23) fun x24 =>
    some x24
  )
/- semvcs/ident.Next -/
noncomputable def G_ident_Next (id_3 : Int) (n_4 : Int) : Option (Int × Int) :=
  bd (G_ident_begun id_3) fun x5 =>
  lt (!x5) fun x6 =>
  lt (decide (n_4 < (0))) fun x7 =>
  lt (x6 || x7) fun x8 =>
  bif x8 then (
    some ((0), (5))
  ) else (
    lt (andI .i64 id_3 (1048575)) fun x9 =>
    lt (IntKind.wrap .i64 ((1048575) - x9)) fun x10 =>
    lt (decide (x10 < n_4)) fun x11 =>
    bif x11 then (
      some ((0), (17))
    ) else (
      lt (andI .i64 id_3 (1048575)) fun x12 =>
      lt (IntKind.wrap .i64 (x12 + n_4)) fun x13 =>
      lt (decide (x13 = (0))) fun x14 =>
      bif x14 then (
        some ((0), (5))
      ) else (
        lt (IntKind.wrap .i64 (id_3 + n_4)) fun x15 =>
        some (x15, (0))
      )
    )
  )
/- semvcs/semvcsref10.Start -/
noncomputable def G_semvcsref10_Start (id_2 : Int) : Option Bool :=
  lt (decide ((1048576) ≤ id_2)) fun x3 =>
  lt (decide (id_2 < (34603008))) fun x4 =>
  lt (x3 && x4) fun x5 =>
  some x5
/- semvcs/semvcsref10.Next -/
noncomputable def G_semvcsref10_Next (id_3 : Int) (n_4 : Int) : Option (Int × Int) :=
  bd (G_semvcsref10_Start id_3) fun x5 =>
  lt (!x5) fun x6 =>
  lt (decide (n_4 < (0))) fun x7 =>
  lt (x6 || x7) fun x8 =>
  bif x8 then (
    some ((0), (5))
  ) else (
    lt (Int.tmod id_3 (1048576)) fun x9 =>
    lt (IntKind.wrap .i64 ((1048575) - x9)) fun x10 =>
    lt (decide (x10 < n_4)) fun x11 =>
    bif x11 then (
      some ((0), (17))
    ) else (
      lt (Int.tmod id_3 (1048576)) fun x12 =>
      lt (IntKind.wrap .i64 (x12 + n_4)) fun x13 =>
      lt (decide (x13 = (0))) fun x14 =>
      bif x14 then (
        some ((0), (5))
      ) else (
        lt (IntKind.wrap .i64 (id_3 + n_4)) fun x15 =>
        some (x15, (0))
      )
    )
  )
/- semvcs/semvcslaw10.IdentNext -/
noncomputable def G_semvcslaw10_IdentNext (id_2 : Int) (n_3 : Int) (σ : AHeap) : Option Bool :=
  bd (G_ident_Next id_2 n_3) fun (x4, x5) =>
  bd (G_semvcsref10_Next id_2 n_3) fun (x6, x7) =>
  bd (G_semvcslaw10_awake σ) fun x8 =>
  lt (decide (x4 = x6)) fun x9 =>
  lt (x8 && x9) fun x10 =>
  lt (decide (x5 = x7)) fun x11 =>
  lt (x10 && x11) fun x12 =>
  some x12
/- semvcs/semvcslaw10.IdentSteps -/
noncomputable def G_semvcslaw10_IdentSteps (id_2 : Int) (n_3 : Int) (m_4 : Int) (σ : AHeap) : Option Bool :=
  lt (decide (n_3 < (0))) fun x5 =>
  lt (decide (m_4 < (0))) fun x6 =>
  lt (x5 || x6) fun x7 =>
  lt (decide ((1048575) < n_3)) fun x8 =>
  lt (x7 || x8) fun x9 =>
  lt (decide ((1048575) < m_4)) fun x10 =>
  lt (x9 || x10) fun x11 =>
  bif x11 then (
    bd (G_semvcslaw10_awake σ) fun x12 =>
    some x12
  ) else (
    bd (G_ident_Next id_2 n_3) fun (x13, x14) =>
    bd (G_ident_Next x13 m_4) fun (x15, x16) =>
    lt (IntKind.wrap .i64 (n_3 + m_4)) fun x17 =>
    bd (G_ident_Next id_2 x17) fun (x18, x19) =>
    lt (decide (x14 ≠ (0))) fun x20 =>
    bif x20 then (
      bd (G_semvcslaw10_awake σ) fun x21 =>
      some x21
    ) else (
      bd (G_semvcslaw10_awake σ) fun x22 =>
      lt (decide (x16 = x19)) fun x23 =>
      lt (x22 && x23) fun x24 =>
      lt (decide (x15 = x18)) fun x25 =>
      lt (x24 && x25) fun x26 =>
      lt (decide (x16 ≠ (0))) fun x27 =>
      bd (bif (x26 && !x27) then G_ident_Serial x15 else some 0) fun x28 =>
      bd (bif (x26 && !x27) then G_ident_Serial x13 else some 0) fun x29 =>
      lt (IntKind.wrap .i64 (x29 + m_4)) fun x30 =>
      lt (decide (x28 = x30)) fun x31 =>
      lt (x27 || x31) fun x32 =>
      lt (x26 && x32) fun x33 =>
      some x33
    )
  )
end Go.Am
