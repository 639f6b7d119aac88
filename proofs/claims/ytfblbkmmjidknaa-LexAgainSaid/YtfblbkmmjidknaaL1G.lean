/- L1G -/
import Derived.Test.YtfblbkmmjidknaaAmY
set_option linter.unusedVariables false
namespace Go.Am
def T_semvcs_api_Token : TypeId := 33
def T_semvcs_semvcsref01_Item : TypeId := 43
def T_strings_Builder : TypeId := 50
def T_u8 : TypeId := 5
def ld_str (σ : AHeap) (p : Option Addr) : Option ByteArray :=
  match ldN σ p 1 with
  | some [.string a0] => some a0
  | _ => none
theorem ld_str_eq {σ : AHeap} {p : Option Addr} {r : ByteArray} (h : ld_str σ p = some r) : ldN σ p 1 = some [(Value.string r)] := by
  unfold ld_str at h
  split at h
  · rename_i e; injection h with h; subst h; exact e
  · cases h
def ld_i64_str_str (σ : AHeap) (p : Option Addr) : Option (Int × ByteArray × ByteArray) :=
  match ldN σ p 3 with
  | some [.int .i64 a0, .string a1, .string a2] => some (a0, a1, a2)
  | _ => none
theorem ld_i64_str_str_eq {σ : AHeap} {p : Option Addr} {r : (Int × ByteArray × ByteArray)} (h : ld_i64_str_str σ p = some r) : ldN σ p 3 = some [(Value.int .i64 r.1), (Value.string r.2.1), (Value.string r.2.2)] := by
  unfold ld_i64_str_str at h
  split at h
  · rename_i e; injection h with h; subst h; exact e
  · cases h
def ld_i64_i64_i64_i64 (σ : AHeap) (p : Option Addr) : Option (Int × Int × Int × Int) :=
  match ldN σ p 4 with
  | some [.int .i64 a0, .int .i64 a1, .int .i64 a2, .int .i64 a3] => some (a0, a1, a2, a3)
  | _ => none
theorem ld_i64_i64_i64_i64_eq {σ : AHeap} {p : Option Addr} {r : (Int × Int × Int × Int)} (h : ld_i64_i64_i64_i64 σ p = some r) : ldN σ p 4 = some [(Value.int .i64 r.1), (Value.int .i64 r.2.1), (Value.int .i64 r.2.2.1), (Value.int .i64 r.2.2.2)] := by
  unfold ld_i64_i64_i64_i64 at h
  split at h
  · rename_i e; injection h with h; subst h; exact e
  · cases h
def ld_i64 (σ : AHeap) (p : Option Addr) : Option Int :=
  match ldN σ p 1 with
  | some [.int .i64 a0] => some a0
  | _ => none
theorem ld_i64_eq {σ : AHeap} {p : Option Addr} {r : Int} (h : ld_i64 σ p = some r) : ldN σ p 1 = some [(Value.int .i64 r)] := by
  unfold ld_i64 at h
  split at h
  · rename_i e; injection h with h; subst h; exact e
  · cases h
def ld_ptr (σ : AHeap) (p : Option Addr) : Option (Option Addr) :=
  match ldN σ p 1 with
  | some [.pointer a0] => some a0
  | _ => none
theorem ld_ptr_eq {σ : AHeap} {p : Option Addr} {r : (Option Addr)} (h : ld_ptr σ p = some r) : ldN σ p 1 = some [(Value.pointer r)] := by
  unfold ld_ptr at h
  split at h
  · rename_i e; injection h with h; subst h; exact e
  · cases h
def ld_sl (σ : AHeap) (p : Option Addr) : Option Sl :=
  match ldN σ p 1 with
  | some [.slice a0 a0n a0c] => some (⟨a0, a0n, a0c⟩ : Sl)
  | _ => none
theorem ld_sl_eq {σ : AHeap} {p : Option Addr} {r : Sl} (h : ld_sl σ p = some r) : ldN σ p 1 = some [(Sl.v r)] := by
  unfold ld_sl at h
  split at h
  · rename_i e; injection h with h; subst h; exact e
  · cases h
/- semvcs/lex.allowed -/
noncomputable def G_lex_allowed (c_2 : Int) : Option Bool :=
  lt (decide (c_2 = (9))) fun x3 =>
  lt (decide (c_2 = (10))) fun x4 =>
  lt (x3 || x4) fun x5 =>
  lt (decide (c_2 = (13))) fun x6 =>
  lt (x5 || x6) fun x7 =>
  lt (decide ((32) ≤ c_2)) fun x8 =>
  lt (decide (c_2 ≤ (126))) fun x9 =>
  lt (x8 && x9) fun x10 =>
  lt (x7 || x10) fun x11 =>
  some x11
/- semvcs/lex.letter -/
noncomputable def G_lex_letter (c_2 : Int) : Option Bool :=
  lt (decide ((97) ≤ c_2)) fun x3 =>
  lt (decide (c_2 ≤ (122))) fun x4 =>
  lt (x3 && x4) fun x5 =>
  lt (decide ((65) ≤ c_2)) fun x6 =>
  lt (decide (c_2 ≤ (90))) fun x7 =>
  lt (x6 && x7) fun x8 =>
  lt (x5 || x8) fun x9 =>
  some x9
/- semvcs/lex.digit -/
noncomputable def G_lex_digit (c_2 : Int) : Option Bool :=
  lt (decide ((48) ≤ c_2)) fun x3 =>
  lt (decide (c_2 ≤ (57))) fun x4 =>
  lt (x3 && x4) fun x5 =>
  some x5
/- semvcs/lex.inner -/
noncomputable def G_lex_inner (c_2 : Int) : Option Bool :=
  bd (G_lex_letter c_2) fun x3 =>
  bd (bif !x3 then G_lex_digit c_2 else some false) fun x4 =>
  lt (x3 || x4) fun x5 =>
  lt (decide (c_2 = (95))) fun x6 =>
  lt (x5 || x6) fun x7 =>
  some x7
/- semvcs/lex.run -/
noncomputable def G_lex_run_l1 (s_4 : ByteArray) : Int → Option (Int ⊕ Int) := fun at_5 =>
  lt ((ByteArray.size s_4 : Int)) fun x7 =>
  lt (decide (at_5 < x7)) fun x8 =>
  bd (bif x8 then idxS s_4 at_5 else some 0) fun x9 =>
  bd (bif x8 then G_lex_inner x9 else some false) fun x10 =>
  lt (x8 && x10) fun x11 =>
  bif x11 then (
    lt (IntKind.wrap .i64 (at_5 + (1))) fun x12 =>
    some (.inl x12)
  ) else (
    some (.inr at_5)
  )
noncomputable def G_lex_run (s_2 : ByteArray) (at_3 : Int) : Option Int :=
  bd (loopT (G_lex_run_l1 s_2) at_3) fun at_13 =>
  some at_13
/- semvcs/lex.reserved -/
noncomputable def G_lex_reserved_j1 (x16 : Bool) : Option Bool :=
  bif x16 then (
    some true
  ) else (
    some false
  )
noncomputable def G_lex_reserved (w_2 : ByteArray) : Option Bool :=
  lt (decide (w_2 = (⟨#[109, 111, 100, 117, 108, 101]⟩ : ByteArray))) fun x3 =>
  bif x3 then (
    some true
  ) else (
    lt (decide (w_2 = (⟨#[100, 101, 102]⟩ : ByteArray))) fun x4 =>
    bif x4 then (
      some true
    ) else (
      lt (decide (w_2 = (⟨#[116, 121, 112, 101]⟩ : ByteArray))) fun x5 =>
      bif x5 then (
        some true
      ) else (
        lt (decide (w_2 = (⟨#[108, 101, 116]⟩ : ByteArray))) fun x6 =>
        bif x6 then (
          some true
        ) else (
          lt (decide (w_2 = (⟨#[105, 110]⟩ : ByteArray))) fun x7 =>
          bif x7 then (
            some true
          ) else (
            lt (decide (w_2 = (⟨#[105, 102]⟩ : ByteArray))) fun x8 =>
            bif x8 then (
              some true
            ) else (
              lt (decide (w_2 = (⟨#[116, 104, 101, 110]⟩ : ByteArray))) fun x9 =>
              bif x9 then (
                some true
              ) else (
                lt (decide (w_2 = (⟨#[101, 108, 115, 101]⟩ : ByteArray))) fun x10 =>
                bif x10 then (
                  some true
                ) else (
                  lt (decide (w_2 = (⟨#[116, 114, 117, 101]⟩ : ByteArray))) fun x11 =>
                  bif x11 then (
                    some true
                  ) else (
                    lt (decide (w_2 = (⟨#[102, 97, 108, 115, 101]⟩ : ByteArray))) fun x12 =>
                    bif x12 then (
                      some true
                    ) else (
                      lt (decide (w_2 = (⟨#[73, 110, 116]⟩ : ByteArray))) fun x13 =>
                      bif x13 then (
                        some true
                      ) else (
                        lt (decide (w_2 = (⟨#[84, 101, 120, 116]⟩ : ByteArray))) fun x14 =>
                        bif x14 then (
                          some true
                        ) else (
                          lt (decide (w_2 = (⟨#[66, 111, 111, 108]⟩ : ByteArray))) fun x15 =>
                          G_lex_reserved_j1 x15
                        )
                      )
                    )
                  )
                )
              )
            )
          )
        )
      )
    )
  )
/- semvcs/lex.word -/
noncomputable def G_lex_word (s_5 : ByteArray) (at_6 : Int) : Option (Int × Int × Int × Int) :=
  bd (G_lex_run s_5 at_6) fun x7 =>
  bd (slS s_5 (some at_6) (some x7)) fun x8 =>
  bd (idxS x8 (0)) fun x9 =>
  lt (decide (x9 ≤ (90))) fun x10 =>
  bd (bif x10 then G_lex_reserved x8 else some false) fun x11 =>
  lt (!x11) fun x12 =>
  lt (x10 && x12) fun x13 =>
  lt (IntKind.wrap .i64 (x7 + (1))) fun x14 =>
  lt ((ByteArray.size s_5 : Int)) fun x15 =>
  lt (decide (x14 < x15)) fun x16 =>
  lt (x13 && x16) fun x17 =>
  bd (bif x17 then idxS s_5 x7 else some 0) fun x18 =>
  lt (decide (x18 = (46))) fun x19 =>
  lt (x17 && x19) fun x20 =>
  lt (IntKind.wrap .i64 (x7 + (1))) fun x21 =>
  bd (bif x20 then idxS s_5 x21 else some 0) fun x22 =>
  bd (bif x20 then G_lex_letter x22 else some false) fun x23 =>
  lt (x20 && x23) fun x24 =>
  bif x24 then (
    lt (IntKind.wrap .i64 (x7 + (1))) fun x25 =>
    bd (G_lex_run s_5 x25) fun x26 =>
    bd (slS s_5 (some x25) (some x26)) fun x27 =>
    lt ((ByteArray.size x8 : Int)) fun x28 =>
    lt (decide ((24) < x28)) fun x29 =>
    lt ((ByteArray.size x27 : Int)) fun x30 =>
    lt (decide ((24) < x30)) fun x31 =>
    lt (x29 || x31) fun x32 =>
    bif x32 then (
      some ((0), (0), at_6, (3))
    ) else (
      bd (G_lex_reserved x27) fun x33 =>
      bif x33 then (
        some ((0), (0), at_6, (2))
      ) else (
        bd (idxS x27 (0)) fun x34 =>
        lt (decide (x34 ≤ (90))) fun x35 =>
        bif x35 then (
          some ((4), x26, (0), (0))
        ) else (
          some ((3), x26, (0), (0))
        )
      )
    )
  ) else (
    bd (G_lex_reserved x8) fun x36 =>
    bif x36 then (
      some ((7), x7, (0), (0))
    ) else (
      lt ((ByteArray.size x8 : Int)) fun x37 =>
      lt (decide ((24) < x37)) fun x38 =>
      bif x38 then (
        some ((0), (0), at_6, (3))
      ) else (
        bif x10 then (
          some ((2), x7, (0), (0))
        ) else (
          some ((1), x7, (0), (0))
        )
      )
    )
  )
/- semvcs/lex.text -/
noncomputable def G_lex_text_l1 (s_8 : ByteArray) (at_9 : Int) : Int → Option (Int ⊕ (Unit ⊕ (Int × Int × Int × Int))) := fun end_10 =>
  lt ((ByteArray.size s_8 : Int)) fun x15 =>
  lt (decide (end_10 < x15)) fun x16 =>
  bif x16 then (
    bd (idxS s_8 end_10) fun x17 =>
    lt (decide (x17 = (34))) fun x18 =>
    bif x18 then (
      lt (IntKind.wrap .i64 (end_10 + (1))) fun x19 =>
      some (.inr (.inr ((6), x19, (0), (0))))
    ) else (
      lt (decide (x17 = (92))) fun x20 =>
      lt (decide (x17 = (9))) fun x21 =>
      lt (x20 || x21) fun x22 =>
      lt (decide (x17 = (10))) fun x23 =>
      lt (x22 || x23) fun x24 =>
      lt (decide (x17 = (13))) fun x25 =>
      lt (x24 || x25) fun x26 =>
      bif x26 then (
        some (.inr (.inr ((0), (0), at_9, (2))))
      ) else (
        bd (G_lex_allowed x17) fun x27 =>
        lt (!x27) fun x28 =>
        bif x28 then (
          some (.inr (.inr ((0), (0), end_10, (1))))
        ) else (
          lt (IntKind.wrap .i64 (end_10 + (1))) fun x29 =>
          some (.inl x29)
        )
      )
    )
  ) else (
    some (.inr (.inl ()))
  )
noncomputable def G_lex_text (s_5 : ByteArray) (at_6 : Int) : Option (Int × Int × Int × Int) :=
  lt (IntKind.wrap .i64 (at_6 + (1))) fun x7 =>
  bd (loopT (G_lex_text_l1 s_5 at_6) x7) fun r =>
  match r with
  | (.inl _) =>
    some ((0), (0), at_6, (2))
  | (.inr (x30, x31, x32, x33)) =>
    some (x30, x31, x32, x33)
/- internal/stringslite.IndexByte -/
noncomputable def G_stringslite_IndexByte (s_2 : ByteArray) (c_3 : Int) : Option Int :=
  bd (G_bytealg_IndexByteString s_2 c_3) fun x4 =>
  some x4
/- strings.IndexByte -/
noncomputable def G_strings_IndexByte (s_2 : ByteArray) (c_3 : Int) : Option Int :=
  bd (G_stringslite_IndexByte s_2 c_3) fun x4 =>
  some x4
/- semvcs/lex.token -/
noncomputable def G_lex_token_l1 (s_14 : ByteArray) (at_15 : Int) (c_17 : Int) : Int → Option (Int ⊕ Int) := fun end_16 =>
  lt ((ByteArray.size s_14 : Int)) fun x19 =>
  lt (decide (end_16 < x19)) fun x20 =>
  bd (bif x20 then idxS s_14 end_16 else some 0) fun x21 =>
  bd (bif x20 then G_lex_digit x21 else some false) fun x22 =>
  lt (x20 && x22) fun x23 =>
  bif x23 then (
    lt (IntKind.wrap .i64 (end_16 + (1))) fun x24 =>
    some (.inl x24)
  ) else (
    some (.inr end_16)
  )
noncomputable def G_lex_token (s_5 : ByteArray) (at_6 : Int) : Option (Int × Int × Int × Int) :=
  bd (idxS s_5 at_6) fun x7 =>
  bd (G_lex_letter x7) fun x8 =>
  bif x8 then (
    bd (G_lex_word s_5 at_6) fun (x9, x10, x11, x12) =>
    some (x9, x10, x11, x12)
  ) else (
    bd (G_lex_digit x7) fun x13 =>
    bif x13 then (
      bd (loopT (G_lex_token_l1 s_5 at_6 x7) at_6) fun end_25 =>
      lt (IntKind.wrap .i64 (at_6 + (1))) fun x26 =>
      lt (decide (x26 < end_25)) fun x27 =>
      lt (decide (x7 = (48))) fun x28 =>
      lt (x27 && x28) fun x29 =>
      bif x29 then (
        some ((0), (0), at_6, (2))
      ) else (
        lt (IntKind.wrap .i64 (end_25 - at_6)) fun x30 =>
        lt (decide ((15) < x30)) fun x31 =>
        bif x31 then (
          some ((0), (0), at_6, (3))
        ) else (
          some ((5), end_25, (0), (0))
        )
      )
    ) else (
      lt (decide (x7 = (34))) fun x32 =>
      bif x32 then (
        bd (G_lex_text s_5 at_6) fun (x33, x34, x35, x36) =>
        some (x33, x34, x35, x36)
      ) else (
        lt (decide (x7 = (61))) fun x37 =>
        lt (IntKind.wrap .i64 (at_6 + (1))) fun x38 =>
        lt ((ByteArray.size s_5 : Int)) fun x39 =>
        lt (decide (x38 < x39)) fun x40 =>
        lt (x37 && x40) fun x41 =>
        lt (IntKind.wrap .i64 (at_6 + (1))) fun x42 =>
        bd (bif x41 then idxS s_5 x42 else some 0) fun x43 =>
        lt (decide (x43 = (61))) fun x44 =>
        lt (x41 && x44) fun x45 =>
        bif x45 then (
          lt (IntKind.wrap .i64 (at_6 + (2))) fun x46 =>
          some ((8), x46, (0), (0))
        ) else (
          bd (G_strings_IndexByte (⟨#[40, 41, 91, 93, 58, 44, 61, 43, 45, 42, 60, 63]⟩ : ByteArray) x7) fun x47 =>
          lt (decide ((0) ≤ x47)) fun x48 =>
          bif x48 then (
            lt (IntKind.wrap .i64 (at_6 + (1))) fun x49 =>
            some ((8), x49, (0), (0))
          ) else (
            bd (G_lex_allowed x7) fun x50 =>
            lt (!x50) fun x51 =>
            bif x51 then (
              some ((0), (0), at_6, (1))
            ) else (
              some ((0), (0), at_6, (2))
            )
          )
        )
      )
    )
  )
/- semvcs/lex.Scan -/
noncomputable def G_lex_Scan_j1 (src_15 : ByteArray) (start_18 : Int) (l_32 : Sl) (pos_33 : Int) (comment_34 : Bool) (σ : AHeap) : Option ((Sl × Int × Bool × AHeap) ⊕ ((Sl × Int × AHeap) ⊕ (Sl × ByteArray × Int × Int × AHeap))) :=
  lt (IntKind.wrap .i64 (pos_33 + (1))) fun x35 =>
  some (.inl (l_32, x35, comment_34, σ))
noncomputable def G_lex_Scan_l2 (src_15 : ByteArray) (start_18 : Int) : (Sl × Int × Bool × AHeap) → Option ((Sl × Int × Bool × AHeap) ⊕ ((Sl × Int × AHeap) ⊕ (Sl × ByteArray × Int × Int × AHeap))) := fun (l_16, pos_17, comment_19, σ) =>
  lt ((ByteArray.size src_15 : Int)) fun x26 =>
  lt (decide (pos_17 < x26)) fun x27 =>
  bif x27 then (
    bd (idxS src_15 pos_17) fun x28 =>
    bd (G_lex_allowed x28) fun x29 =>
    lt (!x29) fun x30 =>
    bif x30 then (
      some (.inr (.inr (Sl.nil, (⟨#[]⟩ : ByteArray), pos_17, (1), σ)))
    ) else (
      bif comment_19 then (
        lt (decide (x28 ≠ (10))) fun x31 =>
        G_lex_Scan_j1 src_15 start_18 l_16 pos_17 x31 σ
      ) else (
        lt (decide (x28 = (35))) fun x36 =>
        bif x36 then (
          G_lex_Scan_j1 src_15 start_18 l_16 pos_17 true σ
        ) else (
          lt (decide (x28 ≠ (9))) fun x37 =>
          lt (decide (x28 ≠ (10))) fun x38 =>
          lt (x37 && x38) fun x39 =>
          lt (decide (x28 ≠ (13))) fun x40 =>
          lt (x39 && x40) fun x41 =>
          lt (decide (x28 ≠ (32))) fun x42 =>
          lt (x41 && x42) fun x43 =>
          bif x43 then (
            some (.inr (.inl (l_16, pos_17, σ)))
          ) else (
            lt (IntKind.wrap .i64 (pos_17 + (1))) fun x44 =>
            some (.inl (l_16, x44, comment_19, σ))
          )
        )
      )
    )
  ) else (
    some (.inr (.inl (l_16, pos_17, σ)))
  )
noncomputable def G_lex_Scan_j2 (src_8 : ByteArray) (l_48 : Sl) (pos_49 : Int) (start_50 : Int) (σ : AHeap) : Option ((Sl × Int × AHeap) ⊕ (Sl × ByteArray × Int × Int × AHeap)) :=
  lt ((ByteArray.size src_8 : Int)) fun x51 =>
  lt (decide (pos_49 = x51)) fun x52 =>
  bif x52 then (
    bd (slS src_8 (some start_50) none) fun x53 =>
    some (.inr (l_48, x53, (0), (0), σ))
  ) else (
    bd (G_lex_token src_8 pos_49) fun (x54, x55, x56, x57) =>
    lt (decide (x57 ≠ (0))) fun x58 =>
    bif x58 then (
      some (.inr (Sl.nil, (⟨#[]⟩ : ByteArray), x56, x57, σ))
    ) else (
      bd (slS src_8 (some start_50) (some pos_49)) fun x59 =>
      bd (slS src_8 (some pos_49) (some x55)) fun x60 =>
      lt (newSl σ T_semvcs_api_Token 1 [(Value.int .i64 x54), (Value.string x59), (Value.string x60)]) fun (x61, σ62) =>
      bd (apSl σ62 T_semvcs_api_Token 3 40 l_48 x61) fun (x63, σ64) =>
      some (.inl (x63, x55, σ64))
    )
  )
noncomputable def G_lex_Scan_l1 (src_8 : ByteArray) : (Sl × Int × AHeap) → Option ((Sl × Int × AHeap) ⊕ (Sl × ByteArray × Int × Int × AHeap)) := fun (l_9, pos_10, σ) =>
  bd (loopT (G_lex_Scan_l2 src_8 pos_10) (l_9, pos_10, false, σ)) fun r =>
  match r with
  | (.inl (l_45, pos_46, σ47)) =>
    G_lex_Scan_j2 src_8 l_45 pos_46 pos_10 σ47
  | (.inr (x65, x66, x67, x68, σ69)) =>
    some (.inr (x65, x66, x67, x68, σ69))
noncomputable def G_lex_Scan (src_5 : ByteArray) (σ : AHeap) : Option (Sl × ByteArray × Int × Int × AHeap) :=
  lt ((ByteArray.size src_5 : Int)) fun x6 =>
  lt (decide ((4096) < x6)) fun x7 =>
  bif x7 then (
    some (Sl.nil, (⟨#[]⟩ : ByteArray), (4096), (3), σ)
  ) else (
    bd (loopT (G_lex_Scan_l1 src_5) (Sl.nil, (0), σ)) fun (x70, x71, x72, x73, σ74) =>
    some (x70, x71, x72, x73, σ74)
  )
/- semvcs/lex.Class -/
noncomputable def G_lex_Class (text_2 : ByteArray) : Option Int :=
  lt (decide (text_2 = (⟨#[]⟩ : ByteArray))) fun x3 =>
  bif x3 then (
    some (0)
  ) else (
    bd (G_lex_token text_2 (0)) fun (x4, x5, x6, x7) =>
    lt (decide (x7 ≠ (0))) fun x8 =>
    lt ((ByteArray.size text_2 : Int)) fun x9 =>
    lt (decide (x5 ≠ x9)) fun x10 =>
    lt (x8 || x10) fun x11 =>
    bif x11 then (
      some (0)
    ) else (
      some x4
    )
  )
/- semvcs/lex.Fuses -/
noncomputable def G_lex_Fuses (a_2 : ByteArray) (b_3 : ByteArray) (σ : AHeap) : Option (Bool × AHeap) :=
  bd (G_lex_Class a_2) fun x4 =>
  lt (decide (x4 = (0))) fun x5 =>
  bd (bif !x5 then G_lex_Class b_3 else some 0) fun x6 =>
  lt (decide (x6 = (0))) fun x7 =>
  lt (x5 || x7) fun x8 =>
  bif x8 then (
    some (false, σ)
  ) else (
    bd (addS a_2 b_3) fun x9 =>
    bd (G_lex_Scan x9 σ) fun (x14, x15, x16, x17, σ18) =>
    lt (decide (x17 ≠ (0))) fun x19 =>
    lt ((Sl.n x14 : Int)) fun x20 =>
    lt (decide (x20 ≠ (2))) fun x21 =>
    lt (x19 || x21) fun x22 =>
    lt (decide (x15 ≠ (⟨#[]⟩ : ByteArray))) fun x23 =>
    lt (x22 || x23) fun x24 =>
    bd (bif !x24 then iaSl x14 3 (0) else some none) fun x25 =>
    bd (bif !x24 then offP x25 2 else some none) fun x26 =>
    bd (bif !x24 then ld_str σ18 x26 else some ByteArray.empty) fun x27 =>
    lt (decide (x27 ≠ a_2)) fun x28 =>
    lt (x24 || x28) fun x29 =>
    bd (bif !x29 then iaSl x14 3 (1) else some none) fun x30 =>
    bd (bif !x29 then offP x30 2 else some none) fun x31 =>
    bd (bif !x29 then ld_str σ18 x31 else some ByteArray.empty) fun x32 =>
    lt (decide (x32 ≠ b_3)) fun x33 =>
    lt (x29 || x33) fun x34 =>
    bd (bif !x34 then iaSl x14 3 (1) else some none) fun x35 =>
    bd (bif !x34 then offP x35 1 else some none) fun x36 =>
    bd (bif !x34 then ld_str σ18 x36 else some ByteArray.empty) fun x37 =>
    lt (decide (x37 ≠ (⟨#[]⟩ : ByteArray))) fun x38 =>
    lt (x34 || x38) fun x39 =>
    some (x39, σ18)
  )
/- semvcs/semvcslaw01.awake -/
noncomputable def G_semvcslaw01_awake (σ : AHeap) : Option (Bool × AHeap) :=
  bd (G_lex_Scan (⟨#[120, 32, 35, 97, 10, 43, 32, 49, 48, 32]⟩ : ByteArray) σ) fun (x6, x7, x8, x9, σ10) =>
  lt (decide (x9 = (0))) fun x11 =>
  lt (decide (x8 = (0))) fun x12 =>
  lt (x11 && x12) fun x13 =>
  lt (decide (x7 = (⟨#[32]⟩ : ByteArray))) fun x14 =>
  lt (x13 && x14) fun x15 =>
  lt ((Sl.n x6 : Int)) fun x16 =>
  lt (decide (x16 = (3))) fun x17 =>
  lt (x15 && x17) fun x18 =>
  bd (bif x18 then iaSl x6 3 (0) else some none) fun x19 =>
  bd (bif x18 then ld_i64_str_str σ10 x19 else some (0, ByteArray.empty, ByteArray.empty)) fun (x20, x21, x22) =>
  lt ((decide (x20 = (1)) && (decide (x21 = (ByteArray.empty)) && (decide (x22 = (⟨#[120]⟩ : ByteArray)) && true)))) fun x23 =>
  lt (x18 && x23) fun x24 =>
  bd (bif x24 then iaSl x6 3 (1) else some none) fun x25 =>
  bd (bif x24 then ld_i64_str_str σ10 x25 else some (0, ByteArray.empty, ByteArray.empty)) fun (x26, x27, x28) =>
  lt ((decide (x26 = (8)) && (decide (x27 = (⟨#[32, 35, 97, 10]⟩ : ByteArray)) && (decide (x28 = (⟨#[43]⟩ : ByteArray)) && true)))) fun x29 =>
  lt (x24 && x29) fun x30 =>
  bd (bif x30 then iaSl x6 3 (2) else some none) fun x31 =>
  bd (bif x30 then ld_i64_str_str σ10 x31 else some (0, ByteArray.empty, ByteArray.empty)) fun (x32, x33, x34) =>
  lt ((decide (x32 = (5)) && (decide (x33 = (⟨#[32]⟩ : ByteArray)) && (decide (x34 = (⟨#[49, 48]⟩ : ByteArray)) && true)))) fun x35 =>
  lt (x30 && x35) fun x36 =>
  bd (bif x36 then G_lex_Fuses (⟨#[120]⟩ : ByteArray) (⟨#[49]⟩ : ByteArray) σ10 else some (false, σ10)) fun (x38, σ39) =>
  lt (x36 && x38) fun x40 =>
  some (x40, σ39)
/- semvcs/semvcsref01.white -/
noncomputable def G_semvcsref01_white (c_2 : Int) : Option Bool :=
  lt (decide (c_2 = (9))) fun x3 =>
  lt (decide (c_2 = (10))) fun x4 =>
  lt (x3 || x4) fun x5 =>
  lt (decide (c_2 = (13))) fun x6 =>
  lt (x5 || x6) fun x7 =>
  lt (decide (c_2 = (32))) fun x8 =>
  lt (x7 || x8) fun x9 =>
  some x9
/- semvcs/semvcsref01.printed -/
noncomputable def G_semvcsref01_printed (c_2 : Int) : Option Bool :=
  lt (decide ((32) ≤ c_2)) fun x3 =>
  lt (decide (c_2 ≤ (126))) fun x4 =>
  lt (x3 && x4) fun x5 =>
  some x5
/- semvcs/semvcsref01.allowed -/
noncomputable def G_semvcsref01_allowed (c_2 : Int) : Option Bool :=
  bd (G_semvcsref01_white c_2) fun x3 =>
  bd (bif !x3 then G_semvcsref01_printed c_2 else some false) fun x4 =>
  lt (x3 || x4) fun x5 =>
  some x5
/- semvcs/semvcsref01.digit -/
noncomputable def G_semvcsref01_digit (c_2 : Int) : Option Bool :=
  lt (decide ((48) ≤ c_2)) fun x3 =>
  lt (decide (c_2 ≤ (57))) fun x4 =>
  lt (x3 && x4) fun x5 =>
  some x5
/- semvcs/semvcsref01.lower -/
noncomputable def G_semvcsref01_lower (c_2 : Int) : Option Bool :=
  lt (decide ((97) ≤ c_2)) fun x3 =>
  lt (decide (c_2 ≤ (122))) fun x4 =>
  lt (x3 && x4) fun x5 =>
  some x5
/- semvcs/semvcsref01.upper -/
noncomputable def G_semvcsref01_upper (c_2 : Int) : Option Bool :=
  lt (decide ((65) ≤ c_2)) fun x3 =>
  lt (decide (c_2 ≤ (90))) fun x4 =>
  lt (x3 && x4) fun x5 =>
  some x5
/- semvcs/semvcsref01.inWord -/
noncomputable def G_semvcsref01_inWord (c_2 : Int) : Option Bool :=
  bd (G_semvcsref01_lower c_2) fun x3 =>
  bd (bif !x3 then G_semvcsref01_upper c_2 else some false) fun x4 =>
  lt (x3 || x4) fun x5 =>
  bd (bif !x5 then G_semvcsref01_digit c_2 else some false) fun x6 =>
  lt (x5 || x6) fun x7 =>
  lt (decide (c_2 = (95))) fun x8 =>
  lt (x7 || x8) fun x9 =>
  some x9
/- semvcs/semvcsref01.word -/
noncomputable def G_semvcsref01_word_l1 (s_14 : ByteArray) (at_15 : Int) : Int → Option (Int ⊕ Int) := fun n_16 =>
  lt ((ByteArray.size s_14 : Int)) fun x18 =>
  lt (decide (n_16 < x18)) fun x19 =>
  bd (bif x19 then idxS s_14 n_16 else some 0) fun x20 =>
  bd (bif x19 then G_semvcsref01_inWord x20 else some false) fun x21 =>
  lt (x19 && x21) fun x22 =>
  bif x22 then (
    lt (IntKind.wrap .i64 (n_16 + (1))) fun x23 =>
    some (.inl x23)
  ) else (
    some (.inr n_16)
  )
noncomputable def G_semvcsref01_word (s_2 : ByteArray) (at_3 : Int) : Option Int :=
  lt ((ByteArray.size s_2 : Int)) fun x4 =>
  lt (decide (x4 ≤ at_3)) fun x5 =>
  bd (bif !x5 then idxS s_2 at_3 else some 0) fun x6 =>
  bd (bif !x5 then G_semvcsref01_lower x6 else some false) fun x7 =>
  lt (!x7) fun x8 =>
  bd (bif (!x5 && x8) then idxS s_2 at_3 else some 0) fun x9 =>
  bd (bif (!x5 && x8) then G_semvcsref01_upper x9 else some false) fun x10 =>
  lt (!x10) fun x11 =>
  lt (x8 && x11) fun x12 =>
  lt (x5 || x12) fun x13 =>
  bif x13 then (
    some (0)
  ) else (
    bd (loopT (G_semvcsref01_word_l1 s_2 at_3) at_3) fun n_24 =>
    lt (IntKind.wrap .i64 (n_24 - at_3)) fun x25 =>
    some x25
  )
/- semvcs/semvcsref01.reserved -/
noncomputable def G_semvcsref01_reserved_j1 (x16 : Bool) : Option Bool :=
  bif x16 then (
    some true
  ) else (
    some false
  )
noncomputable def G_semvcsref01_reserved (s_2 : ByteArray) : Option Bool :=
  lt (decide (s_2 = (⟨#[109, 111, 100, 117, 108, 101]⟩ : ByteArray))) fun x3 =>
  bif x3 then (
    some true
  ) else (
    lt (decide (s_2 = (⟨#[100, 101, 102]⟩ : ByteArray))) fun x4 =>
    bif x4 then (
      some true
    ) else (
      lt (decide (s_2 = (⟨#[116, 121, 112, 101]⟩ : ByteArray))) fun x5 =>
      bif x5 then (
        some true
      ) else (
        lt (decide (s_2 = (⟨#[108, 101, 116]⟩ : ByteArray))) fun x6 =>
        bif x6 then (
          some true
        ) else (
          lt (decide (s_2 = (⟨#[105, 110]⟩ : ByteArray))) fun x7 =>
          bif x7 then (
            some true
          ) else (
            lt (decide (s_2 = (⟨#[105, 102]⟩ : ByteArray))) fun x8 =>
            bif x8 then (
              some true
            ) else (
              lt (decide (s_2 = (⟨#[116, 104, 101, 110]⟩ : ByteArray))) fun x9 =>
              bif x9 then (
                some true
              ) else (
                lt (decide (s_2 = (⟨#[101, 108, 115, 101]⟩ : ByteArray))) fun x10 =>
                bif x10 then (
                  some true
                ) else (
                  lt (decide (s_2 = (⟨#[116, 114, 117, 101]⟩ : ByteArray))) fun x11 =>
                  bif x11 then (
                    some true
                  ) else (
                    lt (decide (s_2 = (⟨#[102, 97, 108, 115, 101]⟩ : ByteArray))) fun x12 =>
                    bif x12 then (
                      some true
                    ) else (
                      lt (decide (s_2 = (⟨#[73, 110, 116]⟩ : ByteArray))) fun x13 =>
                      bif x13 then (
                        some true
                      ) else (
                        lt (decide (s_2 = (⟨#[84, 101, 120, 116]⟩ : ByteArray))) fun x14 =>
                        bif x14 then (
                          some true
                        ) else (
                          lt (decide (s_2 = (⟨#[66, 111, 111, 108]⟩ : ByteArray))) fun x15 =>
                          G_semvcsref01_reserved_j1 x15
                        )
                      )
                    )
                  )
                )
              )
            )
          )
        )
      )
    )
  )
/- semvcs/semvcsref01.words -/
noncomputable def G_semvcsref01_words_j1 (at_37 : Int) (x38 : Option Addr) (n_39 : Int) (k_40 : Int) (second_41 : ByteArray) (kind_42 : Int) (σ : AHeap) : Option (Int × Int × Int × Int × AHeap) :=
  lt (decide ((24) < n_39)) fun x43 =>
  lt (decide ((24) < k_40)) fun x44 =>
  lt (x43 || x44) fun x45 =>
  bif x45 then (
    bd (stN σ x38 [(Value.int .i64 0), (Value.int .i64 0), (Value.int .i64 (3)), (Value.int .i64 at_37)]) fun σ46 =>
    bd (ld_i64_i64_i64_i64 σ46 x38) fun (x47, x48, x49, x50) =>
    some (x47, x48, x49, x50, σ46)
  ) else (
    bd (G_semvcsref01_reserved second_41) fun x51 =>
    bif x51 then (
      bd (stN σ x38 [(Value.int .i64 0), (Value.int .i64 0), (Value.int .i64 (2)), (Value.int .i64 at_37)]) fun σ52 =>
      bd (ld_i64_i64_i64_i64 σ52 x38) fun (x53, x54, x55, x56) =>
      some (x53, x54, x55, x56, σ52)
    ) else (
      lt (IntKind.wrap .i64 (n_39 + (1))) fun x57 =>
      lt (IntKind.wrap .i64 (x57 + k_40)) fun x58 =>
      bd (stN σ x38 [(Value.int .i64 x58), (Value.int .i64 kind_42), (Value.int .i64 0), (Value.int .i64 0)]) fun σ59 =>
      bd (ld_i64_i64_i64_i64 σ59 x38) fun (x60, x61, x62, x63) =>
      some (x60, x61, x62, x63, σ59)
    )
  )
noncomputable def G_semvcsref01_words (s_5 : ByteArray) (at_6 : Int) (σ : AHeap) : Option (Int × Int × Int × Int × AHeap) :=
  lt (newC σ T_semvcs_semvcsref01_Item [(Value.int .i64 0), (Value.int .i64 0), (Value.int .i64 0), (Value.int .i64 0)]) fun (x7, σ8) =>
  bd (G_semvcsref01_word s_5 at_6) fun x9 =>
  lt (IntKind.wrap .i64 (at_6 + x9)) fun x10 =>
  bd (slS s_5 (some at_6) (some x10)) fun x11 =>
  lt (IntKind.wrap .i64 (at_6 + x9)) fun x12 =>
  bd (idxS s_5 at_6) fun x13 =>
  bd (G_semvcsref01_upper x13) fun x14 =>
  bd (bif x14 then G_semvcsref01_reserved x11 else some false) fun x15 =>
  lt (!x15) fun x16 =>
  lt (x14 && x16) fun x17 =>
  lt (IntKind.wrap .i64 (x12 + (1))) fun x18 =>
  lt ((ByteArray.size s_5 : Int)) fun x19 =>
  lt (decide (x18 < x19)) fun x20 =>
  lt (x17 && x20) fun x21 =>
  bd (bif x21 then idxS s_5 x12 else some 0) fun x22 =>
  lt (decide (x22 = (46))) fun x23 =>
  lt (x21 && x23) fun x24 =>
  lt (IntKind.wrap .i64 (x12 + (1))) fun x25 =>
  bd (bif x24 then G_semvcsref01_word s_5 x25 else some 0) fun x26 =>
  lt (decide ((0) < x26)) fun x27 =>
  lt (x24 && x27) fun x28 =>
  bif x28 then (
    lt (IntKind.wrap .i64 (x12 + (1))) fun x29 =>
    bd (G_semvcsref01_word s_5 x29) fun x30 =>
    lt (IntKind.wrap .i64 (x12 + (1))) fun x31 =>
    lt (IntKind.wrap .i64 (x12 + (1))) fun x32 =>
    lt (IntKind.wrap .i64 (x32 + x30)) fun x33 =>
    bd (slS s_5 (some x31) (some x33)) fun x34 =>
    bd (idxS x34 (0)) fun x35 =>
    bd (G_semvcsref01_upper x35) fun x36 =>
    bif x36 then (
      G_semvcsref01_words_j1 at_6 x7 x9 x30 x34 (4) σ8
    ) else (
      lt (decide ((24) < x9)) fun x64 =>
      lt (decide ((24) < x30)) fun x65 =>
      lt (x64 || x65) fun x66 =>
      bif x66 then (
        bd (stN σ8 x7 [(Value.int .i64 0), (Value.int .i64 0), (Value.int .i64 (3)), (Value.int .i64 at_6)]) fun σ67 =>
        bd (ld_i64_i64_i64_i64 σ67 x7) fun (x68, x69, x70, x71) =>
        some (x68, x69, x70, x71, σ67)
      ) else (
        bd (G_semvcsref01_reserved x34) fun x72 =>
        bif x72 then (
          bd (stN σ8 x7 [(Value.int .i64 0), (Value.int .i64 0), (Value.int .i64 (2)), (Value.int .i64 at_6)]) fun σ73 =>
          bd (ld_i64_i64_i64_i64 σ73 x7) fun (x74, x75, x76, x77) =>
          some (x74, x75, x76, x77, σ73)
        ) else (
          lt (IntKind.wrap .i64 (x9 + (1))) fun x78 =>
          lt (IntKind.wrap .i64 (x78 + x30)) fun x79 =>
          bd (stN σ8 x7 [(Value.int .i64 x79), (Value.int .i64 (3)), (Value.int .i64 0), (Value.int .i64 0)]) fun σ80 =>
          bd (ld_i64_i64_i64_i64 σ80 x7) fun (x81, x82, x83, x84) =>
          some (x81, x82, x83, x84, σ80)
        )
      )
    )
  ) else (
    lt (decide ((24) < x9)) fun x85 =>
    bif x85 then (
      bd (stN σ8 x7 [(Value.int .i64 0), (Value.int .i64 0), (Value.int .i64 (3)), (Value.int .i64 at_6)]) fun σ86 =>
      bd (ld_i64_i64_i64_i64 σ86 x7) fun (x87, x88, x89, x90) =>
      some (x87, x88, x89, x90, σ86)
    ) else (
      bd (G_semvcsref01_reserved x11) fun x91 =>
      bif x91 then (
        bd (stN σ8 x7 [(Value.int .i64 x9), (Value.int .i64 (7)), (Value.int .i64 0), (Value.int .i64 0)]) fun σ92 =>
        bd (ld_i64_i64_i64_i64 σ92 x7) fun (x93, x94, x95, x96) =>
        some (x93, x94, x95, x96, σ92)
      ) else (
        bd (idxS s_5 at_6) fun x97 =>
        bd (G_semvcsref01_upper x97) fun x98 =>
        bif x98 then (
          bd (stN σ8 x7 [(Value.int .i64 x9), (Value.int .i64 (2)), (Value.int .i64 0), (Value.int .i64 0)]) fun σ99 =>
          bd (ld_i64_i64_i64_i64 σ99 x7) fun (x100, x101, x102, x103) =>
          some (x100, x101, x102, x103, σ99)
        ) else (
          bd (stN σ8 x7 [(Value.int .i64 x9), (Value.int .i64 (1)), (Value.int .i64 0), (Value.int .i64 0)]) fun σ104 =>
          bd (ld_i64_i64_i64_i64 σ104 x7) fun (x105, x106, x107, x108) =>
          some (x105, x106, x107, x108, σ104)
        )
      )
    )
  )
/- semvcs/semvcsref01.sign -/
noncomputable def G_semvcsref01_sign_j1 (x24 : Bool) : Option Int :=
  bif x24 then (
    some (1)
  ) else (
    some (0)
  )
noncomputable def G_semvcsref01_sign (s_2 : ByteArray) (at_3 : Int) : Option Int :=
  bd (idxS s_2 at_3) fun x4 =>
  lt (decide (x4 = (61))) fun x5 =>
  bif x5 then (
    lt (IntKind.wrap .i64 (at_3 + (1))) fun x6 =>
    lt ((ByteArray.size s_2 : Int)) fun x7 =>
    lt (decide (x6 < x7)) fun x8 =>
    lt (IntKind.wrap .i64 (at_3 + (1))) fun x9 =>
    bd (bif x8 then idxS s_2 x9 else some 0) fun x10 =>
    lt (decide (x10 = (61))) fun x11 =>
    lt (x8 && x11) fun x12 =>
    bif x12 then (
      some (2)
    ) else (
      some (1)
    )
  ) else (
    lt (decide (x4 = (40))) fun x13 =>
    bif x13 then (
      some (1)
    ) else (
      lt (decide (x4 = (41))) fun x14 =>
      bif x14 then (
        some (1)
      ) else (
        lt (decide (x4 = (91))) fun x15 =>
        bif x15 then (
          some (1)
        ) else (
          lt (decide (x4 = (93))) fun x16 =>
          bif x16 then (
            some (1)
          ) else (
            lt (decide (x4 = (58))) fun x17 =>
            bif x17 then (
              some (1)
            ) else (
              lt (decide (x4 = (44))) fun x18 =>
              bif x18 then (
                some (1)
              ) else (
                lt (decide (x4 = (43))) fun x19 =>
                bif x19 then (
                  some (1)
                ) else (
                  lt (decide (x4 = (45))) fun x20 =>
                  bif x20 then (
                    some (1)
                  ) else (
                    lt (decide (x4 = (42))) fun x21 =>
                    bif x21 then (
                      some (1)
                    ) else (
                      lt (decide (x4 = (60))) fun x22 =>
                      bif x22 then (
                        some (1)
                      ) else (
                        lt (decide (x4 = (63))) fun x23 =>
                        G_semvcsref01_sign_j1 x23
                      )
                    )
                  )
                )
              )
            )
          )
        )
      )
    )
  )
/- semvcs/semvcsref01.next -/
noncomputable def G_semvcsref01_next_l1 (s_19 : ByteArray) (at_20 : Int) (x21 : Option Addr) : (Int × AHeap) → Option ((Int × AHeap) ⊕ (AHeap ⊕ (Int × Int × Int × Int × AHeap))) := fun (n_22, σ) =>
  lt ((ByteArray.size s_19 : Int)) fun x27 =>
  lt (decide (n_22 < x27)) fun x28 =>
  bif x28 then (
    bd (idxS s_19 n_22) fun x29 =>
    lt (decide (x29 = (34))) fun x30 =>
    bif x30 then (
      lt (IntKind.wrap .i64 (n_22 + (1))) fun x31 =>
      lt (IntKind.wrap .i64 (x31 - at_20)) fun x32 =>
      bd (stN σ x21 [(Value.int .i64 x32), (Value.int .i64 (6)), (Value.int .i64 0), (Value.int .i64 0)]) fun σ33 =>
      bd (ld_i64_i64_i64_i64 σ33 x21) fun (x34, x35, x36, x37) =>
      some (.inr (.inr (x34, x35, x36, x37, σ33)))
    ) else (
      bd (idxS s_19 n_22) fun x38 =>
      bd (G_semvcsref01_allowed x38) fun x39 =>
      lt (!x39) fun x40 =>
      bif x40 then (
        bd (stN σ x21 [(Value.int .i64 0), (Value.int .i64 0), (Value.int .i64 (1)), (Value.int .i64 n_22)]) fun σ41 =>
        bd (ld_i64_i64_i64_i64 σ41 x21) fun (x42, x43, x44, x45) =>
        some (.inr (.inr (x42, x43, x44, x45, σ41)))
      ) else (
        bd (idxS s_19 n_22) fun x46 =>
        bd (G_semvcsref01_printed x46) fun x47 =>
        lt (!x47) fun x48 =>
        bd (bif !x48 then idxS s_19 n_22 else some 0) fun x49 =>
        lt (decide (x49 = (92))) fun x50 =>
        lt (x48 || x50) fun x51 =>
        bif x51 then (
          bd (stN σ x21 [(Value.int .i64 0), (Value.int .i64 0), (Value.int .i64 (2)), (Value.int .i64 at_20)]) fun σ52 =>
          bd (ld_i64_i64_i64_i64 σ52 x21) fun (x53, x54, x55, x56) =>
          some (.inr (.inr (x53, x54, x55, x56, σ52)))
        ) else (
          lt (IntKind.wrap .i64 (n_22 + (1))) fun x57 =>
          some (.inl (x57, σ))
        )
      )
    )
  ) else (
    some (.inr (.inl σ))
  )
noncomputable def G_semvcsref01_next_l2 (s_70 : ByteArray) (at_71 : Int) (x72 : Option Addr) (c_73 : Int) : (Int × AHeap) → Option ((Int × AHeap) ⊕ (Int × AHeap)) := fun (n_74, σ) =>
  lt ((ByteArray.size s_70 : Int)) fun x76 =>
  lt (decide (n_74 < x76)) fun x77 =>
  bd (bif x77 then idxS s_70 n_74 else some 0) fun x78 =>
  bd (bif x77 then G_semvcsref01_digit x78 else some false) fun x79 =>
  lt (x77 && x79) fun x80 =>
  bif x80 then (
    lt (IntKind.wrap .i64 (n_74 + (1))) fun x81 =>
    some (.inl (x81, σ))
  ) else (
    some (.inr (n_74, σ))
  )
noncomputable def G_semvcsref01_next (s_5 : ByteArray) (at_6 : Int) (σ : AHeap) : Option (Int × Int × Int × Int × AHeap) :=
  lt (newC σ T_semvcs_semvcsref01_Item [(Value.int .i64 0), (Value.int .i64 0), (Value.int .i64 0), (Value.int .i64 0)]) fun (x7, σ8) =>
  bd (idxS s_5 at_6) fun x9 =>
  bd (G_semvcsref01_allowed x9) fun x10 =>
  lt (!x10) fun x11 =>
  bif x11 then (
    bd (stN σ8 x7 [(Value.int .i64 0), (Value.int .i64 0), (Value.int .i64 (1)), (Value.int .i64 at_6)]) fun σ12 =>
    bd (ld_i64_i64_i64_i64 σ12 x7) fun (x13, x14, x15, x16) =>
    some (x13, x14, x15, x16, σ12)
  ) else (
    lt (decide (x9 = (34))) fun x17 =>
    bif x17 then (
      lt (IntKind.wrap .i64 (at_6 + (1))) fun x18 =>
      bd (loopT (G_semvcsref01_next_l1 s_5 at_6 x7) (x18, σ8)) fun r =>
      match r with
      | (.inl σ58) =>
        bd (stN σ58 x7 [(Value.int .i64 0), (Value.int .i64 0), (Value.int .i64 (2)), (Value.int .i64 at_6)]) fun σ59 =>
        bd (ld_i64_i64_i64_i64 σ59 x7) fun (x60, x61, x62, x63) =>
        some (x60, x61, x62, x63, σ59)
      | (.inr (x64, x65, x66, x67, σ68)) =>
        some (x64, x65, x66, x67, σ68)
    ) else (
      bd (G_semvcsref01_digit x9) fun x69 =>
      bif x69 then (
        bd (loopT (G_semvcsref01_next_l2 s_5 at_6 x7 x9) (at_6, σ8)) fun (n_82, σ83) =>
        lt (IntKind.wrap .i64 (n_82 - at_6)) fun x84 =>
        lt (decide ((1) < x84)) fun x85 =>
        lt (decide (x9 = (48))) fun x86 =>
        lt (x85 && x86) fun x87 =>
        bif x87 then (
          bd (stN σ83 x7 [(Value.int .i64 0), (Value.int .i64 0), (Value.int .i64 (2)), (Value.int .i64 at_6)]) fun σ88 =>
          bd (ld_i64_i64_i64_i64 σ88 x7) fun (x89, x90, x91, x92) =>
          some (x89, x90, x91, x92, σ88)
        ) else (
          lt (IntKind.wrap .i64 (n_82 - at_6)) fun x93 =>
          lt (decide ((15) < x93)) fun x94 =>
          bif x94 then (
            bd (stN σ83 x7 [(Value.int .i64 0), (Value.int .i64 0), (Value.int .i64 (3)), (Value.int .i64 at_6)]) fun σ95 =>
            bd (ld_i64_i64_i64_i64 σ95 x7) fun (x96, x97, x98, x99) =>
            some (x96, x97, x98, x99, σ95)
          ) else (
            lt (IntKind.wrap .i64 (n_82 - at_6)) fun x100 =>
            bd (stN σ83 x7 [(Value.int .i64 x100), (Value.int .i64 (5)), (Value.int .i64 0), (Value.int .i64 0)]) fun σ101 =>
            bd (ld_i64_i64_i64_i64 σ101 x7) fun (x102, x103, x104, x105) =>
            some (x102, x103, x104, x105, σ101)
          )
        )
      ) else (
        bd (G_semvcsref01_lower x9) fun x106 =>
        bd (bif !x106 then G_semvcsref01_upper x9 else some false) fun x107 =>
        lt (x106 || x107) fun x108 =>
        bif x108 then (
          bd (G_semvcsref01_words s_5 at_6 σ8) fun (x113, x114, x115, x116, σ117) =>
          bd (stN σ117 x7 [(Value.int .i64 x113), (Value.int .i64 x114), (Value.int .i64 x115), (Value.int .i64 x116)]) fun σ118 =>
          bd (ld_i64_i64_i64_i64 σ118 x7) fun (x119, x120, x121, x122) =>
          some (x119, x120, x121, x122, σ118)
        ) else (
          bd (G_semvcsref01_sign s_5 at_6) fun x123 =>
          lt (decide (x123 = (0))) fun x124 =>
          bif x124 then (
            bd (stN σ8 x7 [(Value.int .i64 0), (Value.int .i64 0), (Value.int .i64 (2)), (Value.int .i64 at_6)]) fun σ125 =>
            bd (ld_i64_i64_i64_i64 σ125 x7) fun (x126, x127, x128, x129) =>
            some (x126, x127, x128, x129, σ125)
          ) else (
            bd (stN σ8 x7 [(Value.int .i64 x123), (Value.int .i64 (8)), (Value.int .i64 0), (Value.int .i64 0)]) fun σ130 =>
            bd (ld_i64_i64_i64_i64 σ130 x7) fun (x131, x132, x133, x134) =>
            some (x131, x132, x133, x134, σ130)
          )
        )
      )
    )
  )
/- semvcs/semvcsref01.lead -/
noncomputable def G_semvcsref01_lead_l2 (s_18 : ByteArray) (at_19 : Int) : Int → Option (Int ⊕ (Int ⊕ (Int × Int))) := fun n_20 =>
  lt ((ByteArray.size s_18 : Int)) fun x24 =>
  lt (decide (n_20 < x24)) fun x25 =>
  bd (bif x25 then idxS s_18 n_20 else some 0) fun x26 =>
  lt (decide (x26 ≠ (10))) fun x27 =>
  lt (x25 && x27) fun x28 =>
  bif x28 then (
    bd (idxS s_18 n_20) fun x29 =>
    bd (G_semvcsref01_allowed x29) fun x30 =>
    lt (!x30) fun x31 =>
    bif x31 then (
      lt (IntKind.wrap .i64 (n_20 - at_19)) fun x32 =>
      some (.inr (.inr (x32, n_20)))
    ) else (
      lt (IntKind.wrap .i64 (n_20 + (1))) fun x33 =>
      some (.inl x33)
    )
  ) else (
    some (.inr (.inl n_20))
  )
noncomputable def G_semvcsref01_lead_l1 (s_5 : ByteArray) (at_6 : Int) : Int → Option (Int ⊕ (Int ⊕ (Int × Int))) := fun n_7 =>
  lt ((ByteArray.size s_5 : Int)) fun x11 =>
  lt (decide (n_7 < x11)) fun x12 =>
  bif x12 then (
    bd (idxS s_5 n_7) fun x13 =>
    bd (G_semvcsref01_white x13) fun x14 =>
    bif x14 then (
      lt (IntKind.wrap .i64 (n_7 + (1))) fun x15 =>
      some (.inl x15)
    ) else (
      bd (idxS s_5 n_7) fun x16 =>
      lt (decide (x16 = (35))) fun x17 =>
      bif x17 then (
        bd (loopT (G_semvcsref01_lead_l2 s_5 at_6) n_7) fun r =>
        match r with
        | (.inl n_34) =>
          some (.inl n_34)
        | (.inr (x35, x36)) =>
          some (.inr (.inr (x35, x36)))
      ) else (
        lt (IntKind.wrap .i64 (n_7 - at_6)) fun x37 =>
        some (.inr (.inr (x37, (-1))))
      )
    )
  ) else (
    some (.inr (.inl n_7))
  )
noncomputable def G_semvcsref01_lead (s_3 : ByteArray) (at_4 : Int) : Option (Int × Int) :=
  bd (loopT (G_semvcsref01_lead_l1 s_3 at_4) at_4) fun r =>
  match r with
  | (.inl n_38) =>
    lt (IntKind.wrap .i64 (n_38 - at_4)) fun x39 =>
    some (x39, (-1))
  | (.inr (x40, x41)) =>
    some (x40, x41)
/- semvcs/semvcsref01.scan -/
noncomputable def G_semvcsref01_scan_l1 (src_6 : ByteArray) : (Sl × Int × AHeap) → Option ((Sl × Int × AHeap) ⊕ (Sl × ByteArray × Int × Int × AHeap)) := fun (l_7, at_8, σ) =>
  bd (G_semvcsref01_lead src_6 at_8) fun (x13, x14) =>
  lt (decide ((0) ≤ x14)) fun x15 =>
  bif x15 then (
    some (.inr (Sl.nil, (⟨#[]⟩ : ByteArray), x14, (1), σ))
  ) else (
    lt (IntKind.wrap .i64 (at_8 + x13)) fun x16 =>
    lt ((ByteArray.size src_6 : Int)) fun x17 =>
    lt (decide (x16 = x17)) fun x18 =>
    bif x18 then (
      bd (slS src_6 (some at_8) none) fun x19 =>
      some (.inr (l_7, x19, (0), (0), σ))
    ) else (
      lt (IntKind.wrap .i64 (at_8 + x13)) fun x20 =>
      bd (G_semvcsref01_next src_6 x20 σ) fun (x25, x26, x27, x28, σ29) =>
      lt (newC σ29 T_semvcs_semvcsref01_Item [(Value.int .i64 0), (Value.int .i64 0), (Value.int .i64 0), (Value.int .i64 0)]) fun (x_30, σ31) =>
      bd (stN σ31 x_30 [(Value.int .i64 x25), (Value.int .i64 x26), (Value.int .i64 x27), (Value.int .i64 x28)]) fun σ32 =>
      bd (offP x_30 2) fun x33 =>
      bd (ld_i64 σ32 x33) fun x34 =>
      lt (decide (x34 ≠ (0))) fun x35 =>
      bif x35 then (
        bd (offP x_30 3) fun x36 =>
        bd (ld_i64 σ32 x36) fun x37 =>
        bd (offP x_30 2) fun x38 =>
        bd (ld_i64 σ32 x38) fun x39 =>
        some (.inr (Sl.nil, (⟨#[]⟩ : ByteArray), x37, x39, σ32))
      ) else (
        bd (offP x_30 1) fun x40 =>
        bd (ld_i64 σ32 x40) fun x41 =>
        lt (IntKind.wrap .i64 (at_8 + x13)) fun x42 =>
        bd (slS src_6 (some at_8) (some x42)) fun x43 =>
        lt (IntKind.wrap .i64 (at_8 + x13)) fun x44 =>
        lt (IntKind.wrap .i64 (at_8 + x13)) fun x45 =>
        bd (offP x_30 0) fun x46 =>
        bd (ld_i64 σ32 x46) fun x47 =>
        lt (IntKind.wrap .i64 (x45 + x47)) fun x48 =>
        bd (slS src_6 (some x44) (some x48)) fun x49 =>
        lt (newSl σ32 T_semvcs_api_Token 1 [(Value.int .i64 x41), (Value.string x43), (Value.string x49)]) fun (x50, σ51) =>
        bd (apSl σ51 T_semvcs_api_Token 3 40 l_7 x50) fun (x52, σ53) =>
        lt (IntKind.wrap .i64 (at_8 + x13)) fun x54 =>
        bd (offP x_30 0) fun x55 =>
        bd (ld_i64 σ53 x55) fun x56 =>
        lt (IntKind.wrap .i64 (x54 + x56)) fun x57 =>
        some (.inl (x52, x57, σ53))
      )
    )
  )
noncomputable def G_semvcsref01_scan (src_5 : ByteArray) (σ : AHeap) : Option (Sl × ByteArray × Int × Int × AHeap) :=
  bd (loopT (G_semvcsref01_scan_l1 src_5) (Sl.nil, (0), σ)) fun (x58, x59, x60, x61, σ62) =>
  some (x58, x59, x60, x61, σ62)
/- semvcs/semvcsref01.Scan -/
noncomputable def G_semvcsref01_Scan (src_5 : ByteArray) (σ : AHeap) : Option (Sl × ByteArray × Int × Int × AHeap) :=
  lt ((ByteArray.size src_5 : Int)) fun x6 =>
  lt (decide ((4096) < x6)) fun x7 =>
  bif x7 then (
    some (Sl.nil, (⟨#[]⟩ : ByteArray), (4096), (3), σ)
  ) else (
    bd (G_semvcsref01_scan src_5 σ) fun (x12, x13, x14, x15, σ16) =>
    some (x12, x13, x14, x15, σ16)
  )
/- semvcs/semvcsref01.Same -/
noncomputable def G_semvcsref01_Same_l1 (a_7 : Sl) (b_8 : Sl) (σ : AHeap) : Int → Option (Int ⊕ (Unit ⊕ Bool)) := fun i_9 =>
  lt ((Sl.n a_7 : Int)) fun x11 =>
  lt (decide (i_9 < x11)) fun x12 =>
  bif x12 then (
    bd (iaSl a_7 3 i_9) fun x13 =>
    bd (ld_i64_str_str σ x13) fun (x14, x15, x16) =>
    bd (iaSl b_8 3 i_9) fun x17 =>
    bd (ld_i64_str_str σ x17) fun (x18, x19, x20) =>
    lt (!(decide (x14 = x18) && (decide (x15 = x19) && (decide (x16 = x20) && true)))) fun x21 =>
    bif x21 then (
      some (.inr (.inr false))
    ) else (
      lt (IntKind.wrap .i64 (i_9 + (1))) fun x22 =>
      some (.inl x22)
    )
  ) else (
    some (.inr (.inl ()))
  )
noncomputable def G_semvcsref01_Same (a_2 : Sl) (b_3 : Sl) (σ : AHeap) : Option Bool :=
  lt ((Sl.n a_2 : Int)) fun x4 =>
  lt ((Sl.n b_3 : Int)) fun x5 =>
  lt (decide (x4 ≠ x5)) fun x6 =>
  bif x6 then (
    some false
  ) else (
    bd (loopT (G_semvcsref01_Same_l1 a_2 b_3 σ) (0)) fun r =>
    match r with
    | (.inl _) =>
      some true
    | (.inr x23) =>
      some x23
  )
/- semvcs/semvcslaw01.LexScans -/
noncomputable def G_semvcslaw01_LexScans (src_2 : ByteArray) (σ : AHeap) : Option (Bool × AHeap) :=
  lt ((ByteArray.size src_2 : Int)) fun x3 =>
  lt (decide ((6000) < x3)) fun x4 =>
  bif x4 then (
    bd (G_semvcslaw01_awake σ) fun (x6, σ7) =>
    some (x6, σ7)
  ) else (
    bd (G_lex_Scan src_2 σ) fun (x12, x13, x14, x15, σ16) =>
    bd (G_semvcsref01_Scan src_2 σ16) fun (x21, x22, x23, x24, σ25) =>
    bd (G_semvcslaw01_awake σ25) fun (x27, σ28) =>
    bd (bif x27 then G_semvcsref01_Same x12 x21 σ28 else some false) fun x29 =>
    lt (x27 && x29) fun x30 =>
    lt (decide (x13 = x22)) fun x31 =>
    lt (x30 && x31) fun x32 =>
    lt (decide (x14 = x23)) fun x33 =>
    lt (x32 && x33) fun x34 =>
    lt (decide (x15 = x24)) fun x35 =>
    lt (x34 && x35) fun x36 =>
    some (x36, σ28)
  )
/- semvcs/semvcsref01.Class -/
noncomputable def G_semvcsref01_Class (text_2 : ByteArray) (σ : AHeap) : Option (Int × AHeap) :=
  lt (decide (text_2 = (⟨#[]⟩ : ByteArray))) fun x3 =>
  bd (bif !x3 then idxS text_2 (0) else some 0) fun x4 =>
  bd (bif !x3 then G_semvcsref01_white x4 else some false) fun x5 =>
  lt (x3 || x5) fun x6 =>
  bd (bif !x6 then idxS text_2 (0) else some 0) fun x7 =>
  lt (decide (x7 = (35))) fun x8 =>
  lt (x6 || x8) fun x9 =>
  bif x9 then (
    some ((0), σ)
  ) else (
    bd (G_semvcsref01_next text_2 (0) σ) fun (x14, x15, x16, x17, σ18) =>
    lt (newC σ18 T_semvcs_semvcsref01_Item [(Value.int .i64 0), (Value.int .i64 0), (Value.int .i64 0), (Value.int .i64 0)]) fun (x_19, σ20) =>
    bd (stN σ20 x_19 [(Value.int .i64 x14), (Value.int .i64 x15), (Value.int .i64 x16), (Value.int .i64 x17)]) fun σ21 =>
    bd (offP x_19 2) fun x22 =>
    bd (ld_i64 σ21 x22) fun x23 =>
    lt (decide (x23 ≠ (0))) fun x24 =>
    bd (bif !x24 then offP x_19 0 else some none) fun x25 =>
    bd (bif !x24 then ld_i64 σ21 x25 else some 0) fun x26 =>
    lt ((ByteArray.size text_2 : Int)) fun x27 =>
    lt (decide (x26 ≠ x27)) fun x28 =>
    lt (x24 || x28) fun x29 =>
    bif x29 then (
      some ((0), σ21)
    ) else (
      bd (offP x_19 1) fun x30 =>
      bd (ld_i64 σ21 x30) fun x31 =>
      some (x31, σ21)
    )
  )
/- semvcs/semvcslaw01.LexClasses -/
noncomputable def G_semvcslaw01_LexClasses (text_2 : ByteArray) (σ : AHeap) : Option (Bool × AHeap) :=
  bd (G_semvcslaw01_awake σ) fun (x4, σ5) =>
  bd (bif x4 then G_lex_Class text_2 else some 0) fun x6 =>
  bd (bif x4 then G_semvcsref01_Class text_2 σ5 else some (0, σ5)) fun (x8, σ9) =>
  lt (decide (x6 = x8)) fun x10 =>
  lt (x4 && x10) fun x11 =>
  some (x11, σ9)
/- semvcs/semvcsmake.Mod -/
noncomputable def G_semvcsmake_Mod_j1 (n_7 : Int) : Option Int :=
  some n_7
noncomputable def G_semvcsmake_Mod (n_2 : Int) (m_3 : Int) : Option Int :=
  bd (remI n_2 m_3) fun x4 =>
  lt (decide (x4 < (0))) fun x5 =>
  bif x5 then (
    lt (IntKind.wrap .i64 (x4 + m_3)) fun x6 =>
    G_semvcsmake_Mod_j1 x6
  ) else (
    some x4
  )
/- semvcs/semvcslaw01.many -/
noncomputable def G_semvcslaw01_many_l1 (c_4 : Int) (n_5 : Int) : (Sl × Int × AHeap) → Option ((Sl × Int × AHeap) ⊕ (Sl × AHeap)) := fun (b_6, i_7, σ) =>
  lt (decide (i_7 < n_5)) fun x9 =>
  bif x9 then (
    lt (newSl σ T_u8 1 [(Value.int .u8 c_4)]) fun (x10, σ11) =>
    bd (apSl σ11 T_u8 1 1 b_6 x10) fun (x12, σ13) =>
    lt (IntKind.wrap .i64 (i_7 + (1))) fun x14 =>
    some (.inl (x12, x14, σ13))
  ) else (
    some (.inr (b_6, σ))
  )
noncomputable def G_semvcslaw01_many (c_2 : Int) (n_3 : Int) (σ : AHeap) : Option (ByteArray × AHeap) :=
  bd (loopT (G_semvcslaw01_many_l1 c_2 n_3) (Sl.nil, (0), σ)) fun (b_15, σ16) =>
  bd (strOf σ16 b_15) fun x17 =>
  some (x17, σ16)
/- semvcs/semvcslaw01.LexLimits -/
noncomputable def G_semvcslaw01_LexLimits (n_2 : Int) (c_3 : Int) (σ : AHeap) : Option (Bool × AHeap) :=
  bd (G_semvcsmake_Mod n_2 (60)) fun x4 =>
  lt (IntKind.wrap .i64 ((1) + x4)) fun x5 =>
  lt (Int.tmod c_3 (26)) fun x6 =>
  lt (IntKind.wrap .u8 ((97) + x6)) fun x7 =>
  bd (G_semvcslaw01_many x7 x5 σ) fun (x9, σ10) =>
  lt (Int.tmod c_3 (9)) fun x11 =>
  lt (IntKind.wrap .u8 ((49) + x11)) fun x12 =>
  bd (G_semvcslaw01_many x12 x5 σ10) fun (x14, σ15) =>
  bd (addS (⟨#[32]⟩ : ByteArray) x9) fun x16 =>
  bd (G_lex_Scan x16 σ15) fun (x21, x22, x23, x24, σ25) =>
  bd (addS (⟨#[32]⟩ : ByteArray) x14) fun x26 =>
  bd (G_lex_Scan x26 σ25) fun (x31, x32, x33, x34, σ35) =>
  bd (addS (⟨#[77, 46]⟩ : ByteArray) x9) fun x36 =>
  bd (addS x36 (⟨#[57]⟩ : ByteArray)) fun x37 =>
  bd (G_lex_Scan x37 σ35) fun (x42, x43, x44, x45, σ46) =>
  lt (decide (x5 ≤ (24))) fun x47 =>
  lt (decide (x5 ≤ (15))) fun x48 =>
  lt (IntKind.wrap .i64 (x5 + (1))) fun x49 =>
  lt (decide (x49 ≤ (24))) fun x50 =>
  bd (G_semvcslaw01_awake σ46) fun (x52, σ53) =>
  lt (decide (x24 = (0))) fun x54 =>
  lt (x54 == x47) fun x55 =>
  lt (x52 && x55) fun x56 =>
  lt (decide (x34 = (0))) fun x57 =>
  lt (x57 == x48) fun x58 =>
  lt (x56 && x58) fun x59 =>
  lt (decide (x45 = (0))) fun x60 =>
  lt (x60 == x50) fun x61 =>
  lt (x59 && x61) fun x62 =>
  lt (decide (x24 = (3))) fun x63 =>
  lt (decide (x23 = (1))) fun x64 =>
  lt (x63 && x64) fun x65 =>
  lt (x47 || x65) fun x66 =>
  lt (x62 && x66) fun x67 =>
  lt (decide (x34 = (3))) fun x68 =>
  lt (decide (x33 = (1))) fun x69 =>
  lt (x68 && x69) fun x70 =>
  lt (x48 || x70) fun x71 =>
  lt (x67 && x71) fun x72 =>
  lt (!x48) fun x73 =>
  lt ((Sl.n x31 : Int)) fun x74 =>
  lt (decide (x74 = (1))) fun x75 =>
  bd (bif ((x72 && !x73) && x75) then iaSl x31 3 (0) else some none) fun x76 =>
  bd (bif ((x72 && !x73) && x75) then offP x76 2 else some none) fun x77 =>
  bd (bif ((x72 && !x73) && x75) then ld_str σ53 x77 else some ByteArray.empty) fun x78 =>
  lt (decide (x78 = x14)) fun x79 =>
  lt (x75 && x79) fun x80 =>
  lt (x73 || x80) fun x81 =>
  lt (x72 && x81) fun x82 =>
  lt (!x47) fun x83 =>
  lt ((Sl.n x21 : Int)) fun x84 =>
  lt (decide (x84 = (1))) fun x85 =>
  bd (bif ((x82 && !x83) && x85) then iaSl x21 3 (0) else some none) fun x86 =>
  bd (bif ((x82 && !x83) && x85) then offP x86 2 else some none) fun x87 =>
  bd (bif ((x82 && !x83) && x85) then ld_str σ53 x87 else some ByteArray.empty) fun x88 =>
  lt (decide (x88 = x9)) fun x89 =>
  lt (x85 && x89) fun x90 =>
  lt (x83 || x90) fun x91 =>
  lt (x82 && x91) fun x92 =>
  lt (!x50) fun x93 =>
  lt ((Sl.n x42 : Int)) fun x94 =>
  lt (decide (x94 = (1))) fun x95 =>
  bd (bif ((x92 && !x93) && x95) then iaSl x42 3 (0) else some none) fun x96 =>
  bd (bif ((x92 && !x93) && x95) then offP x96 0 else some none) fun x97 =>
  bd (bif ((x92 && !x93) && x95) then ld_i64 σ53 x97 else some 0) fun x98 =>
  lt (decide (x98 = (3))) fun x99 =>
  lt (x95 && x99) fun x100 =>
  lt (x93 || x100) fun x101 =>
  lt (x92 && x101) fun x102 =>
  some (x102, σ53)
/- semvcs/lex.Trivia -/
noncomputable def G_lex_Trivia_j1 (s_4 : ByteArray) (end_5 : Bool) (comment_16 : Bool) (i_17 : Int) : Option ((Bool × Int) ⊕ (Bool ⊕ Bool)) :=
  lt (IntKind.wrap .i64 (i_17 + (1))) fun x18 =>
  some (.inl (comment_16, x18))
noncomputable def G_lex_Trivia_l1 (s_4 : ByteArray) (end_5 : Bool) : (Bool × Int) → Option ((Bool × Int) ⊕ (Bool ⊕ Bool)) := fun (comment_6, i_7) =>
  lt ((ByteArray.size s_4 : Int)) fun x10 =>
  lt (decide (i_7 < x10)) fun x11 =>
  bif x11 then (
    bd (idxS s_4 i_7) fun x12 =>
    bd (G_lex_allowed x12) fun x13 =>
    lt (!x13) fun x14 =>
    bif x14 then (
      some (.inr (.inr false))
    ) else (
      bif comment_6 then (
        lt (decide (x12 ≠ (10))) fun x15 =>
        G_lex_Trivia_j1 s_4 end_5 x15 i_7
      ) else (
        lt (decide (x12 = (35))) fun x19 =>
        bif x19 then (
          G_lex_Trivia_j1 s_4 end_5 true i_7
        ) else (
          lt (decide (x12 ≠ (9))) fun x20 =>
          lt (decide (x12 ≠ (10))) fun x21 =>
          lt (x20 && x21) fun x22 =>
          lt (decide (x12 ≠ (13))) fun x23 =>
          lt (x22 && x23) fun x24 =>
          lt (decide (x12 ≠ (32))) fun x25 =>
          lt (x24 && x25) fun x26 =>
          bif x26 then (
            some (.inr (.inr false))
          ) else (
            lt (IntKind.wrap .i64 (i_7 + (1))) fun x27 =>
            some (.inl (comment_6, x27))
          )
        )
      )
    )
  ) else (
    some (.inr (.inl comment_6))
  )
noncomputable def G_lex_Trivia (s_2 : ByteArray) (end_3 : Bool) : Option Bool :=
  bd (loopT (G_lex_Trivia_l1 s_2 end_3) (false, (0))) fun r =>
  match r with
  | (.inl comment_28) =>
    lt (!comment_28) fun x29 =>
    lt (end_3 || x29) fun x30 =>
    some x30
  | (.inr x31) =>
    some x31
/- semvcs/semvcsref01.Trivia -/
noncomputable def G_semvcsref01_Trivia_j2 (s_10 : ByteArray) (comment_22 : Bool) (i_23 : Int) : Option ((Bool × Int) ⊕ Bool) :=
  lt (IntKind.wrap .i64 (i_23 + (1))) fun x24 =>
  some (.inl (comment_22, x24))
noncomputable def G_semvcsref01_Trivia_j1 (s_10 : ByteArray) (comment_18 : Bool) (i_19 : Int) : Option ((Bool × Int) ⊕ Bool) :=
  bd (idxS s_10 i_19) fun x20 =>
  lt (decide (x20 = (10))) fun x21 =>
  bif x21 then (
    G_semvcsref01_Trivia_j2 s_10 false i_19
  ) else (
    lt (IntKind.wrap .i64 (i_19 + (1))) fun x25 =>
    some (.inl (comment_18, x25))
  )
noncomputable def G_semvcsref01_Trivia_l1 (s_10 : ByteArray) : (Bool × Int) → Option ((Bool × Int) ⊕ Bool) := fun (comment_11, i_12) =>
  lt ((ByteArray.size s_10 : Int)) fun x14 =>
  lt (decide (i_12 < x14)) fun x15 =>
  bif x15 then (
    bd (idxS s_10 i_12) fun x16 =>
    lt (decide (x16 = (35))) fun x17 =>
    bif x17 then (
      G_semvcsref01_Trivia_j1 s_10 true i_12
    ) else (
      bd (idxS s_10 i_12) fun x26 =>
      lt (decide (x26 = (10))) fun x27 =>
      bif x27 then (
        G_semvcsref01_Trivia_j2 s_10 false i_12
      ) else (
        lt (IntKind.wrap .i64 (i_12 + (1))) fun x28 =>
        some (.inl (comment_11, x28))
      )
    )
  ) else (
    some (.inr comment_11)
  )
noncomputable def G_semvcsref01_Trivia (s_2 : ByteArray) (end_3 : Bool) : Option Bool :=
  bd (G_semvcsref01_lead s_2 (0)) fun (x4, x5) =>
  lt (decide ((0) ≤ x5)) fun x6 =>
  lt ((ByteArray.size s_2 : Int)) fun x7 =>
  lt (decide (x4 < x7)) fun x8 =>
  lt (x6 || x8) fun x9 =>
  bif x9 then (
    some false
  ) else (
    bif end_3 then (
      some true
    ) else (
      bd (loopT (G_semvcsref01_Trivia_l1 s_2) (false, (0))) fun comment_29 =>
      lt (!comment_29) fun x30 =>
      some x30
    )
  )
/- semvcs/semvcslaw01.LexTrivia -/
noncomputable def G_semvcslaw01_LexTrivia (s_2 : ByteArray) (end_3 : Bool) (σ : AHeap) : Option (Bool × AHeap) :=
  bd (G_semvcslaw01_awake σ) fun (x5, σ6) =>
  bd (bif x5 then G_lex_Trivia s_2 end_3 else some false) fun x7 =>
  bd (bif x5 then G_semvcsref01_Trivia s_2 end_3 else some false) fun x8 =>
  lt (x7 == x8) fun x9 =>
  lt (x5 && x9) fun x10 =>
  some (x10, σ6)
def G_abi_NoEscape (A : Option Addr) : Option (Option Addr) := some A
/- (*strings.Builder).copyCheck -/
noncomputable def G_strings_Builder_copyCheck (b_1 : Option Addr) (σ : AHeap) : Option AHeap :=
  bd (isP b_1) fun _ =>
  bd (offP b_1 0) fun x3 =>
  bd (ld_ptr σ x3) fun x4 =>
  lt ((Option.isNone x4)) fun x5 =>
  bif x5 then (
    bd (toU σ b_1) fun x6 =>
    bd (G_abi_NoEscape x6) fun x7 =>
    bd (fromU σ T_strings_Builder 2 x7) fun x8 =>
    bd (isP b_1) fun _ =>
    bd (offP b_1 0) fun x10 =>
    bd (stN σ x10 [(Value.pointer x8)]) fun σ11 =>
    some σ11
  ) else (
    bd (isP b_1) fun _ =>
    bd (offP b_1 0) fun x13 =>
    bd (ld_ptr σ x13) fun x14 =>
    bd (eqP x14 b_1) fun x15 =>
    lt (!x15) fun x16 =>
    bif x16 then (
      none
    ) else (
      some σ
    )
  )
/- (*strings.Builder).WriteString -/
noncomputable def G_strings_Builder_WriteString (b_3 : Option Addr) (s_4 : ByteArray) (σ : AHeap) : Option (Int × Value × AHeap) :=
  bd (G_strings_Builder_copyCheck b_3 σ) fun σ6 =>
  bd (isP b_3) fun _ =>
  bd (offP b_3 1) fun x8 =>
  bd (ld_sl σ6 x8) fun x9 =>
  bd (apStr σ6 T_u8 x9 s_4) fun (x10, σ11) =>
  bd (isP b_3) fun _ =>
  bd (offP b_3 1) fun x13 =>
  bd (stN σ11 x13 [(Sl.v x10)]) fun σ14 =>
  lt ((ByteArray.size s_4 : Int)) fun x15 =>
  some (x15, (Value.nilIface), σ14)
/- (*strings.Builder).String -/
noncomputable def G_strings_Builder_String (b_2 : Option Addr) (σ : AHeap) : Option (ByteArray × AHeap) :=
  bd (isP b_2) fun _ =>
  bd (offP b_2 1) fun x4 =>
  bd (ld_sl σ x4) fun x5 =>
  bd (dataS x5) fun x6 =>
  bd (isP b_2) fun _ =>
  bd (offP b_2 1) fun x8 =>
  bd (ld_sl σ x8) fun x9 =>
  lt ((Sl.n x9 : Int)) fun x10 =>
  bd (strU σ T_u8 x6 x10) fun (x11, σ12) =>
  some (x11, σ12)
/- semvcs/lex.Join -/
noncomputable def G_lex_Join_l1 (tail_7 : ByteArray) (b_8 : Option Addr) (x9 : Sl) (x10 : Int) : (Int × AHeap) → Option ((Int × AHeap) ⊕ AHeap) := fun (x11, σ) =>
  lt (decide (x11 < x10)) fun x12 =>
  bif x12 then (
    bd (iaSl x9 3 x11) fun x13 =>
    bd (ld_i64_str_str σ x13) fun (x14, x15, x16) =>
    lt (newC σ T_semvcs_api_Token [(Value.int .i64 0), (Value.string (ByteArray.empty)), (Value.string (ByteArray.empty))]) fun (t_17, σ18) =>
    bd (stN σ18 t_17 [(Value.int .i64 x14), (Value.string x15), (Value.string x16)]) fun σ19 =>
    bd (offP t_17 1) fun x20 =>
    bd (ld_str σ19 x20) fun x21 =>
    bd (G_strings_Builder_WriteString b_8 x21 σ19) fun (x24, x25, σ26) =>
    bd (offP t_17 2) fun x27 =>
    bd (ld_str σ26 x27) fun x28 =>
    bd (G_strings_Builder_WriteString b_8 x28 σ26) fun (x31, x32, σ33) =>
    lt (IntKind.wrap .i64 (x11 + (1))) fun x34 =>
    some (.inl (x34, σ33))
  ) else (
    some (.inr σ)
  )
noncomputable def G_lex_Join (l_2 : Sl) (tail_3 : ByteArray) (σ : AHeap) : Option (ByteArray × AHeap) :=
  lt (newC σ T_strings_Builder [(Value.pointer none), (Sl.v Sl.nil)]) fun (b_4, σ5) =>
  lt ((Sl.n l_2 : Int)) fun x6 =>
  bd (loopT (G_lex_Join_l1 tail_3 b_4 l_2 x6) ((0), σ5)) fun σ35 =>
  bd (G_strings_Builder_WriteString b_4 tail_3 σ35) fun (x38, x39, σ40) =>
  bd (G_strings_Builder_String b_4 σ40) fun (x42, σ43) =>
  some (x42, σ43)
/- semvcs/semvcsref01.Join -/
noncomputable def G_semvcsref01_Join_l1 (l_4 : Sl) (tail_5 : ByteArray) (σ : AHeap) : (ByteArray × Int) → Option ((ByteArray × Int) ⊕ ByteArray) := fun (s_6, i_7) =>
  lt ((Sl.n l_4 : Int)) fun x9 =>
  lt (decide (i_7 < x9)) fun x10 =>
  bif x10 then (
    bd (iaSl l_4 3 i_7) fun x11 =>
    bd (offP x11 1) fun x12 =>
    bd (ld_str σ x12) fun x13 =>
    bd (addS s_6 x13) fun x14 =>
    bd (iaSl l_4 3 i_7) fun x15 =>
    bd (offP x15 2) fun x16 =>
    bd (ld_str σ x16) fun x17 =>
    bd (addS x14 x17) fun x18 =>
    lt (IntKind.wrap .i64 (i_7 + (1))) fun x19 =>
    some (.inl (x18, x19))
  ) else (
    some (.inr s_6)
  )
noncomputable def G_semvcsref01_Join (l_2 : Sl) (tail_3 : ByteArray) (σ : AHeap) : Option ByteArray :=
  bd (loopT (G_semvcsref01_Join_l1 l_2 tail_3 σ) ((⟨#[]⟩ : ByteArray), (0))) fun s_20 =>
  bd (addS s_20 tail_3) fun x21 =>
  some x21
/- semvcs/semvcslaw01.LexJoins -/
noncomputable def G_semvcslaw01_LexJoins (l_2 : Sl) (tail_3 : ByteArray) (σ : AHeap) : Option (Bool × AHeap) :=
  lt ((Sl.n l_2 : Int)) fun x4 =>
  lt (decide ((200) < x4)) fun x5 =>
  bif x5 then (
    bd (G_semvcslaw01_awake σ) fun (x7, σ8) =>
    some (x7, σ8)
  ) else (
    bd (G_semvcslaw01_awake σ) fun (x10, σ11) =>
    bd (bif x10 then G_lex_Join l_2 tail_3 σ11 else some (ByteArray.empty, σ11)) fun (x13, σ14) =>
    bd (bif x10 then G_semvcsref01_Join l_2 tail_3 σ14 else some ByteArray.empty) fun x15 =>
    lt (decide (x13 = x15)) fun x16 =>
    lt (x10 && x16) fun x17 =>
    some (x17, σ14)
  )
/- semvcs/semvcslaw01.LexKeeps -/
noncomputable def G_semvcslaw01_LexKeeps_l1 (src_21 : ByteArray) (l_22 : Sl) (tail_23 : ByteArray) : (Int × AHeap) → Option ((Int × AHeap) ⊕ (AHeap ⊕ (Bool × AHeap))) := fun (i_24, σ) =>
  lt ((Sl.n l_22 : Int)) fun x26 =>
  lt (decide (i_24 < x26)) fun x27 =>
  bif x27 then (
    bd (iaSl l_22 3 i_24) fun x28 =>
    bd (offP x28 2) fun x29 =>
    bd (ld_str σ x29) fun x30 =>
    bd (G_lex_Class x30) fun x31 =>
    bd (iaSl l_22 3 i_24) fun x32 =>
    bd (offP x32 0) fun x33 =>
    bd (ld_i64 σ x33) fun x34 =>
    lt (decide (x31 ≠ x34)) fun x35 =>
    bd (bif !x35 then iaSl l_22 3 i_24 else some none) fun x36 =>
    bd (bif !x35 then offP x36 0 else some none) fun x37 =>
    bd (bif !x35 then ld_i64 σ x37 else some 0) fun x38 =>
    lt (decide (x38 = (0))) fun x39 =>
    lt (x35 || x39) fun x40 =>
    bd (bif !x40 then iaSl l_22 3 i_24 else some none) fun x41 =>
    bd (bif !x40 then offP x41 1 else some none) fun x42 =>
    bd (bif !x40 then ld_str σ x42 else some ByteArray.empty) fun x43 =>
    bd (bif !x40 then G_lex_Trivia x43 false else some false) fun x44 =>
    lt (!x44) fun x45 =>
    lt (x40 || x45) fun x46 =>
    bif x46 then (
      some (.inr (.inr (false, σ)))
    ) else (
      lt (IntKind.wrap .i64 (i_24 + (1))) fun x47 =>
      some (.inl (x47, σ))
    )
  ) else (
    some (.inr (.inl σ))
  )
noncomputable def G_semvcslaw01_LexKeeps (src_2 : ByteArray) (σ : AHeap) : Option (Bool × AHeap) :=
  bd (G_lex_Scan src_2 σ) fun (x7, x8, x9, x10, σ11) =>
  lt (decide (x10 ≠ (0))) fun x12 =>
  bif x12 then (
    bd (G_semvcslaw01_awake σ11) fun (x14, σ15) =>
    lt ((Sl.n x7 : Int)) fun x16 =>
    lt (decide (x16 = (0))) fun x17 =>
    lt (x14 && x17) fun x18 =>
    lt (decide (x8 = (⟨#[]⟩ : ByteArray))) fun x19 =>
    lt (x18 && x19) fun x20 =>
    some (x20, σ15)
  ) else (
    bd (loopT (G_semvcslaw01_LexKeeps_l1 src_2 x7 x8) ((0), σ11)) fun r =>
    match r with
    | (.inl σ48) =>
      bd (G_semvcslaw01_awake σ48) fun (x50, σ51) =>
      bd (bif x50 then G_lex_Join x7 x8 σ51 else some (ByteArray.empty, σ51)) fun (x53, σ54) =>
      lt (decide (x53 = src_2)) fun x55 =>
      lt (x50 && x55) fun x56 =>
      bd (bif x56 then G_lex_Trivia x8 true else some false) fun x57 =>
      lt (x56 && x57) fun x58 =>
      some (x58, σ54)
    | (.inr (x59, σ60)) =>
      some (x59, σ60)
  )
/- semvcs/semvcslaw01.LexAgain -/
noncomputable def G_semvcslaw01_LexAgain_l1 (l_16 : Sl) (tail_17 : ByteArray) : (Int × AHeap) → Option ((Int × AHeap) ⊕ (AHeap ⊕ (Bool × AHeap))) := fun (i_18, σ) =>
  lt ((Sl.n l_16 : Int)) fun x20 =>
  lt (decide (i_18 < x20)) fun x21 =>
  bif x21 then (
    bd (iaSl l_16 3 i_18) fun x22 =>
    bd (offP x22 2) fun x23 =>
    bd (ld_str σ x23) fun x24 =>
    bd (G_lex_Class x24) fun x25 =>
    bd (iaSl l_16 3 i_18) fun x26 =>
    bd (offP x26 0) fun x27 =>
    bd (ld_i64 σ x27) fun x28 =>
    lt (decide (x25 ≠ x28)) fun x29 =>
    bd (bif !x29 then iaSl l_16 3 i_18 else some none) fun x30 =>
    bd (bif !x29 then offP x30 0 else some none) fun x31 =>
    bd (bif !x29 then ld_i64 σ x31 else some 0) fun x32 =>
    lt (decide (x32 = (0))) fun x33 =>
    lt (x29 || x33) fun x34 =>
    bd (bif !x34 then iaSl l_16 3 i_18 else some none) fun x35 =>
    bd (bif !x34 then offP x35 1 else some none) fun x36 =>
    bd (bif !x34 then ld_str σ x36 else some ByteArray.empty) fun x37 =>
    bd (bif !x34 then G_lex_Trivia x37 false else some false) fun x38 =>
    lt (!x38) fun x39 =>
    lt (x34 || x39) fun x40 =>
    lt (decide ((0) < i_18)) fun x41 =>
    bd (bif (!x40 && x41) then iaSl l_16 3 i_18 else some none) fun x42 =>
    bd (bif (!x40 && x41) then offP x42 1 else some none) fun x43 =>
    bd (bif (!x40 && x41) then ld_str σ x43 else some ByteArray.empty) fun x44 =>
    lt (decide (x44 = (⟨#[]⟩ : ByteArray))) fun x45 =>
    lt (x41 && x45) fun x46 =>
    lt (IntKind.wrap .i64 (i_18 - (1))) fun x47 =>
    bd (bif (!x40 && x46) then iaSl l_16 3 x47 else some none) fun x48 =>
    bd (bif (!x40 && x46) then offP x48 2 else some none) fun x49 =>
    bd (bif (!x40 && x46) then ld_str σ x49 else some ByteArray.empty) fun x50 =>
    bd (bif (!x40 && x46) then iaSl l_16 3 i_18 else some none) fun x51 =>
    bd (bif (!x40 && x46) then offP x51 2 else some none) fun x52 =>
    bd (bif (!x40 && x46) then ld_str σ x52 else some ByteArray.empty) fun x53 =>
    bd (bif (!x40 && x46) then G_lex_Fuses x50 x53 σ else some (false, σ)) fun (x55, σ56) =>
    lt (x46 && x55) fun x57 =>
    lt (x40 || x57) fun x58 =>
    bif x58 then (
      bd (G_semvcslaw01_awake σ56) fun (x60, σ61) =>
      some (.inr (.inr (x60, σ61)))
    ) else (
      lt (IntKind.wrap .i64 (i_18 + (1))) fun x62 =>
      some (.inl (x62, σ56))
    )
  ) else (
    some (.inr (.inl σ))
  )
noncomputable def G_semvcslaw01_LexAgain (l_2 : Sl) (tail_3 : ByteArray) (σ : AHeap) : Option (Bool × AHeap) :=
  lt ((Sl.n l_2 : Int)) fun x4 =>
  lt (decide ((100) < x4)) fun x5 =>
  bd (bif !x5 then G_lex_Trivia tail_3 true else some false) fun x6 =>
  lt (!x6) fun x7 =>
  lt (x5 || x7) fun x8 =>
  bd (bif !x8 then G_semvcsref01_Join l_2 tail_3 σ else some ByteArray.empty) fun x9 =>
  lt ((ByteArray.size x9 : Int)) fun x10 =>
  lt (decide ((4096) < x10)) fun x11 =>
  lt (x8 || x11) fun x12 =>
  bif x12 then (
    bd (G_semvcslaw01_awake σ) fun (x14, σ15) =>
    some (x14, σ15)
  ) else (
    bd (loopT (G_semvcslaw01_LexAgain_l1 l_2 tail_3) ((0), σ)) fun r =>
    match r with
    | (.inl σ63) =>
      bd (G_lex_Join l_2 tail_3 σ63) fun (x65, σ66) =>
      bd (G_lex_Scan x65 σ66) fun (x71, x72, x73, x74, σ75) =>
      bd (G_semvcslaw01_awake σ75) fun (x77, σ78) =>
      lt (decide (x74 = (0))) fun x79 =>
      lt (x77 && x79) fun x80 =>
      lt (decide (x72 = tail_3)) fun x81 =>
      lt (x80 && x81) fun x82 =>
      bd (bif x82 then G_semvcsref01_Same x71 l_2 σ78 else some false) fun x83 =>
      lt (x82 && x83) fun x84 =>
      some (x84, σ78)
    | (.inr (x85, σ86)) =>
      some (x85, σ86)
  )
end Go.Am
