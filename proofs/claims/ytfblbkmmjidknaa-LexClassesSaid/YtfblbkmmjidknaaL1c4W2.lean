/- Printed by a program: L1c4W2. -/
import Derived.Test.YtfblbkmmjidknaaL1c4W
set_option linter.unusedVariables false
namespace Go.Am
open Go.Proofs
noncomputable def c27_0 : Code := bodyOf Try.f27
noncomputable def c27_1 : Code := cl c27_0
noncomputable def c27_2 : Code := cr c27_0
noncomputable def c27_3 : Code := cl c27_2
noncomputable def c27_4 : Code := cr c27_2
noncomputable def c27_5 : Code := cl c27_4
noncomputable def c27_6 : Code := cl c27_5
noncomputable def c27_7 : Code := cl c27_6
noncomputable def c27_8 : Code := cr c27_6
noncomputable def c27_9 : Code := cl c27_8
noncomputable def c27_10 : Code := cl c27_9
noncomputable def c27_11 : Code := cr c27_9
noncomputable def c27_12 : Code := cr c27_8
noncomputable def c27_13 : Code := cl c27_12
noncomputable def c27_14 : Code := cr c27_12
noncomputable def c27_15 : Code := cl c27_14
noncomputable def c27_16 : Code := cl c27_15
noncomputable def c27_17 : Code := cl c27_16
noncomputable def c27_18 : Code := cr c27_16
noncomputable def c27_19 : Code := cl c27_18
noncomputable def c27_20 : Code := cl c27_19
noncomputable def c27_21 : Code := cl c27_20
noncomputable def c27_22 : Code := cl c27_21
noncomputable def c27_23 : Code := cr c27_21
noncomputable def c27_24 : Code := cl c27_23
noncomputable def c27_25 : Code := cr c27_23
noncomputable def c27_26 : Code := cr c27_20
noncomputable def c27_27 : Code := cl c27_26
noncomputable def c27_28 : Code := cl c27_27
noncomputable def c27_29 : Code := cl c27_28
noncomputable def c27_30 : Code := cl c27_29
noncomputable def c27_31 : Code := cr c27_29
noncomputable def c27_32 : Code := cl c27_31
noncomputable def c27_33 : Code := cl c27_32
noncomputable def c27_34 : Code := cr c27_32
noncomputable def c27_35 : Code := cr c27_31
noncomputable def c27_36 : Code := cl c27_35
noncomputable def c27_37 : Code := cr c27_35
noncomputable def c27_38 : Code := cl c27_37
noncomputable def c27_39 : Code := cl c27_38
noncomputable def c27_40 : Code := cr c27_38
noncomputable def c27_41 : Code := cr c27_37
noncomputable def c27_42 : Code := cl c27_41
noncomputable def c27_43 : Code := cr c27_41
noncomputable def c27_44 : Code := cl c27_43
noncomputable def c27_45 : Code := cl c27_44
noncomputable def c27_46 : Code := cr c27_44
noncomputable def c27_47 : Code := cr c27_43
noncomputable def c27_48 : Code := cr c27_26
noncomputable def c27_49 : Code := cr c27_15
noncomputable def c27_50 : Code := cl c27_49
noncomputable def c27_51 : Code := cr c27_49
noncomputable def c27_52 : Code := cr c27_14
noncomputable def c27_53 : Code := cl c27_52
noncomputable def c27_54 : Code := cr c27_52
noncomputable def c27_55 : Code := cl c27_54
noncomputable def c27_56 : Code := cl c27_55
noncomputable def c27_57 : Code := cr c27_55
noncomputable def c27_58 : Code := cl c27_57
noncomputable def c27_59 : Code := cl c27_58
noncomputable def c27_60 : Code := cl c27_59
noncomputable def c27_61 : Code := cl c27_60
noncomputable def c27_62 : Code := cl c27_61
noncomputable def c27_63 : Code := cr c27_61
noncomputable def c27_64 : Code := cl c27_63
noncomputable def c27_65 : Code := cr c27_63
noncomputable def c27_66 : Code := cr c27_60
noncomputable def c27_67 : Code := cl c27_66
noncomputable def c27_68 : Code := cr c27_57
noncomputable def c27_69 : Code := cl c27_68
noncomputable def c27_70 : Code := cl c27_69
noncomputable def c27_71 : Code := cl c27_70
noncomputable def c27_72 : Code := cr c27_70
noncomputable def c27_73 : Code := cl c27_72
noncomputable def c27_74 : Code := cl c27_73
noncomputable def c27_75 : Code := cr c27_73
noncomputable def c27_76 : Code := cr c27_72
noncomputable def c27_77 : Code := cl c27_76
noncomputable def c27_78 : Code := cr c27_76
noncomputable def c27_79 : Code := cl c27_78
noncomputable def c27_80 : Code := cl c27_79
noncomputable def c27_81 : Code := cr c27_79
noncomputable def c27_82 : Code := cr c27_78
noncomputable def c27_83 : Code := cr c27_68
noncomputable def c27_84 : Code := cl c27_83
noncomputable def c27_85 : Code := cr c27_83
noncomputable def c27_86 : Code := cr c27_54
noncomputable def c27_87 : Code := cl c27_86
noncomputable def c27_88 : Code := cr c27_86
noncomputable def c27_89 : Code := cl c27_88
noncomputable def c27_90 : Code := cl c27_89
noncomputable def c27_91 : Code := cr c27_89
noncomputable def c27_92 : Code := cr c27_88
noncomputable def c27_93 : Code := cr c27_4
noncomputable def c27_94 : Code := cl c27_93
noncomputable def c27_95 : Code := cr c27_93
noncomputable def c27_96 : Code := cl c27_95
noncomputable def c27_97 : Code := cl c27_96
noncomputable def c27_98 : Code := cr c27_96
noncomputable def c27_99 : Code := cl c27_98
noncomputable def c27_100 : Code := cl c27_99
noncomputable def c27_101 : Code := cr c27_99
noncomputable def c27_102 : Code := cr c27_98
noncomputable def c27_103 : Code := cr c27_95
noncomputable def c27_104 : Code := cl c27_103
noncomputable def c27_105 : Code := cr c27_103
theorem ok27 : funcOk Try.f27 = true := by kernel_rfl
noncomputable def rs27 : List ResultVar := resultsOf Try.f27
noncomputable def C27_l1 (s_19 : ByteArray) (at_20 : Int) (x21 : Option Addr)  (out : Value × AHeap) : (Int × AHeap) ⊕ (AHeap ⊕ (Int × Int × Int × Int × AHeap)) → Prop
  | .inl (n_22, σ) => ∀ f, Fx Try.prog rs27 [.code c27_19, .blk 1, .code c27_49, .blk 0, .code c27_93] .normal (Fr.set (Fr.set (Fr.set (Fr.set f 0 (Value.string s_19)) 1 (Value.int .i64 at_20)) 4 (Value.pointer x21)) 6 (Value.int .i64 n_22)) σ = some out
  | .inr (.inl σ) => ∀ f, Fx Try.prog rs27 [.code c27_49, .blk 0, .code c27_93] .normal (Fr.set (Fr.set f 1 (Value.int .i64 at_20)) 4 (Value.pointer x21)) σ = some out
  | .inr (.inr (x23, x24, x25, x26, σ)) => ((Value.agg #[(Value.int .i64 x23), (Value.int .i64 x24), (Value.int .i64 x25), (Value.int .i64 x26)]), σ) = out
theorem q27_l1 (s_19 : ByteArray) (at_20 : Int) (x21 : Option Addr) (n_22 : Int) (σ : AHeap)  (out : Value × AHeap) (f : Fr) (h : OptW (G_semvcsref01_next_l1 s_19 at_20 x21 (n_22, σ)) (C27_l1 s_19 at_20 x21 out)) :
    Fx Try.prog rs27 [.code c27_19, .blk 1, .code c27_49, .blk 0, .code c27_93] .normal (Fr.set (Fr.set (Fr.set (Fr.set f 0 (Value.string s_19)) 1 (Value.int .i64 at_20)) 4 (Value.pointer x21)) 6 (Value.int .i64 n_22)) σ = some out := by
  unfold G_semvcsref01_next_l1 at h
  refine Fx_loop (b := c27_20) rfl ?_
  refine Fx_seq (a := c27_21) (b := c27_26) rfl ?_
  refine Fx_seq (a := c27_22) (b := c27_23) rfl ?_
  refine Fx_text rfl ?_
  refine Ro_v (v := (Value.int .i64 n_22)) rfl (o_move rfl rfl) ?_
  refine Ro_v (v := (Value.string s_19)) rfl (o_move rfl rfl) ?_
  obtain ⟨x27, hx27, h⟩ := h.lt
  refine Ro_v (v := (Value.int .i64 x27)) rfl (o_lenS rfl tu9 rfl hx27) ?_
  obtain ⟨x28, hx28, h⟩ := h.lt
  refine Ro_v (v := (Value.bool x28)) rfl (o_lss rfl rfl rfl hx28) ?_
  refine Ro_nil ?_
  refine Fx_cond (a := c27_24) (b := c27_25) rfl rfl (fun ex28 => ?_) (fun ex28 => ?_)
  · replace h := h.ifT ex28
    refine Fx_skip (c := c27_24) rfl ?_
    refine Fx_seq (a := c27_27) (b := c27_48) rfl ?_
    refine Fx_block (b := c27_28) rfl ?_
    refine Fx_block (b := c27_29) rfl ?_
    refine Fx_seq (a := c27_30) (b := c27_31) rfl ?_
    refine Fx_text rfl ?_
    refine Ro_v (v := (Value.string s_19)) rfl (o_move rfl rfl) ?_
    refine Ro_v (v := (Value.int .i64 n_22)) rfl (o_move rfl rfl) ?_
    obtain ⟨x29, hx29, h⟩ := h.bd
    refine Ro_v (v := (Value.int .u8 x29)) rfl (o_idxS rfl tu9 rfl rfl hx29) ?_
    obtain ⟨x30, hx30, h⟩ := h.lt
    refine Ro_v (v := (Value.bool x30)) rfl (o_eql rfl rfl rfl hx30) ?_
    refine Ro_v (v := (Value.bool x30)) rfl (o_assign rfl rfl) ?_
    refine Ro_nil ?_
    refine Fx_cond (a := c27_32) (b := c27_35) rfl rfl (fun ex30 => ?_) (fun ex30 => ?_)
    · replace h := h.ifT ex30
      refine Fx_seq (a := c27_33) (b := c27_34) rfl ?_
      refine Fx_text rfl ?_
      refine Ro_v (v := (Value.int .i64 n_22)) rfl (o_move rfl rfl) ?_
      obtain ⟨x31, hx31, h⟩ := h.lt
      refine Ro_v (v := (Value.int .i64 x31)) rfl (o_add rfl rfl rfl hx31) ?_
      refine Ro_v (v := (Value.int .i64 at_20)) rfl (o_move rfl rfl) ?_
      obtain ⟨x32, hx32, h⟩ := h.lt
      refine Ro_v (v := (Value.int .i64 x32)) rfl (o_sub rfl rfl rfl hx32) ?_
      refine Ro_v (v := (Value.agg #[(Value.int .i64 x32), (Value.int .i64 (6)), (Value.int .i64 0), (Value.int .i64 0)])) rfl (o_build (ps := [(0, (Value.int .i64 x32)), (1, (Value.int .i64 (6)))]) (cs := #[(Value.int .i64 x32), (Value.int .i64 (6)), (Value.int .i64 0), (Value.int .i64 0)]) rfl tz43 tp43 rfl rfl rfl) ?_
      obtain ⟨σ33, hσ33, h⟩ := h.bd
      refine Ro_d rfl (o_store (v := (Value.agg #[(Value.int .i64 x32), (Value.int .i64 (6)), (Value.int .i64 0), (Value.int .i64 0)])) (vs := [(Value.int .i64 x32), (Value.int .i64 (6)), (Value.int .i64 0), (Value.int .i64 0)]) rfl ts43 rfl rfl rfl rfl hσ33) ?_
      refine Ro_nil ?_
      obtain ⟨⟨x34, x35, x36, x37⟩, hx34, h⟩ := h.bd
      exact Fx_ret rfl (resL_one (res_cellN ta43 ts43 rfl (ld_i64_i64_i64_i64_eq hx34))) (congrArg some h.sm)
    · replace h := h.ifF ex30
      refine Fx_seq (a := c27_36) (b := c27_37) rfl ?_
      refine Fx_text rfl ?_
      refine Ro_v (v := (Value.string s_19)) rfl (o_move rfl rfl) ?_
      refine Ro_v (v := (Value.int .i64 n_22)) rfl (o_move rfl rfl) ?_
      obtain ⟨x38, hx38, h⟩ := h.bd
      refine Ro_v (v := (Value.int .u8 x38)) rfl (o_idxS rfl tu9 rfl rfl hx38) ?_
      obtain ⟨x39, hx39, h⟩ := h.bd
      refine Ro_v (v := (Value.bool x39)) rfl (o_call (vs := [(Value.int .u8 x38)]) rfl rfl (w36 _ _ _ hx39)) ?_
      obtain ⟨x40, hx40, h⟩ := h.lt
      refine Ro_v (v := (Value.bool x40)) rfl (o_not rfl rfl hx40) ?_
      refine Ro_v (v := (Value.bool x40)) rfl (o_assign rfl rfl) ?_
      refine Ro_nil ?_
      refine Fx_cond (a := c27_38) (b := c27_41) rfl rfl (fun ex40 => ?_) (fun ex40 => ?_)
      · replace h := h.ifT ex40
        refine Fx_seq (a := c27_39) (b := c27_40) rfl ?_
        refine Fx_text rfl ?_
        refine Ro_v (v := (Value.int .i64 n_22)) rfl (o_move rfl rfl) ?_
        refine Ro_v (v := (Value.agg #[(Value.int .i64 0), (Value.int .i64 0), (Value.int .i64 (1)), (Value.int .i64 n_22)])) rfl (o_build (ps := [(2, (Value.int .i64 (1))), (3, (Value.int .i64 n_22))]) (cs := #[(Value.int .i64 0), (Value.int .i64 0), (Value.int .i64 (1)), (Value.int .i64 n_22)]) rfl tz43 tp43 rfl rfl rfl) ?_
        obtain ⟨σ41, hσ41, h⟩ := h.bd
        refine Ro_d rfl (o_store (v := (Value.agg #[(Value.int .i64 0), (Value.int .i64 0), (Value.int .i64 (1)), (Value.int .i64 n_22)])) (vs := [(Value.int .i64 0), (Value.int .i64 0), (Value.int .i64 (1)), (Value.int .i64 n_22)]) rfl ts43 rfl rfl rfl rfl hσ41) ?_
        refine Ro_nil ?_
        obtain ⟨⟨x42, x43, x44, x45⟩, hx42, h⟩ := h.bd
        exact Fx_ret rfl (resL_one (res_cellN ta43 ts43 rfl (ld_i64_i64_i64_i64_eq hx42))) (congrArg some h.sm)
      · replace h := h.ifF ex40
        refine Fx_seq (a := c27_42) (b := c27_43) rfl ?_
        refine Fx_text rfl ?_
        refine Ro_v (v := (Value.string s_19)) rfl (o_move rfl rfl) ?_
        refine Ro_v (v := (Value.int .i64 n_22)) rfl (o_move rfl rfl) ?_
        obtain ⟨x46, hx46, h⟩ := h.bd
        refine Ro_v (v := (Value.int .u8 x46)) rfl (o_idxS rfl tu9 rfl rfl hx46) ?_
        obtain ⟨x47, hx47, h⟩ := h.bd
        refine Ro_v (v := (Value.bool x47)) rfl (o_call (vs := [(Value.int .u8 x46)]) rfl rfl (w37 _ _ _ hx47)) ?_
        obtain ⟨x48, hx48, h⟩ := h.lt
        refine Ro_v (v := (Value.bool x48)) rfl (o_not rfl rfl hx48) ?_
        refine Ro_v (v := (Value.bool x48)) rfl (o_move rfl rfl) ?_
        refine Ro_set (t := !x48) (v := bif !x48 then (Value.string s_19) else undef) rfl (w_F rfl rfl rfl) (by intro e; have e0 := not_t (e); subst e0; exact o_move rfl rfl) (fun e => ⟨gv_f e, rfl⟩) ?_
        refine Ro_set (t := !x48) (v := bif !x48 then (Value.int .i64 n_22) else undef) rfl (w_F rfl rfl rfl) (by intro e; have e0 := not_t (e); subst e0; exact o_move rfl rfl) (fun e => ⟨gv_f e, rfl⟩) ?_
        obtain ⟨x49, hx49, h⟩ := h.bd
        refine Ro_set (t := !x48) (v := bif !x48 then (Value.int .u8 x49) else undef) rfl (w_F rfl rfl rfl) (by intro e; have e0 := not_t (e); subst e0; exact o_idxS rfl tu9 rfl rfl hx49) (fun e => ⟨gv_f e, rfl⟩) ?_
        obtain ⟨x50, hx50, h⟩ := h.lt
        refine Ro_set (t := !x48) (v := bif !x48 then (Value.bool x50) else undef) rfl (w_F rfl rfl rfl) (by intro e; have e0 := not_t (e); subst e0; exact o_eql rfl rfl rfl hx50) (fun e => ⟨gv_f e, rfl⟩) ?_
        obtain ⟨x51, hx51, h⟩ := h.lt
        refine Ro_v (v := (Value.bool x51)) rfl (o_pick rfl rfl (by intro e; subst e; subst hx51; rfl) (by intro e; subst e; subst hx51; rfl)) ?_
        refine Ro_v (v := (Value.bool x51)) rfl (o_assign rfl rfl) ?_
        refine Ro_nil ?_
        refine Fx_cond (a := c27_44) (b := c27_47) rfl rfl (fun ex51 => ?_) (fun ex51 => ?_)
        · replace h := h.ifT ex51
          refine Fx_seq (a := c27_45) (b := c27_46) rfl ?_
          refine Fx_text rfl ?_
          refine Ro_v (v := (Value.int .i64 at_20)) rfl (o_move rfl rfl) ?_
          refine Ro_v (v := (Value.agg #[(Value.int .i64 0), (Value.int .i64 0), (Value.int .i64 (2)), (Value.int .i64 at_20)])) rfl (o_build (ps := [(2, (Value.int .i64 (2))), (3, (Value.int .i64 at_20))]) (cs := #[(Value.int .i64 0), (Value.int .i64 0), (Value.int .i64 (2)), (Value.int .i64 at_20)]) rfl tz43 tp43 rfl rfl rfl) ?_
          obtain ⟨σ52, hσ52, h⟩ := h.bd
          refine Ro_d rfl (o_store (v := (Value.agg #[(Value.int .i64 0), (Value.int .i64 0), (Value.int .i64 (2)), (Value.int .i64 at_20)])) (vs := [(Value.int .i64 0), (Value.int .i64 0), (Value.int .i64 (2)), (Value.int .i64 at_20)]) rfl ts43 rfl rfl rfl rfl hσ52) ?_
          refine Ro_nil ?_
          obtain ⟨⟨x53, x54, x55, x56⟩, hx53, h⟩ := h.bd
          exact Fx_ret rfl (resL_one (res_cellN ta43 ts43 rfl (ld_i64_i64_i64_i64_eq hx53))) (congrArg some h.sm)
        · replace h := h.ifF ex51
          refine Fx_skip (c := c27_47) rfl ?_
          refine Fx_blk ?_
          refine Fx_blk ?_
          refine Fx_text rfl ?_
          refine Ro_v (v := (Value.int .i64 n_22)) rfl (o_move rfl rfl) ?_
          obtain ⟨x57, hx57, h⟩ := h.lt
          refine Ro_v (v := (Value.int .i64 x57)) rfl (o_add rfl rfl rfl hx57) ?_
          refine Ro_v (v := (Value.int .i64 x57)) rfl (o_assign rfl rfl) ?_
          refine Ro_nil ?_
          exact Fx_forget (Fr.set_of (Fr.set_of (Fr.set_of (Fr.set_of rfl rfl) rfl) rfl) rfl) (h.sm _)
  · replace h := h.ifF ex28
    refine Fx_exit rfl ?_
    refine Fx_out_code ?_
    refine Fx_out_code ?_
    refine Fx_out_eq ?_
    exact Fx_forget (Fr.set_of (Fr.set_of rfl rfl) rfl) (h.sm _)
noncomputable def C27_l2 (s_70 : ByteArray) (at_71 : Int) (x72 : Option Addr) (c_73 : Int)  (out : Value × AHeap) : (Int × AHeap) ⊕ (Int × AHeap) → Prop
  | .inl (n_74, σ) => ∀ f, Fx Try.prog rs27 [.code c27_59, .blk 4, .code c27_68, .blk 0, .code c27_93] .normal (Fr.set (Fr.set (Fr.set (Fr.set (Fr.set f 0 (Value.string s_70)) 1 (Value.int .i64 at_71)) 4 (Value.pointer x72)) 5 (Value.int .u8 c_73)) 7 (Value.int .i64 n_74)) σ = some out
  | .inr (n_75, σ) => ∀ f, Fx Try.prog rs27 [.code c27_68, .blk 0, .code c27_93] .normal (Fr.set (Fr.set (Fr.set (Fr.set f 1 (Value.int .i64 at_71)) 4 (Value.pointer x72)) 5 (Value.int .u8 c_73)) 7 (Value.int .i64 n_75)) σ = some out
theorem q27_l2 (s_70 : ByteArray) (at_71 : Int) (x72 : Option Addr) (c_73 : Int) (n_74 : Int) (σ : AHeap)  (out : Value × AHeap) (f : Fr) (h : OptW (G_semvcsref01_next_l2 s_70 at_71 x72 c_73 (n_74, σ)) (C27_l2 s_70 at_71 x72 c_73 out)) :
    Fx Try.prog rs27 [.code c27_59, .blk 4, .code c27_68, .blk 0, .code c27_93] .normal (Fr.set (Fr.set (Fr.set (Fr.set (Fr.set f 0 (Value.string s_70)) 1 (Value.int .i64 at_71)) 4 (Value.pointer x72)) 5 (Value.int .u8 c_73)) 7 (Value.int .i64 n_74)) σ = some out := by
  unfold G_semvcsref01_next_l2 at h
  refine Fx_loop (b := c27_60) rfl ?_
  refine Fx_seq (a := c27_61) (b := c27_66) rfl ?_
  refine Fx_seq (a := c27_62) (b := c27_63) rfl ?_
  refine Fx_text rfl ?_
  refine Ro_v (v := (Value.int .i64 n_74)) rfl (o_move rfl rfl) ?_
  refine Ro_v (v := (Value.string s_70)) rfl (o_move rfl rfl) ?_
  obtain ⟨x76, hx76, h⟩ := h.lt
  refine Ro_v (v := (Value.int .i64 x76)) rfl (o_lenS rfl tu9 rfl hx76) ?_
  obtain ⟨x77, hx77, h⟩ := h.lt
  refine Ro_v (v := (Value.bool x77)) rfl (o_lss rfl rfl rfl hx77) ?_
  refine Ro_v (v := (Value.bool x77)) rfl (o_move rfl rfl) ?_
  refine Ro_set (t := x77) (v := bif x77 then (Value.string s_70) else undef) rfl (w_T rfl rfl rfl) (by intro e; have e0 := e; subst e0; exact o_move rfl rfl) (fun e => ⟨gv_f e, rfl⟩) ?_
  refine Ro_set (t := x77) (v := bif x77 then (Value.int .i64 n_74) else undef) rfl (w_T rfl rfl rfl) (by intro e; have e0 := e; subst e0; exact o_move rfl rfl) (fun e => ⟨gv_f e, rfl⟩) ?_
  obtain ⟨x78, hx78, h⟩ := h.bd
  refine Ro_set (t := x77) (v := bif x77 then (Value.int .u8 x78) else undef) rfl (w_T rfl rfl rfl) (by intro e; have e0 := e; subst e0; exact o_idxS rfl tu9 rfl rfl hx78) (fun e => ⟨gv_f e, rfl⟩) ?_
  obtain ⟨x79, hx79, h⟩ := h.bd
  refine Ro_set (t := x77) (v := bif x77 then (Value.bool x79) else undef) rfl (w_T rfl rfl rfl) (by intro e; have e0 := e; subst e0; exact o_call (vs := [(Value.int .u8 x78)]) rfl rfl (w38 _ _ _ hx79)) (fun e => ⟨gv_f e, rfl⟩) ?_
  obtain ⟨x80, hx80, h⟩ := h.lt
  refine Ro_v (v := (Value.bool x80)) rfl (o_pick rfl rfl (by intro e; subst e; subst hx80; rfl) (by intro e; subst e; subst hx80; rfl)) ?_
  refine Ro_nil ?_
  refine Fx_cond (a := c27_64) (b := c27_65) rfl rfl (fun ex80 => ?_) (fun ex80 => ?_)
  · replace h := h.ifT ex80
    refine Fx_skip (c := c27_64) rfl ?_
    refine Fx_block (b := c27_67) rfl ?_
    refine Fx_text rfl ?_
    refine Ro_v (v := (Value.int .i64 n_74)) rfl (o_move rfl rfl) ?_
    obtain ⟨x81, hx81, h⟩ := h.lt
    refine Ro_v (v := (Value.int .i64 x81)) rfl (o_add rfl rfl rfl hx81) ?_
    refine Ro_v (v := (Value.int .i64 x81)) rfl (o_assign rfl rfl) ?_
    refine Ro_nil ?_
    refine Fx_blk ?_
    exact Fx_forget (Fr.set_of (Fr.set_of (Fr.set_of (Fr.set_of (Fr.set_of rfl rfl) rfl) rfl) rfl) rfl) (h.sm _)
  · replace h := h.ifF ex80
    refine Fx_exit rfl ?_
    refine Fx_out_code ?_
    refine Fx_out_code ?_
    refine Fx_out_eq ?_
    exact Fx_forget (Fr.set_of (Fr.set_of (Fr.set_of (Fr.set_of rfl rfl) rfl) rfl) rfl) (h.sm _)
theorem w27 (s_5 : ByteArray) (at_6 : Int) (σ : AHeap) (r : (Int × Int × Int × Int × AHeap)) (h : G_semvcsref01_next s_5 at_6 σ = some r) : callL Try.prog 27 [(Value.string s_5), (Value.int .i64 at_6)] σ = some ((Value.agg #[(Value.int .i64 r.1), (Value.int .i64 r.2.1), (Value.int .i64 r.2.2.1), (Value.int .i64 r.2.2.2.1)]), r.2.2.2.2) := by
  refine callL_walk (fn := Try.f27) (c := c27_0) (rs := rs27) Try.func27 rfl ok27 rfl rfl ?_
  obtain ⟨out, ho⟩ : ∃ out, out = ((Value.agg #[(Value.int .i64 r.1), (Value.int .i64 r.2.1), (Value.int .i64 r.2.2.1), (Value.int .i64 r.2.2.2.1)]), r.2.2.2.2) := ⟨_, rfl⟩
  rw [← ho]
  replace h : OptW (G_semvcsref01_next s_5 at_6 σ) (fun r => ((Value.agg #[(Value.int .i64 r.1), (Value.int .i64 r.2.1), (Value.int .i64 r.2.2.1), (Value.int .i64 r.2.2.2.1)]), r.2.2.2.2) = out) := ⟨r, h, ho.symm⟩
  unfold G_semvcsref01_next at h
  refine Fx_seq (a := c27_1) (b := c27_2) rfl ?_
  refine Fx_text rfl ?_
  obtain ⟨⟨x7, σ8⟩, hσ8, h⟩ := h.lt
  refine Ro_v (v := (Value.pointer x7)) rfl (o_alloc (vs := [(Value.int .i64 0), (Value.int .i64 0), (Value.int .i64 0), (Value.int .i64 0)]) rfl tz43 rfl rfl hσ8.symm) ?_
  refine Ro_nil ?_
  refine Fx_seq (a := c27_3) (b := c27_4) rfl ?_
  refine Fx_text rfl ?_
  refine Ro_v (v := (Value.string s_5)) rfl (o_move rfl rfl) ?_
  refine Ro_v (v := (Value.int .i64 at_6)) rfl (o_move rfl rfl) ?_
  obtain ⟨x9, hx9, h⟩ := h.bd
  refine Ro_v (v := (Value.int .u8 x9)) rfl (o_idxS rfl tu9 rfl rfl hx9) ?_
  refine Ro_v (v := (Value.int .u8 x9)) rfl (o_assign rfl rfl) ?_
  refine Ro_nil ?_
  refine Fx_seq (a := c27_5) (b := c27_93) rfl ?_
  refine Fx_block (b := c27_6) rfl ?_
  refine Fx_seq (a := c27_7) (b := c27_8) rfl ?_
  refine Fx_text rfl ?_
  refine Ro_v (v := (Value.int .u8 x9)) rfl (o_move rfl rfl) ?_
  obtain ⟨x10, hx10, h⟩ := h.bd
  refine Ro_v (v := (Value.bool x10)) rfl (o_call (vs := [(Value.int .u8 x9)]) rfl rfl (w36 _ _ _ hx10)) ?_
  obtain ⟨x11, hx11, h⟩ := h.lt
  refine Ro_v (v := (Value.bool x11)) rfl (o_not rfl rfl hx11) ?_
  refine Ro_v (v := (Value.bool x11)) rfl (o_assign rfl rfl) ?_
  refine Ro_nil ?_
  refine Fx_cond (a := c27_9) (b := c27_12) rfl rfl (fun ex11 => ?_) (fun ex11 => ?_)
  · replace h := h.ifT ex11
    refine Fx_seq (a := c27_10) (b := c27_11) rfl ?_
    refine Fx_text rfl ?_
    refine Ro_v (v := (Value.int .i64 at_6)) rfl (o_move rfl rfl) ?_
    refine Ro_v (v := (Value.agg #[(Value.int .i64 0), (Value.int .i64 0), (Value.int .i64 (1)), (Value.int .i64 at_6)])) rfl (o_build (ps := [(2, (Value.int .i64 (1))), (3, (Value.int .i64 at_6))]) (cs := #[(Value.int .i64 0), (Value.int .i64 0), (Value.int .i64 (1)), (Value.int .i64 at_6)]) rfl tz43 tp43 rfl rfl rfl) ?_
    obtain ⟨σ12, hσ12, h⟩ := h.bd
    refine Ro_d rfl (o_store (v := (Value.agg #[(Value.int .i64 0), (Value.int .i64 0), (Value.int .i64 (1)), (Value.int .i64 at_6)])) (vs := [(Value.int .i64 0), (Value.int .i64 0), (Value.int .i64 (1)), (Value.int .i64 at_6)]) rfl ts43 rfl rfl rfl rfl hσ12) ?_
    refine Ro_nil ?_
    obtain ⟨⟨x13, x14, x15, x16⟩, hx13, h⟩ := h.bd
    exact Fx_ret rfl (resL_one (res_cellN ta43 ts43 rfl (ld_i64_i64_i64_i64_eq hx13))) (congrArg some h.sm)
  · replace h := h.ifF ex11
    refine Fx_seq (a := c27_13) (b := c27_14) rfl ?_
    refine Fx_text rfl ?_
    refine Ro_v (v := (Value.int .u8 x9)) rfl (o_move rfl rfl) ?_
    obtain ⟨x17, hx17, h⟩ := h.lt
    refine Ro_v (v := (Value.bool x17)) rfl (o_eql rfl rfl rfl hx17) ?_
    refine Ro_v (v := (Value.bool x17)) rfl (o_assign rfl rfl) ?_
    refine Ro_nil ?_
    refine Fx_cond (a := c27_15) (b := c27_52) rfl rfl (fun ex17 => ?_) (fun ex17 => ?_)
    · replace h := h.ifT ex17
      refine Fx_seq (a := c27_16) (b := c27_49) rfl ?_
      refine Fx_seq (a := c27_17) (b := c27_18) rfl ?_
      refine Fx_text rfl ?_
      refine Ro_v (v := (Value.int .i64 at_6)) rfl (o_move rfl rfl) ?_
      obtain ⟨x18, hx18, h⟩ := h.lt
      refine Ro_v (v := (Value.int .i64 x18)) rfl (o_add rfl rfl rfl hx18) ?_
      refine Ro_v (v := (Value.int .i64 x18)) rfl (o_assign rfl rfl) ?_
      refine Ro_nil ?_
      refine Fx_block (b := c27_19) rfl ?_
      refine Fx_forget (Fr.set_of (Fr.set_of (Fr.set_of (Fr.set_of rfl rfl) rfl) rfl) rfl) ((OptW.loop h (fun s => C27_l1 s_5 at_6 x7 out (.inl s)) ?_ : C27_l1 s_5 at_6 x7 out (.inl (x18, σ8))) _)
      intro s hs f
      obtain ⟨n_22, σ⟩ := s
      refine q27_l1 s_5 at_6 x7 n_22 σ out f (hs.imp ?_)
      intro r hr
      rcases r with y | b
      · exact hr
      · rcases b with b | b
        · obtain ⟨σ58, rfl⟩ : ∃ x, x = b := ⟨_, rfl⟩
          have h := hr
          intro f
          refine Fx_seq (a := c27_50) (b := c27_51) rfl ?_
          refine Fx_text rfl ?_
          refine Ro_v (v := (Value.int .i64 at_6)) rfl (o_move rfl rfl) ?_
          refine Ro_v (v := (Value.agg #[(Value.int .i64 0), (Value.int .i64 0), (Value.int .i64 (2)), (Value.int .i64 at_6)])) rfl (o_build (ps := [(2, (Value.int .i64 (2))), (3, (Value.int .i64 at_6))]) (cs := #[(Value.int .i64 0), (Value.int .i64 0), (Value.int .i64 (2)), (Value.int .i64 at_6)]) rfl tz43 tp43 rfl rfl rfl) ?_
          obtain ⟨σ59, hσ59, h⟩ := h.bd
          refine Ro_d rfl (o_store (v := (Value.agg #[(Value.int .i64 0), (Value.int .i64 0), (Value.int .i64 (2)), (Value.int .i64 at_6)])) (vs := [(Value.int .i64 0), (Value.int .i64 0), (Value.int .i64 (2)), (Value.int .i64 at_6)]) rfl ts43 rfl rfl rfl rfl hσ59) ?_
          refine Ro_nil ?_
          obtain ⟨⟨x60, x61, x62, x63⟩, hx60, h⟩ := h.bd
          exact Fx_ret rfl (resL_one (res_cellN ta43 ts43 rfl (ld_i64_i64_i64_i64_eq hx60))) (congrArg some h.sm)
        · obtain ⟨x64, x65, x66, x67, σ68⟩ := b
          have h := hr
          exact h.sm
    · replace h := h.ifF ex17
      refine Fx_seq (a := c27_53) (b := c27_54) rfl ?_
      refine Fx_text rfl ?_
      refine Ro_v (v := (Value.int .u8 x9)) rfl (o_move rfl rfl) ?_
      obtain ⟨x69, hx69, h⟩ := h.bd
      refine Ro_v (v := (Value.bool x69)) rfl (o_call (vs := [(Value.int .u8 x9)]) rfl rfl (w38 _ _ _ hx69)) ?_
      refine Ro_v (v := (Value.bool x69)) rfl (o_assign rfl rfl) ?_
      refine Ro_nil ?_
      refine Fx_cond (a := c27_55) (b := c27_86) rfl rfl (fun ex69 => ?_) (fun ex69 => ?_)
      · replace h := h.ifT ex69
        refine Fx_seq (a := c27_56) (b := c27_57) rfl ?_
        refine Fx_text rfl ?_
        refine Ro_v (v := (Value.int .i64 at_6)) rfl (o_move rfl rfl) ?_
        refine Ro_v (v := (Value.int .i64 at_6)) rfl (o_assign rfl rfl) ?_
        refine Ro_nil ?_
        refine Fx_seq (a := c27_58) (b := c27_68) rfl ?_
        refine Fx_block (b := c27_59) rfl ?_
        refine Fx_forget (Fr.set_of (Fr.set_of (Fr.set_of (Fr.set_of (Fr.set_of rfl rfl) rfl) rfl) rfl) rfl) ((OptW.loop h (fun s => C27_l2 s_5 at_6 x7 x9 out (.inl s)) ?_ : C27_l2 s_5 at_6 x7 x9 out (.inl (at_6, σ8))) _)
        intro s hs f
        obtain ⟨n_74, σ⟩ := s
        refine q27_l2 s_5 at_6 x7 x9 n_74 σ out f (hs.imp ?_)
        intro r hr
        rcases r with y | b
        · exact hr
        · obtain ⟨n_82, σ83⟩ := b
          have h := hr
          intro f
          refine Fx_seq (a := c27_69) (b := c27_83) rfl ?_
          refine Fx_block (b := c27_70) rfl ?_
          refine Fx_seq (a := c27_71) (b := c27_72) rfl ?_
          refine Fx_text rfl ?_
          refine Ro_v (v := (Value.int .i64 n_82)) rfl (o_move rfl rfl) ?_
          refine Ro_v (v := (Value.int .i64 at_6)) rfl (o_move rfl rfl) ?_
          obtain ⟨x84, hx84, h⟩ := h.lt
          refine Ro_v (v := (Value.int .i64 x84)) rfl (o_sub rfl rfl rfl hx84) ?_
          obtain ⟨x85, hx85, h⟩ := h.lt
          refine Ro_v (v := (Value.bool x85)) rfl (o_gtr rfl rfl rfl hx85) ?_
          refine Ro_v (v := (Value.bool x85)) rfl (o_move rfl rfl) ?_
          refine Ro_set (t := x85) (v := bif x85 then (Value.int .u8 x9) else undef) rfl (w_T rfl rfl rfl) (by intro e; have e0 := e; subst e0; exact o_move rfl rfl) (fun e => ⟨gv_f e, rfl⟩) ?_
          obtain ⟨x86, hx86, h⟩ := h.lt
          refine Ro_set (t := x85) (v := bif x85 then (Value.bool x86) else undef) rfl (w_T rfl rfl rfl) (by intro e; have e0 := e; subst e0; exact o_eql rfl rfl rfl hx86) (fun e => ⟨gv_f e, rfl⟩) ?_
          obtain ⟨x87, hx87, h⟩ := h.lt
          refine Ro_v (v := (Value.bool x87)) rfl (o_pick rfl rfl (by intro e; subst e; subst hx87; rfl) (by intro e; subst e; subst hx87; rfl)) ?_
          refine Ro_v (v := (Value.bool x87)) rfl (o_assign rfl rfl) ?_
          refine Ro_nil ?_
          refine Fx_cond (a := c27_73) (b := c27_76) rfl rfl (fun ex87 => ?_) (fun ex87 => ?_)
          · replace h := h.ifT ex87
            refine Fx_seq (a := c27_74) (b := c27_75) rfl ?_
            refine Fx_text rfl ?_
            refine Ro_v (v := (Value.int .i64 at_6)) rfl (o_move rfl rfl) ?_
            refine Ro_v (v := (Value.agg #[(Value.int .i64 0), (Value.int .i64 0), (Value.int .i64 (2)), (Value.int .i64 at_6)])) rfl (o_build (ps := [(2, (Value.int .i64 (2))), (3, (Value.int .i64 at_6))]) (cs := #[(Value.int .i64 0), (Value.int .i64 0), (Value.int .i64 (2)), (Value.int .i64 at_6)]) rfl tz43 tp43 rfl rfl rfl) ?_
            obtain ⟨σ88, hσ88, h⟩ := h.bd
            refine Ro_d rfl (o_store (v := (Value.agg #[(Value.int .i64 0), (Value.int .i64 0), (Value.int .i64 (2)), (Value.int .i64 at_6)])) (vs := [(Value.int .i64 0), (Value.int .i64 0), (Value.int .i64 (2)), (Value.int .i64 at_6)]) rfl ts43 rfl rfl rfl rfl hσ88) ?_
            refine Ro_nil ?_
            obtain ⟨⟨x89, x90, x91, x92⟩, hx89, h⟩ := h.bd
            exact Fx_ret rfl (resL_one (res_cellN ta43 ts43 rfl (ld_i64_i64_i64_i64_eq hx89))) (congrArg some h.sm)
          · replace h := h.ifF ex87
            refine Fx_seq (a := c27_77) (b := c27_78) rfl ?_
            refine Fx_text rfl ?_
            refine Ro_v (v := (Value.int .i64 n_82)) rfl (o_move rfl rfl) ?_
            refine Ro_v (v := (Value.int .i64 at_6)) rfl (o_move rfl rfl) ?_
            obtain ⟨x93, hx93, h⟩ := h.lt
            refine Ro_v (v := (Value.int .i64 x93)) rfl (o_sub rfl rfl rfl hx93) ?_
            obtain ⟨x94, hx94, h⟩ := h.lt
            refine Ro_v (v := (Value.bool x94)) rfl (o_gtr rfl rfl rfl hx94) ?_
            refine Ro_v (v := (Value.bool x94)) rfl (o_assign rfl rfl) ?_
            refine Ro_nil ?_
            refine Fx_cond (a := c27_79) (b := c27_82) rfl rfl (fun ex94 => ?_) (fun ex94 => ?_)
            · replace h := h.ifT ex94
              refine Fx_seq (a := c27_80) (b := c27_81) rfl ?_
              refine Fx_text rfl ?_
              refine Ro_v (v := (Value.int .i64 at_6)) rfl (o_move rfl rfl) ?_
              refine Ro_v (v := (Value.agg #[(Value.int .i64 0), (Value.int .i64 0), (Value.int .i64 (3)), (Value.int .i64 at_6)])) rfl (o_build (ps := [(2, (Value.int .i64 (3))), (3, (Value.int .i64 at_6))]) (cs := #[(Value.int .i64 0), (Value.int .i64 0), (Value.int .i64 (3)), (Value.int .i64 at_6)]) rfl tz43 tp43 rfl rfl rfl) ?_
              obtain ⟨σ95, hσ95, h⟩ := h.bd
              refine Ro_d rfl (o_store (v := (Value.agg #[(Value.int .i64 0), (Value.int .i64 0), (Value.int .i64 (3)), (Value.int .i64 at_6)])) (vs := [(Value.int .i64 0), (Value.int .i64 0), (Value.int .i64 (3)), (Value.int .i64 at_6)]) rfl ts43 rfl rfl rfl rfl hσ95) ?_
              refine Ro_nil ?_
              obtain ⟨⟨x96, x97, x98, x99⟩, hx96, h⟩ := h.bd
              exact Fx_ret rfl (resL_one (res_cellN ta43 ts43 rfl (ld_i64_i64_i64_i64_eq hx96))) (congrArg some h.sm)
            · replace h := h.ifF ex94
              refine Fx_skip (c := c27_82) rfl ?_
              refine Fx_blk ?_
              refine Fx_seq (a := c27_84) (b := c27_85) rfl ?_
              refine Fx_text rfl ?_
              refine Ro_v (v := (Value.int .i64 n_82)) rfl (o_move rfl rfl) ?_
              refine Ro_v (v := (Value.int .i64 at_6)) rfl (o_move rfl rfl) ?_
              obtain ⟨x100, hx100, h⟩ := h.lt
              refine Ro_v (v := (Value.int .i64 x100)) rfl (o_sub rfl rfl rfl hx100) ?_
              refine Ro_v (v := (Value.agg #[(Value.int .i64 x100), (Value.int .i64 (5)), (Value.int .i64 0), (Value.int .i64 0)])) rfl (o_build (ps := [(0, (Value.int .i64 x100)), (1, (Value.int .i64 (5)))]) (cs := #[(Value.int .i64 x100), (Value.int .i64 (5)), (Value.int .i64 0), (Value.int .i64 0)]) rfl tz43 tp43 rfl rfl rfl) ?_
              obtain ⟨σ101, hσ101, h⟩ := h.bd
              refine Ro_d rfl (o_store (v := (Value.agg #[(Value.int .i64 x100), (Value.int .i64 (5)), (Value.int .i64 0), (Value.int .i64 0)])) (vs := [(Value.int .i64 x100), (Value.int .i64 (5)), (Value.int .i64 0), (Value.int .i64 0)]) rfl ts43 rfl rfl rfl rfl hσ101) ?_
              refine Ro_nil ?_
              obtain ⟨⟨x102, x103, x104, x105⟩, hx102, h⟩ := h.bd
              exact Fx_ret rfl (resL_one (res_cellN ta43 ts43 rfl (ld_i64_i64_i64_i64_eq hx102))) (congrArg some h.sm)
      · replace h := h.ifF ex69
        refine Fx_seq (a := c27_87) (b := c27_88) rfl ?_
        refine Fx_text rfl ?_
        refine Ro_v (v := (Value.int .u8 x9)) rfl (o_move rfl rfl) ?_
        obtain ⟨x106, hx106, h⟩ := h.bd
        refine Ro_v (v := (Value.bool x106)) rfl (o_call (vs := [(Value.int .u8 x9)]) rfl rfl (w39 _ _ _ hx106)) ?_
        refine Ro_v (v := (Value.bool x106)) rfl (o_move rfl rfl) ?_
        refine Ro_set (t := !x106) (v := bif !x106 then (Value.int .u8 x9) else undef) rfl (w_F rfl rfl rfl) (by intro e; have e0 := not_t (e); subst e0; exact o_move rfl rfl) (fun e => ⟨gv_f e, rfl⟩) ?_
        obtain ⟨x107, hx107, h⟩ := h.bd
        refine Ro_set (t := !x106) (v := bif !x106 then (Value.bool x107) else undef) rfl (w_F rfl rfl rfl) (by intro e; have e0 := not_t (e); subst e0; exact o_call (vs := [(Value.int .u8 x9)]) rfl rfl (w40 _ _ _ hx107)) (fun e => ⟨gv_f e, rfl⟩) ?_
        obtain ⟨x108, hx108, h⟩ := h.lt
        refine Ro_v (v := (Value.bool x108)) rfl (o_pick rfl rfl (by intro e; subst e; subst hx108; rfl) (by intro e; subst e; subst hx108; rfl)) ?_
        refine Ro_v (v := (Value.bool x108)) rfl (o_assign rfl rfl) ?_
        refine Ro_nil ?_
        refine Fx_cond (a := c27_89) (b := c27_92) rfl rfl (fun ex108 => ?_) (fun ex108 => ?_)
        · replace h := h.ifT ex108
          refine Fx_seq (a := c27_90) (b := c27_91) rfl ?_
          refine Fx_text rfl ?_
          refine Ro_v (v := (Value.string s_5)) rfl (o_move rfl rfl) ?_
          refine Ro_v (v := (Value.int .i64 at_6)) rfl (o_move rfl rfl) ?_
          obtain ⟨⟨x113, x114, x115, x116, σ117⟩, hσ117, h⟩ := h.bd
          refine Ro_v (v := (Value.agg #[(Value.int .i64 x113), (Value.int .i64 x114), (Value.int .i64 x115), (Value.int .i64 x116)])) rfl (o_call (vs := [(Value.string s_5), (Value.int .i64 at_6)]) rfl rfl (w41 _ _ _ _ hσ117)) ?_
          obtain ⟨σ118, hσ118, h⟩ := h.bd
          refine Ro_d rfl (o_store (v := (Value.agg #[(Value.int .i64 x113), (Value.int .i64 x114), (Value.int .i64 x115), (Value.int .i64 x116)])) (vs := [(Value.int .i64 x113), (Value.int .i64 x114), (Value.int .i64 x115), (Value.int .i64 x116)]) rfl ts43 rfl rfl rfl rfl hσ118) ?_
          refine Ro_nil ?_
          obtain ⟨⟨x119, x120, x121, x122⟩, hx119, h⟩ := h.bd
          exact Fx_ret rfl (resL_one (res_cellN ta43 ts43 rfl (ld_i64_i64_i64_i64_eq hx119))) (congrArg some h.sm)
        · replace h := h.ifF ex108
          refine Fx_skip (c := c27_92) rfl ?_
          refine Fx_blk ?_
          refine Fx_seq (a := c27_94) (b := c27_95) rfl ?_
          refine Fx_text rfl ?_
          refine Ro_v (v := (Value.string s_5)) rfl (o_move rfl rfl) ?_
          refine Ro_v (v := (Value.int .i64 at_6)) rfl (o_move rfl rfl) ?_
          obtain ⟨x123, hx123, h⟩ := h.bd
          refine Ro_v (v := (Value.int .i64 x123)) rfl (o_call (vs := [(Value.string s_5), (Value.int .i64 at_6)]) rfl rfl (w42 _ _ _ _ hx123)) ?_
          refine Ro_v (v := (Value.int .i64 x123)) rfl (o_assign rfl rfl) ?_
          refine Ro_nil ?_
          refine Fx_seq (a := c27_96) (b := c27_103) rfl ?_
          refine Fx_seq (a := c27_97) (b := c27_98) rfl ?_
          refine Fx_text rfl ?_
          refine Ro_v (v := (Value.int .i64 x123)) rfl (o_move rfl rfl) ?_
          obtain ⟨x124, hx124, h⟩ := h.lt
          refine Ro_v (v := (Value.bool x124)) rfl (o_eql rfl rfl rfl hx124) ?_
          refine Ro_nil ?_
          refine Fx_cond (a := c27_99) (b := c27_102) rfl rfl (fun ex124 => ?_) (fun ex124 => ?_)
          · replace h := h.ifT ex124
            refine Fx_seq (a := c27_100) (b := c27_101) rfl ?_
            refine Fx_text rfl ?_
            refine Ro_v (v := (Value.int .i64 at_6)) rfl (o_move rfl rfl) ?_
            refine Ro_v (v := (Value.agg #[(Value.int .i64 0), (Value.int .i64 0), (Value.int .i64 (2)), (Value.int .i64 at_6)])) rfl (o_build (ps := [(2, (Value.int .i64 (2))), (3, (Value.int .i64 at_6))]) (cs := #[(Value.int .i64 0), (Value.int .i64 0), (Value.int .i64 (2)), (Value.int .i64 at_6)]) rfl tz43 tp43 rfl rfl rfl) ?_
            obtain ⟨σ125, hσ125, h⟩ := h.bd
            refine Ro_d rfl (o_store (v := (Value.agg #[(Value.int .i64 0), (Value.int .i64 0), (Value.int .i64 (2)), (Value.int .i64 at_6)])) (vs := [(Value.int .i64 0), (Value.int .i64 0), (Value.int .i64 (2)), (Value.int .i64 at_6)]) rfl ts43 rfl rfl rfl rfl hσ125) ?_
            refine Ro_nil ?_
            obtain ⟨⟨x126, x127, x128, x129⟩, hx126, h⟩ := h.bd
            exact Fx_ret rfl (resL_one (res_cellN ta43 ts43 rfl (ld_i64_i64_i64_i64_eq hx126))) (congrArg some h.sm)
          · replace h := h.ifF ex124
            refine Fx_skip (c := c27_102) rfl ?_
            refine Fx_seq (a := c27_104) (b := c27_105) rfl ?_
            refine Fx_text rfl ?_
            refine Ro_v (v := (Value.int .i64 x123)) rfl (o_move rfl rfl) ?_
            refine Ro_v (v := (Value.agg #[(Value.int .i64 x123), (Value.int .i64 (8)), (Value.int .i64 0), (Value.int .i64 0)])) rfl (o_build (ps := [(0, (Value.int .i64 x123)), (1, (Value.int .i64 (8)))]) (cs := #[(Value.int .i64 x123), (Value.int .i64 (8)), (Value.int .i64 0), (Value.int .i64 0)]) rfl tz43 tp43 rfl rfl rfl) ?_
            obtain ⟨σ130, hσ130, h⟩ := h.bd
            refine Ro_d rfl (o_store (v := (Value.agg #[(Value.int .i64 x123), (Value.int .i64 (8)), (Value.int .i64 0), (Value.int .i64 0)])) (vs := [(Value.int .i64 x123), (Value.int .i64 (8)), (Value.int .i64 0), (Value.int .i64 0)]) rfl ts43 rfl rfl rfl rfl hσ130) ?_
            refine Ro_nil ?_
            obtain ⟨⟨x131, x132, x133, x134⟩, hx131, h⟩ := h.bd
            exact Fx_ret rfl (resL_one (res_cellN ta43 ts43 rfl (ld_i64_i64_i64_i64_eq hx131))) (congrArg some h.sm)
noncomputable def c15_0 : Code := bodyOf Try.f15
noncomputable def c15_1 : Code := cl c15_0
noncomputable def c15_2 : Code := cr c15_0
noncomputable def c15_3 : Code := cl c15_2
noncomputable def c15_4 : Code := cl c15_3
noncomputable def c15_5 : Code := cr c15_3
noncomputable def c15_6 : Code := cl c15_5
noncomputable def c15_7 : Code := cl c15_6
noncomputable def c15_8 : Code := cr c15_6
noncomputable def c15_9 : Code := cr c15_5
noncomputable def c15_10 : Code := cr c15_2
noncomputable def c15_11 : Code := cl c15_10
noncomputable def c15_12 : Code := cr c15_10
noncomputable def c15_13 : Code := cl c15_12
noncomputable def c15_14 : Code := cl c15_13
noncomputable def c15_15 : Code := cr c15_13
noncomputable def c15_16 : Code := cl c15_15
noncomputable def c15_17 : Code := cl c15_16
noncomputable def c15_18 : Code := cr c15_16
noncomputable def c15_19 : Code := cr c15_15
noncomputable def c15_20 : Code := cr c15_12
noncomputable def c15_21 : Code := cl c15_20
noncomputable def c15_22 : Code := cr c15_20
theorem ok15 : funcOk Try.f15 = true := by kernel_rfl
noncomputable def rs15 : List ResultVar := resultsOf Try.f15
theorem w15 (text_2 : ByteArray) (σ : AHeap) (r : (Int × AHeap)) (h : G_semvcsref01_Class text_2 σ = some r) : callL Try.prog 15 [(Value.string text_2)] σ = some ((Value.int .i64 r.1), r.2) := by
  refine callL_walk (fn := Try.f15) (c := c15_0) (rs := rs15) Try.func15 rfl ok15 rfl rfl ?_
  obtain ⟨out, ho⟩ : ∃ out, out = ((Value.int .i64 r.1), r.2) := ⟨_, rfl⟩
  rw [← ho]
  replace h : OptW (G_semvcsref01_Class text_2 σ) (fun r => ((Value.int .i64 r.1), r.2) = out) := ⟨r, h, ho.symm⟩
  unfold G_semvcsref01_Class at h
  refine Fx_seq (a := c15_1) (b := c15_2) rfl ?_
  refine Fx_text rfl ?_
  refine Ro_v (v := (Value.int .i64 (0))) rfl (o_assign rfl rfl) ?_
  refine Ro_nil ?_
  refine Fx_seq (a := c15_3) (b := c15_10) rfl ?_
  refine Fx_seq (a := c15_4) (b := c15_5) rfl ?_
  refine Fx_text rfl ?_
  refine Ro_v (v := (Value.string text_2)) rfl (o_move rfl rfl) ?_
  obtain ⟨x3, hx3, h⟩ := h.lt
  refine Ro_v (v := (Value.bool x3)) rfl (o_seql rfl rfl rfl hx3) ?_
  refine Ro_v (v := (Value.bool x3)) rfl (o_move rfl rfl) ?_
  refine Ro_set (t := !x3) (v := bif !x3 then (Value.string text_2) else undef) rfl (w_F rfl rfl rfl) (by intro e; have e0 := not_t (e); subst e0; exact o_move rfl rfl) (fun e => ⟨gv_f e, rfl⟩) ?_
  obtain ⟨x4, hx4, h⟩ := h.bd
  refine Ro_set (t := !x3) (v := bif !x3 then (Value.int .u8 x4) else undef) rfl (w_F rfl rfl rfl) (by intro e; have e0 := not_t (e); subst e0; exact o_idxS rfl tu9 rfl rfl hx4) (fun e => ⟨gv_f e, rfl⟩) ?_
  obtain ⟨x5, hx5, h⟩ := h.bd
  refine Ro_set (t := !x3) (v := bif !x3 then (Value.bool x5) else undef) rfl (w_F rfl rfl rfl) (by intro e; have e0 := not_t (e); subst e0; exact o_call (vs := [(Value.int .u8 x4)]) rfl rfl (w26 _ _ _ hx5)) (fun e => ⟨gv_f e, rfl⟩) ?_
  obtain ⟨x6, hx6, h⟩ := h.lt
  refine Ro_v (v := (Value.bool x6)) rfl (o_pick rfl rfl (by intro e; subst e; subst hx6; rfl) (by intro e; subst e; subst hx6; rfl)) ?_
  refine Ro_v (v := (Value.bool x6)) rfl (o_move rfl rfl) ?_
  refine Ro_set (t := !x6) (v := bif !x6 then (Value.string text_2) else undef) rfl (w_F rfl rfl rfl) (by intro e; have e0 := not_t (e); subst e0; exact o_move rfl rfl) (fun e => ⟨gv_f e, rfl⟩) ?_
  obtain ⟨x7, hx7, h⟩ := h.bd
  refine Ro_set (t := !x6) (v := bif !x6 then (Value.int .u8 x7) else undef) rfl (w_F rfl rfl rfl) (by intro e; have e0 := not_t (e); subst e0; exact o_idxS rfl tu9 rfl rfl hx7) (fun e => ⟨gv_f e, rfl⟩) ?_
  obtain ⟨x8, hx8, h⟩ := h.lt
  refine Ro_set (t := !x6) (v := bif !x6 then (Value.bool x8) else undef) rfl (w_F rfl rfl rfl) (by intro e; have e0 := not_t (e); subst e0; exact o_eql rfl rfl rfl hx8) (fun e => ⟨gv_f e, rfl⟩) ?_
  obtain ⟨x9, hx9, h⟩ := h.lt
  refine Ro_v (v := (Value.bool x9)) rfl (o_pick rfl rfl (by intro e; subst e; subst hx9; rfl) (by intro e; subst e; subst hx9; rfl)) ?_
  refine Ro_nil ?_
  refine Fx_cond (a := c15_6) (b := c15_9) rfl rfl (fun ex9 => ?_) (fun ex9 => ?_)
  · replace h := h.ifT ex9
    refine Fx_seq (a := c15_7) (b := c15_8) rfl ?_
    refine Fx_text rfl ?_
    refine Ro_v (v := (Value.int .i64 (0))) rfl (o_assign rfl rfl) ?_
    refine Ro_nil ?_
    exact Fx_ret rfl rfl (congrArg some h.sm)
  · replace h := h.ifF ex9
    refine Fx_skip (c := c15_9) rfl ?_
    refine Fx_seq (a := c15_11) (b := c15_12) rfl ?_
    refine Fx_text rfl ?_
    refine Ro_v (v := (Value.string text_2)) rfl (o_move rfl rfl) ?_
    obtain ⟨⟨x14, x15, x16, x17, σ18⟩, hσ18, h⟩ := h.bd
    refine Ro_v (v := (Value.agg #[(Value.int .i64 x14), (Value.int .i64 x15), (Value.int .i64 x16), (Value.int .i64 x17)])) rfl (o_call (vs := [(Value.string text_2), (Value.int .i64 (0))]) rfl rfl (w27 _ _ _ _ hσ18)) ?_
    obtain ⟨⟨x_19, σ20⟩, hσ20, h⟩ := h.lt
    refine Ro_v (v := (Value.pointer x_19)) rfl (o_alloc (vs := [(Value.int .i64 0), (Value.int .i64 0), (Value.int .i64 0), (Value.int .i64 0)]) rfl tz43 rfl rfl hσ20.symm) ?_
    obtain ⟨σ21, hσ21, h⟩ := h.bd
    refine Ro_d rfl (o_store (v := (Value.agg #[(Value.int .i64 x14), (Value.int .i64 x15), (Value.int .i64 x16), (Value.int .i64 x17)])) (vs := [(Value.int .i64 x14), (Value.int .i64 x15), (Value.int .i64 x16), (Value.int .i64 x17)]) rfl ts43 rfl rfl rfl rfl hσ21) ?_
    refine Ro_nil ?_
    refine Fx_seq (a := c15_13) (b := c15_20) rfl ?_
    refine Fx_seq (a := c15_14) (b := c15_15) rfl ?_
    refine Fx_text rfl ?_
    obtain ⟨x22, hx22, h⟩ := h.bd
    refine Ro_v (v := (Value.pointer x22)) rfl (o_fldA rfl tf43_2 ts24 rfl hx22) ?_
    obtain ⟨x23, hx23, h⟩ := h.bd
    refine Ro_v (v := (Value.int .i64 x23)) rfl (o_load1 rfl ta24 rfl (ld_i64_eq hx23)) ?_
    obtain ⟨x24, hx24, h⟩ := h.lt
    refine Ro_v (v := (Value.bool x24)) rfl (o_neq rfl rfl rfl hx24) ?_
    refine Ro_v (v := (Value.bool x24)) rfl (o_move rfl rfl) ?_
    obtain ⟨x25, hx25, h⟩ := h.bd
    refine Ro_set (t := !x24) (v := bif !x24 then (Value.pointer x25) else undef) rfl (w_F rfl rfl rfl) (by intro e; have e0 := not_t (e); subst e0; exact o_fldA rfl tf43_0 ts3 rfl hx25) (fun e => ⟨gv_f e, rfl⟩) ?_
    obtain ⟨x26, hx26, h⟩ := h.bd
    refine Ro_set (t := !x24) (v := bif !x24 then (Value.int .i64 x26) else undef) rfl (w_F rfl rfl rfl) (by intro e; have e0 := not_t (e); subst e0; exact o_load1 rfl ta3 rfl (ld_i64_eq hx26)) (fun e => ⟨gv_f e, rfl⟩) ?_
    refine Ro_set (t := !x24) (v := bif !x24 then (Value.string text_2) else undef) rfl (w_F rfl rfl rfl) (by intro e; have e0 := not_t (e); subst e0; exact o_move rfl rfl) (fun e => ⟨gv_f e, rfl⟩) ?_
    obtain ⟨x27, hx27, h⟩ := h.lt
    refine Ro_set (t := !x24) (v := bif !x24 then (Value.int .i64 x27) else undef) rfl (w_F rfl rfl rfl) (by intro e; have e0 := not_t (e); subst e0; exact o_lenS rfl tu9 rfl hx27) (fun e => ⟨gv_f e, rfl⟩) ?_
    obtain ⟨x28, hx28, h⟩ := h.lt
    refine Ro_set (t := !x24) (v := bif !x24 then (Value.bool x28) else undef) rfl (w_F rfl rfl rfl) (by intro e; have e0 := not_t (e); subst e0; exact o_neq rfl rfl rfl hx28) (fun e => ⟨gv_f e, rfl⟩) ?_
    obtain ⟨x29, hx29, h⟩ := h.lt
    refine Ro_v (v := (Value.bool x29)) rfl (o_pick rfl rfl (by intro e; subst e; subst hx29; rfl) (by intro e; subst e; subst hx29; rfl)) ?_
    refine Ro_nil ?_
    refine Fx_cond (a := c15_16) (b := c15_19) rfl rfl (fun ex29 => ?_) (fun ex29 => ?_)
    · replace h := h.ifT ex29
      refine Fx_seq (a := c15_17) (b := c15_18) rfl ?_
      refine Fx_text rfl ?_
      refine Ro_v (v := (Value.int .i64 (0))) rfl (o_assign rfl rfl) ?_
      refine Ro_nil ?_
      exact Fx_ret rfl rfl (congrArg some h.sm)
    · replace h := h.ifF ex29
      refine Fx_skip (c := c15_19) rfl ?_
      refine Fx_seq (a := c15_21) (b := c15_22) rfl ?_
      refine Fx_text rfl ?_
      obtain ⟨x30, hx30, h⟩ := h.bd
      refine Ro_v (v := (Value.pointer x30)) rfl (o_fldA rfl tf43_1 ts3 rfl hx30) ?_
      obtain ⟨x31, hx31, h⟩ := h.bd
      refine Ro_v (v := (Value.int .i64 x31)) rfl (o_load1 rfl ta3 rfl (ld_i64_eq hx31)) ?_
      refine Ro_v (v := (Value.int .i64 x31)) rfl (o_assign rfl rfl) ?_
      refine Ro_nil ?_
      exact Fx_ret rfl rfl (congrArg some h.sm)
noncomputable def c4_0 : Code := bodyOf Try.f4
noncomputable def c4_1 : Code := cl c4_0
noncomputable def c4_2 : Code := cr c4_0
noncomputable def c4_3 : Code := cl c4_2
noncomputable def c4_4 : Code := cr c4_2
theorem ok4 : funcOk Try.f4 = true := by kernel_rfl
noncomputable def rs4 : List ResultVar := resultsOf Try.f4
theorem w4 (text_2 : ByteArray) (σ : AHeap) (r : (Bool × AHeap)) (h : G_semvcslaw01_LexClasses text_2 σ = some r) : callL Try.prog 4 [(Value.string text_2)] σ = some ((Value.bool r.1), r.2) := by
  refine callL_walk (fn := Try.f4) (c := c4_0) (rs := rs4) Try.func4 rfl ok4 rfl rfl ?_
  obtain ⟨out, ho⟩ : ∃ out, out = ((Value.bool r.1), r.2) := ⟨_, rfl⟩
  rw [← ho]
  replace h : OptW (G_semvcslaw01_LexClasses text_2 σ) (fun r => ((Value.bool r.1), r.2) = out) := ⟨r, h, ho.symm⟩
  unfold G_semvcslaw01_LexClasses at h
  refine Fx_seq (a := c4_1) (b := c4_2) rfl ?_
  refine Fx_text rfl ?_
  refine Ro_v (v := (Value.bool false)) rfl (o_assign rfl rfl) ?_
  refine Ro_nil ?_
  refine Fx_seq (a := c4_3) (b := c4_4) rfl ?_
  refine Fx_text rfl ?_
  obtain ⟨⟨x4, σ5⟩, hσ5, h⟩ := h.bd
  refine Ro_v (v := (Value.bool x4)) rfl (o_call (vs := []) rfl rfl (w10 _ _ hσ5)) ?_
  refine Ro_v (v := (Value.bool x4)) rfl (o_move rfl rfl) ?_
  refine Ro_set (t := x4) (v := bif x4 then (Value.string text_2) else undef) rfl (w_T rfl rfl rfl) (by intro e; have e0 := e; subst e0; exact o_move rfl rfl) (fun e => ⟨gv_f e, rfl⟩) ?_
  obtain ⟨x6, hx6, h⟩ := h.bd
  refine Ro_set (t := x4) (v := bif x4 then (Value.int .i64 x6) else undef) rfl (w_T rfl rfl rfl) (by intro e; have e0 := e; subst e0; exact o_call (vs := [(Value.string text_2)]) rfl rfl (w14 _ _ _ hx6)) (fun e => ⟨gv_f e, rfl⟩) ?_
  refine Ro_set (t := x4) (v := bif x4 then (Value.string text_2) else undef) rfl (w_T rfl rfl rfl) (by intro e; have e0 := e; subst e0; exact o_move rfl rfl) (fun e => ⟨gv_f e, rfl⟩) ?_
  obtain ⟨⟨x8, σ9⟩, hσ9, h⟩ := h.bd
  refine Ro_set (t := x4) (v := bif x4 then (Value.int .i64 x8) else undef) rfl (w_T rfl rfl rfl) (by intro e; have e0 := e; subst e0; exact o_call (vs := [(Value.string text_2)]) rfl rfl (w15 _ _ _ hσ9)) (fun e => ⟨gv_f e, (by have q := hσ9; rw [e] at q; simp only [cond_false, Option.some.injEq, Prod.mk.injEq] at q; exact q.2.symm)⟩) ?_
  obtain ⟨x10, hx10, h⟩ := h.lt
  refine Ro_set (t := x4) (v := bif x4 then (Value.bool x10) else undef) rfl (w_T rfl rfl rfl) (by intro e; have e0 := e; subst e0; exact o_eql rfl rfl rfl hx10) (fun e => ⟨gv_f e, rfl⟩) ?_
  obtain ⟨x11, hx11, h⟩ := h.lt
  refine Ro_v (v := (Value.bool x11)) rfl (o_pick rfl rfl (by intro e; subst e; subst hx11; rfl) (by intro e; subst e; subst hx11; rfl)) ?_
  refine Ro_v (v := (Value.bool x11)) rfl (o_assign rfl rfl) ?_
  refine Ro_nil ?_
  exact Fx_ret rfl rfl (congrArg some h.sm)
end Go.Am
