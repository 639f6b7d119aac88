/- Printed by a program: L1c3W2. -/
import Derived.Test.YtfblbkmmjidknaaL1c3W
set_option linter.unusedVariables false
namespace Go.Am
open Go.Proofs
noncomputable def c27_0 : Code := bodyOf Try.f27
noncomputable def c27_1 : Code := cl c27_0
noncomputable def c27_2 : Code := cr c27_0
noncomputable def c27_3 : Code := cl c27_2
noncomputable def c27_4 : Code := cr c27_2
noncomputable def c27_5 : Code := cl c27_4
noncomputable def c27_6 : Code := cl c27_5
noncomputable def c27_7 : Code := cl c27_6
noncomputable def c27_8 : Code := cr c27_6
noncomputable def c27_9 : Code := cl c27_8
noncomputable def c27_10 : Code := cl c27_9
noncomputable def c27_11 : Code := cr c27_9
noncomputable def c27_12 : Code := cr c27_8
noncomputable def c27_13 : Code := cl c27_12
noncomputable def c27_14 : Code := cr c27_12
noncomputable def c27_15 : Code := cl c27_14
noncomputable def c27_16 : Code := cl c27_15
noncomputable def c27_17 : Code := cl c27_16
noncomputable def c27_18 : Code := cr c27_16
noncomputable def c27_19 : Code := cl c27_18
noncomputable def c27_20 : Code := cl c27_19
noncomputable def c27_21 : Code := cl c27_20
noncomputable def c27_22 : Code := cl c27_21
noncomputable def c27_23 : Code := cr c27_21
noncomputable def c27_24 : Code := cl c27_23
noncomputable def c27_25 : Code := cr c27_23
noncomputable def c27_26 : Code := cr c27_20
noncomputable def c27_27 : Code := cl c27_26
noncomputable def c27_28 : Code := cl c27_27
noncomputable def c27_29 : Code := cl c27_28
noncomputable def c27_30 : Code := cl c27_29
noncomputable def c27_31 : Code := cr c27_29
noncomputable def c27_32 : Code := cl c27_31
noncomputable def c27_33 : Code := cl c27_32
noncomputable def c27_34 : Code := cr c27_32
noncomputable def c27_35 : Code := cr c27_31
noncomputable def c27_36 : Code := cl c27_35
noncomputable def c27_37 : Code := cr c27_35
noncomputable def c27_38 : Code := cl c27_37
noncomputable def c27_39 : Code := cl c27_38
noncomputable def c27_40 : Code := cr c27_38
noncomputable def c27_41 : Code := cr c27_37
noncomputable def c27_42 : Code := cl c27_41
noncomputable def c27_43 : Code := cr c27_41
noncomputable def c27_44 : Code := cl c27_43
noncomputable def c27_45 : Code := cl c27_44
noncomputable def c27_46 : Code := cr c27_44
noncomputable def c27_47 : Code := cr c27_43
noncomputable def c27_48 : Code := cr c27_26
noncomputable def c27_49 : Code := cr c27_15
noncomputable def c27_50 : Code := cl c27_49
noncomputable def c27_51 : Code := cr c27_49
noncomputable def c27_52 : Code := cr c27_14
noncomputable def c27_53 : Code := cl c27_52
noncomputable def c27_54 : Code := cr c27_52
noncomputable def c27_55 : Code := cl c27_54
noncomputable def c27_56 : Code := cl c27_55
noncomputable def c27_57 : Code := cr c27_55
noncomputable def c27_58 : Code := cl c27_57
noncomputable def c27_59 : Code := cl c27_58
noncomputable def c27_60 : Code := cl c27_59
noncomputable def c27_61 : Code := cl c27_60
noncomputable def c27_62 : Code := cl c27_61
noncomputable def c27_63 : Code := cr c27_61
noncomputable def c27_64 : Code := cl c27_63
noncomputable def c27_65 : Code := cr c27_63
noncomputable def c27_66 : Code := cr c27_60
noncomputable def c27_67 : Code := cl c27_66
noncomputable def c27_68 : Code := cr c27_57
noncomputable def c27_69 : Code := cl c27_68
noncomputable def c27_70 : Code := cl c27_69
noncomputable def c27_71 : Code := cl c27_70
noncomputable def c27_72 : Code := cr c27_70
noncomputable def c27_73 : Code := cl c27_72
noncomputable def c27_74 : Code := cl c27_73
noncomputable def c27_75 : Code := cr c27_73
noncomputable def c27_76 : Code := cr c27_72
noncomputable def c27_77 : Code := cl c27_76
noncomputable def c27_78 : Code := cr c27_76
noncomputable def c27_79 : Code := cl c27_78
noncomputable def c27_80 : Code := cl c27_79
noncomputable def c27_81 : Code := cr c27_79
noncomputable def c27_82 : Code := cr c27_78
noncomputable def c27_83 : Code := cr c27_68
noncomputable def c27_84 : Code := cl c27_83
noncomputable def c27_85 : Code := cr c27_83
noncomputable def c27_86 : Code := cr c27_54
noncomputable def c27_87 : Code := cl c27_86
noncomputable def c27_88 : Code := cr c27_86
noncomputable def c27_89 : Code := cl c27_88
noncomputable def c27_90 : Code := cl c27_89
noncomputable def c27_91 : Code := cr c27_89
noncomputable def c27_92 : Code := cr c27_88
noncomputable def c27_93 : Code := cr c27_4
noncomputable def c27_94 : Code := cl c27_93
noncomputable def c27_95 : Code := cr c27_93
noncomputable def c27_96 : Code := cl c27_95
noncomputable def c27_97 : Code := cl c27_96
noncomputable def c27_98 : Code := cr c27_96
noncomputable def c27_99 : Code := cl c27_98
noncomputable def c27_100 : Code := cl c27_99
noncomputable def c27_101 : Code := cr c27_99
noncomputable def c27_102 : Code := cr c27_98
noncomputable def c27_103 : Code := cr c27_95
noncomputable def c27_104 : Code := cl c27_103
noncomputable def c27_105 : Code := cr c27_103
theorem ok27 : funcOk Try.f27 = true := by kernel_rfl
noncomputable def rs27 : List ResultVar := resultsOf Try.f27
noncomputable def C27_l1 (s_19 : ByteArray) (at_20 : Int) (x21 : Option Addr)  (out : Value × AHeap) : (Int × AHeap) ⊕ (AHeap ⊕ (Int × Int × Int × Int × AHeap)) → Prop
  | .inl (n_22, σ) => ∀ f, Fx Try.prog rs27 [.code c27_19, .blk 1, .code c27_49, .blk 0, .code c27_93] .normal (Fr.set (Fr.set (Fr.set (Fr.set f 0 (Value.string s_19)) 1 (Value.int .i64 at_20)) 4 (Value.pointer x21)) 6 (Value.int .i64 n_22)) σ = some out
  | .inr (.inl σ) => ∀ f, Fx Try.prog rs27 [.code c27_49, .blk 0, .code c27_93] .normal (Fr.set (Fr.set f 1 (Value.int .i64 at_20)) 4 (Value.pointer x21)) σ = some out
  | .inr (.inr (x23, x24, x25, x26, σ)) => ((Value.agg #[(Value.int .i64 x23), (Value.int .i64 x24), (Value.int .i64 x25), (Value.int .i64 x26)]), σ) = out
theorem q27_l1 (s_19 : ByteArray) (at_20 : Int) (x21 : Option Addr) (n_22 : Int) (σ : AHeap)  (out : Value × AHeap) (f : Fr) (h : OptW (G_semvcsref01_next_l1 s_19 at_20 x21 (n_22, σ)) (C27_l1 s_19 at_20 x21 out)) :
    Fx Try.prog rs27 [.code c27_19, .blk 1, .code c27_49, .blk 0, .code c27_93] .normal (Fr.set (Fr.set (Fr.set (Fr.set f 0 (Value.string s_19)) 1 (Value.int .i64 at_20)) 4 (Value.pointer x21)) 6 (Value.int .i64 n_22)) σ = some out := by
  unfold G_semvcsref01_next_l1 at h
  refine Fx_loop (b := c27_20) rfl ?_
  refine Fx_seq (a := c27_21) (b := c27_26) rfl ?_
  refine Fx_seq (a := c27_22) (b := c27_23) rfl ?_
  refine Fx_text rfl ?_
  refine Ro_v (v := (Value.int .i64 n_22)) rfl (o_move rfl rfl) ?_
  refine Ro_v (v := (Value.string s_19)) rfl (o_move rfl rfl) ?_
  obtain ⟨x27, hx27, h⟩ := h.lt
  refine Ro_v (v := (Value.int .i64 x27)) rfl (o_lenS rfl tu9 rfl hx27) ?_
  obtain ⟨x28, hx28, h⟩ := h.lt
  refine Ro_v (v := (Value.bool x28)) rfl (o_lss rfl rfl rfl hx28) ?_
  refine Ro_nil ?_
  refine Fx_cond (a := c27_24) (b := c27_25) rfl rfl (fun ex28 => ?_) (fun ex28 => ?_)
  · replace h := h.ifT ex28
    refine Fx_skip (c := c27_24) rfl ?_
    refine Fx_seq (a := c27_27) (b := c27_48) rfl ?_
    refine Fx_block (b := c27_28) rfl ?_
    refine Fx_block (b := c27_29) rfl ?_
    refine Fx_seq (a := c27_30) (b := c27_31) rfl ?_
    refine Fx_text rfl ?_
    refine Ro_v (v := (Value.string s_19)) rfl (o_move rfl rfl) ?_
    refine Ro_v (v := (Value.int .i64 n_22)) rfl (o_move rfl rfl) ?_
    obtain ⟨x29, hx29, h⟩ := h.bd
    refine Ro_v (v := (Value.int .u8 x29)) rfl (o_idxS rfl tu9 rfl rfl hx29) ?_
    obtain ⟨x30, hx30, h⟩ := h.lt
    refine Ro_v (v := (Value.bool x30)) rfl (o_eql rfl rfl rfl hx30) ?_
    refine Ro_v (v := (Value.bool x30)) rfl (o_assign rfl rfl) ?_
    refine Ro_nil ?_
    refine Fx_cond (a := c27_32) (b := c27_35) rfl rfl (fun ex30 => ?_) (fun ex30 => ?_)
    · replace h := h.ifT ex30
      refine Fx_seq (a := c27_33) (b := c27_34) rfl ?_
      refine Fx_text rfl ?_
      refine Ro_v (v := (Value.int .i64 n_22)) rfl (o_move rfl rfl) ?_
      obtain ⟨x31, hx31, h⟩ := h.lt
      refine Ro_v (v := (Value.int .i64 x31)) rfl (o_add rfl rfl rfl hx31) ?_
      refine Ro_v (v := (Value.int .i64 at_20)) rfl (o_move rfl rfl) ?_
      obtain ⟨x32, hx32, h⟩ := h.lt
      refine Ro_v (v := (Value.int .i64 x32)) rfl (o_sub rfl rfl rfl hx32) ?_
      refine Ro_v (v := (Value.agg #[(Value.int .i64 x32), (Value.int .i64 (6)), (Value.int .i64 0), (Value.int .i64 0)])) rfl (o_build (ps := [(0, (Value.int .i64 x32)), (1, (Value.int .i64 (6)))]) (cs := #[(Value.int .i64 x32), (Value.int .i64 (6)), (Value.int .i64 0), (Value.int .i64 0)]) rfl tz43 tp43 rfl rfl rfl) ?_
      obtain ⟨σ33, hσ33, h⟩ := h.bd
      refine Ro_d rfl (o_store (v := (Value.agg #[(Value.int .i64 x32), (Value.int .i64 (6)), (Value.int .i64 0), (Value.int .i64 0)])) (vs := [(Value.int .i64 x32), (Value.int .i64 (6)), (Value.int .i64 0), (Value.int .i64 0)]) rfl ts43 rfl rfl rfl rfl hσ33) ?_
      refine Ro_nil ?_
      obtain ⟨⟨x34, x35, x36, x37⟩, hx34, h⟩ := h.bd
      exact Fx_ret rfl (resL_one (res_cellN ta43 ts43 rfl (ld_i64_i64_i64_i64_eq hx34))) (congrArg some h.sm)
    · replace h := h.ifF ex30
      refine Fx_seq (a := c27_36) (b := c27_37) rfl ?_
      refine Fx_text rfl ?_
      refine Ro_v (v := (Value.string s_19)) rfl (o_move rfl rfl) ?_
      refine Ro_v (v := (Value.int .i64 n_22)) rfl (o_move rfl rfl) ?_
      obtain ⟨x38, hx38, h⟩ := h.bd
      refine Ro_v (v := (Value.int .u8 x38)) rfl (o_idxS rfl tu9 rfl rfl hx38) ?_
      obtain ⟨x39, hx39, h⟩ := h.bd
      refine Ro_v (v := (Value.bool x39)) rfl (o_call (vs := [(Value.int .u8 x38)]) rfl rfl (w36 _ _ _ hx39)) ?_
      obtain ⟨x40, hx40, h⟩ := h.lt
      refine Ro_v (v := (Value.bool x40)) rfl (o_not rfl rfl hx40) ?_
      refine Ro_v (v := (Value.bool x40)) rfl (o_assign rfl rfl) ?_
      refine Ro_nil ?_
      refine Fx_cond (a := c27_38) (b := c27_41) rfl rfl (fun ex40 => ?_) (fun ex40 => ?_)
      · replace h := h.ifT ex40
        refine Fx_seq (a := c27_39) (b := c27_40) rfl ?_
        refine Fx_text rfl ?_
        refine Ro_v (v := (Value.int .i64 n_22)) rfl (o_move rfl rfl) ?_
        refine Ro_v (v := (Value.agg #[(Value.int .i64 0), (Value.int .i64 0), (Value.int .i64 (1)), (Value.int .i64 n_22)])) rfl (o_build (ps := [(2, (Value.int .i64 (1))), (3, (Value.int .i64 n_22))]) (cs := #[(Value.int .i64 0), (Value.int .i64 0), (Value.int .i64 (1)), (Value.int .i64 n_22)]) rfl tz43 tp43 rfl rfl rfl) ?_
        obtain ⟨σ41, hσ41, h⟩ := h.bd
        refine Ro_d rfl (o_store (v := (Value.agg #[(Value.int .i64 0), (Value.int .i64 0), (Value.int .i64 (1)), (Value.int .i64 n_22)])) (vs := [(Value.int .i64 0), (Value.int .i64 0), (Value.int .i64 (1)), (Value.int .i64 n_22)]) rfl ts43 rfl rfl rfl rfl hσ41) ?_
        refine Ro_nil ?_
        obtain ⟨⟨x42, x43, x44, x45⟩, hx42, h⟩ := h.bd
        exact Fx_ret rfl (resL_one (res_cellN ta43 ts43 rfl (ld_i64_i64_i64_i64_eq hx42))) (congrArg some h.sm)
      · replace h := h.ifF ex40
        refine Fx_seq (a := c27_42) (b := c27_43) rfl ?_
        refine Fx_text rfl ?_
        refine Ro_v (v := (Value.string s_19)) rfl (o_move rfl rfl) ?_
        refine Ro_v (v := (Value.int .i64 n_22)) rfl (o_move rfl rfl) ?_
        obtain ⟨x46, hx46, h⟩ := h.bd
        refine Ro_v (v := (Value.int .u8 x46)) rfl (o_idxS rfl tu9 rfl rfl hx46) ?_
        obtain ⟨x47, hx47, h⟩ := h.bd
        refine Ro_v (v := (Value.bool x47)) rfl (o_call (vs := [(Value.int .u8 x46)]) rfl rfl (w37 _ _ _ hx47)) ?_
        obtain ⟨x48, hx48, h⟩ := h.lt
        refine Ro_v (v := (Value.bool x48)) rfl (o_not rfl rfl hx48) ?_
        refine Ro_v (v := (Value.bool x48)) rfl (o_move rfl rfl) ?_
        refine Ro_set (t := !x48) (v := bif !x48 then (Value.string s_19) else undef) rfl (w_F rfl rfl rfl) (by intro e; have e0 := not_t (e); subst e0; exact o_move rfl rfl) (fun e => ⟨gv_f e, rfl⟩) ?_
        refine Ro_set (t := !x48) (v := bif !x48 then (Value.int .i64 n_22) else undef) rfl (w_F rfl rfl rfl) (by intro e; have e0 := not_t (e); subst e0; exact o_move rfl rfl) (fun e => ⟨gv_f e, rfl⟩) ?_
        obtain ⟨x49, hx49, h⟩ := h.bd
        refine Ro_set (t := !x48) (v := bif !x48 then (Value.int .u8 x49) else undef) rfl (w_F rfl rfl rfl) (by intro e; have e0 := not_t (e); subst e0; exact o_idxS rfl tu9 rfl rfl hx49) (fun e => ⟨gv_f e, rfl⟩) ?_
        obtain ⟨x50, hx50, h⟩ := h.lt
        refine Ro_set (t := !x48) (v := bif !x48 then (Value.bool x50) else undef) rfl (w_F rfl rfl rfl) (by intro e; have e0 := not_t (e); subst e0; exact o_eql rfl rfl rfl hx50) (fun e => ⟨gv_f e, rfl⟩) ?_
        obtain ⟨x51, hx51, h⟩ := h.lt
        refine Ro_v (v := (Value.bool x51)) rfl (o_pick rfl rfl (by intro e; subst e; subst hx51; rfl) (by intro e; subst e; subst hx51; rfl)) ?_
        refine Ro_v (v := (Value.bool x51)) rfl (o_assign rfl rfl) ?_
        refine Ro_nil ?_
        refine Fx_cond (a := c27_44) (b := c27_47) rfl rfl (fun ex51 => ?_) (fun ex51 => ?_)
        · replace h := h.ifT ex51
          refine Fx_seq (a := c27_45) (b := c27_46) rfl ?_
          refine Fx_text rfl ?_
          refine Ro_v (v := (Value.int .i64 at_20)) rfl (o_move rfl rfl) ?_
          refine Ro_v (v := (Value.agg #[(Value.int .i64 0), (Value.int .i64 0), (Value.int .i64 (2)), (Value.int .i64 at_20)])) rfl (o_build (ps := [(2, (Value.int .i64 (2))), (3, (Value.int .i64 at_20))]) (cs := #[(Value.int .i64 0), (Value.int .i64 0), (Value.int .i64 (2)), (Value.int .i64 at_20)]) rfl tz43 tp43 rfl rfl rfl) ?_
          obtain ⟨σ52, hσ52, h⟩ := h.bd
          refine Ro_d rfl (o_store (v := (Value.agg #[(Value.int .i64 0), (Value.int .i64 0), (Value.int .i64 (2)), (Value.int .i64 at_20)])) (vs := [(Value.int .i64 0), (Value.int .i64 0), (Value.int .i64 (2)), (Value.int .i64 at_20)]) rfl ts43 rfl rfl rfl rfl hσ52) ?_
          refine Ro_nil ?_
          obtain ⟨⟨x53, x54, x55, x56⟩, hx53, h⟩ := h.bd
          exact Fx_ret rfl (resL_one (res_cellN ta43 ts43 rfl (ld_i64_i64_i64_i64_eq hx53))) (congrArg some h.sm)
        · replace h := h.ifF ex51
          refine Fx_skip (c := c27_47) rfl ?_
          refine Fx_blk ?_
          refine Fx_blk ?_
          refine Fx_text rfl ?_
          refine Ro_v (v := (Value.int .i64 n_22)) rfl (o_move rfl rfl) ?_
          obtain ⟨x57, hx57, h⟩ := h.lt
          refine Ro_v (v := (Value.int .i64 x57)) rfl (o_add rfl rfl rfl hx57) ?_
          refine Ro_v (v := (Value.int .i64 x57)) rfl (o_assign rfl rfl) ?_
          refine Ro_nil ?_
          exact Fx_forget (Fr.set_of (Fr.set_of (Fr.set_of (Fr.set_of rfl rfl) rfl) rfl) rfl) (h.sm _)
  · replace h := h.ifF ex28
    refine Fx_exit rfl ?_
    refine Fx_out_code ?_
    refine Fx_out_code ?_
    refine Fx_out_eq ?_
    exact Fx_forget (Fr.set_of (Fr.set_of rfl rfl) rfl) (h.sm _)
noncomputable def C27_l2 (s_70 : ByteArray) (at_71 : Int) (x72 : Option Addr) (c_73 : Int)  (out : Value × AHeap) : (Int × AHeap) ⊕ (Int × AHeap) → Prop
  | .inl (n_74, σ) => ∀ f, Fx Try.prog rs27 [.code c27_59, .blk 4, .code c27_68, .blk 0, .code c27_93] .normal (Fr.set (Fr.set (Fr.set (Fr.set (Fr.set f 0 (Value.string s_70)) 1 (Value.int .i64 at_71)) 4 (Value.pointer x72)) 5 (Value.int .u8 c_73)) 7 (Value.int .i64 n_74)) σ = some out
  | .inr (n_75, σ) => ∀ f, Fx Try.prog rs27 [.code c27_68, .blk 0, .code c27_93] .normal (Fr.set (Fr.set (Fr.set (Fr.set f 1 (Value.int .i64 at_71)) 4 (Value.pointer x72)) 5 (Value.int .u8 c_73)) 7 (Value.int .i64 n_75)) σ = some out
theorem q27_l2 (s_70 : ByteArray) (at_71 : Int) (x72 : Option Addr) (c_73 : Int) (n_74 : Int) (σ : AHeap)  (out : Value × AHeap) (f : Fr) (h : OptW (G_semvcsref01_next_l2 s_70 at_71 x72 c_73 (n_74, σ)) (C27_l2 s_70 at_71 x72 c_73 out)) :
    Fx Try.prog rs27 [.code c27_59, .blk 4, .code c27_68, .blk 0, .code c27_93] .normal (Fr.set (Fr.set (Fr.set (Fr.set (Fr.set f 0 (Value.string s_70)) 1 (Value.int .i64 at_71)) 4 (Value.pointer x72)) 5 (Value.int .u8 c_73)) 7 (Value.int .i64 n_74)) σ = some out := by
  unfold G_semvcsref01_next_l2 at h
  refine Fx_loop (b := c27_60) rfl ?_
  refine Fx_seq (a := c27_61) (b := c27_66) rfl ?_
  refine Fx_seq (a := c27_62) (b := c27_63) rfl ?_
  refine Fx_text rfl ?_
  refine Ro_v (v := (Value.int .i64 n_74)) rfl (o_move rfl rfl) ?_
  refine Ro_v (v := (Value.string s_70)) rfl (o_move rfl rfl) ?_
  obtain ⟨x76, hx76, h⟩ := h.lt
  refine Ro_v (v := (Value.int .i64 x76)) rfl (o_lenS rfl tu9 rfl hx76) ?_
  obtain ⟨x77, hx77, h⟩ := h.lt
  refine Ro_v (v := (Value.bool x77)) rfl (o_lss rfl rfl rfl hx77) ?_
  refine Ro_v (v := (Value.bool x77)) rfl (o_move rfl rfl) ?_
  refine Ro_set (t := x77) (v := bif x77 then (Value.string s_70) else undef) rfl (w_T rfl rfl rfl) (by intro e; have e0 := e; subst e0; exact o_move rfl rfl) (fun e => ⟨gv_f e, rfl⟩) ?_
  refine Ro_set (t := x77) (v := bif x77 then (Value.int .i64 n_74) else undef) rfl (w_T rfl rfl rfl) (by intro e; have e0 := e; subst e0; exact o_move rfl rfl) (fun e => ⟨gv_f e, rfl⟩) ?_
  obtain ⟨x78, hx78, h⟩ := h.bd
  refine Ro_set (t := x77) (v := bif x77 then (Value.int .u8 x78) else undef) rfl (w_T rfl rfl rfl) (by intro e; have e0 := e; subst e0; exact o_idxS rfl tu9 rfl rfl hx78) (fun e => ⟨gv_f e, rfl⟩) ?_
  obtain ⟨x79, hx79, h⟩ := h.bd
  refine Ro_set (t := x77) (v := bif x77 then (Value.bool x79) else undef) rfl (w_T rfl rfl rfl) (by intro e; have e0 := e; subst e0; exact o_call (vs := [(Value.int .u8 x78)]) rfl rfl (w38 _ _ _ hx79)) (fun e => ⟨gv_f e, rfl⟩) ?_
  obtain ⟨x80, hx80, h⟩ := h.lt
  refine Ro_v (v := (Value.bool x80)) rfl (o_pick rfl rfl (by intro e; subst e; subst hx80; rfl) (by intro e; subst e; subst hx80; rfl)) ?_
  refine Ro_nil ?_
  refine Fx_cond (a := c27_64) (b := c27_65) rfl rfl (fun ex80 => ?_) (fun ex80 => ?_)
  · replace h := h.ifT ex80
    refine Fx_skip (c := c27_64) rfl ?_
    refine Fx_block (b := c27_67) rfl ?_
    refine Fx_text rfl ?_
    refine Ro_v (v := (Value.int .i64 n_74)) rfl (o_move rfl rfl) ?_
    obtain ⟨x81, hx81, h⟩ := h.lt
    refine Ro_v (v := (Value.int .i64 x81)) rfl (o_add rfl rfl rfl hx81) ?_
    refine Ro_v (v := (Value.int .i64 x81)) rfl (o_assign rfl rfl) ?_
    refine Ro_nil ?_
    refine Fx_blk ?_
    exact Fx_forget (Fr.set_of (Fr.set_of (Fr.set_of (Fr.set_of (Fr.set_of rfl rfl) rfl) rfl) rfl) rfl) (h.sm _)
  · replace h := h.ifF ex80
    refine Fx_exit rfl ?_
    refine Fx_out_code ?_
    refine Fx_out_code ?_
    refine Fx_out_eq ?_
    exact Fx_forget (Fr.set_of (Fr.set_of (Fr.set_of (Fr.set_of rfl rfl) rfl) rfl) rfl) (h.sm _)
theorem w27 (s_5 : ByteArray) (at_6 : Int) (σ : AHeap) (r : (Int × Int × Int × Int × AHeap)) (h : G_semvcsref01_next s_5 at_6 σ = some r) : callL Try.prog 27 [(Value.string s_5), (Value.int .i64 at_6)] σ = some ((Value.agg #[(Value.int .i64 r.1), (Value.int .i64 r.2.1), (Value.int .i64 r.2.2.1), (Value.int .i64 r.2.2.2.1)]), r.2.2.2.2) := by
  refine callL_walk (fn := Try.f27) (c := c27_0) (rs := rs27) Try.func27 rfl ok27 rfl rfl ?_
  obtain ⟨out, ho⟩ : ∃ out, out = ((Value.agg #[(Value.int .i64 r.1), (Value.int .i64 r.2.1), (Value.int .i64 r.2.2.1), (Value.int .i64 r.2.2.2.1)]), r.2.2.2.2) := ⟨_, rfl⟩
  rw [← ho]
  replace h : OptW (G_semvcsref01_next s_5 at_6 σ) (fun r => ((Value.agg #[(Value.int .i64 r.1), (Value.int .i64 r.2.1), (Value.int .i64 r.2.2.1), (Value.int .i64 r.2.2.2.1)]), r.2.2.2.2) = out) := ⟨r, h, ho.symm⟩
  unfold G_semvcsref01_next at h
  refine Fx_seq (a := c27_1) (b := c27_2) rfl ?_
  refine Fx_text rfl ?_
  obtain ⟨⟨x7, σ8⟩, hσ8, h⟩ := h.lt
  refine Ro_v (v := (Value.pointer x7)) rfl (o_alloc (vs := [(Value.int .i64 0), (Value.int .i64 0), (Value.int .i64 0), (Value.int .i64 0)]) rfl tz43 rfl rfl hσ8.symm) ?_
  refine Ro_nil ?_
  refine Fx_seq (a := c27_3) (b := c27_4) rfl ?_
  refine Fx_text rfl ?_
  refine Ro_v (v := (Value.string s_5)) rfl (o_move rfl rfl) ?_
  refine Ro_v (v := (Value.int .i64 at_6)) rfl (o_move rfl rfl) ?_
  obtain ⟨x9, hx9, h⟩ := h.bd
  refine Ro_v (v := (Value.int .u8 x9)) rfl (o_idxS rfl tu9 rfl rfl hx9) ?_
  refine Ro_v (v := (Value.int .u8 x9)) rfl (o_assign rfl rfl) ?_
  refine Ro_nil ?_
  refine Fx_seq (a := c27_5) (b := c27_93) rfl ?_
  refine Fx_block (b := c27_6) rfl ?_
  refine Fx_seq (a := c27_7) (b := c27_8) rfl ?_
  refine Fx_text rfl ?_
  refine Ro_v (v := (Value.int .u8 x9)) rfl (o_move rfl rfl) ?_
  obtain ⟨x10, hx10, h⟩ := h.bd
  refine Ro_v (v := (Value.bool x10)) rfl (o_call (vs := [(Value.int .u8 x9)]) rfl rfl (w36 _ _ _ hx10)) ?_
  obtain ⟨x11, hx11, h⟩ := h.lt
  refine Ro_v (v := (Value.bool x11)) rfl (o_not rfl rfl hx11) ?_
  refine Ro_v (v := (Value.bool x11)) rfl (o_assign rfl rfl) ?_
  refine Ro_nil ?_
  refine Fx_cond (a := c27_9) (b := c27_12) rfl rfl (fun ex11 => ?_) (fun ex11 => ?_)
  · replace h := h.ifT ex11
    refine Fx_seq (a := c27_10) (b := c27_11) rfl ?_
    refine Fx_text rfl ?_
    refine Ro_v (v := (Value.int .i64 at_6)) rfl (o_move rfl rfl) ?_
    refine Ro_v (v := (Value.agg #[(Value.int .i64 0), (Value.int .i64 0), (Value.int .i64 (1)), (Value.int .i64 at_6)])) rfl (o_build (ps := [(2, (Value.int .i64 (1))), (3, (Value.int .i64 at_6))]) (cs := #[(Value.int .i64 0), (Value.int .i64 0), (Value.int .i64 (1)), (Value.int .i64 at_6)]) rfl tz43 tp43 rfl rfl rfl) ?_
    obtain ⟨σ12, hσ12, h⟩ := h.bd
    refine Ro_d rfl (o_store (v := (Value.agg #[(Value.int .i64 0), (Value.int .i64 0), (Value.int .i64 (1)), (Value.int .i64 at_6)])) (vs := [(Value.int .i64 0), (Value.int .i64 0), (Value.int .i64 (1)), (Value.int .i64 at_6)]) rfl ts43 rfl rfl rfl rfl hσ12) ?_
    refine Ro_nil ?_
    obtain ⟨⟨x13, x14, x15, x16⟩, hx13, h⟩ := h.bd
    exact Fx_ret rfl (resL_one (res_cellN ta43 ts43 rfl (ld_i64_i64_i64_i64_eq hx13))) (congrArg some h.sm)
  · replace h := h.ifF ex11
    refine Fx_seq (a := c27_13) (b := c27_14) rfl ?_
    refine Fx_text rfl ?_
    refine Ro_v (v := (Value.int .u8 x9)) rfl (o_move rfl rfl) ?_
    obtain ⟨x17, hx17, h⟩ := h.lt
    refine Ro_v (v := (Value.bool x17)) rfl (o_eql rfl rfl rfl hx17) ?_
    refine Ro_v (v := (Value.bool x17)) rfl (o_assign rfl rfl) ?_
    refine Ro_nil ?_
    refine Fx_cond (a := c27_15) (b := c27_52) rfl rfl (fun ex17 => ?_) (fun ex17 => ?_)
    · replace h := h.ifT ex17
      refine Fx_seq (a := c27_16) (b := c27_49) rfl ?_
      refine Fx_seq (a := c27_17) (b := c27_18) rfl ?_
      refine Fx_text rfl ?_
      refine Ro_v (v := (Value.int .i64 at_6)) rfl (o_move rfl rfl) ?_
      obtain ⟨x18, hx18, h⟩ := h.lt
      refine Ro_v (v := (Value.int .i64 x18)) rfl (o_add rfl rfl rfl hx18) ?_
      refine Ro_v (v := (Value.int .i64 x18)) rfl (o_assign rfl rfl) ?_
      refine Ro_nil ?_
      refine Fx_block (b := c27_19) rfl ?_
      refine Fx_forget (Fr.set_of (Fr.set_of (Fr.set_of (Fr.set_of rfl rfl) rfl) rfl) rfl) ((OptW.loop h (fun s => C27_l1 s_5 at_6 x7 out (.inl s)) ?_ : C27_l1 s_5 at_6 x7 out (.inl (x18, σ8))) _)
      intro s hs f
      obtain ⟨n_22, σ⟩ := s
      refine q27_l1 s_5 at_6 x7 n_22 σ out f (hs.imp ?_)
      intro r hr
      rcases r with y | b
      · exact hr
      · rcases b with b | b
        · obtain ⟨σ58, rfl⟩ : ∃ x, x = b := ⟨_, rfl⟩
          have h := hr
          intro f
          refine Fx_seq (a := c27_50) (b := c27_51) rfl ?_
          refine Fx_text rfl ?_
          refine Ro_v (v := (Value.int .i64 at_6)) rfl (o_move rfl rfl) ?_
          refine Ro_v (v := (Value.agg #[(Value.int .i64 0), (Value.int .i64 0), (Value.int .i64 (2)), (Value.int .i64 at_6)])) rfl (o_build (ps := [(2, (Value.int .i64 (2))), (3, (Value.int .i64 at_6))]) (cs := #[(Value.int .i64 0), (Value.int .i64 0), (Value.int .i64 (2)), (Value.int .i64 at_6)]) rfl tz43 tp43 rfl rfl rfl) ?_
          obtain ⟨σ59, hσ59, h⟩ := h.bd
          refine Ro_d rfl (o_store (v := (Value.agg #[(Value.int .i64 0), (Value.int .i64 0), (Value.int .i64 (2)), (Value.int .i64 at_6)])) (vs := [(Value.int .i64 0), (Value.int .i64 0), (Value.int .i64 (2)), (Value.int .i64 at_6)]) rfl ts43 rfl rfl rfl rfl hσ59) ?_
          refine Ro_nil ?_
          obtain ⟨⟨x60, x61, x62, x63⟩, hx60, h⟩ := h.bd
          exact Fx_ret rfl (resL_one (res_cellN ta43 ts43 rfl (ld_i64_i64_i64_i64_eq hx60))) (congrArg some h.sm)
        · obtain ⟨x64, x65, x66, x67, σ68⟩ := b
          have h := hr
          exact h.sm
    · replace h := h.ifF ex17
      refine Fx_seq (a := c27_53) (b := c27_54) rfl ?_
      refine Fx_text rfl ?_
      refine Ro_v (v := (Value.int .u8 x9)) rfl (o_move rfl rfl) ?_
      obtain ⟨x69, hx69, h⟩ := h.bd
      refine Ro_v (v := (Value.bool x69)) rfl (o_call (vs := [(Value.int .u8 x9)]) rfl rfl (w38 _ _ _ hx69)) ?_
      refine Ro_v (v := (Value.bool x69)) rfl (o_assign rfl rfl) ?_
      refine Ro_nil ?_
      refine Fx_cond (a := c27_55) (b := c27_86) rfl rfl (fun ex69 => ?_) (fun ex69 => ?_)
      · replace h := h.ifT ex69
        refine Fx_seq (a := c27_56) (b := c27_57) rfl ?_
        refine Fx_text rfl ?_
        refine Ro_v (v := (Value.int .i64 at_6)) rfl (o_move rfl rfl) ?_
        refine Ro_v (v := (Value.int .i64 at_6)) rfl (o_assign rfl rfl) ?_
        refine Ro_nil ?_
        refine Fx_seq (a := c27_58) (b := c27_68) rfl ?_
        refine Fx_block (b := c27_59) rfl ?_
        refine Fx_forget (Fr.set_of (Fr.set_of (Fr.set_of (Fr.set_of (Fr.set_of rfl rfl) rfl) rfl) rfl) rfl) ((OptW.loop h (fun s => C27_l2 s_5 at_6 x7 x9 out (.inl s)) ?_ : C27_l2 s_5 at_6 x7 x9 out (.inl (at_6, σ8))) _)
        intro s hs f
        obtain ⟨n_74, σ⟩ := s
        refine q27_l2 s_5 at_6 x7 x9 n_74 σ out f (hs.imp ?_)
        intro r hr
        rcases r with y | b
        · exact hr
        · obtain ⟨n_82, σ83⟩ := b
          have h := hr
          intro f
          refine Fx_seq (a := c27_69) (b := c27_83) rfl ?_
          refine Fx_block (b := c27_70) rfl ?_
          refine Fx_seq (a := c27_71) (b := c27_72) rfl ?_
          refine Fx_text rfl ?_
          refine Ro_v (v := (Value.int .i64 n_82)) rfl (o_move rfl rfl) ?_
          refine Ro_v (v := (Value.int .i64 at_6)) rfl (o_move rfl rfl) ?_
          obtain ⟨x84, hx84, h⟩ := h.lt
          refine Ro_v (v := (Value.int .i64 x84)) rfl (o_sub rfl rfl rfl hx84) ?_
          obtain ⟨x85, hx85, h⟩ := h.lt
          refine Ro_v (v := (Value.bool x85)) rfl (o_gtr rfl rfl rfl hx85) ?_
          refine Ro_v (v := (Value.bool x85)) rfl (o_move rfl rfl) ?_
          refine Ro_set (t := x85) (v := bif x85 then (Value.int .u8 x9) else undef) rfl (w_T rfl rfl rfl) (by intro e; have e0 := e; subst e0; exact o_move rfl rfl) (fun e => ⟨gv_f e, rfl⟩) ?_
          obtain ⟨x86, hx86, h⟩ := h.lt
          refine Ro_set (t := x85) (v := bif x85 then (Value.bool x86) else undef) rfl (w_T rfl rfl rfl) (by intro e; have e0 := e; subst e0; exact o_eql rfl rfl rfl hx86) (fun e => ⟨gv_f e, rfl⟩) ?_
          obtain ⟨x87, hx87, h⟩ := h.lt
          refine Ro_v (v := (Value.bool x87)) rfl (o_pick rfl rfl (by intro e; subst e; subst hx87; rfl) (by intro e; subst e; subst hx87; rfl)) ?_
          refine Ro_v (v := (Value.bool x87)) rfl (o_assign rfl rfl) ?_
          refine Ro_nil ?_
          refine Fx_cond (a := c27_73) (b := c27_76) rfl rfl (fun ex87 => ?_) (fun ex87 => ?_)
          · replace h := h.ifT ex87
            refine Fx_seq (a := c27_74) (b := c27_75) rfl ?_
            refine Fx_text rfl ?_
            refine Ro_v (v := (Value.int .i64 at_6)) rfl (o_move rfl rfl) ?_
            refine Ro_v (v := (Value.agg #[(Value.int .i64 0), (Value.int .i64 0), (Value.int .i64 (2)), (Value.int .i64 at_6)])) rfl (o_build (ps := [(2, (Value.int .i64 (2))), (3, (Value.int .i64 at_6))]) (cs := #[(Value.int .i64 0), (Value.int .i64 0), (Value.int .i64 (2)), (Value.int .i64 at_6)]) rfl tz43 tp43 rfl rfl rfl) ?_
            obtain ⟨σ88, hσ88, h⟩ := h.bd
            refine Ro_d rfl (o_store (v := (Value.agg #[(Value.int .i64 0), (Value.int .i64 0), (Value.int .i64 (2)), (Value.int .i64 at_6)])) (vs := [(Value.int .i64 0), (Value.int .i64 0), (Value.int .i64 (2)), (Value.int .i64 at_6)]) rfl ts43 rfl rfl rfl rfl hσ88) ?_
            refine Ro_nil ?_
            obtain ⟨⟨x89, x90, x91, x92⟩, hx89, h⟩ := h.bd
            exact Fx_ret rfl (resL_one (res_cellN ta43 ts43 rfl (ld_i64_i64_i64_i64_eq hx89))) (congrArg some h.sm)
          · replace h := h.ifF ex87
            refine Fx_seq (a := c27_77) (b := c27_78) rfl ?_
            refine Fx_text rfl ?_
            refine Ro_v (v := (Value.int .i64 n_82)) rfl (o_move rfl rfl) ?_
            refine Ro_v (v := (Value.int .i64 at_6)) rfl (o_move rfl rfl) ?_
            obtain ⟨x93, hx93, h⟩ := h.lt
            refine Ro_v (v := (Value.int .i64 x93)) rfl (o_sub rfl rfl rfl hx93) ?_
            obtain ⟨x94, hx94, h⟩ := h.lt
            refine Ro_v (v := (Value.bool x94)) rfl (o_gtr rfl rfl rfl hx94) ?_
            refine Ro_v (v := (Value.bool x94)) rfl (o_assign rfl rfl) ?_
            refine Ro_nil ?_
            refine Fx_cond (a := c27_79) (b := c27_82) rfl rfl (fun ex94 => ?_) (fun ex94 => ?_)
            · replace h := h.ifT ex94
              refine Fx_seq (a := c27_80) (b := c27_81) rfl ?_
              refine Fx_text rfl ?_
              refine Ro_v (v := (Value.int .i64 at_6)) rfl (o_move rfl rfl) ?_
              refine Ro_v (v := (Value.agg #[(Value.int .i64 0), (Value.int .i64 0), (Value.int .i64 (3)), (Value.int .i64 at_6)])) rfl (o_build (ps := [(2, (Value.int .i64 (3))), (3, (Value.int .i64 at_6))]) (cs := #[(Value.int .i64 0), (Value.int .i64 0), (Value.int .i64 (3)), (Value.int .i64 at_6)]) rfl tz43 tp43 rfl rfl rfl) ?_
              obtain ⟨σ95, hσ95, h⟩ := h.bd
              refine Ro_d rfl (o_store (v := (Value.agg #[(Value.int .i64 0), (Value.int .i64 0), (Value.int .i64 (3)), (Value.int .i64 at_6)])) (vs := [(Value.int .i64 0), (Value.int .i64 0), (Value.int .i64 (3)), (Value.int .i64 at_6)]) rfl ts43 rfl rfl rfl rfl hσ95) ?_
              refine Ro_nil ?_
              obtain ⟨⟨x96, x97, x98, x99⟩, hx96, h⟩ := h.bd
              exact Fx_ret rfl (resL_one (res_cellN ta43 ts43 rfl (ld_i64_i64_i64_i64_eq hx96))) (congrArg some h.sm)
            · replace h := h.ifF ex94
              refine Fx_skip (c := c27_82) rfl ?_
              refine Fx_blk ?_
              refine Fx_seq (a := c27_84) (b := c27_85) rfl ?_
              refine Fx_text rfl ?_
              refine Ro_v (v := (Value.int .i64 n_82)) rfl (o_move rfl rfl) ?_
              refine Ro_v (v := (Value.int .i64 at_6)) rfl (o_move rfl rfl) ?_
              obtain ⟨x100, hx100, h⟩ := h.lt
              refine Ro_v (v := (Value.int .i64 x100)) rfl (o_sub rfl rfl rfl hx100) ?_
              refine Ro_v (v := (Value.agg #[(Value.int .i64 x100), (Value.int .i64 (5)), (Value.int .i64 0), (Value.int .i64 0)])) rfl (o_build (ps := [(0, (Value.int .i64 x100)), (1, (Value.int .i64 (5)))]) (cs := #[(Value.int .i64 x100), (Value.int .i64 (5)), (Value.int .i64 0), (Value.int .i64 0)]) rfl tz43 tp43 rfl rfl rfl) ?_
              obtain ⟨σ101, hσ101, h⟩ := h.bd
              refine Ro_d rfl (o_store (v := (Value.agg #[(Value.int .i64 x100), (Value.int .i64 (5)), (Value.int .i64 0), (Value.int .i64 0)])) (vs := [(Value.int .i64 x100), (Value.int .i64 (5)), (Value.int .i64 0), (Value.int .i64 0)]) rfl ts43 rfl rfl rfl rfl hσ101) ?_
              refine Ro_nil ?_
              obtain ⟨⟨x102, x103, x104, x105⟩, hx102, h⟩ := h.bd
              exact Fx_ret rfl (resL_one (res_cellN ta43 ts43 rfl (ld_i64_i64_i64_i64_eq hx102))) (congrArg some h.sm)
      · replace h := h.ifF ex69
        refine Fx_seq (a := c27_87) (b := c27_88) rfl ?_
        refine Fx_text rfl ?_
        refine Ro_v (v := (Value.int .u8 x9)) rfl (o_move rfl rfl) ?_
        obtain ⟨x106, hx106, h⟩ := h.bd
        refine Ro_v (v := (Value.bool x106)) rfl (o_call (vs := [(Value.int .u8 x9)]) rfl rfl (w39 _ _ _ hx106)) ?_
        refine Ro_v (v := (Value.bool x106)) rfl (o_move rfl rfl) ?_
        refine Ro_set (t := !x106) (v := bif !x106 then (Value.int .u8 x9) else undef) rfl (w_F rfl rfl rfl) (by intro e; have e0 := not_t (e); subst e0; exact o_move rfl rfl) (fun e => ⟨gv_f e, rfl⟩) ?_
        obtain ⟨x107, hx107, h⟩ := h.bd
        refine Ro_set (t := !x106) (v := bif !x106 then (Value.bool x107) else undef) rfl (w_F rfl rfl rfl) (by intro e; have e0 := not_t (e); subst e0; exact o_call (vs := [(Value.int .u8 x9)]) rfl rfl (w40 _ _ _ hx107)) (fun e => ⟨gv_f e, rfl⟩) ?_
        obtain ⟨x108, hx108, h⟩ := h.lt
        refine Ro_v (v := (Value.bool x108)) rfl (o_pick rfl rfl (by intro e; subst e; subst hx108; rfl) (by intro e; subst e; subst hx108; rfl)) ?_
        refine Ro_v (v := (Value.bool x108)) rfl (o_assign rfl rfl) ?_
        refine Ro_nil ?_
        refine Fx_cond (a := c27_89) (b := c27_92) rfl rfl (fun ex108 => ?_) (fun ex108 => ?_)
        · replace h := h.ifT ex108
          refine Fx_seq (a := c27_90) (b := c27_91) rfl ?_
          refine Fx_text rfl ?_
          refine Ro_v (v := (Value.string s_5)) rfl (o_move rfl rfl) ?_
          refine Ro_v (v := (Value.int .i64 at_6)) rfl (o_move rfl rfl) ?_
          obtain ⟨⟨x113, x114, x115, x116, σ117⟩, hσ117, h⟩ := h.bd
          refine Ro_v (v := (Value.agg #[(Value.int .i64 x113), (Value.int .i64 x114), (Value.int .i64 x115), (Value.int .i64 x116)])) rfl (o_call (vs := [(Value.string s_5), (Value.int .i64 at_6)]) rfl rfl (w41 _ _ _ _ hσ117)) ?_
          obtain ⟨σ118, hσ118, h⟩ := h.bd
          refine Ro_d rfl (o_store (v := (Value.agg #[(Value.int .i64 x113), (Value.int .i64 x114), (Value.int .i64 x115), (Value.int .i64 x116)])) (vs := [(Value.int .i64 x113), (Value.int .i64 x114), (Value.int .i64 x115), (Value.int .i64 x116)]) rfl ts43 rfl rfl rfl rfl hσ118) ?_
          refine Ro_nil ?_
          obtain ⟨⟨x119, x120, x121, x122⟩, hx119, h⟩ := h.bd
          exact Fx_ret rfl (resL_one (res_cellN ta43 ts43 rfl (ld_i64_i64_i64_i64_eq hx119))) (congrArg some h.sm)
        · replace h := h.ifF ex108
          refine Fx_skip (c := c27_92) rfl ?_
          refine Fx_blk ?_
          refine Fx_seq (a := c27_94) (b := c27_95) rfl ?_
          refine Fx_text rfl ?_
          refine Ro_v (v := (Value.string s_5)) rfl (o_move rfl rfl) ?_
          refine Ro_v (v := (Value.int .i64 at_6)) rfl (o_move rfl rfl) ?_
          obtain ⟨x123, hx123, h⟩ := h.bd
          refine Ro_v (v := (Value.int .i64 x123)) rfl (o_call (vs := [(Value.string s_5), (Value.int .i64 at_6)]) rfl rfl (w42 _ _ _ _ hx123)) ?_
          refine Ro_v (v := (Value.int .i64 x123)) rfl (o_assign rfl rfl) ?_
          refine Ro_nil ?_
          refine Fx_seq (a := c27_96) (b := c27_103) rfl ?_
          refine Fx_seq (a := c27_97) (b := c27_98) rfl ?_
          refine Fx_text rfl ?_
          refine Ro_v (v := (Value.int .i64 x123)) rfl (o_move rfl rfl) ?_
          obtain ⟨x124, hx124, h⟩ := h.lt
          refine Ro_v (v := (Value.bool x124)) rfl (o_eql rfl rfl rfl hx124) ?_
          refine Ro_nil ?_
          refine Fx_cond (a := c27_99) (b := c27_102) rfl rfl (fun ex124 => ?_) (fun ex124 => ?_)
          · replace h := h.ifT ex124
            refine Fx_seq (a := c27_100) (b := c27_101) rfl ?_
            refine Fx_text rfl ?_
            refine Ro_v (v := (Value.int .i64 at_6)) rfl (o_move rfl rfl) ?_
            refine Ro_v (v := (Value.agg #[(Value.int .i64 0), (Value.int .i64 0), (Value.int .i64 (2)), (Value.int .i64 at_6)])) rfl (o_build (ps := [(2, (Value.int .i64 (2))), (3, (Value.int .i64 at_6))]) (cs := #[(Value.int .i64 0), (Value.int .i64 0), (Value.int .i64 (2)), (Value.int .i64 at_6)]) rfl tz43 tp43 rfl rfl rfl) ?_
            obtain ⟨σ125, hσ125, h⟩ := h.bd
            refine Ro_d rfl (o_store (v := (Value.agg #[(Value.int .i64 0), (Value.int .i64 0), (Value.int .i64 (2)), (Value.int .i64 at_6)])) (vs := [(Value.int .i64 0), (Value.int .i64 0), (Value.int .i64 (2)), (Value.int .i64 at_6)]) rfl ts43 rfl rfl rfl rfl hσ125) ?_
            refine Ro_nil ?_
            obtain ⟨⟨x126, x127, x128, x129⟩, hx126, h⟩ := h.bd
            exact Fx_ret rfl (resL_one (res_cellN ta43 ts43 rfl (ld_i64_i64_i64_i64_eq hx126))) (congrArg some h.sm)
          · replace h := h.ifF ex124
            refine Fx_skip (c := c27_102) rfl ?_
            refine Fx_seq (a := c27_104) (b := c27_105) rfl ?_
            refine Fx_text rfl ?_
            refine Ro_v (v := (Value.int .i64 x123)) rfl (o_move rfl rfl) ?_
            refine Ro_v (v := (Value.agg #[(Value.int .i64 x123), (Value.int .i64 (8)), (Value.int .i64 0), (Value.int .i64 0)])) rfl (o_build (ps := [(0, (Value.int .i64 x123)), (1, (Value.int .i64 (8)))]) (cs := #[(Value.int .i64 x123), (Value.int .i64 (8)), (Value.int .i64 0), (Value.int .i64 0)]) rfl tz43 tp43 rfl rfl rfl) ?_
            obtain ⟨σ130, hσ130, h⟩ := h.bd
            refine Ro_d rfl (o_store (v := (Value.agg #[(Value.int .i64 x123), (Value.int .i64 (8)), (Value.int .i64 0), (Value.int .i64 0)])) (vs := [(Value.int .i64 x123), (Value.int .i64 (8)), (Value.int .i64 0), (Value.int .i64 0)]) rfl ts43 rfl rfl rfl rfl hσ130) ?_
            refine Ro_nil ?_
            obtain ⟨⟨x131, x132, x133, x134⟩, hx131, h⟩ := h.bd
            exact Fx_ret rfl (resL_one (res_cellN ta43 ts43 rfl (ld_i64_i64_i64_i64_eq hx131))) (congrArg some h.sm)
noncomputable def c28_0 : Code := bodyOf Try.f28
noncomputable def c28_1 : Code := cl c28_0
noncomputable def c28_2 : Code := cr c28_0
noncomputable def c28_3 : Code := cl c28_2
noncomputable def c28_4 : Code := cr c28_2
noncomputable def c28_5 : Code := cl c28_4
noncomputable def c28_6 : Code := cl c28_5
noncomputable def c28_7 : Code := cl c28_6
noncomputable def c28_8 : Code := cl c28_7
noncomputable def c28_9 : Code := cl c28_8
noncomputable def c28_10 : Code := cr c28_8
noncomputable def c28_11 : Code := cl c28_10
noncomputable def c28_12 : Code := cr c28_10
noncomputable def c28_13 : Code := cr c28_7
noncomputable def c28_14 : Code := cl c28_13
noncomputable def c28_15 : Code := cl c28_14
noncomputable def c28_16 : Code := cl c28_15
noncomputable def c28_17 : Code := cr c28_15
noncomputable def c28_18 : Code := cl c28_17
noncomputable def c28_19 : Code := cr c28_17
noncomputable def c28_20 : Code := cl c28_19
noncomputable def c28_21 : Code := cr c28_19
noncomputable def c28_22 : Code := cl c28_21
noncomputable def c28_23 : Code := cl c28_22
noncomputable def c28_24 : Code := cl c28_23
noncomputable def c28_25 : Code := cl c28_24
noncomputable def c28_26 : Code := cl c28_25
noncomputable def c28_27 : Code := cr c28_25
noncomputable def c28_28 : Code := cl c28_27
noncomputable def c28_29 : Code := cr c28_27
noncomputable def c28_30 : Code := cr c28_24
noncomputable def c28_31 : Code := cl c28_30
noncomputable def c28_32 : Code := cl c28_31
noncomputable def c28_33 : Code := cl c28_32
noncomputable def c28_34 : Code := cr c28_32
noncomputable def c28_35 : Code := cl c28_34
noncomputable def c28_36 : Code := cl c28_35
noncomputable def c28_37 : Code := cr c28_35
noncomputable def c28_38 : Code := cr c28_34
noncomputable def c28_39 : Code := cr c28_31
noncomputable def c28_40 : Code := cr c28_21
noncomputable def c28_41 : Code := cl c28_40
noncomputable def c28_42 : Code := cr c28_40
noncomputable def c28_43 : Code := cr c28_4
noncomputable def c28_44 : Code := cl c28_43
noncomputable def c28_45 : Code := cr c28_43
theorem ok28 : funcOk Try.f28 = true := by kernel_rfl
noncomputable def rs28 : List ResultVar := resultsOf Try.f28
noncomputable def C28_l1 (s_5 : ByteArray) (at_6 : Int) (σ : AHeap) (out : Value × AHeap) : Int ⊕ (Int ⊕ (Int × Int)) → Prop
  | .inl n_7 => ∀ f, Fx Try.prog rs28 [.code c28_6, .blk 0, .code c28_43] .normal (Fr.set (Fr.set (Fr.set f 0 (Value.string s_5)) 1 (Value.int .i64 at_6)) 6 (Value.int .i64 n_7)) σ = some out
  | .inr (.inl n_8) => ∀ f, Fx Try.prog rs28 [.code c28_43] .normal (Fr.set (Fr.set f 1 (Value.int .i64 at_6)) 6 (Value.int .i64 n_8)) σ = some out
  | .inr (.inr (x9, x10)) => ((Value.tuple #[(Value.int .i64 x9), (Value.int .i64 x10)]), σ) = out
noncomputable def C28_l2 (s_18 : ByteArray) (at_19 : Int) (σ : AHeap) (out : Value × AHeap) : Int ⊕ (Int ⊕ (Int × Int)) → Prop
  | .inl n_20 => ∀ f, Fx Try.prog rs28 [.code c28_23, .blk 3, .blk 2, .blk 1, .code c28_6, .blk 0, .code c28_43] .normal (Fr.set (Fr.set (Fr.set f 0 (Value.string s_18)) 1 (Value.int .i64 at_19)) 6 (Value.int .i64 n_20)) σ = some out
  | .inr (.inl n_21) => ∀ f, Fx Try.prog rs28 [.blk 2, .blk 1, .code c28_6, .blk 0, .code c28_43] .normal (Fr.set (Fr.set (Fr.set f 0 (Value.string s_18)) 1 (Value.int .i64 at_19)) 6 (Value.int .i64 n_21)) σ = some out
  | .inr (.inr (x22, x23)) => ((Value.tuple #[(Value.int .i64 x22), (Value.int .i64 x23)]), σ) = out
theorem q28_l2 (s_18 : ByteArray) (at_19 : Int) (n_20 : Int) (σ : AHeap) (out : Value × AHeap) (f : Fr) (h : OptW (G_semvcsref01_lead_l2 s_18 at_19 n_20) (C28_l2 s_18 at_19 σ out)) :
    Fx Try.prog rs28 [.code c28_23, .blk 3, .blk 2, .blk 1, .code c28_6, .blk 0, .code c28_43] .normal (Fr.set (Fr.set (Fr.set f 0 (Value.string s_18)) 1 (Value.int .i64 at_19)) 6 (Value.int .i64 n_20)) σ = some out := by
  unfold G_semvcsref01_lead_l2 at h
  refine Fx_loop (b := c28_24) rfl ?_
  refine Fx_seq (a := c28_25) (b := c28_30) rfl ?_
  refine Fx_seq (a := c28_26) (b := c28_27) rfl ?_
  refine Fx_text rfl ?_
  refine Ro_v (v := (Value.int .i64 n_20)) rfl (o_move rfl rfl) ?_
  refine Ro_v (v := (Value.string s_18)) rfl (o_move rfl rfl) ?_
  obtain ⟨x24, hx24, h⟩ := h.lt
  refine Ro_v (v := (Value.int .i64 x24)) rfl (o_lenS rfl tu9 rfl hx24) ?_
  obtain ⟨x25, hx25, h⟩ := h.lt
  refine Ro_v (v := (Value.bool x25)) rfl (o_lss rfl rfl rfl hx25) ?_
  refine Ro_v (v := (Value.bool x25)) rfl (o_move rfl rfl) ?_
  refine Ro_set (t := x25) (v := bif x25 then (Value.string s_18) else undef) rfl (w_T rfl rfl rfl) (by intro e; have e0 := e; subst e0; exact o_move rfl rfl) (fun e => ⟨gv_f e, rfl⟩) ?_
  refine Ro_set (t := x25) (v := bif x25 then (Value.int .i64 n_20) else undef) rfl (w_T rfl rfl rfl) (by intro e; have e0 := e; subst e0; exact o_move rfl rfl) (fun e => ⟨gv_f e, rfl⟩) ?_
  obtain ⟨x26, hx26, h⟩ := h.bd
  refine Ro_set (t := x25) (v := bif x25 then (Value.int .u8 x26) else undef) rfl (w_T rfl rfl rfl) (by intro e; have e0 := e; subst e0; exact o_idxS rfl tu9 rfl rfl hx26) (fun e => ⟨gv_f e, rfl⟩) ?_
  obtain ⟨x27, hx27, h⟩ := h.lt
  refine Ro_set (t := x25) (v := bif x25 then (Value.bool x27) else undef) rfl (w_T rfl rfl rfl) (by intro e; have e0 := e; subst e0; exact o_neq rfl rfl rfl hx27) (fun e => ⟨gv_f e, rfl⟩) ?_
  obtain ⟨x28, hx28, h⟩ := h.lt
  refine Ro_v (v := (Value.bool x28)) rfl (o_pick rfl rfl (by intro e; subst e; subst hx28; rfl) (by intro e; subst e; subst hx28; rfl)) ?_
  refine Ro_nil ?_
  refine Fx_cond (a := c28_28) (b := c28_29) rfl rfl (fun ex28 => ?_) (fun ex28 => ?_)
  · replace h := h.ifT ex28
    refine Fx_skip (c := c28_28) rfl ?_
    refine Fx_block (b := c28_31) rfl ?_
    refine Fx_seq (a := c28_32) (b := c28_39) rfl ?_
    refine Fx_seq (a := c28_33) (b := c28_34) rfl ?_
    refine Fx_text rfl ?_
    refine Ro_v (v := (Value.string s_18)) rfl (o_move rfl rfl) ?_
    refine Ro_v (v := (Value.int .i64 n_20)) rfl (o_move rfl rfl) ?_
    obtain ⟨x29, hx29, h⟩ := h.bd
    refine Ro_v (v := (Value.int .u8 x29)) rfl (o_idxS rfl tu9 rfl rfl hx29) ?_
    obtain ⟨x30, hx30, h⟩ := h.bd
    refine Ro_v (v := (Value.bool x30)) rfl (o_call (vs := [(Value.int .u8 x29)]) rfl rfl (w36 _ _ _ hx30)) ?_
    obtain ⟨x31, hx31, h⟩ := h.lt
    refine Ro_v (v := (Value.bool x31)) rfl (o_not rfl rfl hx31) ?_
    refine Ro_nil ?_
    refine Fx_cond (a := c28_35) (b := c28_38) rfl rfl (fun ex31 => ?_) (fun ex31 => ?_)
    · replace h := h.ifT ex31
      refine Fx_seq (a := c28_36) (b := c28_37) rfl ?_
      refine Fx_text rfl ?_
      refine Ro_v (v := (Value.int .i64 n_20)) rfl (o_move rfl rfl) ?_
      refine Ro_v (v := (Value.int .i64 at_19)) rfl (o_move rfl rfl) ?_
      obtain ⟨x32, hx32, h⟩ := h.lt
      refine Ro_v (v := (Value.int .i64 x32)) rfl (o_sub rfl rfl rfl hx32) ?_
      refine Ro_v (v := (Value.int .i64 n_20)) rfl (o_move rfl rfl) ?_
      refine Ro_v (v := (Value.int .i64 x32)) rfl (o_assign rfl rfl) ?_
      refine Ro_v (v := (Value.int .i64 n_20)) rfl (o_assign rfl rfl) ?_
      refine Ro_nil ?_
      exact Fx_ret rfl rfl (congrArg some h.sm)
    · replace h := h.ifF ex31
      refine Fx_skip (c := c28_38) rfl ?_
      refine Fx_text rfl ?_
      refine Ro_v (v := (Value.int .i64 n_20)) rfl (o_move rfl rfl) ?_
      obtain ⟨x33, hx33, h⟩ := h.lt
      refine Ro_v (v := (Value.int .i64 x33)) rfl (o_add rfl rfl rfl hx33) ?_
      refine Ro_v (v := (Value.int .i64 x33)) rfl (o_assign rfl rfl) ?_
      refine Ro_nil ?_
      refine Fx_blk ?_
      exact Fx_forget (Fr.set_of (Fr.set_of (Fr.set_of rfl rfl) rfl) rfl) (h.sm _)
  · replace h := h.ifF ex28
    refine Fx_exit rfl ?_
    refine Fx_out_code ?_
    refine Fx_out_code ?_
    refine Fx_out_eq ?_
    exact Fx_forget (Fr.set_of (Fr.set_of (Fr.set_of rfl rfl) rfl) rfl) (h.sm _)
theorem q28_l1 (s_5 : ByteArray) (at_6 : Int) (n_7 : Int) (σ : AHeap) (out : Value × AHeap) (f : Fr) (h : OptW (G_semvcsref01_lead_l1 s_5 at_6 n_7) (C28_l1 s_5 at_6 σ out)) :
    Fx Try.prog rs28 [.code c28_6, .blk 0, .code c28_43] .normal (Fr.set (Fr.set (Fr.set f 0 (Value.string s_5)) 1 (Value.int .i64 at_6)) 6 (Value.int .i64 n_7)) σ = some out := by
  unfold G_semvcsref01_lead_l1 at h
  refine Fx_loop (b := c28_7) rfl ?_
  refine Fx_seq (a := c28_8) (b := c28_13) rfl ?_
  refine Fx_seq (a := c28_9) (b := c28_10) rfl ?_
  refine Fx_text rfl ?_
  refine Ro_v (v := (Value.int .i64 n_7)) rfl (o_move rfl rfl) ?_
  refine Ro_v (v := (Value.string s_5)) rfl (o_move rfl rfl) ?_
  obtain ⟨x11, hx11, h⟩ := h.lt
  refine Ro_v (v := (Value.int .i64 x11)) rfl (o_lenS rfl tu9 rfl hx11) ?_
  obtain ⟨x12, hx12, h⟩ := h.lt
  refine Ro_v (v := (Value.bool x12)) rfl (o_lss rfl rfl rfl hx12) ?_
  refine Ro_nil ?_
  refine Fx_cond (a := c28_11) (b := c28_12) rfl rfl (fun ex12 => ?_) (fun ex12 => ?_)
  · replace h := h.ifT ex12
    refine Fx_skip (c := c28_11) rfl ?_
    refine Fx_block (b := c28_14) rfl ?_
    refine Fx_block (b := c28_15) rfl ?_
    refine Fx_seq (a := c28_16) (b := c28_17) rfl ?_
    refine Fx_text rfl ?_
    refine Ro_v (v := (Value.string s_5)) rfl (o_move rfl rfl) ?_
    refine Ro_v (v := (Value.int .i64 n_7)) rfl (o_move rfl rfl) ?_
    obtain ⟨x13, hx13, h⟩ := h.bd
    refine Ro_v (v := (Value.int .u8 x13)) rfl (o_idxS rfl tu9 rfl rfl hx13) ?_
    obtain ⟨x14, hx14, h⟩ := h.bd
    refine Ro_v (v := (Value.bool x14)) rfl (o_call (vs := [(Value.int .u8 x13)]) rfl rfl (w26 _ _ _ hx14)) ?_
    refine Ro_v (v := (Value.bool x14)) rfl (o_assign rfl rfl) ?_
    refine Ro_nil ?_
    refine Fx_cond (a := c28_18) (b := c28_19) rfl rfl (fun ex14 => ?_) (fun ex14 => ?_)
    · replace h := h.ifT ex14
      refine Fx_text rfl ?_
      refine Ro_v (v := (Value.int .i64 n_7)) rfl (o_move rfl rfl) ?_
      obtain ⟨x15, hx15, h⟩ := h.lt
      refine Ro_v (v := (Value.int .i64 x15)) rfl (o_add rfl rfl rfl hx15) ?_
      refine Ro_v (v := (Value.int .i64 x15)) rfl (o_assign rfl rfl) ?_
      refine Ro_nil ?_
      refine Fx_blk ?_
      refine Fx_blk ?_
      exact Fx_forget (Fr.set_of (Fr.set_of (Fr.set_of rfl rfl) rfl) rfl) (h.sm _)
    · replace h := h.ifF ex14
      refine Fx_seq (a := c28_20) (b := c28_21) rfl ?_
      refine Fx_text rfl ?_
      refine Ro_v (v := (Value.string s_5)) rfl (o_move rfl rfl) ?_
      refine Ro_v (v := (Value.int .i64 n_7)) rfl (o_move rfl rfl) ?_
      obtain ⟨x16, hx16, h⟩ := h.bd
      refine Ro_v (v := (Value.int .u8 x16)) rfl (o_idxS rfl tu9 rfl rfl hx16) ?_
      obtain ⟨x17, hx17, h⟩ := h.lt
      refine Ro_v (v := (Value.bool x17)) rfl (o_eql rfl rfl rfl hx17) ?_
      refine Ro_v (v := (Value.bool x17)) rfl (o_assign rfl rfl) ?_
      refine Ro_nil ?_
      refine Fx_cond (a := c28_22) (b := c28_40) rfl rfl (fun ex17 => ?_) (fun ex17 => ?_)
      · replace h := h.ifT ex17
        refine Fx_block (b := c28_23) rfl ?_
        refine Fx_forget (Fr.set_of (Fr.set_of (Fr.set_of rfl rfl) rfl) rfl) ((OptW.loop h (fun s => C28_l2 s_5 at_6 σ out (.inl s)) ?_ : C28_l2 s_5 at_6 σ out (.inl n_7)) _)
        intro s hs f
        refine q28_l2 s_5 at_6 s σ out f (hs.imp ?_)
        intro r hr
        rcases r with y | b
        · exact hr
        · rcases b with b | b
          · obtain ⟨n_34, rfl⟩ : ∃ x, x = b := ⟨_, rfl⟩
            have h := hr
            intro f
            refine Fx_blk ?_
            refine Fx_blk ?_
            exact Fx_forget (Fr.set_of (Fr.set_of (Fr.set_of rfl rfl) rfl) rfl) (h.sm _)
          · obtain ⟨x35, x36⟩ := b
            have h := hr
            exact h.sm
      · replace h := h.ifF ex17
        refine Fx_seq (a := c28_41) (b := c28_42) rfl ?_
        refine Fx_text rfl ?_
        refine Ro_v (v := (Value.int .i64 n_7)) rfl (o_move rfl rfl) ?_
        refine Ro_v (v := (Value.int .i64 at_6)) rfl (o_move rfl rfl) ?_
        obtain ⟨x37, hx37, h⟩ := h.lt
        refine Ro_v (v := (Value.int .i64 x37)) rfl (o_sub rfl rfl rfl hx37) ?_
        refine Ro_v (v := (Value.int .i64 x37)) rfl (o_assign rfl rfl) ?_
        refine Ro_v (v := (Value.int .i64 (-1))) rfl (o_assign rfl rfl) ?_
        refine Ro_nil ?_
        exact Fx_ret rfl rfl (congrArg some h.sm)
  · replace h := h.ifF ex12
    refine Fx_exit rfl ?_
    refine Fx_out_code ?_
    refine Fx_out_code ?_
    refine Fx_out_eq ?_
    exact Fx_forget (Fr.set_of (Fr.set_of rfl rfl) rfl) (h.sm _)
theorem w28 (s_3 : ByteArray) (at_4 : Int) (σ : AHeap) (r : (Int × Int)) (h : G_semvcsref01_lead s_3 at_4 = some r) : callL Try.prog 28 [(Value.string s_3), (Value.int .i64 at_4)] σ = some ((Value.tuple #[(Value.int .i64 r.1), (Value.int .i64 r.2)]), σ) := by
  refine callL_walk (fn := Try.f28) (c := c28_0) (rs := rs28) Try.func28 rfl ok28 rfl rfl ?_
  obtain ⟨out, ho⟩ : ∃ out, out = ((Value.tuple #[(Value.int .i64 r.1), (Value.int .i64 r.2)]), σ) := ⟨_, rfl⟩
  rw [← ho]
  replace h : OptW (G_semvcsref01_lead s_3 at_4) (fun r => ((Value.tuple #[(Value.int .i64 r.1), (Value.int .i64 r.2)]), σ) = out) := ⟨r, h, ho.symm⟩
  unfold G_semvcsref01_lead at h
  refine Fx_seq (a := c28_1) (b := c28_2) rfl ?_
  refine Fx_text rfl ?_
  refine Ro_v (v := (Value.int .i64 (0))) rfl (o_assign rfl rfl) ?_
  refine Ro_v (v := (Value.int .i64 (0))) rfl (o_assign rfl rfl) ?_
  refine Ro_nil ?_
  refine Fx_seq (a := c28_3) (b := c28_4) rfl ?_
  refine Fx_text rfl ?_
  refine Ro_v (v := (Value.int .i64 at_4)) rfl (o_move rfl rfl) ?_
  refine Ro_v (v := (Value.int .i64 at_4)) rfl (o_assign rfl rfl) ?_
  refine Ro_nil ?_
  refine Fx_seq (a := c28_5) (b := c28_43) rfl ?_
  refine Fx_block (b := c28_6) rfl ?_
  refine Fx_forget (Fr.set_of (Fr.set_of (Fr.set_of rfl rfl) rfl) rfl) ((OptW.loop h (fun s => C28_l1 s_3 at_4 σ out (.inl s)) ?_ : C28_l1 s_3 at_4 σ out (.inl at_4)) _)
  intro s hs f
  refine q28_l1 s_3 at_4 s σ out f (hs.imp ?_)
  intro r hr
  rcases r with y | b
  · exact hr
  · rcases b with b | b
    · obtain ⟨n_38, rfl⟩ : ∃ x, x = b := ⟨_, rfl⟩
      have h := hr
      intro f
      refine Fx_seq (a := c28_44) (b := c28_45) rfl ?_
      refine Fx_text rfl ?_
      refine Ro_v (v := (Value.int .i64 n_38)) rfl (o_move rfl rfl) ?_
      refine Ro_v (v := (Value.int .i64 at_4)) rfl (o_move rfl rfl) ?_
      obtain ⟨x39, hx39, h⟩ := h.lt
      refine Ro_v (v := (Value.int .i64 x39)) rfl (o_sub rfl rfl rfl hx39) ?_
      refine Ro_v (v := (Value.int .i64 x39)) rfl (o_assign rfl rfl) ?_
      refine Ro_v (v := (Value.int .i64 (-1))) rfl (o_assign rfl rfl) ?_
      refine Ro_nil ?_
      exact Fx_ret rfl rfl (congrArg some h.sm)
    · obtain ⟨x40, x41⟩ := b
      have h := hr
      exact h.sm
noncomputable def c25_0 : Code := bodyOf Try.f25
noncomputable def c25_1 : Code := cl c25_0
noncomputable def c25_2 : Code := cr c25_0
noncomputable def c25_3 : Code := cl c25_2
noncomputable def c25_4 : Code := cr c25_2
noncomputable def c25_5 : Code := cl c25_4
noncomputable def c25_6 : Code := cr c25_4
noncomputable def c25_7 : Code := cl c25_6
noncomputable def c25_8 : Code := cl c25_7
noncomputable def c25_9 : Code := cl c25_8
noncomputable def c25_10 : Code := cl c25_9
noncomputable def c25_11 : Code := cr c25_9
noncomputable def c25_12 : Code := cl c25_11
noncomputable def c25_13 : Code := cl c25_12
noncomputable def c25_14 : Code := cr c25_12
noncomputable def c25_15 : Code := cl c25_14
noncomputable def c25_16 : Code := cl c25_15
noncomputable def c25_17 : Code := cr c25_15
noncomputable def c25_18 : Code := cr c25_14
noncomputable def c25_19 : Code := cr c25_11
noncomputable def c25_20 : Code := cl c25_19
noncomputable def c25_21 : Code := cl c25_20
noncomputable def c25_22 : Code := cr c25_20
noncomputable def c25_23 : Code := cl c25_22
noncomputable def c25_24 : Code := cl c25_23
noncomputable def c25_25 : Code := cr c25_23
noncomputable def c25_26 : Code := cr c25_22
noncomputable def c25_27 : Code := cr c25_19
noncomputable def c25_28 : Code := cl c25_27
noncomputable def c25_29 : Code := cr c25_27
noncomputable def c25_30 : Code := cl c25_29
noncomputable def c25_31 : Code := cl c25_30
noncomputable def c25_32 : Code := cr c25_30
noncomputable def c25_33 : Code := cl c25_32
noncomputable def c25_34 : Code := cl c25_33
noncomputable def c25_35 : Code := cr c25_33
noncomputable def c25_36 : Code := cr c25_32
noncomputable def c25_37 : Code := cr c25_29
noncomputable def c25_38 : Code := cl c25_37
noncomputable def c25_39 : Code := cr c25_37
theorem ok25 : funcOk Try.f25 = true := by kernel_rfl
noncomputable def rs25 : List ResultVar := resultsOf Try.f25
noncomputable def C25_l1 (src_6 : ByteArray)  (out : Value × AHeap) : (Sl × Int × AHeap) ⊕ (Sl × ByteArray × Int × Int × AHeap) → Prop
  | .inl (l_7, at_8, σ) => ∀ f, Fx Try.prog rs25 [.code c25_7, .blk 0] .normal (Fr.set (Fr.set (Fr.set f 0 (Value.string src_6)) 6 (Sl.v l_7)) 7 (Value.int .i64 at_8)) σ = some out
  | .inr (x9, x10, x11, x12, σ) => ((Value.tuple #[(Sl.v x9), (Value.string x10), (Value.int .i64 x11), (Value.int .i64 x12)]), σ) = out
theorem q25_l1 (src_6 : ByteArray) (l_7 : Sl) (at_8 : Int) (σ : AHeap)  (out : Value × AHeap) (f : Fr) (h : OptW (G_semvcsref01_scan_l1 src_6 (l_7, at_8, σ)) (C25_l1 src_6 out)) :
    Fx Try.prog rs25 [.code c25_7, .blk 0] .normal (Fr.set (Fr.set (Fr.set f 0 (Value.string src_6)) 6 (Sl.v l_7)) 7 (Value.int .i64 at_8)) σ = some out := by
  unfold G_semvcsref01_scan_l1 at h
  refine Fx_loop (b := c25_8) rfl ?_
  refine Fx_block (b := c25_9) rfl ?_
  refine Fx_seq (a := c25_10) (b := c25_11) rfl ?_
  refine Fx_text rfl ?_
  refine Ro_v (v := (Value.string src_6)) rfl (o_move rfl rfl) ?_
  refine Ro_v (v := (Value.int .i64 at_8)) rfl (o_move rfl rfl) ?_
  obtain ⟨⟨x13, x14⟩, hx13, h⟩ := h.bd
  refine Ro_v (v := (Value.tuple #[(Value.int .i64 x13), (Value.int .i64 x14)])) rfl (o_call (vs := [(Value.string src_6), (Value.int .i64 at_8)]) rfl rfl (w28 _ _ _ _ hx13)) ?_
  refine Ro_v (v := (Value.tuple #[(Value.int .i64 x13), (Value.int .i64 x14)])) rfl (o_move rfl rfl) ?_
  refine Ro_v (v := (Value.int .i64 x13)) rfl (o_ext rfl rfl rfl) ?_
  refine Ro_v (v := (Value.int .i64 x14)) rfl (o_ext rfl rfl rfl) ?_
  refine Ro_v (v := (Value.int .i64 x13)) rfl (o_assign rfl rfl) ?_
  refine Ro_v (v := (Value.int .i64 x14)) rfl (o_assign rfl rfl) ?_
  refine Ro_nil ?_
  refine Fx_seq (a := c25_12) (b := c25_19) rfl ?_
  refine Fx_seq (a := c25_13) (b := c25_14) rfl ?_
  refine Fx_text rfl ?_
  refine Ro_v (v := (Value.int .i64 x14)) rfl (o_move rfl rfl) ?_
  obtain ⟨x15, hx15, h⟩ := h.lt
  refine Ro_v (v := (Value.bool x15)) rfl (o_geq rfl rfl rfl hx15) ?_
  refine Ro_nil ?_
  refine Fx_cond (a := c25_15) (b := c25_18) rfl rfl (fun ex15 => ?_) (fun ex15 => ?_)
  · replace h := h.ifT ex15
    refine Fx_seq (a := c25_16) (b := c25_17) rfl ?_
    refine Fx_text rfl ?_
    refine Ro_v (v := (Value.int .i64 x14)) rfl (o_move rfl rfl) ?_
    refine Ro_v (v := (Sl.v Sl.nil)) rfl (o_assign rfl rfl) ?_
    refine Ro_v (v := (Value.string (⟨#[]⟩ : ByteArray))) rfl (o_assign rfl rfl) ?_
    refine Ro_v (v := (Value.int .i64 x14)) rfl (o_assign rfl rfl) ?_
    refine Ro_v (v := (Value.int .i64 (1))) rfl (o_assign rfl rfl) ?_
    refine Ro_nil ?_
    exact Fx_ret rfl rfl (congrArg some h.sm)
  · replace h := h.ifF ex15
    refine Fx_skip (c := c25_18) rfl ?_
    refine Fx_seq (a := c25_20) (b := c25_27) rfl ?_
    refine Fx_seq (a := c25_21) (b := c25_22) rfl ?_
    refine Fx_text rfl ?_
    refine Ro_v (v := (Value.int .i64 at_8)) rfl (o_move rfl rfl) ?_
    refine Ro_v (v := (Value.int .i64 x13)) rfl (o_move rfl rfl) ?_
    obtain ⟨x16, hx16, h⟩ := h.lt
    refine Ro_v (v := (Value.int .i64 x16)) rfl (o_add rfl rfl rfl hx16) ?_
    refine Ro_v (v := (Value.string src_6)) rfl (o_move rfl rfl) ?_
    obtain ⟨x17, hx17, h⟩ := h.lt
    refine Ro_v (v := (Value.int .i64 x17)) rfl (o_lenS rfl tu9 rfl hx17) ?_
    obtain ⟨x18, hx18, h⟩ := h.lt
    refine Ro_v (v := (Value.bool x18)) rfl (o_eql rfl rfl rfl hx18) ?_
    refine Ro_nil ?_
    refine Fx_cond (a := c25_23) (b := c25_26) rfl rfl (fun ex18 => ?_) (fun ex18 => ?_)
    · replace h := h.ifT ex18
      refine Fx_seq (a := c25_24) (b := c25_25) rfl ?_
      refine Fx_draw (ops := opsIn c25_24) (l := [(opA (opsIn c25_24) 0, 0), (opA (opsIn c25_24) 1, 1), (opA (opsIn c25_24) 2, 2), (opA (opsIn c25_24) 3, 3), (opA (opsIn c25_24) 4, 4), (opA (opsIn c25_24) 5, 5), (opA (opsIn c25_24) 6, 6), (opA (opsIn c25_24) 7, 7)]) rfl (by kernel_rfl) (by kernel_rfl) ?_
      refine Rd_v (v := (Sl.v l_7)) (ps' := []) rfl (o_move rfl rfl) (reads_no rfl) rfl ?_
      refine Rd_v (v := (Value.string src_6)) (ps' := []) rfl (o_move rfl rfl) (reads_no rfl) rfl ?_
      refine Rd_v (v := (Value.int .i64 at_8)) (ps' := []) rfl (o_move rfl rfl) (reads_no rfl) rfl ?_
      obtain ⟨x19, hx19, h⟩ := h.bd
      refine Rd_v (v := (Value.string x19)) (ps' := []) rfl (o_slS (some at_8) none rfl tu9 rfl rfl rfl hx19) reads_nil rfl ?_
      refine Rd_v (v := (Sl.v l_7)) (ps' := []) rfl (o_assign rfl rfl) (reads_no rfl) rfl ?_
      refine Rd_v (v := (Value.string x19)) (ps' := []) rfl (o_assign rfl rfl) (reads_no rfl) rfl ?_
      refine Rd_v (v := (Value.int .i64 (0))) (ps' := []) rfl (o_assign rfl rfl) (reads_no rfl) rfl ?_
      refine Rd_v (v := (Value.int .i64 (0))) (ps' := []) rfl (o_assign rfl rfl) (reads_no rfl) rfl ?_
      refine Rd_nil ?_
      exact Fx_ret rfl rfl (congrArg some h.sm)
    · replace h := h.ifF ex18
      refine Fx_skip (c := c25_26) rfl ?_
      refine Fx_seq (a := c25_28) (b := c25_29) rfl ?_
      refine Fx_text rfl ?_
      refine Ro_v (v := (Value.string src_6)) rfl (o_move rfl rfl) ?_
      refine Ro_v (v := (Value.int .i64 at_8)) rfl (o_move rfl rfl) ?_
      refine Ro_v (v := (Value.int .i64 x13)) rfl (o_move rfl rfl) ?_
      obtain ⟨x20, hx20, h⟩ := h.lt
      refine Ro_v (v := (Value.int .i64 x20)) rfl (o_add rfl rfl rfl hx20) ?_
      obtain ⟨⟨x25, x26, x27, x28, σ29⟩, hσ29, h⟩ := h.bd
      refine Ro_v (v := (Value.agg #[(Value.int .i64 x25), (Value.int .i64 x26), (Value.int .i64 x27), (Value.int .i64 x28)])) rfl (o_call (vs := [(Value.string src_6), (Value.int .i64 x20)]) rfl rfl (w27 _ _ _ _ hσ29)) ?_
      obtain ⟨⟨x_30, σ31⟩, hσ31, h⟩ := h.lt
      refine Ro_v (v := (Value.pointer x_30)) rfl (o_alloc (vs := [(Value.int .i64 0), (Value.int .i64 0), (Value.int .i64 0), (Value.int .i64 0)]) rfl tz43 rfl rfl hσ31.symm) ?_
      obtain ⟨σ32, hσ32, h⟩ := h.bd
      refine Ro_d rfl (o_store (v := (Value.agg #[(Value.int .i64 x25), (Value.int .i64 x26), (Value.int .i64 x27), (Value.int .i64 x28)])) (vs := [(Value.int .i64 x25), (Value.int .i64 x26), (Value.int .i64 x27), (Value.int .i64 x28)]) rfl ts43 rfl rfl rfl rfl hσ32) ?_
      refine Ro_nil ?_
      refine Fx_seq (a := c25_30) (b := c25_37) rfl ?_
      refine Fx_seq (a := c25_31) (b := c25_32) rfl ?_
      refine Fx_text rfl ?_
      obtain ⟨x33, hx33, h⟩ := h.bd
      refine Ro_v (v := (Value.pointer x33)) rfl (o_fldA rfl tf43_2 ts24 rfl hx33) ?_
      obtain ⟨x34, hx34, h⟩ := h.bd
      refine Ro_v (v := (Value.int .i64 x34)) rfl (o_load1 rfl ta24 rfl (ld_i64_eq hx34)) ?_
      obtain ⟨x35, hx35, h⟩ := h.lt
      refine Ro_v (v := (Value.bool x35)) rfl (o_neq rfl rfl rfl hx35) ?_
      refine Ro_nil ?_
      refine Fx_cond (a := c25_33) (b := c25_36) rfl rfl (fun ex35 => ?_) (fun ex35 => ?_)
      · replace h := h.ifT ex35
        refine Fx_seq (a := c25_34) (b := c25_35) rfl ?_
        refine Fx_draw (ops := opsIn c25_34) (l := [(opA (opsIn c25_34) 0, 0), (opA (opsIn c25_34) 1, 1), (opA (opsIn c25_34) 2, 2), (opA (opsIn c25_34) 3, 3), (opA (opsIn c25_34) 4, 4), (opA (opsIn c25_34) 5, 5), (opA (opsIn c25_34) 6, 6), (opA (opsIn c25_34) 7, 7)]) rfl (by kernel_rfl) (by kernel_rfl) ?_
        obtain ⟨x36, hx36, h⟩ := h.bd
        refine Rd_v (v := (Value.pointer x36)) (ps' := []) rfl (o_fldA rfl tf43_3 ts3 rfl hx36) (reads_no rfl) rfl ?_
        obtain ⟨x37, hx37, h⟩ := h.bd
        refine Rd_v (v := (Value.int .i64 x37)) (ps' := []) rfl (o_load1 rfl ta3 rfl (ld_i64_eq hx37)) reads_nil rfl ?_
        obtain ⟨x38, hx38, h⟩ := h.bd
        refine Rd_v (v := (Value.pointer x38)) (ps' := []) rfl (o_fldA rfl tf43_2 ts24 rfl hx38) (reads_no rfl) rfl ?_
        obtain ⟨x39, hx39, h⟩ := h.bd
        refine Rd_v (v := (Value.int .i64 x39)) (ps' := []) rfl (o_load1 rfl ta24 rfl (ld_i64_eq hx39)) reads_nil rfl ?_
        refine Rd_v (v := (Sl.v Sl.nil)) (ps' := []) rfl (o_assign rfl rfl) (reads_no rfl) rfl ?_
        refine Rd_v (v := (Value.string (⟨#[]⟩ : ByteArray))) (ps' := []) rfl (o_assign rfl rfl) (reads_no rfl) rfl ?_
        refine Rd_v (v := (Value.int .i64 x37)) (ps' := []) rfl (o_assign rfl rfl) (reads_no rfl) rfl ?_
        refine Rd_v (v := (Value.int .i64 x39)) (ps' := []) rfl (o_assign rfl rfl) (reads_no rfl) rfl ?_
        refine Rd_nil ?_
        exact Fx_ret rfl rfl (congrArg some h.sm)
      · replace h := h.ifF ex35
        refine Fx_skip (c := c25_36) rfl ?_
        refine Fx_seq (a := c25_38) (b := c25_39) rfl ?_
        refine Fx_draw (ops := opsIn c25_38) (l := [(opA (opsIn c25_38) 0, 0), (opA (opsIn c25_38) 1, 1), (opA (opsIn c25_38) 2, 2), (opA (opsIn c25_38) 3, 3), (opA (opsIn c25_38) 4, 4), (opA (opsIn c25_38) 5, 5), (opA (opsIn c25_38) 6, 6), (opA (opsIn c25_38) 7, 7), (opA (opsIn c25_38) 8, 8), (opA (opsIn c25_38) 9, 9), (opA (opsIn c25_38) 10, 10), (opA (opsIn c25_38) 11, 11), (opA (opsIn c25_38) 12, 12), (opA (opsIn c25_38) 13, 13), (opA (opsIn c25_38) 14, 14), (opA (opsIn c25_38) 15, 15), (opA (opsIn c25_38) 16, 16), (opA (opsIn c25_38) 17, 17), (opA (opsIn c25_38) 18, 18), (opA (opsIn c25_38) 19, 19), (opA (opsIn c25_38) 20, 20), (opA (opsIn c25_38) 21, 21), (opA (opsIn c25_38) 22, 22), (opA (opsIn c25_38) 23, 23)]) rfl (by kernel_rfl) (by kernel_rfl) ?_
        refine Rd_v (v := (Sl.v l_7)) (ps' := []) rfl (o_move rfl rfl) (reads_no rfl) rfl ?_
        obtain ⟨x40, hx40, h⟩ := h.bd
        refine Rd_v (v := (Value.pointer x40)) (ps' := []) rfl (o_fldA rfl tf43_1 ts3 rfl hx40) (reads_no rfl) rfl ?_
        obtain ⟨x41, hx41, h⟩ := h.bd
        refine Rd_v (v := (Value.int .i64 x41)) (ps' := []) rfl (o_load1 rfl ta3 rfl (ld_i64_eq hx41)) reads_nil rfl ?_
        refine Rd_v (v := (Value.string src_6)) (ps' := []) rfl (o_move rfl rfl) (reads_no rfl) rfl ?_
        refine Rd_v (v := (Value.int .i64 at_8)) (ps' := []) rfl (o_move rfl rfl) (reads_no rfl) rfl ?_
        refine Rd_v (v := (Value.int .i64 at_8)) (ps' := []) rfl (o_move rfl rfl) (reads_no rfl) rfl ?_
        refine Rd_v (v := (Value.int .i64 x13)) (ps' := []) rfl (o_move rfl rfl) (reads_no rfl) rfl ?_
        obtain ⟨x42, hx42, h⟩ := h.lt
        refine Rd_v (v := (Value.int .i64 x42)) (ps' := []) rfl (o_add rfl rfl rfl hx42) (reads_no rfl) rfl ?_
        obtain ⟨x43, hx43, h⟩ := h.bd
        refine Rd_v (v := (Value.string x43)) (ps' := []) rfl (o_slS (some at_8) (some x42) rfl tu9 rfl rfl rfl hx43) reads_nil rfl ?_
        refine Rd_v (v := (Value.string src_6)) (ps' := []) rfl (o_move rfl rfl) (reads_no rfl) rfl ?_
        refine Rd_v (v := (Value.int .i64 at_8)) (ps' := []) rfl (o_move rfl rfl) (reads_no rfl) rfl ?_
        refine Rd_v (v := (Value.int .i64 x13)) (ps' := []) rfl (o_move rfl rfl) (reads_no rfl) rfl ?_
        obtain ⟨x44, hx44, h⟩ := h.lt
        refine Rd_v (v := (Value.int .i64 x44)) (ps' := []) rfl (o_add rfl rfl rfl hx44) (reads_no rfl) rfl ?_
        refine Rd_v (v := (Value.int .i64 at_8)) (ps' := []) rfl (o_move rfl rfl) (reads_no rfl) rfl ?_
        refine Rd_v (v := (Value.int .i64 x13)) (ps' := []) rfl (o_move rfl rfl) (reads_no rfl) rfl ?_
        obtain ⟨x45, hx45, h⟩ := h.lt
        refine Rd_v (v := (Value.int .i64 x45)) (ps' := []) rfl (o_add rfl rfl rfl hx45) (reads_no rfl) rfl ?_
        obtain ⟨x46, hx46, h⟩ := h.bd
        refine Rd_v (v := (Value.pointer x46)) (ps' := []) rfl (o_fldA rfl tf43_0 ts3 rfl hx46) (reads_no rfl) rfl ?_
        obtain ⟨x47, hx47, h⟩ := h.bd
        refine Rd_v (v := (Value.int .i64 x47)) (ps' := []) rfl (o_load1 rfl ta3 rfl (ld_i64_eq hx47)) reads_nil rfl ?_
        obtain ⟨x48, hx48, h⟩ := h.lt
        refine Rd_v (v := (Value.int .i64 x48)) (ps' := []) rfl (o_add rfl rfl rfl hx48) (reads_no rfl) rfl ?_
        obtain ⟨x49, hx49, h⟩ := h.bd
        refine Rd_v (v := (Value.string x49)) (ps' := []) rfl (o_slS (some x44) (some x48) rfl tu9 rfl rfl rfl hx49) reads_nil rfl ?_
        refine Rd_v (v := (Value.agg #[(Value.int .i64 x41), (Value.string x43), (Value.string x49)])) (ps' := []) rfl (o_build (ps := [(0, (Value.int .i64 x41)), (1, (Value.string x43)), (2, (Value.string x49))]) (cs := #[(Value.int .i64 x41), (Value.string x43), (Value.string x49)]) rfl tz33 tp33 rfl rfl rfl) (reads_no rfl) rfl ?_
        obtain ⟨⟨x50, σ51⟩, hσ51, h⟩ := h.lt
        refine Rd_v (v := (Sl.v x50)) (ps' := []) rfl (o_buildSl (ps := [(0, (Value.agg #[(Value.int .i64 x41), (Value.string x43), (Value.string x49)]))]) (cs := #[(Value.int .i64 x41), (Value.string x43), (Value.string x49)]) (vs := [(Value.int .i64 x41), (Value.string x43), (Value.string x49)]) rfl tu23 ts33 tz33 rfl rfl (by decide) rfl rfl hσ51.symm) (reads_no rfl) rfl ?_
        obtain ⟨⟨x52, σ53⟩, hσ53, h⟩ := h.bd
        refine Rd_v (v := (Sl.v x52)) (ps' := [(22, σ51)]) rfl (o_appSl rfl tu23 tu23 rfl ti33 rfl rfl rfl rfl hσ53) (reads_no rfl) rfl ?_
        refine Rd_v (v := (Sl.v x52)) (ps' := [(22, σ51)]) rfl (o_assign rfl rfl) (reads_no rfl) rfl ?_
        refine Rd_nil ?_
        refine Fx_text rfl ?_
        refine Ro_v (v := (Value.int .i64 at_8)) rfl (o_move rfl rfl) ?_
        refine Ro_v (v := (Value.int .i64 x13)) rfl (o_move rfl rfl) ?_
        obtain ⟨x54, hx54, h⟩ := h.lt
        refine Ro_v (v := (Value.int .i64 x54)) rfl (o_add rfl rfl rfl hx54) ?_
        obtain ⟨x55, hx55, h⟩ := h.bd
        refine Ro_v (v := (Value.pointer x55)) rfl (o_fldA rfl tf43_0 ts3 rfl hx55) ?_
        obtain ⟨x56, hx56, h⟩ := h.bd
        refine Ro_v (v := (Value.int .i64 x56)) rfl (o_load1 rfl ta3 rfl (ld_i64_eq hx56)) ?_
        obtain ⟨x57, hx57, h⟩ := h.lt
        refine Ro_v (v := (Value.int .i64 x57)) rfl (o_add rfl rfl rfl hx57) ?_
        refine Ro_v (v := (Value.int .i64 x57)) rfl (o_assign rfl rfl) ?_
        refine Ro_nil ?_
        refine Fx_blk ?_
        exact Fx_forget (Fr.set_of (Fr.set_of (Fr.set_of rfl rfl) rfl) rfl) (h.sm _)
theorem w25 (src_5 : ByteArray) (σ : AHeap) (r : (Sl × ByteArray × Int × Int × AHeap)) (h : G_semvcsref01_scan src_5 σ = some r) : callL Try.prog 25 [(Value.string src_5)] σ = some ((Value.tuple #[(Sl.v r.1), (Value.string r.2.1), (Value.int .i64 r.2.2.1), (Value.int .i64 r.2.2.2.1)]), r.2.2.2.2) := by
  refine callL_walk (fn := Try.f25) (c := c25_0) (rs := rs25) Try.func25 rfl ok25 rfl rfl ?_
  obtain ⟨out, ho⟩ : ∃ out, out = ((Value.tuple #[(Sl.v r.1), (Value.string r.2.1), (Value.int .i64 r.2.2.1), (Value.int .i64 r.2.2.2.1)]), r.2.2.2.2) := ⟨_, rfl⟩
  rw [← ho]
  replace h : OptW (G_semvcsref01_scan src_5 σ) (fun r => ((Value.tuple #[(Sl.v r.1), (Value.string r.2.1), (Value.int .i64 r.2.2.1), (Value.int .i64 r.2.2.2.1)]), r.2.2.2.2) = out) := ⟨r, h, ho.symm⟩
  unfold G_semvcsref01_scan at h
  refine Fx_seq (a := c25_1) (b := c25_2) rfl ?_
  refine Fx_text rfl ?_
  refine Ro_v (v := (Sl.v Sl.nil)) rfl (o_assign rfl rfl) ?_
  refine Ro_v (v := (Value.string (⟨#[]⟩ : ByteArray))) rfl (o_assign rfl rfl) ?_
  refine Ro_v (v := (Value.int .i64 (0))) rfl (o_assign rfl rfl) ?_
  refine Ro_v (v := (Value.int .i64 (0))) rfl (o_assign rfl rfl) ?_
  refine Ro_nil ?_
  refine Fx_seq (a := c25_3) (b := c25_4) rfl ?_
  refine Fx_text rfl ?_
  refine Ro_v (v := (Sl.v Sl.nil)) rfl (o_assign rfl rfl) ?_
  refine Ro_nil ?_
  refine Fx_seq (a := c25_5) (b := c25_6) rfl ?_
  refine Fx_text rfl ?_
  refine Ro_v (v := (Value.int .i64 (0))) rfl (o_assign rfl rfl) ?_
  refine Ro_nil ?_
  refine Fx_block (b := c25_7) rfl ?_
  refine Fx_forget (Fr.set_of (Fr.set_of (Fr.set_of rfl rfl) rfl) rfl) ((OptW.loop h (fun s => C25_l1 src_5 out (.inl s)) ?_ : C25_l1 src_5 out (.inl (Sl.nil, (0), σ))) _)
  intro s hs f
  obtain ⟨l_7, at_8, σ⟩ := s
  refine q25_l1 src_5 l_7 at_8 σ out f (hs.imp ?_)
  intro r hr
  rcases r with y | b
  · exact hr
  · obtain ⟨x58, x59, x60, x61, σ62⟩ := b
    have h := hr
    exact h.sm
noncomputable def c12_0 : Code := bodyOf Try.f12
noncomputable def c12_1 : Code := cl c12_0
noncomputable def c12_2 : Code := cr c12_0
noncomputable def c12_3 : Code := cl c12_2
noncomputable def c12_4 : Code := cl c12_3
noncomputable def c12_5 : Code := cr c12_3
noncomputable def c12_6 : Code := cl c12_5
noncomputable def c12_7 : Code := cl c12_6
noncomputable def c12_8 : Code := cr c12_6
noncomputable def c12_9 : Code := cr c12_5
noncomputable def c12_10 : Code := cr c12_2
noncomputable def c12_11 : Code := cl c12_10
noncomputable def c12_12 : Code := cr c12_10
theorem ok12 : funcOk Try.f12 = true := by kernel_rfl
noncomputable def rs12 : List ResultVar := resultsOf Try.f12
theorem w12 (src_5 : ByteArray) (σ : AHeap) (r : (Sl × ByteArray × Int × Int × AHeap)) (h : G_semvcsref01_Scan src_5 σ = some r) : callL Try.prog 12 [(Value.string src_5)] σ = some ((Value.tuple #[(Sl.v r.1), (Value.string r.2.1), (Value.int .i64 r.2.2.1), (Value.int .i64 r.2.2.2.1)]), r.2.2.2.2) := by
  refine callL_walk (fn := Try.f12) (c := c12_0) (rs := rs12) Try.func12 rfl ok12 rfl rfl ?_
  obtain ⟨out, ho⟩ : ∃ out, out = ((Value.tuple #[(Sl.v r.1), (Value.string r.2.1), (Value.int .i64 r.2.2.1), (Value.int .i64 r.2.2.2.1)]), r.2.2.2.2) := ⟨_, rfl⟩
  rw [← ho]
  replace h : OptW (G_semvcsref01_Scan src_5 σ) (fun r => ((Value.tuple #[(Sl.v r.1), (Value.string r.2.1), (Value.int .i64 r.2.2.1), (Value.int .i64 r.2.2.2.1)]), r.2.2.2.2) = out) := ⟨r, h, ho.symm⟩
  unfold G_semvcsref01_Scan at h
  refine Fx_seq (a := c12_1) (b := c12_2) rfl ?_
  refine Fx_text rfl ?_
  refine Ro_v (v := (Sl.v Sl.nil)) rfl (o_assign rfl rfl) ?_
  refine Ro_v (v := (Value.string (⟨#[]⟩ : ByteArray))) rfl (o_assign rfl rfl) ?_
  refine Ro_v (v := (Value.int .i64 (0))) rfl (o_assign rfl rfl) ?_
  refine Ro_v (v := (Value.int .i64 (0))) rfl (o_assign rfl rfl) ?_
  refine Ro_nil ?_
  refine Fx_seq (a := c12_3) (b := c12_10) rfl ?_
  refine Fx_seq (a := c12_4) (b := c12_5) rfl ?_
  refine Fx_text rfl ?_
  refine Ro_v (v := (Value.string src_5)) rfl (o_move rfl rfl) ?_
  obtain ⟨x6, hx6, h⟩ := h.lt
  refine Ro_v (v := (Value.int .i64 x6)) rfl (o_lenS rfl tu9 rfl hx6) ?_
  obtain ⟨x7, hx7, h⟩ := h.lt
  refine Ro_v (v := (Value.bool x7)) rfl (o_gtr rfl rfl rfl hx7) ?_
  refine Ro_nil ?_
  refine Fx_cond (a := c12_6) (b := c12_9) rfl rfl (fun ex7 => ?_) (fun ex7 => ?_)
  · replace h := h.ifT ex7
    refine Fx_seq (a := c12_7) (b := c12_8) rfl ?_
    refine Fx_text rfl ?_
    refine Ro_v (v := (Sl.v Sl.nil)) rfl (o_assign rfl rfl) ?_
    refine Ro_v (v := (Value.string (⟨#[]⟩ : ByteArray))) rfl (o_assign rfl rfl) ?_
    refine Ro_v (v := (Value.int .i64 (4096))) rfl (o_assign rfl rfl) ?_
    refine Ro_v (v := (Value.int .i64 (3))) rfl (o_assign rfl rfl) ?_
    refine Ro_nil ?_
    exact Fx_ret rfl rfl (congrArg some h.sm)
  · replace h := h.ifF ex7
    refine Fx_skip (c := c12_9) rfl ?_
    refine Fx_seq (a := c12_11) (b := c12_12) rfl ?_
    refine Fx_text rfl ?_
    refine Ro_v (v := (Value.string src_5)) rfl (o_move rfl rfl) ?_
    obtain ⟨⟨x12, x13, x14, x15, σ16⟩, hσ16, h⟩ := h.bd
    refine Ro_v (v := (Value.tuple #[(Sl.v x12), (Value.string x13), (Value.int .i64 x14), (Value.int .i64 x15)])) rfl (o_call (vs := [(Value.string src_5)]) rfl rfl (w25 _ _ _ hσ16)) ?_
    refine Ro_v (v := (Sl.v x12)) rfl (o_ext rfl rfl rfl) ?_
    refine Ro_v (v := (Value.string x13)) rfl (o_ext rfl rfl rfl) ?_
    refine Ro_v (v := (Value.int .i64 x14)) rfl (o_ext rfl rfl rfl) ?_
    refine Ro_v (v := (Value.int .i64 x15)) rfl (o_ext rfl rfl rfl) ?_
    refine Ro_v (v := (Sl.v x12)) rfl (o_assign rfl rfl) ?_
    refine Ro_v (v := (Value.string x13)) rfl (o_assign rfl rfl) ?_
    refine Ro_v (v := (Value.int .i64 x14)) rfl (o_assign rfl rfl) ?_
    refine Ro_v (v := (Value.int .i64 x15)) rfl (o_assign rfl rfl) ?_
    refine Ro_nil ?_
    exact Fx_ret rfl rfl (congrArg some h.sm)
noncomputable def c13_0 : Code := bodyOf Try.f13
noncomputable def c13_1 : Code := cl c13_0
noncomputable def c13_2 : Code := cr c13_0
noncomputable def c13_3 : Code := cl c13_2
noncomputable def c13_4 : Code := cl c13_3
noncomputable def c13_5 : Code := cr c13_3
noncomputable def c13_6 : Code := cl c13_5
noncomputable def c13_7 : Code := cl c13_6
noncomputable def c13_8 : Code := cr c13_6
noncomputable def c13_9 : Code := cr c13_5
noncomputable def c13_10 : Code := cr c13_2
noncomputable def c13_11 : Code := cl c13_10
noncomputable def c13_12 : Code := cl c13_11
noncomputable def c13_13 : Code := cr c13_11
noncomputable def c13_14 : Code := cl c13_13
noncomputable def c13_15 : Code := cl c13_14
noncomputable def c13_16 : Code := cl c13_15
noncomputable def c13_17 : Code := cl c13_16
noncomputable def c13_18 : Code := cr c13_16
noncomputable def c13_19 : Code := cl c13_18
noncomputable def c13_20 : Code := cr c13_18
noncomputable def c13_21 : Code := cr c13_15
noncomputable def c13_22 : Code := cl c13_21
noncomputable def c13_23 : Code := cl c13_22
noncomputable def c13_24 : Code := cl c13_23
noncomputable def c13_25 : Code := cr c13_23
noncomputable def c13_26 : Code := cl c13_25
noncomputable def c13_27 : Code := cl c13_26
noncomputable def c13_28 : Code := cr c13_26
noncomputable def c13_29 : Code := cr c13_25
noncomputable def c13_30 : Code := cr c13_21
noncomputable def c13_31 : Code := cr c13_10
noncomputable def c13_32 : Code := cl c13_31
noncomputable def c13_33 : Code := cr c13_31
theorem ok13 : funcOk Try.f13 = true := by kernel_rfl
noncomputable def rs13 : List ResultVar := resultsOf Try.f13
noncomputable def C13_l1 (a_7 : Sl) (b_8 : Sl) (σ : AHeap) (out : Value × AHeap) : Int ⊕ (Unit ⊕ Bool) → Prop
  | .inl i_9 => ∀ f, Fx Try.prog rs13 [.code c13_14, .blk 0, .code c13_31] .normal (Fr.set (Fr.set (Fr.set f 0 (Sl.v a_7)) 1 (Sl.v b_8)) 5 (Value.int .i64 i_9)) σ = some out
  | .inr (.inl _) => ∀ f, Fx Try.prog rs13 [.code c13_31] .normal f σ = some out
  | .inr (.inr x10) => ((Value.bool x10), σ) = out
theorem q13_l1 (a_7 : Sl) (b_8 : Sl) (i_9 : Int) (σ : AHeap) (out : Value × AHeap) (f : Fr) (h : OptW (G_semvcsref01_Same_l1 a_7 b_8 σ i_9) (C13_l1 a_7 b_8 σ out)) :
    Fx Try.prog rs13 [.code c13_14, .blk 0, .code c13_31] .normal (Fr.set (Fr.set (Fr.set f 0 (Sl.v a_7)) 1 (Sl.v b_8)) 5 (Value.int .i64 i_9)) σ = some out := by
  unfold G_semvcsref01_Same_l1 at h
  refine Fx_loop (b := c13_15) rfl ?_
  refine Fx_seq (a := c13_16) (b := c13_21) rfl ?_
  refine Fx_seq (a := c13_17) (b := c13_18) rfl ?_
  refine Fx_text rfl ?_
  refine Ro_v (v := (Value.int .i64 i_9)) rfl (o_move rfl rfl) ?_
  refine Ro_v (v := (Sl.v a_7)) rfl (o_move rfl rfl) ?_
  obtain ⟨x11, hx11, h⟩ := h.lt
  refine Ro_v (v := (Value.int .i64 x11)) rfl (o_lenSl rfl tu23 rfl hx11) ?_
  obtain ⟨x12, hx12, h⟩ := h.lt
  refine Ro_v (v := (Value.bool x12)) rfl (o_lss rfl rfl rfl hx12) ?_
  refine Ro_nil ?_
  refine Fx_cond (a := c13_19) (b := c13_20) rfl rfl (fun ex12 => ?_) (fun ex12 => ?_)
  · replace h := h.ifT ex12
    refine Fx_skip (c := c13_19) rfl ?_
    refine Fx_seq (a := c13_22) (b := c13_30) rfl ?_
    refine Fx_block (b := c13_23) rfl ?_
    refine Fx_seq (a := c13_24) (b := c13_25) rfl ?_
    refine Fx_draw (ops := opsIn c13_24) (l := [(opA (opsIn c13_24) 0, 0), (opA (opsIn c13_24) 1, 1), (opA (opsIn c13_24) 2, 2), (opA (opsIn c13_24) 3, 3), (opA (opsIn c13_24) 4, 4), (opA (opsIn c13_24) 5, 5), (opA (opsIn c13_24) 6, 6), (opA (opsIn c13_24) 7, 7), (opA (opsIn c13_24) 8, 8)]) rfl (by kernel_rfl) (by kernel_rfl) ?_
    refine Rd_v (v := (Sl.v a_7)) (ps' := []) rfl (o_move rfl rfl) (reads_no rfl) rfl ?_
    refine Rd_v (v := (Value.int .i64 i_9)) (ps' := []) rfl (o_move rfl rfl) (reads_no rfl) rfl ?_
    obtain ⟨x13, hx13, h⟩ := h.bd
    refine Rd_v (v := (Value.pointer x13)) (ps' := []) rfl (o_iaSl rfl tu23 ts33 rfl rfl hx13) (reads_no rfl) rfl ?_
    obtain ⟨⟨x14, x15, x16⟩, hx14, h⟩ := h.bd
    refine Rd_v (v := (Value.agg #[(Value.int .i64 x14), (Value.string x15), (Value.string x16)])) (ps' := []) rfl (o_loadN rfl ta33 ts33 rfl (ld_i64_str_str_eq hx14)) reads_nil rfl ?_
    refine Rd_v (v := (Sl.v b_8)) (ps' := []) rfl (o_move rfl rfl) (reads_no rfl) rfl ?_
    refine Rd_v (v := (Value.int .i64 i_9)) (ps' := []) rfl (o_move rfl rfl) (reads_no rfl) rfl ?_
    obtain ⟨x17, hx17, h⟩ := h.bd
    refine Rd_v (v := (Value.pointer x17)) (ps' := []) rfl (o_iaSl rfl tu23 ts33 rfl rfl hx17) (reads_no rfl) rfl ?_
    obtain ⟨⟨x18, x19, x20⟩, hx18, h⟩ := h.bd
    refine Rd_v (v := (Value.agg #[(Value.int .i64 x18), (Value.string x19), (Value.string x20)])) (ps' := []) rfl (o_loadN rfl ta33 ts33 rfl (ld_i64_str_str_eq hx18)) reads_nil rfl ?_
    obtain ⟨x21, hx21, h⟩ := h.lt
    refine Rd_v (v := (Value.bool x21)) (ps' := []) rfl (o_aneq rfl tq33 rfl rfl rfl (eqs_int (eqs_str (eqs_str eqs_nil))) hx21) (reads_no rfl) rfl ?_
    refine Rd_nil ?_
    refine Fx_cond (a := c13_26) (b := c13_29) rfl rfl (fun ex21 => ?_) (fun ex21 => ?_)
    · replace h := h.ifT ex21
      refine Fx_seq (a := c13_27) (b := c13_28) rfl ?_
      refine Fx_text rfl ?_
      refine Ro_v (v := (Value.bool false)) rfl (o_assign rfl rfl) ?_
      refine Ro_nil ?_
      exact Fx_ret rfl rfl (congrArg some h.sm)
    · replace h := h.ifF ex21
      refine Fx_skip (c := c13_29) rfl ?_
      refine Fx_blk ?_
      refine Fx_text rfl ?_
      refine Ro_v (v := (Value.int .i64 i_9)) rfl (o_move rfl rfl) ?_
      obtain ⟨x22, hx22, h⟩ := h.lt
      refine Ro_v (v := (Value.int .i64 x22)) rfl (o_add rfl rfl rfl hx22) ?_
      refine Ro_v (v := (Value.int .i64 x22)) rfl (o_assign rfl rfl) ?_
      refine Ro_nil ?_
      exact Fx_forget (Fr.set_of (Fr.set_of (Fr.set_of rfl rfl) rfl) rfl) (h.sm _)
  · replace h := h.ifF ex12
    refine Fx_exit rfl ?_
    refine Fx_out_code ?_
    refine Fx_out_code ?_
    refine Fx_out_eq ?_
    exact Fx_forget rfl (h.sm _)
theorem w13 (a_2 : Sl) (b_3 : Sl) (σ : AHeap) (r : Bool) (h : G_semvcsref01_Same a_2 b_3 σ = some r) : callL Try.prog 13 [(Sl.v a_2), (Sl.v b_3)] σ = some ((Value.bool r), σ) := by
  refine callL_walk (fn := Try.f13) (c := c13_0) (rs := rs13) Try.func13 rfl ok13 rfl rfl ?_
  obtain ⟨out, ho⟩ : ∃ out, out = ((Value.bool r), σ) := ⟨_, rfl⟩
  rw [← ho]
  replace h : OptW (G_semvcsref01_Same a_2 b_3 σ) (fun r => ((Value.bool r), σ) = out) := ⟨r, h, ho.symm⟩
  unfold G_semvcsref01_Same at h
  refine Fx_seq (a := c13_1) (b := c13_2) rfl ?_
  refine Fx_text rfl ?_
  refine Ro_v (v := (Value.bool false)) rfl (o_assign rfl rfl) ?_
  refine Ro_nil ?_
  refine Fx_seq (a := c13_3) (b := c13_10) rfl ?_
  refine Fx_seq (a := c13_4) (b := c13_5) rfl ?_
  refine Fx_text rfl ?_
  refine Ro_v (v := (Sl.v a_2)) rfl (o_move rfl rfl) ?_
  obtain ⟨x4, hx4, h⟩ := h.lt
  refine Ro_v (v := (Value.int .i64 x4)) rfl (o_lenSl rfl tu23 rfl hx4) ?_
  refine Ro_v (v := (Sl.v b_3)) rfl (o_move rfl rfl) ?_
  obtain ⟨x5, hx5, h⟩ := h.lt
  refine Ro_v (v := (Value.int .i64 x5)) rfl (o_lenSl rfl tu23 rfl hx5) ?_
  obtain ⟨x6, hx6, h⟩ := h.lt
  refine Ro_v (v := (Value.bool x6)) rfl (o_neq rfl rfl rfl hx6) ?_
  refine Ro_nil ?_
  refine Fx_cond (a := c13_6) (b := c13_9) rfl rfl (fun ex6 => ?_) (fun ex6 => ?_)
  · replace h := h.ifT ex6
    refine Fx_seq (a := c13_7) (b := c13_8) rfl ?_
    refine Fx_text rfl ?_
    refine Ro_v (v := (Value.bool false)) rfl (o_assign rfl rfl) ?_
    refine Ro_nil ?_
    exact Fx_ret rfl rfl (congrArg some h.sm)
  · replace h := h.ifF ex6
    refine Fx_skip (c := c13_9) rfl ?_
    refine Fx_seq (a := c13_11) (b := c13_31) rfl ?_
    refine Fx_seq (a := c13_12) (b := c13_13) rfl ?_
    refine Fx_text rfl ?_
    refine Ro_v (v := (Value.int .i64 (0))) rfl (o_assign rfl rfl) ?_
    refine Ro_nil ?_
    refine Fx_block (b := c13_14) rfl ?_
    refine Fx_forget (Fr.set_of (Fr.set_of (Fr.set_of rfl rfl) rfl) rfl) ((OptW.loop h (fun s => C13_l1 a_2 b_3 σ out (.inl s)) ?_ : C13_l1 a_2 b_3 σ out (.inl (0))) _)
    intro s hs f
    refine q13_l1 a_2 b_3 s σ out f (hs.imp ?_)
    intro r hr
    rcases r with y | b
    · exact hr
    · rcases b with b | b
      · have h := hr
        intro f
        refine Fx_seq (a := c13_32) (b := c13_33) rfl ?_
        refine Fx_text rfl ?_
        refine Ro_v (v := (Value.bool true)) rfl (o_assign rfl rfl) ?_
        refine Ro_nil ?_
        exact Fx_ret rfl rfl (congrArg some h.sm)
      · obtain ⟨x23, rfl⟩ : ∃ x, x = b := ⟨_, rfl⟩
        have h := hr
        exact h.sm
noncomputable def c3_0 : Code := bodyOf Try.f3
noncomputable def c3_1 : Code := cl c3_0
noncomputable def c3_2 : Code := cr c3_0
noncomputable def c3_3 : Code := cl c3_2
noncomputable def c3_4 : Code := cl c3_3
noncomputable def c3_5 : Code := cr c3_3
noncomputable def c3_6 : Code := cl c3_5
noncomputable def c3_7 : Code := cl c3_6
noncomputable def c3_8 : Code := cr c3_6
noncomputable def c3_9 : Code := cr c3_5
noncomputable def c3_10 : Code := cr c3_2
noncomputable def c3_11 : Code := cl c3_10
noncomputable def c3_12 : Code := cr c3_10
noncomputable def c3_13 : Code := cl c3_12
noncomputable def c3_14 : Code := cr c3_12
noncomputable def c3_15 : Code := cl c3_14
noncomputable def c3_16 : Code := cr c3_14
theorem ok3 : funcOk Try.f3 = true := by kernel_rfl
noncomputable def rs3 : List ResultVar := resultsOf Try.f3
theorem w3 (src_2 : ByteArray) (σ : AHeap) (r : (Bool × AHeap)) (h : G_semvcslaw01_LexScans src_2 σ = some r) : callL Try.prog 3 [(Value.string src_2)] σ = some ((Value.bool r.1), r.2) := by
  refine callL_walk (fn := Try.f3) (c := c3_0) (rs := rs3) Try.func3 rfl ok3 rfl rfl ?_
  obtain ⟨out, ho⟩ : ∃ out, out = ((Value.bool r.1), r.2) := ⟨_, rfl⟩
  rw [← ho]
  replace h : OptW (G_semvcslaw01_LexScans src_2 σ) (fun r => ((Value.bool r.1), r.2) = out) := ⟨r, h, ho.symm⟩
  unfold G_semvcslaw01_LexScans at h
  refine Fx_seq (a := c3_1) (b := c3_2) rfl ?_
  refine Fx_text rfl ?_
  refine Ro_v (v := (Value.bool false)) rfl (o_assign rfl rfl) ?_
  refine Ro_nil ?_
  refine Fx_seq (a := c3_3) (b := c3_10) rfl ?_
  refine Fx_seq (a := c3_4) (b := c3_5) rfl ?_
  refine Fx_text rfl ?_
  refine Ro_v (v := (Value.string src_2)) rfl (o_move rfl rfl) ?_
  obtain ⟨x3, hx3, h⟩ := h.lt
  refine Ro_v (v := (Value.int .i64 x3)) rfl (o_lenS rfl tu9 rfl hx3) ?_
  obtain ⟨x4, hx4, h⟩ := h.lt
  refine Ro_v (v := (Value.bool x4)) rfl (o_gtr rfl rfl rfl hx4) ?_
  refine Ro_nil ?_
  refine Fx_cond (a := c3_6) (b := c3_9) rfl rfl (fun ex4 => ?_) (fun ex4 => ?_)
  · replace h := h.ifT ex4
    refine Fx_seq (a := c3_7) (b := c3_8) rfl ?_
    refine Fx_text rfl ?_
    obtain ⟨⟨x6, σ7⟩, hσ7, h⟩ := h.bd
    refine Ro_v (v := (Value.bool x6)) rfl (o_call (vs := []) rfl rfl (w10 _ _ hσ7)) ?_
    refine Ro_v (v := (Value.bool x6)) rfl (o_assign rfl rfl) ?_
    refine Ro_nil ?_
    exact Fx_ret rfl rfl (congrArg some h.sm)
  · replace h := h.ifF ex4
    refine Fx_skip (c := c3_9) rfl ?_
    refine Fx_seq (a := c3_11) (b := c3_12) rfl ?_
    refine Fx_text rfl ?_
    refine Ro_v (v := (Value.string src_2)) rfl (o_move rfl rfl) ?_
    obtain ⟨⟨x12, x13, x14, x15, σ16⟩, hσ16, h⟩ := h.bd
    refine Ro_v (v := (Value.tuple #[(Sl.v x12), (Value.string x13), (Value.int .i64 x14), (Value.int .i64 x15)])) rfl (o_call (vs := [(Value.string src_2)]) rfl rfl (w11 _ _ _ hσ16)) ?_
    refine Ro_v (v := (Value.tuple #[(Sl.v x12), (Value.string x13), (Value.int .i64 x14), (Value.int .i64 x15)])) rfl (o_move rfl rfl) ?_
    refine Ro_v (v := (Sl.v x12)) rfl (o_ext rfl rfl rfl) ?_
    refine Ro_v (v := (Value.string x13)) rfl (o_ext rfl rfl rfl) ?_
    refine Ro_v (v := (Value.int .i64 x14)) rfl (o_ext rfl rfl rfl) ?_
    refine Ro_v (v := (Value.int .i64 x15)) rfl (o_ext rfl rfl rfl) ?_
    refine Ro_v (v := (Sl.v x12)) rfl (o_assign rfl rfl) ?_
    refine Ro_v (v := (Value.string x13)) rfl (o_assign rfl rfl) ?_
    refine Ro_v (v := (Value.int .i64 x14)) rfl (o_assign rfl rfl) ?_
    refine Ro_v (v := (Value.int .i64 x15)) rfl (o_assign rfl rfl) ?_
    refine Ro_nil ?_
    refine Fx_seq (a := c3_13) (b := c3_14) rfl ?_
    refine Fx_text rfl ?_
    refine Ro_v (v := (Value.string src_2)) rfl (o_move rfl rfl) ?_
    obtain ⟨⟨x21, x22, x23, x24, σ25⟩, hσ25, h⟩ := h.bd
    refine Ro_v (v := (Value.tuple #[(Sl.v x21), (Value.string x22), (Value.int .i64 x23), (Value.int .i64 x24)])) rfl (o_call (vs := [(Value.string src_2)]) rfl rfl (w12 _ _ _ hσ25)) ?_
    refine Ro_v (v := (Value.tuple #[(Sl.v x21), (Value.string x22), (Value.int .i64 x23), (Value.int .i64 x24)])) rfl (o_move rfl rfl) ?_
    refine Ro_v (v := (Sl.v x21)) rfl (o_ext rfl rfl rfl) ?_
    refine Ro_v (v := (Value.string x22)) rfl (o_ext rfl rfl rfl) ?_
    refine Ro_v (v := (Value.int .i64 x23)) rfl (o_ext rfl rfl rfl) ?_
    refine Ro_v (v := (Value.int .i64 x24)) rfl (o_ext rfl rfl rfl) ?_
    refine Ro_v (v := (Sl.v x21)) rfl (o_assign rfl rfl) ?_
    refine Ro_v (v := (Value.string x22)) rfl (o_assign rfl rfl) ?_
    refine Ro_v (v := (Value.int .i64 x23)) rfl (o_assign rfl rfl) ?_
    refine Ro_v (v := (Value.int .i64 x24)) rfl (o_assign rfl rfl) ?_
    refine Ro_nil ?_
    refine Fx_seq (a := c3_15) (b := c3_16) rfl ?_
    refine Fx_text rfl ?_
    obtain ⟨⟨x27, σ28⟩, hσ28, h⟩ := h.bd
    refine Ro_v (v := (Value.bool x27)) rfl (o_call (vs := []) rfl rfl (w10 _ _ hσ28)) ?_
    refine Ro_v (v := (Value.bool x27)) rfl (o_move rfl rfl) ?_
    refine Ro_set (t := x27) (v := bif x27 then (Sl.v x12) else undef) rfl (w_T rfl rfl rfl) (by intro e; have e0 := e; subst e0; exact o_move rfl rfl) (fun e => ⟨gv_f e, rfl⟩) ?_
    refine Ro_set (t := x27) (v := bif x27 then (Sl.v x21) else undef) rfl (w_T rfl rfl rfl) (by intro e; have e0 := e; subst e0; exact o_move rfl rfl) (fun e => ⟨gv_f e, rfl⟩) ?_
    obtain ⟨x29, hx29, h⟩ := h.bd
    refine Ro_set (t := x27) (v := bif x27 then (Value.bool x29) else undef) rfl (w_T rfl rfl rfl) (by intro e; have e0 := e; subst e0; exact o_call (vs := [(Sl.v x12), (Sl.v x21)]) rfl rfl (w13 _ _ _ _ hx29)) (fun e => ⟨gv_f e, rfl⟩) ?_
    obtain ⟨x30, hx30, h⟩ := h.lt
    refine Ro_v (v := (Value.bool x30)) rfl (o_pick rfl rfl (by intro e; subst e; subst hx30; rfl) (by intro e; subst e; subst hx30; rfl)) ?_
    refine Ro_v (v := (Value.bool x30)) rfl (o_move rfl rfl) ?_
    refine Ro_set (t := x30) (v := bif x30 then (Value.string x13) else undef) rfl (w_T rfl rfl rfl) (by intro e; have e0 := e; subst e0; exact o_move rfl rfl) (fun e => ⟨gv_f e, rfl⟩) ?_
    refine Ro_set (t := x30) (v := bif x30 then (Value.string x22) else undef) rfl (w_T rfl rfl rfl) (by intro e; have e0 := e; subst e0; exact o_move rfl rfl) (fun e => ⟨gv_f e, rfl⟩) ?_
    obtain ⟨x31, hx31, h⟩ := h.lt
    refine Ro_set (t := x30) (v := bif x30 then (Value.bool x31) else undef) rfl (w_T rfl rfl rfl) (by intro e; have e0 := e; subst e0; exact o_seql rfl rfl rfl hx31) (fun e => ⟨gv_f e, rfl⟩) ?_
    obtain ⟨x32, hx32, h⟩ := h.lt
    refine Ro_v (v := (Value.bool x32)) rfl (o_pick rfl rfl (by intro e; subst e; subst hx32; rfl) (by intro e; subst e; subst hx32; rfl)) ?_
    refine Ro_v (v := (Value.bool x32)) rfl (o_move rfl rfl) ?_
    refine Ro_set (t := x32) (v := bif x32 then (Value.int .i64 x14) else undef) rfl (w_T rfl rfl rfl) (by intro e; have e0 := e; subst e0; exact o_move rfl rfl) (fun e => ⟨gv_f e, rfl⟩) ?_
    refine Ro_set (t := x32) (v := bif x32 then (Value.int .i64 x23) else undef) rfl (w_T rfl rfl rfl) (by intro e; have e0 := e; subst e0; exact o_move rfl rfl) (fun e => ⟨gv_f e, rfl⟩) ?_
    obtain ⟨x33, hx33, h⟩ := h.lt
    refine Ro_set (t := x32) (v := bif x32 then (Value.bool x33) else undef) rfl (w_T rfl rfl rfl) (by intro e; have e0 := e; subst e0; exact o_eql rfl rfl rfl hx33) (fun e => ⟨gv_f e, rfl⟩) ?_
    obtain ⟨x34, hx34, h⟩ := h.lt
    refine Ro_v (v := (Value.bool x34)) rfl (o_pick rfl rfl (by intro e; subst e; subst hx34; rfl) (by intro e; subst e; subst hx34; rfl)) ?_
    refine Ro_v (v := (Value.bool x34)) rfl (o_move rfl rfl) ?_
    refine Ro_set (t := x34) (v := bif x34 then (Value.int .i64 x15) else undef) rfl (w_T rfl rfl rfl) (by intro e; have e0 := e; subst e0; exact o_move rfl rfl) (fun e => ⟨gv_f e, rfl⟩) ?_
    refine Ro_set (t := x34) (v := bif x34 then (Value.int .i64 x24) else undef) rfl (w_T rfl rfl rfl) (by intro e; have e0 := e; subst e0; exact o_move rfl rfl) (fun e => ⟨gv_f e, rfl⟩) ?_
    obtain ⟨x35, hx35, h⟩ := h.lt
    refine Ro_set (t := x34) (v := bif x34 then (Value.bool x35) else undef) rfl (w_T rfl rfl rfl) (by intro e; have e0 := e; subst e0; exact o_eql rfl rfl rfl hx35) (fun e => ⟨gv_f e, rfl⟩) ?_
    obtain ⟨x36, hx36, h⟩ := h.lt
    refine Ro_v (v := (Value.bool x36)) rfl (o_pick rfl rfl (by intro e; subst e; subst hx36; rfl) (by intro e; subst e; subst hx36; rfl)) ?_
    refine Ro_v (v := (Value.bool x36)) rfl (o_assign rfl rfl) ?_
    refine Ro_nil ?_
    exact Fx_ret rfl rfl (congrArg some h.sm)
end Go.Am
