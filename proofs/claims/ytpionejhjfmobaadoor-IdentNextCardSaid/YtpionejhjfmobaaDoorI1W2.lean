/- I1W2 -/
import Derived.Test.YtpionejhjfmobaaDoorI1W
set_option linter.unusedVariables false
namespace Go.Am
open Go.Proofs
noncomputable def c5_0 : Code := bodyOf Tryd.f5
noncomputable def c5_1 : Code := cl c5_0
noncomputable def c5_2 : Code := cr c5_0
noncomputable def c5_3 : Code := cl c5_2
noncomputable def c5_4 : Code := cr c5_2
noncomputable def c5_5 : Code := cl c5_4
noncomputable def c5_6 : Code := cl c5_5
noncomputable def c5_7 : Code := cr c5_5
noncomputable def c5_8 : Code := cl c5_7
noncomputable def c5_9 : Code := cl c5_8
noncomputable def c5_10 : Code := cr c5_8
noncomputable def c5_11 : Code := cr c5_7
noncomputable def c5_12 : Code := cr c5_4
noncomputable def c5_13 : Code := cl c5_12
noncomputable def c5_14 : Code := cr c5_12
noncomputable def c5_15 : Code := cl c5_14
noncomputable def c5_16 : Code := cr c5_14
theorem ok5 : funcOk Tryd.f5 = true := by kernel_rfl
noncomputable def rs5 : List ResultVar := resultsOf Tryd.f5
theorem w5 (site_2 : Int) (n_3 : Int) (σ : AHeap) (r : (Bool × AHeap)) (h : G_semvcslaw10_IdentBack site_2 n_3 σ = some r) : callL Tryd.prog 5 [(Value.int .i64 site_2), (Value.int .i64 n_3)] σ = some ((Value.bool r.1), r.2) := by
  refine callL_walk (fn := Tryd.f5) (c := c5_0) (rs := rs5) Tryd.func5 rfl ok5 rfl rfl ?_
  obtain ⟨out, ho⟩ : ∃ out, out = ((Value.bool r.1), r.2) := ⟨_, rfl⟩
  rw [← ho]
  replace h : OptW (G_semvcslaw10_IdentBack site_2 n_3 σ) (fun r => ((Value.bool r.1), r.2) = out) := ⟨r, h, ho.symm⟩
  unfold G_semvcslaw10_IdentBack at h
  refine Fx_seq (a := c5_1) (b := c5_2) rfl ?_
  refine Fx_text rfl (by kernel_rfl) ?_
  refine Ro_v (v := (Value.bool false)) rfl (o_assign rfl rfl) ?_
  refine Ro_nil ?_
  refine Fx_seq (a := c5_3) (b := c5_4) rfl ?_
  refine Fx_text rfl (by kernel_rfl) ?_
  refine Ro_v (v := (Value.int .i64 site_2)) rfl (o_move rfl rfl) ?_
  refine Ro_v (v := (Value.int .i64 n_3)) rfl (o_move rfl rfl) ?_
  obtain ⟨⟨x4, x5⟩, hx4, h⟩ := h.bd
  refine Ro_v (v := (Value.tuple #[(Value.int .i64 x4), (Value.int .i64 x5)])) rfl (o_call (vs := [(Value.int .i64 site_2), (Value.int .i64 n_3)]) rfl rfl (w9 _ _ _ _ hx4)) ?_
  refine Ro_v (v := (Value.tuple #[(Value.int .i64 x4), (Value.int .i64 x5)])) rfl (o_move rfl rfl) ?_
  refine Ro_v (v := (Value.int .i64 x4)) rfl (o_ext rfl rfl rfl) ?_
  refine Ro_v (v := (Value.int .i64 x5)) rfl (o_ext rfl rfl rfl) ?_
  refine Ro_v (v := (Value.int .i64 x4)) rfl (o_assign rfl rfl) ?_
  refine Ro_v (v := (Value.int .i64 x5)) rfl (o_assign rfl rfl) ?_
  refine Ro_nil ?_
  refine Fx_seq (a := c5_5) (b := c5_12) rfl ?_
  refine Fx_seq (a := c5_6) (b := c5_7) rfl ?_
  refine Fx_text rfl (by kernel_rfl) ?_
  refine Ro_v (v := (Value.int .i64 x5)) rfl (o_move rfl rfl) ?_
  obtain ⟨x6, hx6, h⟩ := h.lt
  refine Ro_v (v := (Value.bool x6)) rfl (o_neq rfl rfl rfl hx6) ?_
  refine Ro_nil ?_
  refine Fx_cond (a := c5_8) (b := c5_11) rfl rfl (fun ex6 => ?_) (fun ex6 => ?_)
  · replace h := h.ifT ex6
    refine Fx_seq (a := c5_9) (b := c5_10) rfl ?_
    refine Fx_text rfl (by kernel_rfl) ?_
    obtain ⟨⟨x8, σ9⟩, hσ9, h⟩ := h.bd
    refine Ro_v (v := (Value.bool x8)) rfl (o_call (vs := []) rfl rfl (w11 _ _ hσ9)) ?_
    refine Ro_v (v := (Value.bool x8)) rfl (o_move rfl rfl) ?_
    refine Ro_set (t := x8) (v := bif x8 then (Value.int .i64 x4) else undef) rfl (w_T rfl rfl rfl) (by intro e; have e0 := e; subst e0; exact o_move rfl rfl) (fun e => ⟨gv_f e, rfl⟩) ?_
    obtain ⟨x10, hx10, h⟩ := h.lt
    refine Ro_set (t := x8) (v := bif x8 then (Value.bool x10) else undef) rfl (w_T rfl rfl rfl) (by intro e; have e0 := e; subst e0; exact o_eql rfl rfl rfl hx10) (fun e => ⟨gv_f e, rfl⟩) ?_
    obtain ⟨x11, hx11, h⟩ := h.lt
    refine Ro_v (v := (Value.bool x11)) rfl (o_pick rfl rfl (by intro e; subst e; subst hx11; rfl) (by intro e; subst e; subst hx11; rfl)) ?_
    refine Ro_v (v := (Value.bool x11)) rfl (o_move rfl rfl) ?_
    refine Ro_set (t := x11) (v := bif x11 then (Value.int .i64 site_2) else undef) rfl (w_T rfl rfl rfl) (by intro e; have e0 := e; subst e0; exact o_move rfl rfl) (fun e => ⟨gv_f e, rfl⟩) ?_
    obtain ⟨x12, hx12, h⟩ := h.lt
    refine Ro_set (t := x11) (v := bif x11 then (Value.bool x12) else undef) rfl (w_T rfl rfl rfl) (by intro e; have e0 := e; subst e0; exact o_lss rfl rfl rfl hx12) (fun e => ⟨gv_f e, rfl⟩) ?_
    refine Ro_set (t := x11) (v := bif x11 then (Value.bool x12) else undef) rfl (w_T rfl rfl rfl) (by intro e; have e0 := e; subst e0; exact o_move rfl rfl) (fun e => ⟨gv_f e, rfl⟩) ?_
    refine Ro_set (t := (x11 && !x12)) (v := bif (x11 && !x12) then (Value.int .i64 site_2) else undef) rfl (w_gF rfl rfl rfl) (by intro e; have e1 := not_t (and_t e).2; have e0 := (and_t e).1; subst e1; subst e0; exact o_move rfl rfl) (fun e => ⟨gv_f e, rfl⟩) ?_
    obtain ⟨x13, hx13, h⟩ := h.lt
    refine Ro_set (t := (x11 && !x12)) (v := bif (x11 && !x12) then (Value.bool x13) else undef) rfl (w_gF rfl rfl rfl) (by intro e; have e1 := not_t (and_t e).2; have e0 := (and_t e).1; subst e1; subst e0; exact o_gtr rfl rfl rfl hx13) (fun e => ⟨gv_f e, rfl⟩) ?_
    obtain ⟨x14, hx14, h⟩ := h.lt
    refine Ro_set (t := x11) (v := bif x11 then (Value.bool x14) else undef) rfl (w_T rfl rfl rfl) (by intro e; have e0 := e; subst e0; exact o_pick rfl rfl (by intro e; subst e; subst hx14; rfl) (by intro e; subst e; subst hx14; rfl)) (fun e => ⟨gv_f e, rfl⟩) ?_
    refine Ro_set (t := x11) (v := bif x11 then (Value.bool x14) else undef) rfl (w_T rfl rfl rfl) (by intro e; have e0 := e; subst e0; exact o_move rfl rfl) (fun e => ⟨gv_f e, rfl⟩) ?_
    refine Ro_set (t := (x11 && !x14)) (v := bif (x11 && !x14) then (Value.int .i64 n_3) else undef) rfl (w_gF rfl rfl rfl) (by intro e; have e1 := not_t (and_t e).2; have e0 := (and_t e).1; subst e1; subst e0; exact o_move rfl rfl) (fun e => ⟨gv_f e, rfl⟩) ?_
    obtain ⟨x15, hx15, h⟩ := h.lt
    refine Ro_set (t := (x11 && !x14)) (v := bif (x11 && !x14) then (Value.bool x15) else undef) rfl (w_gF rfl rfl rfl) (by intro e; have e1 := not_t (and_t e).2; have e0 := (and_t e).1; subst e1; subst e0; exact o_lss rfl rfl rfl hx15) (fun e => ⟨gv_f e, rfl⟩) ?_
    obtain ⟨x16, hx16, h⟩ := h.lt
    refine Ro_set (t := x11) (v := bif x11 then (Value.bool x16) else undef) rfl (w_T rfl rfl rfl) (by intro e; have e0 := e; subst e0; exact o_pick rfl rfl (by intro e; subst e; subst hx16; rfl) (by intro e; subst e; subst hx16; rfl)) (fun e => ⟨gv_f e, rfl⟩) ?_
    refine Ro_set (t := x11) (v := bif x11 then (Value.bool x16) else undef) rfl (w_T rfl rfl rfl) (by intro e; have e0 := e; subst e0; exact o_move rfl rfl) (fun e => ⟨gv_f e, rfl⟩) ?_
    refine Ro_set (t := (x11 && !x16)) (v := bif (x11 && !x16) then (Value.int .i64 n_3) else undef) rfl (w_gF rfl rfl rfl) (by intro e; have e1 := not_t (and_t e).2; have e0 := (and_t e).1; subst e1; subst e0; exact o_move rfl rfl) (fun e => ⟨gv_f e, rfl⟩) ?_
    obtain ⟨x17, hx17, h⟩ := h.lt
    refine Ro_set (t := (x11 && !x16)) (v := bif (x11 && !x16) then (Value.bool x17) else undef) rfl (w_gF rfl rfl rfl) (by intro e; have e1 := not_t (and_t e).2; have e0 := (and_t e).1; subst e1; subst e0; exact o_gtr rfl rfl rfl hx17) (fun e => ⟨gv_f e, rfl⟩) ?_
    obtain ⟨x18, hx18, h⟩ := h.lt
    refine Ro_set (t := x11) (v := bif x11 then (Value.bool x18) else undef) rfl (w_T rfl rfl rfl) (by intro e; have e0 := e; subst e0; exact o_pick rfl rfl (by intro e; subst e; subst hx18; rfl) (by intro e; subst e; subst hx18; rfl)) (fun e => ⟨gv_f e, rfl⟩) ?_
    obtain ⟨x19, hx19, h⟩ := h.lt
    refine Ro_v (v := (Value.bool x19)) rfl (o_pick rfl rfl (by intro e; subst e; subst hx19; rfl) (by intro e; subst e; subst hx19; rfl)) ?_
    refine Ro_v (v := (Value.bool x19)) rfl (o_assign rfl rfl) ?_
    refine Ro_nil ?_
    exact Fx_ret rfl rfl (congrArg some h.sm)
  · replace h := h.ifF ex6
    refine Fx_skip (c := c5_11) rfl ?_
    refine Fx_seq (a := c5_13) (b := c5_14) rfl ?_
    refine Fx_text rfl (by kernel_rfl) ?_
    refine Ro_v (v := (Value.int .i64 x4)) rfl (o_move rfl rfl) ?_
    obtain ⟨⟨x21, σ22⟩, hσ22, h⟩ := h.bd
    refine Ro_v (v := (Value.string x21)) rfl (o_call (vs := [(Value.int .i64 x4)]) rfl rfl (w20 _ _ _ hσ22)) ?_
    obtain ⟨⟨x23, x24⟩, hx23, h⟩ := h.bd
    refine Ro_v (v := (Value.tuple #[(Value.int .i64 x23), (Value.int .i64 x24)])) rfl (o_call (vs := [(Value.string x21)]) rfl rfl (w18 _ _ _ hx23)) ?_
    refine Ro_v (v := (Value.tuple #[(Value.int .i64 x23), (Value.int .i64 x24)])) rfl (o_move rfl rfl) ?_
    refine Ro_v (v := (Value.int .i64 x23)) rfl (o_ext rfl rfl rfl) ?_
    refine Ro_v (v := (Value.int .i64 x24)) rfl (o_ext rfl rfl rfl) ?_
    refine Ro_v (v := (Value.int .i64 x23)) rfl (o_assign rfl rfl) ?_
    refine Ro_v (v := (Value.int .i64 x24)) rfl (o_assign rfl rfl) ?_
    refine Ro_nil ?_
    refine Fx_seq (a := c5_15) (b := c5_16) rfl ?_
    refine Fx_text rfl (by kernel_rfl) ?_
    obtain ⟨⟨x26, σ27⟩, hσ27, h⟩ := h.bd
    refine Ro_v (v := (Value.bool x26)) rfl (o_call (vs := []) rfl rfl (w11 _ _ hσ27)) ?_
    refine Ro_v (v := (Value.bool x26)) rfl (o_move rfl rfl) ?_
    refine Ro_set (t := x26) (v := bif x26 then (Value.int .i64 x24) else undef) rfl (w_T rfl rfl rfl) (by intro e; have e0 := e; subst e0; exact o_move rfl rfl) (fun e => ⟨gv_f e, rfl⟩) ?_
    obtain ⟨x28, hx28, h⟩ := h.lt
    refine Ro_set (t := x26) (v := bif x26 then (Value.bool x28) else undef) rfl (w_T rfl rfl rfl) (by intro e; have e0 := e; subst e0; exact o_eql rfl rfl rfl hx28) (fun e => ⟨gv_f e, rfl⟩) ?_
    obtain ⟨x29, hx29, h⟩ := h.lt
    refine Ro_v (v := (Value.bool x29)) rfl (o_pick rfl rfl (by intro e; subst e; subst hx29; rfl) (by intro e; subst e; subst hx29; rfl)) ?_
    refine Ro_v (v := (Value.bool x29)) rfl (o_move rfl rfl) ?_
    refine Ro_set (t := x29) (v := bif x29 then (Value.int .i64 x23) else undef) rfl (w_T rfl rfl rfl) (by intro e; have e0 := e; subst e0; exact o_move rfl rfl) (fun e => ⟨gv_f e, rfl⟩) ?_
    refine Ro_set (t := x29) (v := bif x29 then (Value.int .i64 x4) else undef) rfl (w_T rfl rfl rfl) (by intro e; have e0 := e; subst e0; exact o_move rfl rfl) (fun e => ⟨gv_f e, rfl⟩) ?_
    obtain ⟨x30, hx30, h⟩ := h.lt
    refine Ro_set (t := x29) (v := bif x29 then (Value.bool x30) else undef) rfl (w_T rfl rfl rfl) (by intro e; have e0 := e; subst e0; exact o_eql rfl rfl rfl hx30) (fun e => ⟨gv_f e, rfl⟩) ?_
    obtain ⟨x31, hx31, h⟩ := h.lt
    refine Ro_v (v := (Value.bool x31)) rfl (o_pick rfl rfl (by intro e; subst e; subst hx31; rfl) (by intro e; subst e; subst hx31; rfl)) ?_
    refine Ro_v (v := (Value.bool x31)) rfl (o_move rfl rfl) ?_
    refine Ro_set (t := x31) (v := bif x31 then (Value.int .i64 x4) else undef) rfl (w_T rfl rfl rfl) (by intro e; have e0 := e; subst e0; exact o_move rfl rfl) (fun e => ⟨gv_f e, rfl⟩) ?_
    obtain ⟨x32, hx32, h⟩ := h.bd
    refine Ro_set (t := x31) (v := bif x31 then (Value.int .i64 x32) else undef) rfl (w_T rfl rfl rfl) (by intro e; have e0 := e; subst e0; exact o_call (vs := [(Value.int .i64 x4)]) rfl rfl (w14 _ _ _ hx32)) (fun e => ⟨gv_f e, rfl⟩) ?_
    refine Ro_set (t := x31) (v := bif x31 then (Value.int .i64 site_2) else undef) rfl (w_T rfl rfl rfl) (by intro e; have e0 := e; subst e0; exact o_move rfl rfl) (fun e => ⟨gv_f e, rfl⟩) ?_
    obtain ⟨x33, hx33, h⟩ := h.lt
    refine Ro_set (t := x31) (v := bif x31 then (Value.bool x33) else undef) rfl (w_T rfl rfl rfl) (by intro e; have e0 := e; subst e0; exact o_eql rfl rfl rfl hx33) (fun e => ⟨gv_f e, rfl⟩) ?_
    obtain ⟨x34, hx34, h⟩ := h.lt
    refine Ro_v (v := (Value.bool x34)) rfl (o_pick rfl rfl (by intro e; subst e; subst hx34; rfl) (by intro e; subst e; subst hx34; rfl)) ?_
    refine Ro_v (v := (Value.bool x34)) rfl (o_move rfl rfl) ?_
    refine Ro_set (t := x34) (v := bif x34 then (Value.int .i64 x4) else undef) rfl (w_T rfl rfl rfl) (by intro e; have e0 := e; subst e0; exact o_move rfl rfl) (fun e => ⟨gv_f e, rfl⟩) ?_
    obtain ⟨x35, hx35, h⟩ := h.bd
    refine Ro_set (t := x34) (v := bif x34 then (Value.int .i64 x35) else undef) rfl (w_T rfl rfl rfl) (by intro e; have e0 := e; subst e0; exact o_call (vs := [(Value.int .i64 x4)]) rfl rfl (w16 _ _ _ hx35)) (fun e => ⟨gv_f e, rfl⟩) ?_
    refine Ro_set (t := x34) (v := bif x34 then (Value.int .i64 n_3) else undef) rfl (w_T rfl rfl rfl) (by intro e; have e0 := e; subst e0; exact o_move rfl rfl) (fun e => ⟨gv_f e, rfl⟩) ?_
    obtain ⟨x36, hx36, h⟩ := h.lt
    refine Ro_set (t := x34) (v := bif x34 then (Value.bool x36) else undef) rfl (w_T rfl rfl rfl) (by intro e; have e0 := e; subst e0; exact o_eql rfl rfl rfl hx36) (fun e => ⟨gv_f e, rfl⟩) ?_
    obtain ⟨x37, hx37, h⟩ := h.lt
    refine Ro_v (v := (Value.bool x37)) rfl (o_pick rfl rfl (by intro e; subst e; subst hx37; rfl) (by intro e; subst e; subst hx37; rfl)) ?_
    refine Ro_v (v := (Value.bool x37)) rfl (o_move rfl rfl) ?_
    refine Ro_set (t := x37) (v := bif x37 then (Value.int .i64 x4) else undef) rfl (w_T rfl rfl rfl) (by intro e; have e0 := e; subst e0; exact o_move rfl rfl) (fun e => ⟨gv_f e, rfl⟩) ?_
    obtain ⟨x38, hx38, h⟩ := h.bd
    refine Ro_set (t := x37) (v := bif x37 then (Value.bool x38) else undef) rfl (w_T rfl rfl rfl) (by intro e; have e0 := e; subst e0; exact o_call (vs := [(Value.int .i64 x4)]) rfl rfl (w12 _ _ _ hx38)) (fun e => ⟨gv_f e, rfl⟩) ?_
    obtain ⟨x39, hx39, h⟩ := h.lt
    refine Ro_v (v := (Value.bool x39)) rfl (o_pick rfl rfl (by intro e; subst e; subst hx39; rfl) (by intro e; subst e; subst hx39; rfl)) ?_
    refine Ro_v (v := (Value.bool x39)) rfl (o_assign rfl rfl) ?_
    refine Ro_nil ?_
    exact Fx_ret rfl rfl (congrArg some h.sm)
noncomputable def c6_0 : Code := bodyOf Tryd.f6
noncomputable def c6_1 : Code := cl c6_0
noncomputable def c6_2 : Code := cr c6_0
noncomputable def c6_3 : Code := cl c6_2
noncomputable def c6_4 : Code := cl c6_3
noncomputable def c6_5 : Code := cr c6_3
noncomputable def c6_6 : Code := cl c6_5
noncomputable def c6_7 : Code := cl c6_6
noncomputable def c6_8 : Code := cr c6_6
noncomputable def c6_9 : Code := cr c6_5
noncomputable def c6_10 : Code := cr c6_2
noncomputable def c6_11 : Code := cl c6_10
noncomputable def c6_12 : Code := cr c6_10
noncomputable def c6_13 : Code := cl c6_12
noncomputable def c6_14 : Code := cr c6_12
theorem ok6 : funcOk Tryd.f6 = true := by kernel_rfl
noncomputable def rs6 : List ResultVar := resultsOf Tryd.f6
theorem w6 (a_2 : Int) (b_3 : Int) (σ : AHeap) (r : (Bool × AHeap)) (h : G_semvcslaw10_IdentOrder a_2 b_3 σ = some r) : callL Tryd.prog 6 [(Value.int .i64 a_2), (Value.int .i64 b_3)] σ = some ((Value.bool r.1), r.2) := by
  refine callL_walk (fn := Tryd.f6) (c := c6_0) (rs := rs6) Tryd.func6 rfl ok6 rfl rfl ?_
  obtain ⟨out, ho⟩ : ∃ out, out = ((Value.bool r.1), r.2) := ⟨_, rfl⟩
  rw [← ho]
  replace h : OptW (G_semvcslaw10_IdentOrder a_2 b_3 σ) (fun r => ((Value.bool r.1), r.2) = out) := ⟨r, h, ho.symm⟩
  unfold G_semvcslaw10_IdentOrder at h
  refine Fx_seq (a := c6_1) (b := c6_2) rfl ?_
  refine Fx_text rfl (by kernel_rfl) ?_
  refine Ro_v (v := (Value.bool false)) rfl (o_assign rfl rfl) ?_
  refine Ro_nil ?_
  refine Fx_seq (a := c6_3) (b := c6_10) rfl ?_
  refine Fx_seq (a := c6_4) (b := c6_5) rfl ?_
  refine Fx_text rfl (by kernel_rfl) ?_
  refine Ro_v (v := (Value.int .i64 a_2)) rfl (o_move rfl rfl) ?_
  obtain ⟨x4, hx4, h⟩ := h.bd
  refine Ro_v (v := (Value.bool x4)) rfl (o_call (vs := [(Value.int .i64 a_2)]) rfl rfl (w12 _ _ _ hx4)) ?_
  obtain ⟨x5, hx5, h⟩ := h.lt
  refine Ro_v (v := (Value.bool x5)) rfl (o_not rfl rfl hx5) ?_
  refine Ro_v (v := (Value.bool x5)) rfl (o_move rfl rfl) ?_
  refine Ro_set (t := !x5) (v := bif !x5 then (Value.int .i64 b_3) else undef) rfl (w_F rfl rfl rfl) (by intro e; have e0 := not_t (e); subst e0; exact o_move rfl rfl) (fun e => ⟨gv_f e, rfl⟩) ?_
  obtain ⟨x6, hx6, h⟩ := h.bd
  refine Ro_set (t := !x5) (v := bif !x5 then (Value.bool x6) else undef) rfl (w_F rfl rfl rfl) (by intro e; have e0 := not_t (e); subst e0; exact o_call (vs := [(Value.int .i64 b_3)]) rfl rfl (w12 _ _ _ hx6)) (fun e => ⟨gv_f e, rfl⟩) ?_
  obtain ⟨x7, hx7, h⟩ := h.lt
  refine Ro_set (t := !x5) (v := bif !x5 then (Value.bool x7) else undef) rfl (w_F rfl rfl rfl) (by intro e; have e0 := not_t (e); subst e0; exact o_not rfl rfl hx7) (fun e => ⟨gv_f e, rfl⟩) ?_
  obtain ⟨x8, hx8, h⟩ := h.lt
  refine Ro_v (v := (Value.bool x8)) rfl (o_pick rfl rfl (by intro e; subst e; subst hx8; rfl) (by intro e; subst e; subst hx8; rfl)) ?_
  refine Ro_nil ?_
  refine Fx_cond (a := c6_6) (b := c6_9) rfl rfl (fun ex8 => ?_) (fun ex8 => ?_)
  · replace h := h.ifT ex8
    refine Fx_seq (a := c6_7) (b := c6_8) rfl ?_
    refine Fx_text rfl (by kernel_rfl) ?_
    obtain ⟨⟨x10, σ11⟩, hσ11, h⟩ := h.bd
    refine Ro_v (v := (Value.bool x10)) rfl (o_call (vs := []) rfl rfl (w11 _ _ hσ11)) ?_
    refine Ro_v (v := (Value.bool x10)) rfl (o_assign rfl rfl) ?_
    refine Ro_nil ?_
    exact Fx_ret rfl rfl (congrArg some h.sm)
  · replace h := h.ifF ex8
    refine Fx_skip (c := c6_9) rfl ?_
    refine Fx_seq (a := c6_11) (b := c6_12) rfl ?_
    refine Fx_text rfl (by kernel_rfl) ?_
    refine Ro_v (v := (Value.int .i64 a_2)) rfl (o_move rfl rfl) ?_
    obtain ⟨x12, hx12, h⟩ := h.bd
    refine Ro_v (v := (Value.int .i64 x12)) rfl (o_call (vs := [(Value.int .i64 a_2)]) rfl rfl (w14 _ _ _ hx12)) ?_
    refine Ro_v (v := (Value.int .i64 b_3)) rfl (o_move rfl rfl) ?_
    obtain ⟨x13, hx13, h⟩ := h.bd
    refine Ro_v (v := (Value.int .i64 x13)) rfl (o_call (vs := [(Value.int .i64 b_3)]) rfl rfl (w14 _ _ _ hx13)) ?_
    obtain ⟨x14, hx14, h⟩ := h.lt
    refine Ro_v (v := (Value.bool x14)) rfl (o_lss rfl rfl rfl hx14) ?_
    refine Ro_v (v := (Value.bool x14)) rfl (o_move rfl rfl) ?_
    refine Ro_set (t := !x14) (v := bif !x14 then (Value.int .i64 a_2) else undef) rfl (w_F rfl rfl rfl) (by intro e; have e0 := not_t (e); subst e0; exact o_move rfl rfl) (fun e => ⟨gv_f e, rfl⟩) ?_
    obtain ⟨x15, hx15, h⟩ := h.bd
    refine Ro_set (t := !x14) (v := bif !x14 then (Value.int .i64 x15) else undef) rfl (w_F rfl rfl rfl) (by intro e; have e0 := not_t (e); subst e0; exact o_call (vs := [(Value.int .i64 a_2)]) rfl rfl (w14 _ _ _ hx15)) (fun e => ⟨gv_f e, rfl⟩) ?_
    refine Ro_set (t := !x14) (v := bif !x14 then (Value.int .i64 b_3) else undef) rfl (w_F rfl rfl rfl) (by intro e; have e0 := not_t (e); subst e0; exact o_move rfl rfl) (fun e => ⟨gv_f e, rfl⟩) ?_
    obtain ⟨x16, hx16, h⟩ := h.bd
    refine Ro_set (t := !x14) (v := bif !x14 then (Value.int .i64 x16) else undef) rfl (w_F rfl rfl rfl) (by intro e; have e0 := not_t (e); subst e0; exact o_call (vs := [(Value.int .i64 b_3)]) rfl rfl (w14 _ _ _ hx16)) (fun e => ⟨gv_f e, rfl⟩) ?_
    obtain ⟨x17, hx17, h⟩ := h.lt
    refine Ro_set (t := !x14) (v := bif !x14 then (Value.bool x17) else undef) rfl (w_F rfl rfl rfl) (by intro e; have e0 := not_t (e); subst e0; exact o_eql rfl rfl rfl hx17) (fun e => ⟨gv_f e, rfl⟩) ?_
    refine Ro_set (t := !x14) (v := bif !x14 then (Value.bool x17) else undef) rfl (w_F rfl rfl rfl) (by intro e; have e0 := not_t (e); subst e0; exact o_move rfl rfl) (fun e => ⟨gv_f e, rfl⟩) ?_
    refine Ro_set (t := (!x14 && x17)) (v := bif (!x14 && x17) then (Value.int .i64 a_2) else undef) rfl (w_gT rfl rfl rfl) (by intro e; have e1 := (and_t e).2; have e0 := not_t (and_t e).1; subst e1; subst e0; exact o_move rfl rfl) (fun e => ⟨gv_f e, rfl⟩) ?_
    obtain ⟨x18, hx18, h⟩ := h.bd
    refine Ro_set (t := (!x14 && x17)) (v := bif (!x14 && x17) then (Value.int .i64 x18) else undef) rfl (w_gT rfl rfl rfl) (by intro e; have e1 := (and_t e).2; have e0 := not_t (and_t e).1; subst e1; subst e0; exact o_call (vs := [(Value.int .i64 a_2)]) rfl rfl (w16 _ _ _ hx18)) (fun e => ⟨gv_f e, rfl⟩) ?_
    refine Ro_set (t := (!x14 && x17)) (v := bif (!x14 && x17) then (Value.int .i64 b_3) else undef) rfl (w_gT rfl rfl rfl) (by intro e; have e1 := (and_t e).2; have e0 := not_t (and_t e).1; subst e1; subst e0; exact o_move rfl rfl) (fun e => ⟨gv_f e, rfl⟩) ?_
    obtain ⟨x19, hx19, h⟩ := h.bd
    refine Ro_set (t := (!x14 && x17)) (v := bif (!x14 && x17) then (Value.int .i64 x19) else undef) rfl (w_gT rfl rfl rfl) (by intro e; have e1 := (and_t e).2; have e0 := not_t (and_t e).1; subst e1; subst e0; exact o_call (vs := [(Value.int .i64 b_3)]) rfl rfl (w16 _ _ _ hx19)) (fun e => ⟨gv_f e, rfl⟩) ?_
    obtain ⟨x20, hx20, h⟩ := h.lt
    refine Ro_set (t := (!x14 && x17)) (v := bif (!x14 && x17) then (Value.bool x20) else undef) rfl (w_gT rfl rfl rfl) (by intro e; have e1 := (and_t e).2; have e0 := not_t (and_t e).1; subst e1; subst e0; exact o_lss rfl rfl rfl hx20) (fun e => ⟨gv_f e, rfl⟩) ?_
    obtain ⟨x21, hx21, h⟩ := h.lt
    refine Ro_set (t := !x14) (v := bif !x14 then (Value.bool x21) else undef) rfl (w_F rfl rfl rfl) (by intro e; have e0 := not_t (e); subst e0; exact o_pick rfl rfl (by intro e; subst e; subst hx21; rfl) (by intro e; subst e; subst hx21; rfl)) (fun e => ⟨gv_f e, rfl⟩) ?_
    obtain ⟨x22, hx22, h⟩ := h.lt
    refine Ro_v (v := (Value.bool x22)) rfl (o_pick rfl rfl (by intro e; subst e; subst hx22; rfl) (by intro e; subst e; subst hx22; rfl)) ?_
    refine Ro_v (v := (Value.bool x22)) rfl (o_assign rfl rfl) ?_
    refine Ro_nil ?_
    refine Fx_seq (a := c6_13) (b := c6_14) rfl ?_
    refine Fx_text rfl (by kernel_rfl) ?_
    obtain ⟨⟨x24, σ25⟩, hσ25, h⟩ := h.bd
    refine Ro_v (v := (Value.bool x24)) rfl (o_call (vs := []) rfl rfl (w11 _ _ hσ25)) ?_
    refine Ro_v (v := (Value.bool x24)) rfl (o_move rfl rfl) ?_
    refine Ro_set (t := x24) (v := bif x24 then (Value.int .i64 a_2) else undef) rfl (w_T rfl rfl rfl) (by intro e; have e0 := e; subst e0; exact o_move rfl rfl) (fun e => ⟨gv_f e, rfl⟩) ?_
    refine Ro_set (t := x24) (v := bif x24 then (Value.int .i64 b_3) else undef) rfl (w_T rfl rfl rfl) (by intro e; have e0 := e; subst e0; exact o_move rfl rfl) (fun e => ⟨gv_f e, rfl⟩) ?_
    obtain ⟨x26, hx26, h⟩ := h.lt
    refine Ro_set (t := x24) (v := bif x24 then (Value.bool x26) else undef) rfl (w_T rfl rfl rfl) (by intro e; have e0 := e; subst e0; exact o_lss rfl rfl rfl hx26) (fun e => ⟨gv_f e, rfl⟩) ?_
    refine Ro_set (t := x24) (v := bif x24 then (Value.bool x22) else undef) rfl (w_T rfl rfl rfl) (by intro e; have e0 := e; subst e0; exact o_move rfl rfl) (fun e => ⟨gv_f e, rfl⟩) ?_
    obtain ⟨x27, hx27, h⟩ := h.lt
    refine Ro_set (t := x24) (v := bif x24 then (Value.bool x27) else undef) rfl (w_T rfl rfl rfl) (by intro e; have e0 := e; subst e0; exact o_beql rfl tu4 rfl rfl hx27) (fun e => ⟨gv_f e, rfl⟩) ?_
    obtain ⟨x28, hx28, h⟩ := h.lt
    refine Ro_v (v := (Value.bool x28)) rfl (o_pick rfl rfl (by intro e; subst e; subst hx28; rfl) (by intro e; subst e; subst hx28; rfl)) ?_
    refine Ro_v (v := (Value.bool x28)) rfl (o_assign rfl rfl) ?_
    refine Ro_nil ?_
    exact Fx_ret rfl rfl (congrArg some h.sm)
noncomputable def c22_0 : Code := bodyOf Tryd.f22
noncomputable def c22_1 : Code := cl c22_0
noncomputable def c22_2 : Code := cr c22_0
noncomputable def c22_3 : Code := cl c22_2
noncomputable def c22_4 : Code := cl c22_3
noncomputable def c22_5 : Code := cl c22_4
noncomputable def c22_6 : Code := cr c22_4
noncomputable def c22_7 : Code := cl c22_6
noncomputable def c22_8 : Code := cl c22_7
noncomputable def c22_9 : Code := cr c22_7
noncomputable def c22_10 : Code := cr c22_6
noncomputable def c22_11 : Code := cl c22_10
noncomputable def c22_12 : Code := cr c22_10
noncomputable def c22_13 : Code := cl c22_12
noncomputable def c22_14 : Code := cl c22_13
noncomputable def c22_15 : Code := cr c22_13
noncomputable def c22_16 : Code := cr c22_12
noncomputable def c22_17 : Code := cl c22_16
noncomputable def c22_18 : Code := cr c22_16
noncomputable def c22_19 : Code := cl c22_18
noncomputable def c22_20 : Code := cl c22_19
noncomputable def c22_21 : Code := cr c22_19
noncomputable def c22_22 : Code := cr c22_18
noncomputable def c22_23 : Code := cr c22_2
noncomputable def c22_24 : Code := cl c22_23
noncomputable def c22_25 : Code := cr c22_23
theorem ok22 : funcOk Tryd.f22 = true := by kernel_rfl
noncomputable def rs22 : List ResultVar := resultsOf Tryd.f22
theorem w22 (id_3 : Int) (n_4 : Int) (σ : AHeap) (r : (Int × Int)) (h : G_ident_Next id_3 n_4 = some r) : callL Tryd.prog 22 [(Value.int .i64 id_3), (Value.int .i64 n_4)] σ = some ((Value.tuple #[(Value.int .i64 r.1), (Value.int .i64 r.2)]), σ) := by
  refine callL_walk (fn := Tryd.f22) (c := c22_0) (rs := rs22) Tryd.func22 rfl ok22 rfl rfl ?_
  obtain ⟨out, ho⟩ : ∃ out, out = ((Value.tuple #[(Value.int .i64 r.1), (Value.int .i64 r.2)]), σ) := ⟨_, rfl⟩
  rw [← ho]
  replace h : OptW (G_ident_Next id_3 n_4) (fun r => ((Value.tuple #[(Value.int .i64 r.1), (Value.int .i64 r.2)]), σ) = out) := ⟨r, h, ho.symm⟩
  unfold G_ident_Next at h
  refine Fx_seq (a := c22_1) (b := c22_2) rfl ?_
  refine Fx_text rfl (by kernel_rfl) ?_
  refine Ro_v (v := (Value.int .i64 (0))) rfl (o_assign rfl rfl) ?_
  refine Ro_v (v := (Value.int .i64 (0))) rfl (o_assign rfl rfl) ?_
  refine Ro_nil ?_
  refine Fx_seq (a := c22_3) (b := c22_23) rfl ?_
  refine Fx_block (b := c22_4) rfl ?_
  refine Fx_seq (a := c22_5) (b := c22_6) rfl ?_
  refine Fx_text rfl (by kernel_rfl) ?_
  refine Ro_v (v := (Value.int .i64 id_3)) rfl (o_move rfl rfl) ?_
  obtain ⟨x5, hx5, h⟩ := h.bd
  refine Ro_v (v := (Value.bool x5)) rfl (o_call (vs := [(Value.int .i64 id_3)]) rfl rfl (w24 _ _ _ hx5)) ?_
  obtain ⟨x6, hx6, h⟩ := h.lt
  refine Ro_v (v := (Value.bool x6)) rfl (o_not rfl rfl hx6) ?_
  refine Ro_v (v := (Value.bool x6)) rfl (o_move rfl rfl) ?_
  refine Ro_set (t := !x6) (v := bif !x6 then (Value.int .i64 n_4) else undef) rfl (w_F rfl rfl rfl) (by intro e; have e0 := not_t (e); subst e0; exact o_move rfl rfl) (fun e => ⟨gv_f e, rfl⟩) ?_
  obtain ⟨x7, hx7, h⟩ := h.lt
  refine Ro_set (t := !x6) (v := bif !x6 then (Value.bool x7) else undef) rfl (w_F rfl rfl rfl) (by intro e; have e0 := not_t (e); subst e0; exact o_lss rfl rfl rfl hx7) (fun e => ⟨gv_f e, rfl⟩) ?_
  obtain ⟨x8, hx8, h⟩ := h.lt
  refine Ro_v (v := (Value.bool x8)) rfl (o_pick rfl rfl (by intro e; subst e; subst hx8; rfl) (by intro e; subst e; subst hx8; rfl)) ?_
  refine Ro_v (v := (Value.bool x8)) rfl (o_assign rfl rfl) ?_
  refine Ro_nil ?_
  refine Fx_cond (a := c22_7) (b := c22_10) rfl rfl (fun ex8 => ?_) (fun ex8 => ?_)
  · replace h := h.ifT ex8
    refine Fx_seq (a := c22_8) (b := c22_9) rfl ?_
    refine Fx_text rfl (by kernel_rfl) ?_
    refine Ro_v (v := (Value.int .i64 (0))) rfl (o_assign rfl rfl) ?_
    refine Ro_v (v := (Value.int .i64 (5))) rfl (o_assign rfl rfl) ?_
    refine Ro_nil ?_
    exact Fx_ret rfl rfl (congrArg some h.sm)
  · replace h := h.ifF ex8
    refine Fx_seq (a := c22_11) (b := c22_12) rfl ?_
    refine Fx_text rfl (by kernel_rfl) ?_
    refine Ro_v (v := (Value.int .i64 n_4)) rfl (o_move rfl rfl) ?_
    refine Ro_v (v := (Value.int .i64 id_3)) rfl (o_move rfl rfl) ?_
    obtain ⟨x9, hx9, h⟩ := h.lt
    refine Ro_v (v := (Value.int .i64 x9)) rfl (o_and rfl rfl rfl hx9) ?_
    obtain ⟨x10, hx10, h⟩ := h.lt
    refine Ro_v (v := (Value.int .i64 x10)) rfl (o_sub rfl rfl rfl hx10) ?_
    obtain ⟨x11, hx11, h⟩ := h.lt
    refine Ro_v (v := (Value.bool x11)) rfl (o_gtr rfl rfl rfl hx11) ?_
    refine Ro_v (v := (Value.bool x11)) rfl (o_assign rfl rfl) ?_
    refine Ro_nil ?_
    refine Fx_cond (a := c22_13) (b := c22_16) rfl rfl (fun ex11 => ?_) (fun ex11 => ?_)
    · replace h := h.ifT ex11
      refine Fx_seq (a := c22_14) (b := c22_15) rfl ?_
      refine Fx_text rfl (by kernel_rfl) ?_
      refine Ro_v (v := (Value.int .i64 (0))) rfl (o_assign rfl rfl) ?_
      refine Ro_v (v := (Value.int .i64 (17))) rfl (o_assign rfl rfl) ?_
      refine Ro_nil ?_
      exact Fx_ret rfl rfl (congrArg some h.sm)
    · replace h := h.ifF ex11
      refine Fx_seq (a := c22_17) (b := c22_18) rfl ?_
      refine Fx_text rfl (by kernel_rfl) ?_
      refine Ro_v (v := (Value.int .i64 id_3)) rfl (o_move rfl rfl) ?_
      obtain ⟨x12, hx12, h⟩ := h.lt
      refine Ro_v (v := (Value.int .i64 x12)) rfl (o_and rfl rfl rfl hx12) ?_
      refine Ro_v (v := (Value.int .i64 n_4)) rfl (o_move rfl rfl) ?_
      obtain ⟨x13, hx13, h⟩ := h.lt
      refine Ro_v (v := (Value.int .i64 x13)) rfl (o_add rfl rfl rfl hx13) ?_
      obtain ⟨x14, hx14, h⟩ := h.lt
      refine Ro_v (v := (Value.bool x14)) rfl (o_eql rfl rfl rfl hx14) ?_
      refine Ro_v (v := (Value.bool x14)) rfl (o_assign rfl rfl) ?_
      refine Ro_nil ?_
      refine Fx_cond (a := c22_19) (b := c22_22) rfl rfl (fun ex14 => ?_) (fun ex14 => ?_)
      · replace h := h.ifT ex14
        refine Fx_seq (a := c22_20) (b := c22_21) rfl ?_
        refine Fx_text rfl (by kernel_rfl) ?_
        refine Ro_v (v := (Value.int .i64 (0))) rfl (o_assign rfl rfl) ?_
        refine Ro_v (v := (Value.int .i64 (5))) rfl (o_assign rfl rfl) ?_
        refine Ro_nil ?_
        exact Fx_ret rfl rfl (congrArg some h.sm)
      · replace h := h.ifF ex14
        refine Fx_skip (c := c22_22) rfl ?_
        refine Fx_blk ?_
        refine Fx_seq (a := c22_24) (b := c22_25) rfl ?_
        refine Fx_text rfl (by kernel_rfl) ?_
        refine Ro_v (v := (Value.int .i64 id_3)) rfl (o_move rfl rfl) ?_
        refine Ro_v (v := (Value.int .i64 n_4)) rfl (o_move rfl rfl) ?_
        obtain ⟨x15, hx15, h⟩ := h.lt
        refine Ro_v (v := (Value.int .i64 x15)) rfl (o_add rfl rfl rfl hx15) ?_
        refine Ro_v (v := (Value.int .i64 x15)) rfl (o_assign rfl rfl) ?_
        refine Ro_v (v := (Value.int .i64 (0))) rfl (o_assign rfl rfl) ?_
        refine Ro_nil ?_
        exact Fx_ret rfl rfl (congrArg some h.sm)
noncomputable def c29_0 : Code := bodyOf Tryd.f29
noncomputable def c29_1 : Code := cl c29_0
noncomputable def c29_2 : Code := cr c29_0
noncomputable def c29_3 : Code := cl c29_2
noncomputable def c29_4 : Code := cr c29_2
theorem ok29 : funcOk Tryd.f29 = true := by kernel_rfl
noncomputable def rs29 : List ResultVar := resultsOf Tryd.f29
theorem w29 (id_2 : Int) (σ : AHeap) (r : Bool) (h : G_semvcsref10_Start id_2 = some r) : callL Tryd.prog 29 [(Value.int .i64 id_2)] σ = some ((Value.bool r), σ) := by
  refine callL_walk (fn := Tryd.f29) (c := c29_0) (rs := rs29) Tryd.func29 rfl ok29 rfl rfl ?_
  obtain ⟨out, ho⟩ : ∃ out, out = ((Value.bool r), σ) := ⟨_, rfl⟩
  rw [← ho]
  replace h : OptW (G_semvcsref10_Start id_2) (fun r => ((Value.bool r), σ) = out) := ⟨r, h, ho.symm⟩
  unfold G_semvcsref10_Start at h
  refine Fx_seq (a := c29_1) (b := c29_2) rfl ?_
  refine Fx_text rfl (by kernel_rfl) ?_
  refine Ro_v (v := (Value.bool false)) rfl (o_assign rfl rfl) ?_
  refine Ro_nil ?_
  refine Fx_seq (a := c29_3) (b := c29_4) rfl ?_
  refine Fx_text rfl (by kernel_rfl) ?_
  refine Ro_v (v := (Value.int .i64 id_2)) rfl (o_move rfl rfl) ?_
  obtain ⟨x3, hx3, h⟩ := h.lt
  refine Ro_v (v := (Value.bool x3)) rfl (o_geq rfl rfl rfl hx3) ?_
  refine Ro_v (v := (Value.bool x3)) rfl (o_move rfl rfl) ?_
  refine Ro_set (t := x3) (v := bif x3 then (Value.int .i64 id_2) else undef) rfl (w_T rfl rfl rfl) (by intro e; have e0 := e; subst e0; exact o_move rfl rfl) (fun e => ⟨gv_f e, rfl⟩) ?_
  obtain ⟨x4, hx4, h⟩ := h.lt
  refine Ro_set (t := x3) (v := bif x3 then (Value.bool x4) else undef) rfl (w_T rfl rfl rfl) (by intro e; have e0 := e; subst e0; exact o_lss rfl rfl rfl hx4) (fun e => ⟨gv_f e, rfl⟩) ?_
  obtain ⟨x5, hx5, h⟩ := h.lt
  refine Ro_v (v := (Value.bool x5)) rfl (o_pick rfl rfl (by intro e; subst e; subst hx5; rfl) (by intro e; subst e; subst hx5; rfl)) ?_
  refine Ro_v (v := (Value.bool x5)) rfl (o_assign rfl rfl) ?_
  refine Ro_nil ?_
  exact Fx_ret rfl rfl (congrArg some h.sm)
noncomputable def c23_0 : Code := bodyOf Tryd.f23
noncomputable def c23_1 : Code := cl c23_0
noncomputable def c23_2 : Code := cr c23_0
noncomputable def c23_3 : Code := cl c23_2
noncomputable def c23_4 : Code := cl c23_3
noncomputable def c23_5 : Code := cl c23_4
noncomputable def c23_6 : Code := cr c23_4
noncomputable def c23_7 : Code := cl c23_6
noncomputable def c23_8 : Code := cl c23_7
noncomputable def c23_9 : Code := cr c23_7
noncomputable def c23_10 : Code := cr c23_6
noncomputable def c23_11 : Code := cl c23_10
noncomputable def c23_12 : Code := cr c23_10
noncomputable def c23_13 : Code := cl c23_12
noncomputable def c23_14 : Code := cl c23_13
noncomputable def c23_15 : Code := cr c23_13
noncomputable def c23_16 : Code := cr c23_12
noncomputable def c23_17 : Code := cl c23_16
noncomputable def c23_18 : Code := cr c23_16
noncomputable def c23_19 : Code := cl c23_18
noncomputable def c23_20 : Code := cl c23_19
noncomputable def c23_21 : Code := cr c23_19
noncomputable def c23_22 : Code := cr c23_18
noncomputable def c23_23 : Code := cr c23_2
noncomputable def c23_24 : Code := cl c23_23
noncomputable def c23_25 : Code := cr c23_23
theorem ok23 : funcOk Tryd.f23 = true := by kernel_rfl
noncomputable def rs23 : List ResultVar := resultsOf Tryd.f23
theorem w23 (id_3 : Int) (n_4 : Int) (σ : AHeap) (r : (Int × Int)) (h : G_semvcsref10_Next id_3 n_4 = some r) : callL Tryd.prog 23 [(Value.int .i64 id_3), (Value.int .i64 n_4)] σ = some ((Value.tuple #[(Value.int .i64 r.1), (Value.int .i64 r.2)]), σ) := by
  refine callL_walk (fn := Tryd.f23) (c := c23_0) (rs := rs23) Tryd.func23 rfl ok23 rfl rfl ?_
  obtain ⟨out, ho⟩ : ∃ out, out = ((Value.tuple #[(Value.int .i64 r.1), (Value.int .i64 r.2)]), σ) := ⟨_, rfl⟩
  rw [← ho]
  replace h : OptW (G_semvcsref10_Next id_3 n_4) (fun r => ((Value.tuple #[(Value.int .i64 r.1), (Value.int .i64 r.2)]), σ) = out) := ⟨r, h, ho.symm⟩
  unfold G_semvcsref10_Next at h
  refine Fx_seq (a := c23_1) (b := c23_2) rfl ?_
  refine Fx_text rfl (by kernel_rfl) ?_
  refine Ro_v (v := (Value.int .i64 (0))) rfl (o_assign rfl rfl) ?_
  refine Ro_v (v := (Value.int .i64 (0))) rfl (o_assign rfl rfl) ?_
  refine Ro_nil ?_
  refine Fx_seq (a := c23_3) (b := c23_23) rfl ?_
  refine Fx_block (b := c23_4) rfl ?_
  refine Fx_seq (a := c23_5) (b := c23_6) rfl ?_
  refine Fx_text rfl (by kernel_rfl) ?_
  refine Ro_v (v := (Value.int .i64 id_3)) rfl (o_move rfl rfl) ?_
  obtain ⟨x5, hx5, h⟩ := h.bd
  refine Ro_v (v := (Value.bool x5)) rfl (o_call (vs := [(Value.int .i64 id_3)]) rfl rfl (w29 _ _ _ hx5)) ?_
  obtain ⟨x6, hx6, h⟩ := h.lt
  refine Ro_v (v := (Value.bool x6)) rfl (o_not rfl rfl hx6) ?_
  refine Ro_v (v := (Value.bool x6)) rfl (o_move rfl rfl) ?_
  refine Ro_set (t := !x6) (v := bif !x6 then (Value.int .i64 n_4) else undef) rfl (w_F rfl rfl rfl) (by intro e; have e0 := not_t (e); subst e0; exact o_move rfl rfl) (fun e => ⟨gv_f e, rfl⟩) ?_
  obtain ⟨x7, hx7, h⟩ := h.lt
  refine Ro_set (t := !x6) (v := bif !x6 then (Value.bool x7) else undef) rfl (w_F rfl rfl rfl) (by intro e; have e0 := not_t (e); subst e0; exact o_lss rfl rfl rfl hx7) (fun e => ⟨gv_f e, rfl⟩) ?_
  obtain ⟨x8, hx8, h⟩ := h.lt
  refine Ro_v (v := (Value.bool x8)) rfl (o_pick rfl rfl (by intro e; subst e; subst hx8; rfl) (by intro e; subst e; subst hx8; rfl)) ?_
  refine Ro_v (v := (Value.bool x8)) rfl (o_assign rfl rfl) ?_
  refine Ro_nil ?_
  refine Fx_cond (a := c23_7) (b := c23_10) rfl rfl (fun ex8 => ?_) (fun ex8 => ?_)
  · replace h := h.ifT ex8
    refine Fx_seq (a := c23_8) (b := c23_9) rfl ?_
    refine Fx_text rfl (by kernel_rfl) ?_
    refine Ro_v (v := (Value.int .i64 (0))) rfl (o_assign rfl rfl) ?_
    refine Ro_v (v := (Value.int .i64 (5))) rfl (o_assign rfl rfl) ?_
    refine Ro_nil ?_
    exact Fx_ret rfl rfl (congrArg some h.sm)
  · replace h := h.ifF ex8
    refine Fx_seq (a := c23_11) (b := c23_12) rfl ?_
    refine Fx_text rfl (by kernel_rfl) ?_
    refine Ro_v (v := (Value.int .i64 n_4)) rfl (o_move rfl rfl) ?_
    refine Ro_v (v := (Value.int .i64 id_3)) rfl (o_move rfl rfl) ?_
    obtain ⟨x9, hx9, h⟩ := h.lt
    refine Ro_v (v := (Value.int .i64 x9)) rfl (o_rem rfl rfl rfl (by decide) hx9) ?_
    obtain ⟨x10, hx10, h⟩ := h.lt
    refine Ro_v (v := (Value.int .i64 x10)) rfl (o_sub rfl rfl rfl hx10) ?_
    obtain ⟨x11, hx11, h⟩ := h.lt
    refine Ro_v (v := (Value.bool x11)) rfl (o_gtr rfl rfl rfl hx11) ?_
    refine Ro_v (v := (Value.bool x11)) rfl (o_assign rfl rfl) ?_
    refine Ro_nil ?_
    refine Fx_cond (a := c23_13) (b := c23_16) rfl rfl (fun ex11 => ?_) (fun ex11 => ?_)
    · replace h := h.ifT ex11
      refine Fx_seq (a := c23_14) (b := c23_15) rfl ?_
      refine Fx_text rfl (by kernel_rfl) ?_
      refine Ro_v (v := (Value.int .i64 (0))) rfl (o_assign rfl rfl) ?_
      refine Ro_v (v := (Value.int .i64 (17))) rfl (o_assign rfl rfl) ?_
      refine Ro_nil ?_
      exact Fx_ret rfl rfl (congrArg some h.sm)
    · replace h := h.ifF ex11
      refine Fx_seq (a := c23_17) (b := c23_18) rfl ?_
      refine Fx_text rfl (by kernel_rfl) ?_
      refine Ro_v (v := (Value.int .i64 id_3)) rfl (o_move rfl rfl) ?_
      obtain ⟨x12, hx12, h⟩ := h.lt
      refine Ro_v (v := (Value.int .i64 x12)) rfl (o_rem rfl rfl rfl (by decide) hx12) ?_
      refine Ro_v (v := (Value.int .i64 n_4)) rfl (o_move rfl rfl) ?_
      obtain ⟨x13, hx13, h⟩ := h.lt
      refine Ro_v (v := (Value.int .i64 x13)) rfl (o_add rfl rfl rfl hx13) ?_
      obtain ⟨x14, hx14, h⟩ := h.lt
      refine Ro_v (v := (Value.bool x14)) rfl (o_eql rfl rfl rfl hx14) ?_
      refine Ro_v (v := (Value.bool x14)) rfl (o_assign rfl rfl) ?_
      refine Ro_nil ?_
      refine Fx_cond (a := c23_19) (b := c23_22) rfl rfl (fun ex14 => ?_) (fun ex14 => ?_)
      · replace h := h.ifT ex14
        refine Fx_seq (a := c23_20) (b := c23_21) rfl ?_
        refine Fx_text rfl (by kernel_rfl) ?_
        refine Ro_v (v := (Value.int .i64 (0))) rfl (o_assign rfl rfl) ?_
        refine Ro_v (v := (Value.int .i64 (5))) rfl (o_assign rfl rfl) ?_
        refine Ro_nil ?_
        exact Fx_ret rfl rfl (congrArg some h.sm)
      · replace h := h.ifF ex14
        refine Fx_skip (c := c23_22) rfl ?_
        refine Fx_blk ?_
        refine Fx_seq (a := c23_24) (b := c23_25) rfl ?_
        refine Fx_text rfl (by kernel_rfl) ?_
        refine Ro_v (v := (Value.int .i64 id_3)) rfl (o_move rfl rfl) ?_
        refine Ro_v (v := (Value.int .i64 n_4)) rfl (o_move rfl rfl) ?_
        obtain ⟨x15, hx15, h⟩ := h.lt
        refine Ro_v (v := (Value.int .i64 x15)) rfl (o_add rfl rfl rfl hx15) ?_
        refine Ro_v (v := (Value.int .i64 x15)) rfl (o_assign rfl rfl) ?_
        refine Ro_v (v := (Value.int .i64 (0))) rfl (o_assign rfl rfl) ?_
        refine Ro_nil ?_
        exact Fx_ret rfl rfl (congrArg some h.sm)
noncomputable def c7_0 : Code := bodyOf Tryd.f7
noncomputable def c7_1 : Code := cl c7_0
noncomputable def c7_2 : Code := cr c7_0
noncomputable def c7_3 : Code := cl c7_2
noncomputable def c7_4 : Code := cr c7_2
noncomputable def c7_5 : Code := cl c7_4
noncomputable def c7_6 : Code := cr c7_4
noncomputable def c7_7 : Code := cl c7_6
noncomputable def c7_8 : Code := cr c7_6
theorem ok7 : funcOk Tryd.f7 = true := by kernel_rfl
noncomputable def rs7 : List ResultVar := resultsOf Tryd.f7
theorem w7 (id_2 : Int) (n_3 : Int) (σ : AHeap) (r : (Bool × AHeap)) (h : G_semvcslaw10_IdentNext id_2 n_3 σ = some r) : callL Tryd.prog 7 [(Value.int .i64 id_2), (Value.int .i64 n_3)] σ = some ((Value.bool r.1), r.2) := by
  refine callL_walk (fn := Tryd.f7) (c := c7_0) (rs := rs7) Tryd.func7 rfl ok7 rfl rfl ?_
  obtain ⟨out, ho⟩ : ∃ out, out = ((Value.bool r.1), r.2) := ⟨_, rfl⟩
  rw [← ho]
  replace h : OptW (G_semvcslaw10_IdentNext id_2 n_3 σ) (fun r => ((Value.bool r.1), r.2) = out) := ⟨r, h, ho.symm⟩
  unfold G_semvcslaw10_IdentNext at h
  refine Fx_seq (a := c7_1) (b := c7_2) rfl ?_
  refine Fx_text rfl (by kernel_rfl) ?_
  refine Ro_v (v := (Value.bool false)) rfl (o_assign rfl rfl) ?_
  refine Ro_nil ?_
  refine Fx_seq (a := c7_3) (b := c7_4) rfl ?_
  refine Fx_text rfl (by kernel_rfl) ?_
  refine Ro_v (v := (Value.int .i64 id_2)) rfl (o_move rfl rfl) ?_
  refine Ro_v (v := (Value.int .i64 n_3)) rfl (o_move rfl rfl) ?_
  obtain ⟨⟨x4, x5⟩, hx4, h⟩ := h.bd
  refine Ro_v (v := (Value.tuple #[(Value.int .i64 x4), (Value.int .i64 x5)])) rfl (o_call (vs := [(Value.int .i64 id_2), (Value.int .i64 n_3)]) rfl rfl (w22 _ _ _ _ hx4)) ?_
  refine Ro_v (v := (Value.tuple #[(Value.int .i64 x4), (Value.int .i64 x5)])) rfl (o_move rfl rfl) ?_
  refine Ro_v (v := (Value.int .i64 x4)) rfl (o_ext rfl rfl rfl) ?_
  refine Ro_v (v := (Value.int .i64 x5)) rfl (o_ext rfl rfl rfl) ?_
  refine Ro_v (v := (Value.int .i64 x4)) rfl (o_assign rfl rfl) ?_
  refine Ro_v (v := (Value.int .i64 x5)) rfl (o_assign rfl rfl) ?_
  refine Ro_nil ?_
  refine Fx_seq (a := c7_5) (b := c7_6) rfl ?_
  refine Fx_text rfl (by kernel_rfl) ?_
  refine Ro_v (v := (Value.int .i64 id_2)) rfl (o_move rfl rfl) ?_
  refine Ro_v (v := (Value.int .i64 n_3)) rfl (o_move rfl rfl) ?_
  obtain ⟨⟨x6, x7⟩, hx6, h⟩ := h.bd
  refine Ro_v (v := (Value.tuple #[(Value.int .i64 x6), (Value.int .i64 x7)])) rfl (o_call (vs := [(Value.int .i64 id_2), (Value.int .i64 n_3)]) rfl rfl (w23 _ _ _ _ hx6)) ?_
  refine Ro_v (v := (Value.tuple #[(Value.int .i64 x6), (Value.int .i64 x7)])) rfl (o_move rfl rfl) ?_
  refine Ro_v (v := (Value.int .i64 x6)) rfl (o_ext rfl rfl rfl) ?_
  refine Ro_v (v := (Value.int .i64 x7)) rfl (o_ext rfl rfl rfl) ?_
  refine Ro_v (v := (Value.int .i64 x6)) rfl (o_assign rfl rfl) ?_
  refine Ro_v (v := (Value.int .i64 x7)) rfl (o_assign rfl rfl) ?_
  refine Ro_nil ?_
  refine Fx_seq (a := c7_7) (b := c7_8) rfl ?_
  refine Fx_text rfl (by kernel_rfl) ?_
  obtain ⟨⟨x9, σ10⟩, hσ10, h⟩ := h.bd
  refine Ro_v (v := (Value.bool x9)) rfl (o_call (vs := []) rfl rfl (w11 _ _ hσ10)) ?_
  refine Ro_v (v := (Value.bool x9)) rfl (o_move rfl rfl) ?_
  refine Ro_set (t := x9) (v := bif x9 then (Value.int .i64 x4) else undef) rfl (w_T rfl rfl rfl) (by intro e; have e0 := e; subst e0; exact o_move rfl rfl) (fun e => ⟨gv_f e, rfl⟩) ?_
  refine Ro_set (t := x9) (v := bif x9 then (Value.int .i64 x6) else undef) rfl (w_T rfl rfl rfl) (by intro e; have e0 := e; subst e0; exact o_move rfl rfl) (fun e => ⟨gv_f e, rfl⟩) ?_
  obtain ⟨x11, hx11, h⟩ := h.lt
  refine Ro_set (t := x9) (v := bif x9 then (Value.bool x11) else undef) rfl (w_T rfl rfl rfl) (by intro e; have e0 := e; subst e0; exact o_eql rfl rfl rfl hx11) (fun e => ⟨gv_f e, rfl⟩) ?_
  obtain ⟨x12, hx12, h⟩ := h.lt
  refine Ro_v (v := (Value.bool x12)) rfl (o_pick rfl rfl (by intro e; subst e; subst hx12; rfl) (by intro e; subst e; subst hx12; rfl)) ?_
  refine Ro_v (v := (Value.bool x12)) rfl (o_move rfl rfl) ?_
  refine Ro_set (t := x12) (v := bif x12 then (Value.int .i64 x5) else undef) rfl (w_T rfl rfl rfl) (by intro e; have e0 := e; subst e0; exact o_move rfl rfl) (fun e => ⟨gv_f e, rfl⟩) ?_
  refine Ro_set (t := x12) (v := bif x12 then (Value.int .i64 x7) else undef) rfl (w_T rfl rfl rfl) (by intro e; have e0 := e; subst e0; exact o_move rfl rfl) (fun e => ⟨gv_f e, rfl⟩) ?_
  obtain ⟨x13, hx13, h⟩ := h.lt
  refine Ro_set (t := x12) (v := bif x12 then (Value.bool x13) else undef) rfl (w_T rfl rfl rfl) (by intro e; have e0 := e; subst e0; exact o_eql rfl rfl rfl hx13) (fun e => ⟨gv_f e, rfl⟩) ?_
  obtain ⟨x14, hx14, h⟩ := h.lt
  refine Ro_v (v := (Value.bool x14)) rfl (o_pick rfl rfl (by intro e; subst e; subst hx14; rfl) (by intro e; subst e; subst hx14; rfl)) ?_
  refine Ro_v (v := (Value.bool x14)) rfl (o_assign rfl rfl) ?_
  refine Ro_nil ?_
  exact Fx_ret rfl rfl (congrArg some h.sm)
noncomputable def c8_0 : Code := bodyOf Tryd.f8
noncomputable def c8_1 : Code := cl c8_0
noncomputable def c8_2 : Code := cr c8_0
noncomputable def c8_3 : Code := cl c8_2
noncomputable def c8_4 : Code := cl c8_3
noncomputable def c8_5 : Code := cr c8_3
noncomputable def c8_6 : Code := cl c8_5
noncomputable def c8_7 : Code := cl c8_6
noncomputable def c8_8 : Code := cr c8_6
noncomputable def c8_9 : Code := cr c8_5
noncomputable def c8_10 : Code := cr c8_2
noncomputable def c8_11 : Code := cl c8_10
noncomputable def c8_12 : Code := cr c8_10
noncomputable def c8_13 : Code := cl c8_12
noncomputable def c8_14 : Code := cr c8_12
noncomputable def c8_15 : Code := cl c8_14
noncomputable def c8_16 : Code := cr c8_14
noncomputable def c8_17 : Code := cl c8_16
noncomputable def c8_18 : Code := cl c8_17
noncomputable def c8_19 : Code := cr c8_17
noncomputable def c8_20 : Code := cl c8_19
noncomputable def c8_21 : Code := cl c8_20
noncomputable def c8_22 : Code := cr c8_20
noncomputable def c8_23 : Code := cr c8_19
noncomputable def c8_24 : Code := cr c8_16
noncomputable def c8_25 : Code := cl c8_24
noncomputable def c8_26 : Code := cr c8_24
theorem ok8 : funcOk Tryd.f8 = true := by kernel_rfl
noncomputable def rs8 : List ResultVar := resultsOf Tryd.f8
theorem w8 (id_2 : Int) (n_3 : Int) (m_4 : Int) (σ : AHeap) (r : (Bool × AHeap)) (h : G_semvcslaw10_IdentSteps id_2 n_3 m_4 σ = some r) : callL Tryd.prog 8 [(Value.int .i64 id_2), (Value.int .i64 n_3), (Value.int .i64 m_4)] σ = some ((Value.bool r.1), r.2) := by
  refine callL_walk (fn := Tryd.f8) (c := c8_0) (rs := rs8) Tryd.func8 rfl ok8 rfl rfl ?_
  obtain ⟨out, ho⟩ : ∃ out, out = ((Value.bool r.1), r.2) := ⟨_, rfl⟩
  rw [← ho]
  replace h : OptW (G_semvcslaw10_IdentSteps id_2 n_3 m_4 σ) (fun r => ((Value.bool r.1), r.2) = out) := ⟨r, h, ho.symm⟩
  unfold G_semvcslaw10_IdentSteps at h
  refine Fx_seq (a := c8_1) (b := c8_2) rfl ?_
  refine Fx_text rfl (by kernel_rfl) ?_
  refine Ro_v (v := (Value.bool false)) rfl (o_assign rfl rfl) ?_
  refine Ro_nil ?_
  refine Fx_seq (a := c8_3) (b := c8_10) rfl ?_
  refine Fx_seq (a := c8_4) (b := c8_5) rfl ?_
  refine Fx_text rfl (by kernel_rfl) ?_
  refine Ro_v (v := (Value.int .i64 n_3)) rfl (o_move rfl rfl) ?_
  obtain ⟨x5, hx5, h⟩ := h.lt
  refine Ro_v (v := (Value.bool x5)) rfl (o_lss rfl rfl rfl hx5) ?_
  refine Ro_v (v := (Value.bool x5)) rfl (o_move rfl rfl) ?_
  refine Ro_set (t := !x5) (v := bif !x5 then (Value.int .i64 m_4) else undef) rfl (w_F rfl rfl rfl) (by intro e; have e0 := not_t (e); subst e0; exact o_move rfl rfl) (fun e => ⟨gv_f e, rfl⟩) ?_
  obtain ⟨x6, hx6, h⟩ := h.lt
  refine Ro_set (t := !x5) (v := bif !x5 then (Value.bool x6) else undef) rfl (w_F rfl rfl rfl) (by intro e; have e0 := not_t (e); subst e0; exact o_lss rfl rfl rfl hx6) (fun e => ⟨gv_f e, rfl⟩) ?_
  obtain ⟨x7, hx7, h⟩ := h.lt
  refine Ro_v (v := (Value.bool x7)) rfl (o_pick rfl rfl (by intro e; subst e; subst hx7; rfl) (by intro e; subst e; subst hx7; rfl)) ?_
  refine Ro_v (v := (Value.bool x7)) rfl (o_move rfl rfl) ?_
  refine Ro_set (t := !x7) (v := bif !x7 then (Value.int .i64 n_3) else undef) rfl (w_F rfl rfl rfl) (by intro e; have e0 := not_t (e); subst e0; exact o_move rfl rfl) (fun e => ⟨gv_f e, rfl⟩) ?_
  obtain ⟨x8, hx8, h⟩ := h.lt
  refine Ro_set (t := !x7) (v := bif !x7 then (Value.bool x8) else undef) rfl (w_F rfl rfl rfl) (by intro e; have e0 := not_t (e); subst e0; exact o_gtr rfl rfl rfl hx8) (fun e => ⟨gv_f e, rfl⟩) ?_
  obtain ⟨x9, hx9, h⟩ := h.lt
  refine Ro_v (v := (Value.bool x9)) rfl (o_pick rfl rfl (by intro e; subst e; subst hx9; rfl) (by intro e; subst e; subst hx9; rfl)) ?_
  refine Ro_v (v := (Value.bool x9)) rfl (o_move rfl rfl) ?_
  refine Ro_set (t := !x9) (v := bif !x9 then (Value.int .i64 m_4) else undef) rfl (w_F rfl rfl rfl) (by intro e; have e0 := not_t (e); subst e0; exact o_move rfl rfl) (fun e => ⟨gv_f e, rfl⟩) ?_
  obtain ⟨x10, hx10, h⟩ := h.lt
  refine Ro_set (t := !x9) (v := bif !x9 then (Value.bool x10) else undef) rfl (w_F rfl rfl rfl) (by intro e; have e0 := not_t (e); subst e0; exact o_gtr rfl rfl rfl hx10) (fun e => ⟨gv_f e, rfl⟩) ?_
  obtain ⟨x11, hx11, h⟩ := h.lt
  refine Ro_v (v := (Value.bool x11)) rfl (o_pick rfl rfl (by intro e; subst e; subst hx11; rfl) (by intro e; subst e; subst hx11; rfl)) ?_
  refine Ro_nil ?_
  refine Fx_cond (a := c8_6) (b := c8_9) rfl rfl (fun ex11 => ?_) (fun ex11 => ?_)
  · replace h := h.ifT ex11
    refine Fx_seq (a := c8_7) (b := c8_8) rfl ?_
    refine Fx_text rfl (by kernel_rfl) ?_
    obtain ⟨⟨x13, σ14⟩, hσ14, h⟩ := h.bd
    refine Ro_v (v := (Value.bool x13)) rfl (o_call (vs := []) rfl rfl (w11 _ _ hσ14)) ?_
    refine Ro_v (v := (Value.bool x13)) rfl (o_assign rfl rfl) ?_
    refine Ro_nil ?_
    exact Fx_ret rfl rfl (congrArg some h.sm)
  · replace h := h.ifF ex11
    refine Fx_skip (c := c8_9) rfl ?_
    refine Fx_seq (a := c8_11) (b := c8_12) rfl ?_
    refine Fx_text rfl (by kernel_rfl) ?_
    refine Ro_v (v := (Value.int .i64 id_2)) rfl (o_move rfl rfl) ?_
    refine Ro_v (v := (Value.int .i64 n_3)) rfl (o_move rfl rfl) ?_
    obtain ⟨⟨x15, x16⟩, hx15, h⟩ := h.bd
    refine Ro_v (v := (Value.tuple #[(Value.int .i64 x15), (Value.int .i64 x16)])) rfl (o_call (vs := [(Value.int .i64 id_2), (Value.int .i64 n_3)]) rfl rfl (w22 _ _ _ _ hx15)) ?_
    refine Ro_v (v := (Value.tuple #[(Value.int .i64 x15), (Value.int .i64 x16)])) rfl (o_move rfl rfl) ?_
    refine Ro_v (v := (Value.int .i64 x15)) rfl (o_ext rfl rfl rfl) ?_
    refine Ro_v (v := (Value.int .i64 x16)) rfl (o_ext rfl rfl rfl) ?_
    refine Ro_v (v := (Value.int .i64 x15)) rfl (o_assign rfl rfl) ?_
    refine Ro_v (v := (Value.int .i64 x16)) rfl (o_assign rfl rfl) ?_
    refine Ro_nil ?_
    refine Fx_seq (a := c8_13) (b := c8_14) rfl ?_
    refine Fx_text rfl (by kernel_rfl) ?_
    refine Ro_v (v := (Value.int .i64 x15)) rfl (o_move rfl rfl) ?_
    refine Ro_v (v := (Value.int .i64 m_4)) rfl (o_move rfl rfl) ?_
    obtain ⟨⟨x17, x18⟩, hx17, h⟩ := h.bd
    refine Ro_v (v := (Value.tuple #[(Value.int .i64 x17), (Value.int .i64 x18)])) rfl (o_call (vs := [(Value.int .i64 x15), (Value.int .i64 m_4)]) rfl rfl (w22 _ _ _ _ hx17)) ?_
    refine Ro_v (v := (Value.tuple #[(Value.int .i64 x17), (Value.int .i64 x18)])) rfl (o_move rfl rfl) ?_
    refine Ro_v (v := (Value.int .i64 x17)) rfl (o_ext rfl rfl rfl) ?_
    refine Ro_v (v := (Value.int .i64 x18)) rfl (o_ext rfl rfl rfl) ?_
    refine Ro_v (v := (Value.int .i64 x17)) rfl (o_assign rfl rfl) ?_
    refine Ro_v (v := (Value.int .i64 x18)) rfl (o_assign rfl rfl) ?_
    refine Ro_nil ?_
    refine Fx_seq (a := c8_15) (b := c8_16) rfl ?_
    refine Fx_text rfl (by kernel_rfl) ?_
    refine Ro_v (v := (Value.int .i64 id_2)) rfl (o_move rfl rfl) ?_
    refine Ro_v (v := (Value.int .i64 n_3)) rfl (o_move rfl rfl) ?_
    refine Ro_v (v := (Value.int .i64 m_4)) rfl (o_move rfl rfl) ?_
    obtain ⟨x19, hx19, h⟩ := h.lt
    refine Ro_v (v := (Value.int .i64 x19)) rfl (o_add rfl rfl rfl hx19) ?_
    obtain ⟨⟨x20, x21⟩, hx20, h⟩ := h.bd
    refine Ro_v (v := (Value.tuple #[(Value.int .i64 x20), (Value.int .i64 x21)])) rfl (o_call (vs := [(Value.int .i64 id_2), (Value.int .i64 x19)]) rfl rfl (w22 _ _ _ _ hx20)) ?_
    refine Ro_v (v := (Value.tuple #[(Value.int .i64 x20), (Value.int .i64 x21)])) rfl (o_move rfl rfl) ?_
    refine Ro_v (v := (Value.int .i64 x20)) rfl (o_ext rfl rfl rfl) ?_
    refine Ro_v (v := (Value.int .i64 x21)) rfl (o_ext rfl rfl rfl) ?_
    refine Ro_v (v := (Value.int .i64 x20)) rfl (o_assign rfl rfl) ?_
    refine Ro_v (v := (Value.int .i64 x21)) rfl (o_assign rfl rfl) ?_
    refine Ro_nil ?_
    refine Fx_seq (a := c8_17) (b := c8_24) rfl ?_
    refine Fx_seq (a := c8_18) (b := c8_19) rfl ?_
    refine Fx_text rfl (by kernel_rfl) ?_
    refine Ro_v (v := (Value.int .i64 x16)) rfl (o_move rfl rfl) ?_
    obtain ⟨x22, hx22, h⟩ := h.lt
    refine Ro_v (v := (Value.bool x22)) rfl (o_neq rfl rfl rfl hx22) ?_
    refine Ro_nil ?_
    refine Fx_cond (a := c8_20) (b := c8_23) rfl rfl (fun ex22 => ?_) (fun ex22 => ?_)
    · replace h := h.ifT ex22
      refine Fx_seq (a := c8_21) (b := c8_22) rfl ?_
      refine Fx_text rfl (by kernel_rfl) ?_
      obtain ⟨⟨x24, σ25⟩, hσ25, h⟩ := h.bd
      refine Ro_v (v := (Value.bool x24)) rfl (o_call (vs := []) rfl rfl (w11 _ _ hσ25)) ?_
      refine Ro_v (v := (Value.bool x24)) rfl (o_assign rfl rfl) ?_
      refine Ro_nil ?_
      exact Fx_ret rfl rfl (congrArg some h.sm)
    · replace h := h.ifF ex22
      refine Fx_skip (c := c8_23) rfl ?_
      refine Fx_seq (a := c8_25) (b := c8_26) rfl ?_
      refine Fx_text rfl (by kernel_rfl) ?_
      obtain ⟨⟨x27, σ28⟩, hσ28, h⟩ := h.bd
      refine Ro_v (v := (Value.bool x27)) rfl (o_call (vs := []) rfl rfl (w11 _ _ hσ28)) ?_
      refine Ro_v (v := (Value.bool x27)) rfl (o_move rfl rfl) ?_
      refine Ro_set (t := x27) (v := bif x27 then (Value.int .i64 x18) else undef) rfl (w_T rfl rfl rfl) (by intro e; have e0 := e; subst e0; exact o_move rfl rfl) (fun e => ⟨gv_f e, rfl⟩) ?_
      refine Ro_set (t := x27) (v := bif x27 then (Value.int .i64 x21) else undef) rfl (w_T rfl rfl rfl) (by intro e; have e0 := e; subst e0; exact o_move rfl rfl) (fun e => ⟨gv_f e, rfl⟩) ?_
      obtain ⟨x29, hx29, h⟩ := h.lt
      refine Ro_set (t := x27) (v := bif x27 then (Value.bool x29) else undef) rfl (w_T rfl rfl rfl) (by intro e; have e0 := e; subst e0; exact o_eql rfl rfl rfl hx29) (fun e => ⟨gv_f e, rfl⟩) ?_
      obtain ⟨x30, hx30, h⟩ := h.lt
      refine Ro_v (v := (Value.bool x30)) rfl (o_pick rfl rfl (by intro e; subst e; subst hx30; rfl) (by intro e; subst e; subst hx30; rfl)) ?_
      refine Ro_v (v := (Value.bool x30)) rfl (o_move rfl rfl) ?_
      refine Ro_set (t := x30) (v := bif x30 then (Value.int .i64 x17) else undef) rfl (w_T rfl rfl rfl) (by intro e; have e0 := e; subst e0; exact o_move rfl rfl) (fun e => ⟨gv_f e, rfl⟩) ?_
      refine Ro_set (t := x30) (v := bif x30 then (Value.int .i64 x20) else undef) rfl (w_T rfl rfl rfl) (by intro e; have e0 := e; subst e0; exact o_move rfl rfl) (fun e => ⟨gv_f e, rfl⟩) ?_
      obtain ⟨x31, hx31, h⟩ := h.lt
      refine Ro_set (t := x30) (v := bif x30 then (Value.bool x31) else undef) rfl (w_T rfl rfl rfl) (by intro e; have e0 := e; subst e0; exact o_eql rfl rfl rfl hx31) (fun e => ⟨gv_f e, rfl⟩) ?_
      obtain ⟨x32, hx32, h⟩ := h.lt
      refine Ro_v (v := (Value.bool x32)) rfl (o_pick rfl rfl (by intro e; subst e; subst hx32; rfl) (by intro e; subst e; subst hx32; rfl)) ?_
      refine Ro_v (v := (Value.bool x32)) rfl (o_move rfl rfl) ?_
      refine Ro_set (t := x32) (v := bif x32 then (Value.int .i64 x18) else undef) rfl (w_T rfl rfl rfl) (by intro e; have e0 := e; subst e0; exact o_move rfl rfl) (fun e => ⟨gv_f e, rfl⟩) ?_
      obtain ⟨x33, hx33, h⟩ := h.lt
      refine Ro_set (t := x32) (v := bif x32 then (Value.bool x33) else undef) rfl (w_T rfl rfl rfl) (by intro e; have e0 := e; subst e0; exact o_neq rfl rfl rfl hx33) (fun e => ⟨gv_f e, rfl⟩) ?_
      refine Ro_set (t := x32) (v := bif x32 then (Value.bool x33) else undef) rfl (w_T rfl rfl rfl) (by intro e; have e0 := e; subst e0; exact o_move rfl rfl) (fun e => ⟨gv_f e, rfl⟩) ?_
      refine Ro_set (t := (x32 && !x33)) (v := bif (x32 && !x33) then (Value.int .i64 x17) else undef) rfl (w_gF rfl rfl rfl) (by intro e; have e1 := not_t (and_t e).2; have e0 := (and_t e).1; subst e1; subst e0; exact o_move rfl rfl) (fun e => ⟨gv_f e, rfl⟩) ?_
      obtain ⟨x34, hx34, h⟩ := h.bd
      refine Ro_set (t := (x32 && !x33)) (v := bif (x32 && !x33) then (Value.int .i64 x34) else undef) rfl (w_gF rfl rfl rfl) (by intro e; have e1 := not_t (and_t e).2; have e0 := (and_t e).1; subst e1; subst e0; exact o_call (vs := [(Value.int .i64 x17)]) rfl rfl (w16 _ _ _ hx34)) (fun e => ⟨gv_f e, rfl⟩) ?_
      refine Ro_set (t := (x32 && !x33)) (v := bif (x32 && !x33) then (Value.int .i64 x15) else undef) rfl (w_gF rfl rfl rfl) (by intro e; have e1 := not_t (and_t e).2; have e0 := (and_t e).1; subst e1; subst e0; exact o_move rfl rfl) (fun e => ⟨gv_f e, rfl⟩) ?_
      obtain ⟨x35, hx35, h⟩ := h.bd
      refine Ro_set (t := (x32 && !x33)) (v := bif (x32 && !x33) then (Value.int .i64 x35) else undef) rfl (w_gF rfl rfl rfl) (by intro e; have e1 := not_t (and_t e).2; have e0 := (and_t e).1; subst e1; subst e0; exact o_call (vs := [(Value.int .i64 x15)]) rfl rfl (w16 _ _ _ hx35)) (fun e => ⟨gv_f e, rfl⟩) ?_
      refine Ro_set (t := (x32 && !x33)) (v := bif (x32 && !x33) then (Value.int .i64 m_4) else undef) rfl (w_gF rfl rfl rfl) (by intro e; have e1 := not_t (and_t e).2; have e0 := (and_t e).1; subst e1; subst e0; exact o_move rfl rfl) (fun e => ⟨gv_f e, rfl⟩) ?_
      obtain ⟨x36, hx36, h⟩ := h.lt
      refine Ro_set (t := (x32 && !x33)) (v := bif (x32 && !x33) then (Value.int .i64 x36) else undef) rfl (w_gF rfl rfl rfl) (by intro e; have e1 := not_t (and_t e).2; have e0 := (and_t e).1; subst e1; subst e0; exact o_add rfl rfl rfl hx36) (fun e => ⟨gv_f e, rfl⟩) ?_
      obtain ⟨x37, hx37, h⟩ := h.lt
      refine Ro_set (t := (x32 && !x33)) (v := bif (x32 && !x33) then (Value.bool x37) else undef) rfl (w_gF rfl rfl rfl) (by intro e; have e1 := not_t (and_t e).2; have e0 := (and_t e).1; subst e1; subst e0; exact o_eql rfl rfl rfl hx37) (fun e => ⟨gv_f e, rfl⟩) ?_
      obtain ⟨x38, hx38, h⟩ := h.lt
      refine Ro_set (t := x32) (v := bif x32 then (Value.bool x38) else undef) rfl (w_T rfl rfl rfl) (by intro e; have e0 := e; subst e0; exact o_pick rfl rfl (by intro e; subst e; subst hx38; rfl) (by intro e; subst e; subst hx38; rfl)) (fun e => ⟨gv_f e, rfl⟩) ?_
      obtain ⟨x39, hx39, h⟩ := h.lt
      refine Ro_v (v := (Value.bool x39)) rfl (o_pick rfl rfl (by intro e; subst e; subst hx39; rfl) (by intro e; subst e; subst hx39; rfl)) ?_
      refine Ro_v (v := (Value.bool x39)) rfl (o_assign rfl rfl) ?_
      refine Ro_nil ?_
      exact Fx_ret rfl rfl (congrArg some h.sm)
end Go.Am
