/- I2W -/
import Derived.Test.YtpionejhjfmobaaDoorI2G
import Derived.Test.YtpionejhjfmobaaDoorIdS
set_option linter.unusedVariables false
namespace Go.Am
open Go.Proofs
theorem tu9 : Tryd.prog.underlying 9 = some .string := by kernel_rfl
theorem tu5 : Tryd.prog.underlying 5 = some (.int .u8) := by kernel_rfl
theorem tu48 : Tryd.prog.underlying 48 = some (.int .u32) := by kernel_rfl
theorem tu3 : Tryd.prog.underlying 3 = some (.int .i64) := by kernel_rfl
theorem tu4 : Tryd.prog.underlying 4 = some .bool := by kernel_rfl
theorem tu38 : Tryd.prog.underlying 38 = some (.slice 5) := by kernel_rfl
theorem ts5 : szOf Tryd.prog 5 = some 1 := by kernel_rfl
theorem tz5 : zeroOf Tryd.prog 5 = some (Value.int .u8 0) := by kernel_rfl
noncomputable def c9_0 : Code := bodyOf Tryd.f9
noncomputable def c9_1 : Code := cl c9_0
noncomputable def c9_2 : Code := cr c9_0
noncomputable def c9_3 : Code := cl c9_2
noncomputable def c9_4 : Code := cl c9_3
noncomputable def c9_5 : Code := cr c9_3
noncomputable def c9_6 : Code := cl c9_5
noncomputable def c9_7 : Code := cl c9_6
noncomputable def c9_8 : Code := cr c9_6
noncomputable def c9_9 : Code := cr c9_5
noncomputable def c9_10 : Code := cr c9_2
noncomputable def c9_11 : Code := cl c9_10
noncomputable def c9_12 : Code := cr c9_10
theorem ok9 : funcOk Tryd.f9 = true := by kernel_rfl
noncomputable def rs9 : List ResultVar := resultsOf Tryd.f9
theorem w9 (site_3 : Int) (n_4 : Int) (σ : AHeap) (r : (Int × Int)) (h : G_ident_Make site_3 n_4 = some r) : callL Tryd.prog 9 [(Value.int .i64 site_3), (Value.int .i64 n_4)] σ = some ((Value.tuple #[(Value.int .i64 r.1), (Value.int .i64 r.2)]), σ) := by
  refine callL_walk (fn := Tryd.f9) (c := c9_0) (rs := rs9) Tryd.func9 rfl ok9 rfl rfl ?_
  obtain ⟨out, ho⟩ : ∃ out, out = ((Value.tuple #[(Value.int .i64 r.1), (Value.int .i64 r.2)]), σ) := ⟨_, rfl⟩
  rw [← ho]
  replace h : OptW (G_ident_Make site_3 n_4) (fun r => ((Value.tuple #[(Value.int .i64 r.1), (Value.int .i64 r.2)]), σ) = out) := ⟨r, h, ho.symm⟩
  unfold G_ident_Make at h
  refine Fx_seq (a := c9_1) (b := c9_2) rfl ?_
  refine Fx_text rfl (by kernel_rfl) ?_
  refine Ro_v (v := (Value.int .i64 (0))) rfl (o_assign rfl rfl) ?_
  refine Ro_v (v := (Value.int .i64 (0))) rfl (o_assign rfl rfl) ?_
  refine Ro_nil ?_
  refine Fx_seq (a := c9_3) (b := c9_10) rfl ?_
  refine Fx_seq (a := c9_4) (b := c9_5) rfl ?_
  refine Fx_text rfl (by kernel_rfl) ?_
  refine Ro_v (v := (Value.int .i64 site_3)) rfl (o_move rfl rfl) ?_
  obtain ⟨x5, hx5, h⟩ := h.lt
  refine Ro_v (v := (Value.bool x5)) rfl (o_lss rfl rfl rfl hx5) ?_
  refine Ro_v (v := (Value.bool x5)) rfl (o_move rfl rfl) ?_
  refine Ro_set (t := !x5) (v := bif !x5 then (Value.int .i64 site_3) else undef) rfl (w_F rfl rfl rfl) (by intro e; have e0 := not_t (e); subst e0; exact o_move rfl rfl) (fun e => ⟨gv_f e, rfl⟩) ?_
  obtain ⟨x6, hx6, h⟩ := h.lt
  refine Ro_set (t := !x5) (v := bif !x5 then (Value.bool x6) else undef) rfl (w_F rfl rfl rfl) (by intro e; have e0 := not_t (e); subst e0; exact o_gtr rfl rfl rfl hx6) (fun e => ⟨gv_f e, rfl⟩) ?_
  obtain ⟨x7, hx7, h⟩ := h.lt
  refine Ro_v (v := (Value.bool x7)) rfl (o_pick rfl rfl (by intro e; subst e; subst hx7; rfl) (by intro e; subst e; subst hx7; rfl)) ?_
  refine Ro_v (v := (Value.bool x7)) rfl (o_move rfl rfl) ?_
  refine Ro_set (t := !x7) (v := bif !x7 then (Value.int .i64 n_4) else undef) rfl (w_F rfl rfl rfl) (by intro e; have e0 := not_t (e); subst e0; exact o_move rfl rfl) (fun e => ⟨gv_f e, rfl⟩) ?_
  obtain ⟨x8, hx8, h⟩ := h.lt
  refine Ro_set (t := !x7) (v := bif !x7 then (Value.bool x8) else undef) rfl (w_F rfl rfl rfl) (by intro e; have e0 := not_t (e); subst e0; exact o_lss rfl rfl rfl hx8) (fun e => ⟨gv_f e, rfl⟩) ?_
  obtain ⟨x9, hx9, h⟩ := h.lt
  refine Ro_v (v := (Value.bool x9)) rfl (o_pick rfl rfl (by intro e; subst e; subst hx9; rfl) (by intro e; subst e; subst hx9; rfl)) ?_
  refine Ro_v (v := (Value.bool x9)) rfl (o_move rfl rfl) ?_
  refine Ro_set (t := !x9) (v := bif !x9 then (Value.int .i64 n_4) else undef) rfl (w_F rfl rfl rfl) (by intro e; have e0 := not_t (e); subst e0; exact o_move rfl rfl) (fun e => ⟨gv_f e, rfl⟩) ?_
  obtain ⟨x10, hx10, h⟩ := h.lt
  refine Ro_set (t := !x9) (v := bif !x9 then (Value.bool x10) else undef) rfl (w_F rfl rfl rfl) (by intro e; have e0 := not_t (e); subst e0; exact o_gtr rfl rfl rfl hx10) (fun e => ⟨gv_f e, rfl⟩) ?_
  obtain ⟨x11, hx11, h⟩ := h.lt
  refine Ro_v (v := (Value.bool x11)) rfl (o_pick rfl rfl (by intro e; subst e; subst hx11; rfl) (by intro e; subst e; subst hx11; rfl)) ?_
  refine Ro_nil ?_
  refine Fx_cond (a := c9_6) (b := c9_9) rfl rfl (fun ex11 => ?_) (fun ex11 => ?_)
  · replace h := h.ifT ex11
    refine Fx_seq (a := c9_7) (b := c9_8) rfl ?_
    refine Fx_text rfl (by kernel_rfl) ?_
    refine Ro_v (v := (Value.int .i64 (0))) rfl (o_assign rfl rfl) ?_
    refine Ro_v (v := (Value.int .i64 (5))) rfl (o_assign rfl rfl) ?_
    refine Ro_nil ?_
    exact Fx_ret rfl rfl (congrArg some h.sm)
  · replace h := h.ifF ex11
    refine Fx_skip (c := c9_9) rfl ?_
    refine Fx_seq (a := c9_11) (b := c9_12) rfl ?_
    refine Fx_text rfl (by kernel_rfl) ?_
    refine Ro_v (v := (Value.int .i64 site_3)) rfl (o_move rfl rfl) ?_
    obtain ⟨x12, hx12, h⟩ := h.bd
    refine Ro_v (v := (Value.int .i64 x12)) rfl (o_shl rfl rfl rfl hx12) ?_
    refine Ro_v (v := (Value.int .i64 n_4)) rfl (o_move rfl rfl) ?_
    obtain ⟨x13, hx13, h⟩ := h.lt
    refine Ro_v (v := (Value.int .i64 x13)) rfl (o_add rfl rfl rfl hx13) ?_
    refine Ro_v (v := (Value.int .i64 x13)) rfl (o_assign rfl rfl) ?_
    refine Ro_v (v := (Value.int .i64 (0))) rfl (o_assign rfl rfl) ?_
    refine Ro_nil ?_
    exact Fx_ret rfl rfl (congrArg some h.sm)
noncomputable def c10_0 : Code := bodyOf Tryd.f10
noncomputable def c10_1 : Code := cl c10_0
noncomputable def c10_2 : Code := cr c10_0
noncomputable def c10_3 : Code := cl c10_2
noncomputable def c10_4 : Code := cl c10_3
noncomputable def c10_5 : Code := cr c10_3
noncomputable def c10_6 : Code := cl c10_5
noncomputable def c10_7 : Code := cl c10_6
noncomputable def c10_8 : Code := cr c10_6
noncomputable def c10_9 : Code := cr c10_5
noncomputable def c10_10 : Code := cr c10_2
noncomputable def c10_11 : Code := cl c10_10
noncomputable def c10_12 : Code := cr c10_10
theorem ok10 : funcOk Tryd.f10 = true := by kernel_rfl
noncomputable def rs10 : List ResultVar := resultsOf Tryd.f10
theorem w10 (site_3 : Int) (n_4 : Int) (σ : AHeap) (r : (Int × Int)) (h : G_semvcsref10_Make site_3 n_4 = some r) : callL Tryd.prog 10 [(Value.int .i64 site_3), (Value.int .i64 n_4)] σ = some ((Value.tuple #[(Value.int .i64 r.1), (Value.int .i64 r.2)]), σ) := by
  refine callL_walk (fn := Tryd.f10) (c := c10_0) (rs := rs10) Tryd.func10 rfl ok10 rfl rfl ?_
  obtain ⟨out, ho⟩ : ∃ out, out = ((Value.tuple #[(Value.int .i64 r.1), (Value.int .i64 r.2)]), σ) := ⟨_, rfl⟩
  rw [← ho]
  replace h : OptW (G_semvcsref10_Make site_3 n_4) (fun r => ((Value.tuple #[(Value.int .i64 r.1), (Value.int .i64 r.2)]), σ) = out) := ⟨r, h, ho.symm⟩
  unfold G_semvcsref10_Make at h
  refine Fx_seq (a := c10_1) (b := c10_2) rfl ?_
  refine Fx_text rfl (by kernel_rfl) ?_
  refine Ro_v (v := (Value.int .i64 (0))) rfl (o_assign rfl rfl) ?_
  refine Ro_v (v := (Value.int .i64 (0))) rfl (o_assign rfl rfl) ?_
  refine Ro_nil ?_
  refine Fx_seq (a := c10_3) (b := c10_10) rfl ?_
  refine Fx_seq (a := c10_4) (b := c10_5) rfl ?_
  refine Fx_text rfl (by kernel_rfl) ?_
  refine Ro_v (v := (Value.int .i64 site_3)) rfl (o_move rfl rfl) ?_
  obtain ⟨x5, hx5, h⟩ := h.lt
  refine Ro_v (v := (Value.bool x5)) rfl (o_lss rfl rfl rfl hx5) ?_
  refine Ro_v (v := (Value.bool x5)) rfl (o_move rfl rfl) ?_
  refine Ro_set (t := !x5) (v := bif !x5 then (Value.int .i64 site_3) else undef) rfl (w_F rfl rfl rfl) (by intro e; have e0 := not_t (e); subst e0; exact o_move rfl rfl) (fun e => ⟨gv_f e, rfl⟩) ?_
  obtain ⟨x6, hx6, h⟩ := h.lt
  refine Ro_set (t := !x5) (v := bif !x5 then (Value.bool x6) else undef) rfl (w_F rfl rfl rfl) (by intro e; have e0 := not_t (e); subst e0; exact o_gtr rfl rfl rfl hx6) (fun e => ⟨gv_f e, rfl⟩) ?_
  obtain ⟨x7, hx7, h⟩ := h.lt
  refine Ro_v (v := (Value.bool x7)) rfl (o_pick rfl rfl (by intro e; subst e; subst hx7; rfl) (by intro e; subst e; subst hx7; rfl)) ?_
  refine Ro_v (v := (Value.bool x7)) rfl (o_move rfl rfl) ?_
  refine Ro_set (t := !x7) (v := bif !x7 then (Value.int .i64 n_4) else undef) rfl (w_F rfl rfl rfl) (by intro e; have e0 := not_t (e); subst e0; exact o_move rfl rfl) (fun e => ⟨gv_f e, rfl⟩) ?_
  obtain ⟨x8, hx8, h⟩ := h.lt
  refine Ro_set (t := !x7) (v := bif !x7 then (Value.bool x8) else undef) rfl (w_F rfl rfl rfl) (by intro e; have e0 := not_t (e); subst e0; exact o_lss rfl rfl rfl hx8) (fun e => ⟨gv_f e, rfl⟩) ?_
  obtain ⟨x9, hx9, h⟩ := h.lt
  refine Ro_v (v := (Value.bool x9)) rfl (o_pick rfl rfl (by intro e; subst e; subst hx9; rfl) (by intro e; subst e; subst hx9; rfl)) ?_
  refine Ro_v (v := (Value.bool x9)) rfl (o_move rfl rfl) ?_
  refine Ro_set (t := !x9) (v := bif !x9 then (Value.int .i64 n_4) else undef) rfl (w_F rfl rfl rfl) (by intro e; have e0 := not_t (e); subst e0; exact o_move rfl rfl) (fun e => ⟨gv_f e, rfl⟩) ?_
  obtain ⟨x10, hx10, h⟩ := h.lt
  refine Ro_set (t := !x9) (v := bif !x9 then (Value.bool x10) else undef) rfl (w_F rfl rfl rfl) (by intro e; have e0 := not_t (e); subst e0; exact o_gtr rfl rfl rfl hx10) (fun e => ⟨gv_f e, rfl⟩) ?_
  obtain ⟨x11, hx11, h⟩ := h.lt
  refine Ro_v (v := (Value.bool x11)) rfl (o_pick rfl rfl (by intro e; subst e; subst hx11; rfl) (by intro e; subst e; subst hx11; rfl)) ?_
  refine Ro_nil ?_
  refine Fx_cond (a := c10_6) (b := c10_9) rfl rfl (fun ex11 => ?_) (fun ex11 => ?_)
  · replace h := h.ifT ex11
    refine Fx_seq (a := c10_7) (b := c10_8) rfl ?_
    refine Fx_text rfl (by kernel_rfl) ?_
    refine Ro_v (v := (Value.int .i64 (0))) rfl (o_assign rfl rfl) ?_
    refine Ro_v (v := (Value.int .i64 (5))) rfl (o_assign rfl rfl) ?_
    refine Ro_nil ?_
    exact Fx_ret rfl rfl (congrArg some h.sm)
  · replace h := h.ifF ex11
    refine Fx_skip (c := c10_9) rfl ?_
    refine Fx_seq (a := c10_11) (b := c10_12) rfl ?_
    refine Fx_text rfl (by kernel_rfl) ?_
    refine Ro_v (v := (Value.int .i64 site_3)) rfl (o_move rfl rfl) ?_
    obtain ⟨x12, hx12, h⟩ := h.lt
    refine Ro_v (v := (Value.int .i64 x12)) rfl (o_mul rfl rfl rfl hx12) ?_
    refine Ro_v (v := (Value.int .i64 n_4)) rfl (o_move rfl rfl) ?_
    obtain ⟨x13, hx13, h⟩ := h.lt
    refine Ro_v (v := (Value.int .i64 x13)) rfl (o_add rfl rfl rfl hx13) ?_
    refine Ro_v (v := (Value.int .i64 x13)) rfl (o_assign rfl rfl) ?_
    refine Ro_v (v := (Value.int .i64 (0))) rfl (o_assign rfl rfl) ?_
    refine Ro_nil ?_
    exact Fx_ret rfl rfl (congrArg some h.sm)
noncomputable def c24_0 : Code := bodyOf Tryd.f24
noncomputable def c24_1 : Code := cl c24_0
noncomputable def c24_2 : Code := cr c24_0
noncomputable def c24_3 : Code := cl c24_2
noncomputable def c24_4 : Code := cr c24_2
theorem ok24 : funcOk Tryd.f24 = true := by kernel_rfl
noncomputable def rs24 : List ResultVar := resultsOf Tryd.f24
theorem w24 (id_2 : Int) (σ : AHeap) (r : Bool) (h : G_ident_begun id_2 = some r) : callL Tryd.prog 24 [(Value.int .i64 id_2)] σ = some ((Value.bool r), σ) := by
  refine callL_walk (fn := Tryd.f24) (c := c24_0) (rs := rs24) Tryd.func24 rfl ok24 rfl rfl ?_
  obtain ⟨out, ho⟩ : ∃ out, out = ((Value.bool r), σ) := ⟨_, rfl⟩
  rw [← ho]
  replace h : OptW (G_ident_begun id_2) (fun r => ((Value.bool r), σ) = out) := ⟨r, h, ho.symm⟩
  unfold G_ident_begun at h
  refine Fx_seq (a := c24_1) (b := c24_2) rfl ?_
  refine Fx_text rfl (by kernel_rfl) ?_
  refine Ro_v (v := (Value.bool false)) rfl (o_assign rfl rfl) ?_
  refine Ro_nil ?_
  refine Fx_seq (a := c24_3) (b := c24_4) rfl ?_
  refine Fx_text rfl (by kernel_rfl) ?_
  refine Ro_v (v := (Value.int .i64 id_2)) rfl (o_move rfl rfl) ?_
  obtain ⟨x3, hx3, h⟩ := h.bd
  refine Ro_v (v := (Value.int .i64 x3)) rfl (o_shr rfl rfl rfl hx3) ?_
  obtain ⟨x4, hx4, h⟩ := h.lt
  refine Ro_v (v := (Value.bool x4)) rfl (o_geq rfl rfl rfl hx4) ?_
  refine Ro_v (v := (Value.bool x4)) rfl (o_move rfl rfl) ?_
  refine Ro_set (t := x4) (v := bif x4 then (Value.int .i64 id_2) else undef) rfl (w_T rfl rfl rfl) (by intro e; have e0 := e; subst e0; exact o_move rfl rfl) (fun e => ⟨gv_f e, rfl⟩) ?_
  obtain ⟨x5, hx5, h⟩ := h.bd
  refine Ro_set (t := x4) (v := bif x4 then (Value.int .i64 x5) else undef) rfl (w_T rfl rfl rfl) (by intro e; have e0 := e; subst e0; exact o_shr rfl rfl rfl hx5) (fun e => ⟨gv_f e, rfl⟩) ?_
  obtain ⟨x6, hx6, h⟩ := h.lt
  refine Ro_set (t := x4) (v := bif x4 then (Value.bool x6) else undef) rfl (w_T rfl rfl rfl) (by intro e; have e0 := e; subst e0; exact o_leq rfl rfl rfl hx6) (fun e => ⟨gv_f e, rfl⟩) ?_
  obtain ⟨x7, hx7, h⟩ := h.lt
  refine Ro_v (v := (Value.bool x7)) rfl (o_pick rfl rfl (by intro e; subst e; subst hx7; rfl) (by intro e; subst e; subst hx7; rfl)) ?_
  refine Ro_v (v := (Value.bool x7)) rfl (o_assign rfl rfl) ?_
  refine Ro_nil ?_
  exact Fx_ret rfl rfl (congrArg some h.sm)
noncomputable def c12_0 : Code := bodyOf Tryd.f12
noncomputable def c12_1 : Code := cl c12_0
noncomputable def c12_2 : Code := cr c12_0
noncomputable def c12_3 : Code := cl c12_2
noncomputable def c12_4 : Code := cr c12_2
theorem ok12 : funcOk Tryd.f12 = true := by kernel_rfl
noncomputable def rs12 : List ResultVar := resultsOf Tryd.f12
theorem w12 (id_2 : Int) (σ : AHeap) (r : Bool) (h : G_ident_Valid id_2 = some r) : callL Tryd.prog 12 [(Value.int .i64 id_2)] σ = some ((Value.bool r), σ) := by
  refine callL_walk (fn := Tryd.f12) (c := c12_0) (rs := rs12) Tryd.func12 rfl ok12 rfl rfl ?_
  obtain ⟨out, ho⟩ : ∃ out, out = ((Value.bool r), σ) := ⟨_, rfl⟩
  rw [← ho]
  replace h : OptW (G_ident_Valid id_2) (fun r => ((Value.bool r), σ) = out) := ⟨r, h, ho.symm⟩
  unfold G_ident_Valid at h
  refine Fx_seq (a := c12_1) (b := c12_2) rfl ?_
  refine Fx_text rfl (by kernel_rfl) ?_
  refine Ro_v (v := (Value.bool false)) rfl (o_assign rfl rfl) ?_
  refine Ro_nil ?_
  refine Fx_seq (a := c12_3) (b := c12_4) rfl ?_
  refine Fx_text rfl (by kernel_rfl) ?_
  refine Ro_v (v := (Value.int .i64 id_2)) rfl (o_move rfl rfl) ?_
  obtain ⟨x3, hx3, h⟩ := h.bd
  refine Ro_v (v := (Value.bool x3)) rfl (o_call (vs := [(Value.int .i64 id_2)]) rfl rfl (w24 _ _ _ hx3)) ?_
  refine Ro_v (v := (Value.bool x3)) rfl (o_move rfl rfl) ?_
  refine Ro_set (t := x3) (v := bif x3 then (Value.int .i64 id_2) else undef) rfl (w_T rfl rfl rfl) (by intro e; have e0 := e; subst e0; exact o_move rfl rfl) (fun e => ⟨gv_f e, rfl⟩) ?_
  obtain ⟨x4, hx4, h⟩ := h.lt
  refine Ro_set (t := x3) (v := bif x3 then (Value.int .i64 x4) else undef) rfl (w_T rfl rfl rfl) (by intro e; have e0 := e; subst e0; exact o_and rfl rfl rfl hx4) (fun e => ⟨gv_f e, rfl⟩) ?_
  obtain ⟨x5, hx5, h⟩ := h.lt
  refine Ro_set (t := x3) (v := bif x3 then (Value.bool x5) else undef) rfl (w_T rfl rfl rfl) (by intro e; have e0 := e; subst e0; exact o_neq rfl rfl rfl hx5) (fun e => ⟨gv_f e, rfl⟩) ?_
  obtain ⟨x6, hx6, h⟩ := h.lt
  refine Ro_v (v := (Value.bool x6)) rfl (o_pick rfl rfl (by intro e; subst e; subst hx6; rfl) (by intro e; subst e; subst hx6; rfl)) ?_
  refine Ro_v (v := (Value.bool x6)) rfl (o_assign rfl rfl) ?_
  refine Ro_nil ?_
  exact Fx_ret rfl rfl (congrArg some h.sm)
noncomputable def c14_0 : Code := bodyOf Tryd.f14
noncomputable def c14_1 : Code := cl c14_0
noncomputable def c14_2 : Code := cr c14_0
noncomputable def c14_3 : Code := cl c14_2
noncomputable def c14_4 : Code := cl c14_3
noncomputable def c14_5 : Code := cr c14_3
noncomputable def c14_6 : Code := cl c14_5
noncomputable def c14_7 : Code := cl c14_6
noncomputable def c14_8 : Code := cr c14_6
noncomputable def c14_9 : Code := cr c14_5
noncomputable def c14_10 : Code := cr c14_2
noncomputable def c14_11 : Code := cl c14_10
noncomputable def c14_12 : Code := cr c14_10
theorem ok14 : funcOk Tryd.f14 = true := by kernel_rfl
noncomputable def rs14 : List ResultVar := resultsOf Tryd.f14
theorem w14 (id_2 : Int) (σ : AHeap) (r : Int) (h : G_ident_Site id_2 = some r) : callL Tryd.prog 14 [(Value.int .i64 id_2)] σ = some ((Value.int .i64 r), σ) := by
  refine callL_walk (fn := Tryd.f14) (c := c14_0) (rs := rs14) Tryd.func14 rfl ok14 rfl rfl ?_
  obtain ⟨out, ho⟩ : ∃ out, out = ((Value.int .i64 r), σ) := ⟨_, rfl⟩
  rw [← ho]
  replace h : OptW (G_ident_Site id_2) (fun r => ((Value.int .i64 r), σ) = out) := ⟨r, h, ho.symm⟩
  unfold G_ident_Site at h
  refine Fx_seq (a := c14_1) (b := c14_2) rfl ?_
  refine Fx_text rfl (by kernel_rfl) ?_
  refine Ro_v (v := (Value.int .i64 (0))) rfl (o_assign rfl rfl) ?_
  refine Ro_nil ?_
  refine Fx_seq (a := c14_3) (b := c14_10) rfl ?_
  refine Fx_seq (a := c14_4) (b := c14_5) rfl ?_
  refine Fx_text rfl (by kernel_rfl) ?_
  refine Ro_v (v := (Value.int .i64 id_2)) rfl (o_move rfl rfl) ?_
  obtain ⟨x3, hx3, h⟩ := h.bd
  refine Ro_v (v := (Value.bool x3)) rfl (o_call (vs := [(Value.int .i64 id_2)]) rfl rfl (w12 _ _ _ hx3)) ?_
  obtain ⟨x4, hx4, h⟩ := h.lt
  refine Ro_v (v := (Value.bool x4)) rfl (o_not rfl rfl hx4) ?_
  refine Ro_nil ?_
  refine Fx_cond (a := c14_6) (b := c14_9) rfl rfl (fun ex4 => ?_) (fun ex4 => ?_)
  · replace h := h.ifT ex4
    refine Fx_seq (a := c14_7) (b := c14_8) rfl ?_
    refine Fx_text rfl (by kernel_rfl) ?_
    refine Ro_v (v := (Value.int .i64 (0))) rfl (o_assign rfl rfl) ?_
    refine Ro_nil ?_
    exact Fx_ret rfl rfl (congrArg some h.sm)
  · replace h := h.ifF ex4
    refine Fx_skip (c := c14_9) rfl ?_
    refine Fx_seq (a := c14_11) (b := c14_12) rfl ?_
    refine Fx_text rfl (by kernel_rfl) ?_
    refine Ro_v (v := (Value.int .i64 id_2)) rfl (o_move rfl rfl) ?_
    obtain ⟨x5, hx5, h⟩ := h.bd
    refine Ro_v (v := (Value.int .i64 x5)) rfl (o_shr rfl rfl rfl hx5) ?_
    refine Ro_v (v := (Value.int .i64 x5)) rfl (o_assign rfl rfl) ?_
    refine Ro_nil ?_
    exact Fx_ret rfl rfl (congrArg some h.sm)
noncomputable def c16_0 : Code := bodyOf Tryd.f16
noncomputable def c16_1 : Code := cl c16_0
noncomputable def c16_2 : Code := cr c16_0
noncomputable def c16_3 : Code := cl c16_2
noncomputable def c16_4 : Code := cl c16_3
noncomputable def c16_5 : Code := cr c16_3
noncomputable def c16_6 : Code := cl c16_5
noncomputable def c16_7 : Code := cl c16_6
noncomputable def c16_8 : Code := cr c16_6
noncomputable def c16_9 : Code := cr c16_5
noncomputable def c16_10 : Code := cr c16_2
noncomputable def c16_11 : Code := cl c16_10
noncomputable def c16_12 : Code := cr c16_10
theorem ok16 : funcOk Tryd.f16 = true := by kernel_rfl
noncomputable def rs16 : List ResultVar := resultsOf Tryd.f16
theorem w16 (id_2 : Int) (σ : AHeap) (r : Int) (h : G_ident_Serial id_2 = some r) : callL Tryd.prog 16 [(Value.int .i64 id_2)] σ = some ((Value.int .i64 r), σ) := by
  refine callL_walk (fn := Tryd.f16) (c := c16_0) (rs := rs16) Tryd.func16 rfl ok16 rfl rfl ?_
  obtain ⟨out, ho⟩ : ∃ out, out = ((Value.int .i64 r), σ) := ⟨_, rfl⟩
  rw [← ho]
  replace h : OptW (G_ident_Serial id_2) (fun r => ((Value.int .i64 r), σ) = out) := ⟨r, h, ho.symm⟩
  unfold G_ident_Serial at h
  refine Fx_seq (a := c16_1) (b := c16_2) rfl ?_
  refine Fx_text rfl (by kernel_rfl) ?_
  refine Ro_v (v := (Value.int .i64 (0))) rfl (o_assign rfl rfl) ?_
  refine Ro_nil ?_
  refine Fx_seq (a := c16_3) (b := c16_10) rfl ?_
  refine Fx_seq (a := c16_4) (b := c16_5) rfl ?_
  refine Fx_text rfl (by kernel_rfl) ?_
  refine Ro_v (v := (Value.int .i64 id_2)) rfl (o_move rfl rfl) ?_
  obtain ⟨x3, hx3, h⟩ := h.bd
  refine Ro_v (v := (Value.bool x3)) rfl (o_call (vs := [(Value.int .i64 id_2)]) rfl rfl (w12 _ _ _ hx3)) ?_
  obtain ⟨x4, hx4, h⟩ := h.lt
  refine Ro_v (v := (Value.bool x4)) rfl (o_not rfl rfl hx4) ?_
  refine Ro_nil ?_
  refine Fx_cond (a := c16_6) (b := c16_9) rfl rfl (fun ex4 => ?_) (fun ex4 => ?_)
  · replace h := h.ifT ex4
    refine Fx_seq (a := c16_7) (b := c16_8) rfl ?_
    refine Fx_text rfl (by kernel_rfl) ?_
    refine Ro_v (v := (Value.int .i64 (0))) rfl (o_assign rfl rfl) ?_
    refine Ro_nil ?_
    exact Fx_ret rfl rfl (congrArg some h.sm)
  · replace h := h.ifF ex4
    refine Fx_skip (c := c16_9) rfl ?_
    refine Fx_seq (a := c16_11) (b := c16_12) rfl ?_
    refine Fx_text rfl (by kernel_rfl) ?_
    refine Ro_v (v := (Value.int .i64 id_2)) rfl (o_move rfl rfl) ?_
    obtain ⟨x5, hx5, h⟩ := h.lt
    refine Ro_v (v := (Value.int .i64 x5)) rfl (o_and rfl rfl rfl hx5) ?_
    refine Ro_v (v := (Value.int .i64 x5)) rfl (o_assign rfl rfl) ?_
    refine Ro_nil ?_
    exact Fx_ret rfl rfl (congrArg some h.sm)
theorem w42 (s : ByteArray) (c : Int) (σ : AHeap) (r : Int) (h : G_bytealg_IndexByteString s c = some r) : callL Tryd.prog 42 [.string s, .int .u8 c] σ = some (.int .i64 r, σ) := callL_indexByte Tryd.func42 rfl rfl h
noncomputable def c34_0 : Code := bodyOf Tryd.f34
noncomputable def c34_1 : Code := cl c34_0
noncomputable def c34_2 : Code := cr c34_0
noncomputable def c34_3 : Code := cl c34_2
noncomputable def c34_4 : Code := cr c34_2
theorem ok34 : funcOk Tryd.f34 = true := by kernel_rfl
noncomputable def rs34 : List ResultVar := resultsOf Tryd.f34
theorem w34 (s_2 : ByteArray) (c_3 : Int) (σ : AHeap) (r : Int) (h : G_stringslite_IndexByte s_2 c_3 = some r) : callL Tryd.prog 34 [(Value.string s_2), (Value.int .u8 c_3)] σ = some ((Value.int .i64 r), σ) := by
  refine callL_walk (fn := Tryd.f34) (c := c34_0) (rs := rs34) Tryd.func34 rfl ok34 rfl rfl ?_
  obtain ⟨out, ho⟩ : ∃ out, out = ((Value.int .i64 r), σ) := ⟨_, rfl⟩
  rw [← ho]
  replace h : OptW (G_stringslite_IndexByte s_2 c_3) (fun r => ((Value.int .i64 r), σ) = out) := ⟨r, h, ho.symm⟩
  unfold G_stringslite_IndexByte at h
  refine Fx_seq (a := c34_1) (b := c34_2) rfl ?_
  refine Fx_text rfl (by kernel_rfl) ?_
  refine Ro_v (v := (Value.int .i64 (0))) rfl (o_assign rfl rfl) ?_
  refine Ro_nil ?_
  refine Fx_seq (a := c34_3) (b := c34_4) rfl ?_
  refine Fx_text rfl (by kernel_rfl) ?_
  refine Ro_v (v := (Value.string s_2)) rfl (o_move rfl rfl) ?_
  refine Ro_v (v := (Value.int .u8 c_3)) rfl (o_move rfl rfl) ?_
  obtain ⟨x4, hx4, h⟩ := h.bd
  refine Ro_v (v := (Value.int .i64 x4)) rfl (o_call (vs := [(Value.string s_2), (Value.int .u8 c_3)]) rfl rfl (w42 _ _ _ _ hx4)) ?_
  refine Ro_v (v := (Value.int .i64 x4)) rfl (o_assign rfl rfl) ?_
  refine Ro_nil ?_
  exact Fx_ret rfl rfl (congrArg some h.sm)

noncomputable def c36_0 : Code := bodyOf Tryd.f36
noncomputable def c36_1 : Code := cl c36_0
noncomputable def c36_2 : Code := cr c36_0
noncomputable def c36_3 : Code := cl c36_2
noncomputable def c36_4 : Code := cr c36_2
theorem ok36 : funcOk Tryd.f36 = true := by kernel_rfl
noncomputable def rs36 : List ResultVar := resultsOf Tryd.f36
theorem w36 (n_2 : Int) (σ : AHeap) (r : Int) (h : G_bytealg_Cutover n_2 = some r) : callL Tryd.prog 36 [(Value.int .i64 n_2)] σ = some ((Value.int .i64 r), σ) := by
  refine callL_walk (fn := Tryd.f36) (c := c36_0) (rs := rs36) Tryd.func36 rfl ok36 rfl rfl ?_
  obtain ⟨out, ho⟩ : ∃ out, out = ((Value.int .i64 r), σ) := ⟨_, rfl⟩
  rw [← ho]
  replace h : OptW (G_bytealg_Cutover n_2) (fun r => ((Value.int .i64 r), σ) = out) := ⟨r, h, ho.symm⟩
  unfold G_bytealg_Cutover at h
  refine Fx_seq (a := c36_1) (b := c36_2) rfl ?_
  refine Fx_text rfl (by kernel_rfl) ?_
  refine Ro_v (v := (Value.int .i64 (0))) rfl (o_assign rfl rfl) ?_
  refine Ro_nil ?_
  refine Fx_seq (a := c36_3) (b := c36_4) rfl ?_
  refine Fx_text rfl (by kernel_rfl) ?_
  refine Ro_v (v := (Value.int .i64 n_2)) rfl (o_move rfl rfl) ?_
  obtain ⟨x3, hx3, h⟩ := h.lt
  refine Ro_v (v := (Value.int .i64 x3)) rfl (o_add rfl rfl rfl hx3) ?_
  obtain ⟨x4, hx4, h⟩ := h.lt
  refine Ro_v (v := (Value.int .i64 x4)) rfl (o_quo rfl rfl rfl (by decide) hx4) ?_
  refine Ro_v (v := (Value.int .i64 x4)) rfl (o_assign rfl rfl) ?_
  refine Ro_nil ?_
  exact Fx_ret rfl rfl (congrArg some h.sm)
noncomputable def c43_0 : Code := bodyOf Tryd.f43
noncomputable def c43_1 : Code := cl c43_0
noncomputable def c43_2 : Code := cr c43_0
noncomputable def c43_3 : Code := cl c43_2
noncomputable def c43_4 : Code := cr c43_2
noncomputable def c43_5 : Code := cl c43_4
noncomputable def c43_6 : Code := cl c43_5
noncomputable def c43_7 : Code := cr c43_5
noncomputable def c43_8 : Code := cl c43_7
noncomputable def c43_9 : Code := cl c43_8
noncomputable def c43_10 : Code := cl c43_9
noncomputable def c43_11 : Code := cl c43_10
noncomputable def c43_12 : Code := cr c43_10
noncomputable def c43_13 : Code := cl c43_12
noncomputable def c43_14 : Code := cr c43_12
noncomputable def c43_15 : Code := cr c43_9
noncomputable def c43_16 : Code := cl c43_15
noncomputable def c43_17 : Code := cl c43_16
noncomputable def c43_18 : Code := cr c43_15
noncomputable def c43_19 : Code := cr c43_4
noncomputable def c43_20 : Code := cl c43_19
noncomputable def c43_21 : Code := cr c43_19
noncomputable def c43_22 : Code := cl c43_21
noncomputable def c43_23 : Code := cl c43_22
noncomputable def c43_24 : Code := cr c43_22
noncomputable def c43_25 : Code := cl c43_24
noncomputable def c43_26 : Code := cl c43_25
noncomputable def c43_27 : Code := cl c43_26
noncomputable def c43_28 : Code := cl c43_27
noncomputable def c43_29 : Code := cr c43_27
noncomputable def c43_30 : Code := cl c43_29
noncomputable def c43_31 : Code := cr c43_29
noncomputable def c43_32 : Code := cr c43_26
noncomputable def c43_33 : Code := cl c43_32
noncomputable def c43_34 : Code := cl c43_33
noncomputable def c43_35 : Code := cl c43_34
noncomputable def c43_36 : Code := cl c43_35
noncomputable def c43_37 : Code := cr c43_35
noncomputable def c43_38 : Code := cl c43_37
noncomputable def c43_39 : Code := cr c43_37
noncomputable def c43_40 : Code := cr c43_34
noncomputable def c43_41 : Code := cr c43_32
noncomputable def c43_42 : Code := cr c43_21
noncomputable def c43_43 : Code := cl c43_42
noncomputable def c43_44 : Code := cr c43_42
theorem ok43 : funcOk Tryd.f43 = true := by kernel_rfl
noncomputable def rs43 : List ResultVar := resultsOf Tryd.f43
noncomputable def C43_l1 (sep_4 : ByteArray) (σ : AHeap) (out : Value × AHeap) : (Int × Int) ⊕ Int → Prop
  | .inl (hash_5, i_6) => ∀ f, Fx Tryd.prog rs43 [.code c43_8, .blk 0, .code c43_19] .normal (Fr.set (Fr.set (Fr.set f 0 (Value.string sep_4)) 4 (Value.int .u32 hash_5)) 5 (Value.int .i64 i_6)) σ = some out
  | .inr hash_7 => ∀ f, Fx Tryd.prog rs43 [.code c43_19] .normal (Fr.set (Fr.set f 0 (Value.string sep_4)) 4 (Value.int .u32 hash_7)) σ = some out
theorem q43_l1 (sep_4 : ByteArray) (hash_5 : Int) (i_6 : Int) (σ : AHeap) (out : Value × AHeap) (f : Fr) (h : OptW (G_bytealg_hashStr_string_l1 sep_4 (hash_5, i_6)) (C43_l1 sep_4 σ out)) :
    Fx Tryd.prog rs43 [.code c43_8, .blk 0, .code c43_19] .normal (Fr.set (Fr.set (Fr.set f 0 (Value.string sep_4)) 4 (Value.int .u32 hash_5)) 5 (Value.int .i64 i_6)) σ = some out := by
  unfold G_bytealg_hashStr_string_l1 at h
  refine Fx_loop (b := c43_9) rfl ?_
  refine Fx_seq (a := c43_10) (b := c43_15) rfl ?_
  refine Fx_seq (a := c43_11) (b := c43_12) rfl ?_
  refine Fx_text rfl (by kernel_rfl) ?_
  refine Ro_v (v := (Value.int .i64 i_6)) rfl (o_move rfl rfl) ?_
  refine Ro_v (v := (Value.string sep_4)) rfl (o_move rfl rfl) ?_
  obtain ⟨x8, hx8, h⟩ := h.lt
  refine Ro_v (v := (Value.int .i64 x8)) rfl (o_lenS rfl tu9 rfl hx8) ?_
  obtain ⟨x9, hx9, h⟩ := h.lt
  refine Ro_v (v := (Value.bool x9)) rfl (o_lss rfl rfl rfl hx9) ?_
  refine Ro_nil ?_
  refine Fx_cond (a := c43_13) (b := c43_14) rfl rfl (fun ex9 => ?_) (fun ex9 => ?_)
  · replace h := h.ifT ex9
    refine Fx_skip (c := c43_13) rfl ?_
    refine Fx_seq (a := c43_16) (b := c43_18) rfl ?_
    refine Fx_block (b := c43_17) rfl ?_
    refine Fx_text rfl (by kernel_rfl) ?_
    refine Ro_v (v := (Value.int .u32 hash_5)) rfl (o_move rfl rfl) ?_
    obtain ⟨x10, hx10, h⟩ := h.lt
    refine Ro_v (v := (Value.int .u32 x10)) rfl (o_mul rfl rfl rfl hx10) ?_
    refine Ro_v (v := (Value.string sep_4)) rfl (o_move rfl rfl) ?_
    refine Ro_v (v := (Value.int .i64 i_6)) rfl (o_move rfl rfl) ?_
    obtain ⟨x11, hx11, h⟩ := h.bd
    refine Ro_v (v := (Value.int .u8 x11)) rfl (o_idxS rfl tu9 rfl rfl hx11) ?_
    obtain ⟨x12, hx12, h⟩ := h.lt
    refine Ro_v (v := (Value.int .u32 x12)) rfl (o_convI rfl tu5 tu48 rfl hx12) ?_
    obtain ⟨x13, hx13, h⟩ := h.lt
    refine Ro_v (v := (Value.int .u32 x13)) rfl (o_add rfl rfl rfl hx13) ?_
    refine Ro_v (v := (Value.int .u32 x13)) rfl (o_assign rfl rfl) ?_
    refine Ro_nil ?_
    refine Fx_blk ?_
    refine Fx_text rfl (by kernel_rfl) ?_
    refine Ro_v (v := (Value.int .i64 i_6)) rfl (o_move rfl rfl) ?_
    obtain ⟨x14, hx14, h⟩ := h.lt
    refine Ro_v (v := (Value.int .i64 x14)) rfl (o_add rfl rfl rfl hx14) ?_
    refine Ro_v (v := (Value.int .i64 x14)) rfl (o_assign rfl rfl) ?_
    refine Ro_nil ?_
    exact Fx_forget (Fr.set_of (Fr.set_of (Fr.set_of rfl rfl) rfl) rfl) (h.sm _)
  · replace h := h.ifF ex9
    refine Fx_exit rfl ?_
    refine Fx_out_code ?_
    refine Fx_out_code ?_
    refine Fx_out_eq ?_
    exact Fx_forget (Fr.set_of (Fr.set_of rfl rfl) rfl) (h.sm _)
noncomputable def C43_l2 (hash_17 : Int) (σ : AHeap) (out : Value × AHeap) : (Int × Int × Int) ⊕ Int → Prop
  | .inl (pow_18, sq_19, i_20) => ∀ f, Fx Tryd.prog rs43 [.code c43_25, .blk 2, .code c43_42] .normal (Fr.set (Fr.set (Fr.set (Fr.set f 4 (Value.int .u32 hash_17)) 6 (Value.int .u32 pow_18)) 7 (Value.int .u32 sq_19)) 8 (Value.int .i64 i_20)) σ = some out
  | .inr pow_21 => ∀ f, Fx Tryd.prog rs43 [.code c43_42] .normal (Fr.set (Fr.set f 4 (Value.int .u32 hash_17)) 6 (Value.int .u32 pow_21)) σ = some out
theorem p43_j1 (hash_17 : Int) (pow_26 : Int) (sq_27 : Int) (i_28 : Int) (σ : AHeap) (out : Value × AHeap) (f : Fr) (h : OptW (G_bytealg_hashStr_string_j1 hash_17 pow_26 sq_27 i_28) (C43_l2 hash_17 σ out)) :
    Fx Tryd.prog rs43 [.code c43_40, .blk 3, .code c43_41, .code c43_25, .blk 2, .code c43_42] .normal (Fr.set (Fr.set (Fr.set (Fr.set f 4 (Value.int .u32 hash_17)) 6 (Value.int .u32 pow_26)) 7 (Value.int .u32 sq_27)) 8 (Value.int .i64 i_28)) σ = some out := by
  unfold G_bytealg_hashStr_string_j1 at h
  refine Fx_text rfl (by kernel_rfl) ?_
  refine Ro_v (v := (Value.int .u32 sq_27)) rfl (o_move rfl rfl) ?_
  refine Ro_v (v := (Value.int .u32 sq_27)) rfl (o_move rfl rfl) ?_
  obtain ⟨x29, hx29, h⟩ := h.lt
  refine Ro_v (v := (Value.int .u32 x29)) rfl (o_mul rfl rfl rfl hx29) ?_
  refine Ro_v (v := (Value.int .u32 x29)) rfl (o_assign rfl rfl) ?_
  refine Ro_nil ?_
  refine Fx_blk ?_
  refine Fx_text rfl (by kernel_rfl) ?_
  refine Ro_v (v := (Value.int .i64 i_28)) rfl (o_move rfl rfl) ?_
  obtain ⟨x30, hx30, h⟩ := h.bd
  refine Ro_v (v := (Value.int .i64 x30)) rfl (o_shr rfl rfl rfl hx30) ?_
  refine Ro_v (v := (Value.int .i64 x30)) rfl (o_assign rfl rfl) ?_
  refine Ro_nil ?_
  exact Fx_forget (Fr.set_of (Fr.set_of (Fr.set_of (Fr.set_of rfl rfl) rfl) rfl) rfl) (h.sm _)
theorem q43_l2 (hash_17 : Int) (pow_18 : Int) (sq_19 : Int) (i_20 : Int) (σ : AHeap) (out : Value × AHeap) (f : Fr) (h : OptW (G_bytealg_hashStr_string_l2 hash_17 (pow_18, sq_19, i_20)) (C43_l2 hash_17 σ out)) :
    Fx Tryd.prog rs43 [.code c43_25, .blk 2, .code c43_42] .normal (Fr.set (Fr.set (Fr.set (Fr.set f 4 (Value.int .u32 hash_17)) 6 (Value.int .u32 pow_18)) 7 (Value.int .u32 sq_19)) 8 (Value.int .i64 i_20)) σ = some out := by
  unfold G_bytealg_hashStr_string_l2 at h
  refine Fx_loop (b := c43_26) rfl ?_
  refine Fx_seq (a := c43_27) (b := c43_32) rfl ?_
  refine Fx_seq (a := c43_28) (b := c43_29) rfl ?_
  refine Fx_text rfl (by kernel_rfl) ?_
  refine Ro_v (v := (Value.int .i64 i_20)) rfl (o_move rfl rfl) ?_
  obtain ⟨x22, hx22, h⟩ := h.lt
  refine Ro_v (v := (Value.bool x22)) rfl (o_gtr rfl rfl rfl hx22) ?_
  refine Ro_nil ?_
  refine Fx_cond (a := c43_30) (b := c43_31) rfl rfl (fun ex22 => ?_) (fun ex22 => ?_)
  · replace h := h.ifT ex22
    refine Fx_skip (c := c43_30) rfl ?_
    refine Fx_seq (a := c43_33) (b := c43_41) rfl ?_
    refine Fx_block (b := c43_34) rfl ?_
    refine Fx_seq (a := c43_35) (b := c43_40) rfl ?_
    refine Fx_seq (a := c43_36) (b := c43_37) rfl ?_
    refine Fx_text rfl (by kernel_rfl) ?_
    refine Ro_v (v := (Value.int .i64 i_20)) rfl (o_move rfl rfl) ?_
    obtain ⟨x23, hx23, h⟩ := h.lt
    refine Ro_v (v := (Value.int .i64 x23)) rfl (o_and rfl rfl rfl hx23) ?_
    obtain ⟨x24, hx24, h⟩ := h.lt
    refine Ro_v (v := (Value.bool x24)) rfl (o_neq rfl rfl rfl hx24) ?_
    refine Ro_nil ?_
    refine Fx_cond (a := c43_38) (b := c43_39) rfl rfl (fun ex24 => ?_) (fun ex24 => ?_)
    · replace h := h.ifT ex24
      refine Fx_text rfl (by kernel_rfl) ?_
      refine Ro_v (v := (Value.int .u32 pow_18)) rfl (o_move rfl rfl) ?_
      refine Ro_v (v := (Value.int .u32 sq_19)) rfl (o_move rfl rfl) ?_
      obtain ⟨x25, hx25, h⟩ := h.lt
      refine Ro_v (v := (Value.int .u32 x25)) rfl (o_mul rfl rfl rfl hx25) ?_
      refine Ro_v (v := (Value.int .u32 x25)) rfl (o_assign rfl rfl) ?_
      refine Ro_nil ?_
      exact Fx_forget (Fr.set_of (Fr.set_of (Fr.set_of (Fr.set_of rfl rfl) rfl) rfl) rfl) (p43_j1 _ _ _ _ _ _ _ h)
    · replace h := h.ifF ex24
      refine Fx_skip (c := c43_39) rfl ?_
      refine Fx_text rfl (by kernel_rfl) ?_
      refine Ro_v (v := (Value.int .u32 sq_19)) rfl (o_move rfl rfl) ?_
      refine Ro_v (v := (Value.int .u32 sq_19)) rfl (o_move rfl rfl) ?_
      obtain ⟨x31, hx31, h⟩ := h.lt
      refine Ro_v (v := (Value.int .u32 x31)) rfl (o_mul rfl rfl rfl hx31) ?_
      refine Ro_v (v := (Value.int .u32 x31)) rfl (o_assign rfl rfl) ?_
      refine Ro_nil ?_
      refine Fx_blk ?_
      refine Fx_text rfl (by kernel_rfl) ?_
      refine Ro_v (v := (Value.int .i64 i_20)) rfl (o_move rfl rfl) ?_
      obtain ⟨x32, hx32, h⟩ := h.bd
      refine Ro_v (v := (Value.int .i64 x32)) rfl (o_shr rfl rfl rfl hx32) ?_
      refine Ro_v (v := (Value.int .i64 x32)) rfl (o_assign rfl rfl) ?_
      refine Ro_nil ?_
      exact Fx_forget (Fr.set_of (Fr.set_of (Fr.set_of (Fr.set_of rfl rfl) rfl) rfl) rfl) (h.sm _)
  · replace h := h.ifF ex22
    refine Fx_exit rfl ?_
    refine Fx_out_code ?_
    refine Fx_out_code ?_
    refine Fx_out_eq ?_
    exact Fx_forget (Fr.set_of (Fr.set_of rfl rfl) rfl) (h.sm _)
theorem w43 (sep_3 : ByteArray) (σ : AHeap) (r : (Int × Int)) (h : G_bytealg_hashStr_string sep_3 = some r) : callL Tryd.prog 43 [(Value.string sep_3)] σ = some ((Value.tuple #[(Value.int .u32 r.1), (Value.int .u32 r.2)]), σ) := by
  refine callL_walk (fn := Tryd.f43) (c := c43_0) (rs := rs43) Tryd.func43 rfl ok43 rfl rfl ?_
  obtain ⟨out, ho⟩ : ∃ out, out = ((Value.tuple #[(Value.int .u32 r.1), (Value.int .u32 r.2)]), σ) := ⟨_, rfl⟩
  rw [← ho]
  replace h : OptW (G_bytealg_hashStr_string sep_3) (fun r => ((Value.tuple #[(Value.int .u32 r.1), (Value.int .u32 r.2)]), σ) = out) := ⟨r, h, ho.symm⟩
  unfold G_bytealg_hashStr_string at h
  refine Fx_seq (a := c43_1) (b := c43_2) rfl ?_
  refine Fx_text rfl (by kernel_rfl) ?_
  refine Ro_v (v := (Value.int .u32 (0))) rfl (o_assign rfl rfl) ?_
  refine Ro_v (v := (Value.int .u32 (0))) rfl (o_assign rfl rfl) ?_
  refine Ro_nil ?_
  refine Fx_seq (a := c43_3) (b := c43_4) rfl ?_
  refine Fx_text rfl (by kernel_rfl) ?_
  refine Ro_v (v := (Value.int .u32 (0))) rfl (o_assign rfl rfl) ?_
  refine Ro_nil ?_
  refine Fx_seq (a := c43_5) (b := c43_19) rfl ?_
  refine Fx_seq (a := c43_6) (b := c43_7) rfl ?_
  refine Fx_text rfl (by kernel_rfl) ?_
  refine Ro_v (v := (Value.int .i64 (0))) rfl (o_assign rfl rfl) ?_
  refine Ro_nil ?_
  refine Fx_block (b := c43_8) rfl ?_
  refine Fx_forget (Fr.set_of (Fr.set_of (Fr.set_of rfl rfl) rfl) rfl) ((OptW.loop h (fun s => C43_l1 sep_3 σ out (.inl s)) ?_ : C43_l1 sep_3 σ out (.inl ((0), (0)))) _)
  intro s hs f
  obtain ⟨hash_5, i_6⟩ := s
  refine q43_l1 sep_3 hash_5 i_6 σ out f (hs.imp ?_)
  intro r hr
  rcases r with y | b
  · exact hr
  · obtain ⟨hash_15, rfl⟩ : ∃ x, x = b := ⟨_, rfl⟩
    have h := hr
    intro f
    refine Fx_seq (a := c43_20) (b := c43_21) rfl ?_
    refine Fx_text rfl (by kernel_rfl) ?_
    refine Ro_v (v := (Value.int .u32 (1))) rfl (o_assign rfl rfl) ?_
    refine Ro_v (v := (Value.int .u32 (16777619))) rfl (o_assign rfl rfl) ?_
    refine Ro_nil ?_
    refine Fx_seq (a := c43_22) (b := c43_42) rfl ?_
    refine Fx_seq (a := c43_23) (b := c43_24) rfl ?_
    refine Fx_text rfl (by kernel_rfl) ?_
    refine Ro_v (v := (Value.string sep_3)) rfl (o_move rfl rfl) ?_
    obtain ⟨x16, hx16, h⟩ := h.lt
    refine Ro_v (v := (Value.int .i64 x16)) rfl (o_lenS rfl tu9 rfl hx16) ?_
    refine Ro_v (v := (Value.int .i64 x16)) rfl (o_assign rfl rfl) ?_
    refine Ro_nil ?_
    refine Fx_block (b := c43_25) rfl ?_
    refine Fx_forget (Fr.set_of (Fr.set_of (Fr.set_of (Fr.set_of rfl rfl) rfl) rfl) rfl) ((OptW.loop h (fun s => C43_l2 hash_15 σ out (.inl s)) ?_ : C43_l2 hash_15 σ out (.inl ((1), (16777619), x16))) _)
    intro s hs f
    obtain ⟨pow_18, sq_19, i_20⟩ := s
    refine q43_l2 hash_15 pow_18 sq_19 i_20 σ out f (hs.imp ?_)
    intro r hr
    rcases r with y | b
    · exact hr
    · obtain ⟨pow_33, rfl⟩ : ∃ x, x = b := ⟨_, rfl⟩
      have h := hr
      intro f
      refine Fx_seq (a := c43_43) (b := c43_44) rfl ?_
      refine Fx_text rfl (by kernel_rfl) ?_
      refine Ro_v (v := (Value.int .u32 hash_15)) rfl (o_move rfl rfl) ?_
      refine Ro_v (v := (Value.int .u32 pow_33)) rfl (o_move rfl rfl) ?_
      refine Ro_v (v := (Value.int .u32 hash_15)) rfl (o_assign rfl rfl) ?_
      refine Ro_v (v := (Value.int .u32 pow_33)) rfl (o_assign rfl rfl) ?_
      refine Ro_nil ?_
      exact Fx_ret rfl rfl (congrArg some h.sm)
noncomputable def c37_0 : Code := bodyOf Tryd.f37
noncomputable def c37_1 : Code := cl c37_0
noncomputable def c37_2 : Code := cr c37_0
noncomputable def c37_3 : Code := cl c37_2
noncomputable def c37_4 : Code := cr c37_2
noncomputable def c37_5 : Code := cl c37_4
noncomputable def c37_6 : Code := cr c37_4
noncomputable def c37_7 : Code := cl c37_6
noncomputable def c37_8 : Code := cr c37_6
noncomputable def c37_9 : Code := cl c37_8
noncomputable def c37_10 : Code := cl c37_9
noncomputable def c37_11 : Code := cr c37_9
noncomputable def c37_12 : Code := cl c37_11
noncomputable def c37_13 : Code := cl c37_12
noncomputable def c37_14 : Code := cl c37_13
noncomputable def c37_15 : Code := cl c37_14
noncomputable def c37_16 : Code := cr c37_14
noncomputable def c37_17 : Code := cl c37_16
noncomputable def c37_18 : Code := cr c37_16
noncomputable def c37_19 : Code := cr c37_13
noncomputable def c37_20 : Code := cl c37_19
noncomputable def c37_21 : Code := cl c37_20
noncomputable def c37_22 : Code := cr c37_19
noncomputable def c37_23 : Code := cr c37_8
noncomputable def c37_24 : Code := cl c37_23
noncomputable def c37_25 : Code := cl c37_24
noncomputable def c37_26 : Code := cr c37_24
noncomputable def c37_27 : Code := cl c37_26
noncomputable def c37_28 : Code := cl c37_27
noncomputable def c37_29 : Code := cr c37_27
noncomputable def c37_30 : Code := cr c37_26
noncomputable def c37_31 : Code := cr c37_23
noncomputable def c37_32 : Code := cl c37_31
noncomputable def c37_33 : Code := cl c37_32
noncomputable def c37_34 : Code := cr c37_32
noncomputable def c37_35 : Code := cl c37_34
noncomputable def c37_36 : Code := cl c37_35
noncomputable def c37_37 : Code := cl c37_36
noncomputable def c37_38 : Code := cl c37_37
noncomputable def c37_39 : Code := cr c37_37
noncomputable def c37_40 : Code := cl c37_39
noncomputable def c37_41 : Code := cr c37_39
noncomputable def c37_42 : Code := cr c37_36
noncomputable def c37_43 : Code := cl c37_42
noncomputable def c37_44 : Code := cl c37_43
noncomputable def c37_45 : Code := cr c37_43
noncomputable def c37_46 : Code := cl c37_45
noncomputable def c37_47 : Code := cr c37_45
noncomputable def c37_48 : Code := cl c37_47
noncomputable def c37_49 : Code := cr c37_47
noncomputable def c37_50 : Code := cl c37_49
noncomputable def c37_51 : Code := cr c37_49
noncomputable def c37_52 : Code := cl c37_51
noncomputable def c37_53 : Code := cr c37_51
noncomputable def c37_54 : Code := cl c37_53
noncomputable def c37_55 : Code := cl c37_54
noncomputable def c37_56 : Code := cr c37_54
noncomputable def c37_57 : Code := cr c37_53
noncomputable def c37_58 : Code := cr c37_31
noncomputable def c37_59 : Code := cl c37_58
noncomputable def c37_60 : Code := cr c37_58
theorem ok37 : funcOk Tryd.f37 = true := by kernel_rfl
noncomputable def rs37 : List ResultVar := resultsOf Tryd.f37
noncomputable def C37_l1 (s_7 : ByteArray) (sep_8 : ByteArray) (hashss_9 : Int) (pow_10 : Int) (n_11 : Int) (σ : AHeap) (out : Value × AHeap) : (Int × Int) ⊕ Int → Prop
  | .inl (h_12, i_13) => ∀ f, Fx Tryd.prog rs37 [.code c37_12, .blk 0, .code c37_23] .normal (Fr.set (Fr.set (Fr.set (Fr.set (Fr.set (Fr.set (Fr.set f 0 (Value.string s_7)) 1 (Value.string sep_8)) 5 (Value.int .u32 hashss_9)) 6 (Value.int .u32 pow_10)) 7 (Value.int .i64 n_11)) 8 (Value.int .u32 h_12)) 9 (Value.int .i64 i_13)) σ = some out
  | .inr h_14 => ∀ f, Fx Tryd.prog rs37 [.code c37_23] .normal (Fr.set (Fr.set (Fr.set (Fr.set (Fr.set (Fr.set f 0 (Value.string s_7)) 1 (Value.string sep_8)) 5 (Value.int .u32 hashss_9)) 6 (Value.int .u32 pow_10)) 7 (Value.int .i64 n_11)) 8 (Value.int .u32 h_14)) σ = some out
theorem q37_l1 (s_7 : ByteArray) (sep_8 : ByteArray) (hashss_9 : Int) (pow_10 : Int) (n_11 : Int) (h_12 : Int) (i_13 : Int) (σ : AHeap) (out : Value × AHeap) (f : Fr) (h : OptW (G_bytealg_IndexRabinKarp_string_l1 s_7 sep_8 hashss_9 pow_10 n_11 (h_12, i_13)) (C37_l1 s_7 sep_8 hashss_9 pow_10 n_11 σ out)) :
    Fx Tryd.prog rs37 [.code c37_12, .blk 0, .code c37_23] .normal (Fr.set (Fr.set (Fr.set (Fr.set (Fr.set (Fr.set (Fr.set f 0 (Value.string s_7)) 1 (Value.string sep_8)) 5 (Value.int .u32 hashss_9)) 6 (Value.int .u32 pow_10)) 7 (Value.int .i64 n_11)) 8 (Value.int .u32 h_12)) 9 (Value.int .i64 i_13)) σ = some out := by
  unfold G_bytealg_IndexRabinKarp_string_l1 at h
  refine Fx_loop (b := c37_13) rfl ?_
  refine Fx_seq (a := c37_14) (b := c37_19) rfl ?_
  refine Fx_seq (a := c37_15) (b := c37_16) rfl ?_
  refine Fx_text rfl (by kernel_rfl) ?_
  refine Ro_v (v := (Value.int .i64 i_13)) rfl (o_move rfl rfl) ?_
  refine Ro_v (v := (Value.int .i64 n_11)) rfl (o_move rfl rfl) ?_
  obtain ⟨x15, hx15, h⟩ := h.lt
  refine Ro_v (v := (Value.bool x15)) rfl (o_lss rfl rfl rfl hx15) ?_
  refine Ro_nil ?_
  refine Fx_cond (a := c37_17) (b := c37_18) rfl rfl (fun ex15 => ?_) (fun ex15 => ?_)
  · replace h := h.ifT ex15
    refine Fx_skip (c := c37_17) rfl ?_
    refine Fx_seq (a := c37_20) (b := c37_22) rfl ?_
    refine Fx_block (b := c37_21) rfl ?_
    refine Fx_text rfl (by kernel_rfl) ?_
    refine Ro_v (v := (Value.int .u32 h_12)) rfl (o_move rfl rfl) ?_
    obtain ⟨x16, hx16, h⟩ := h.lt
    refine Ro_v (v := (Value.int .u32 x16)) rfl (o_mul rfl rfl rfl hx16) ?_
    refine Ro_v (v := (Value.string s_7)) rfl (o_move rfl rfl) ?_
    refine Ro_v (v := (Value.int .i64 i_13)) rfl (o_move rfl rfl) ?_
    obtain ⟨x17, hx17, h⟩ := h.bd
    refine Ro_v (v := (Value.int .u8 x17)) rfl (o_idxS rfl tu9 rfl rfl hx17) ?_
    obtain ⟨x18, hx18, h⟩ := h.lt
    refine Ro_v (v := (Value.int .u32 x18)) rfl (o_convI rfl tu5 tu48 rfl hx18) ?_
    obtain ⟨x19, hx19, h⟩ := h.lt
    refine Ro_v (v := (Value.int .u32 x19)) rfl (o_add rfl rfl rfl hx19) ?_
    refine Ro_v (v := (Value.int .u32 x19)) rfl (o_assign rfl rfl) ?_
    refine Ro_nil ?_
    refine Fx_blk ?_
    refine Fx_text rfl (by kernel_rfl) ?_
    refine Ro_v (v := (Value.int .i64 i_13)) rfl (o_move rfl rfl) ?_
    obtain ⟨x20, hx20, h⟩ := h.lt
    refine Ro_v (v := (Value.int .i64 x20)) rfl (o_add rfl rfl rfl hx20) ?_
    refine Ro_v (v := (Value.int .i64 x20)) rfl (o_assign rfl rfl) ?_
    refine Ro_nil ?_
    exact Fx_forget (Fr.set_of (Fr.set_of (Fr.set_of (Fr.set_of (Fr.set_of (Fr.set_of (Fr.set_of rfl rfl) rfl) rfl) rfl) rfl) rfl) rfl) (h.sm _)
  · replace h := h.ifF ex15
    refine Fx_exit rfl ?_
    refine Fx_out_code ?_
    refine Fx_out_code ?_
    refine Fx_out_eq ?_
    exact Fx_forget (Fr.set_of (Fr.set_of (Fr.set_of (Fr.set_of (Fr.set_of (Fr.set_of rfl rfl) rfl) rfl) rfl) rfl) rfl) (h.sm _)
noncomputable def C37_l2 (s_26 : ByteArray) (sep_27 : ByteArray) (hashss_28 : Int) (pow_29 : Int) (n_30 : Int) (σ : AHeap) (out : Value × AHeap) : (Int × Int) ⊕ (Unit ⊕ Int) → Prop
  | .inl (h_31, i_32) => ∀ f, Fx Tryd.prog rs37 [.code c37_35, .blk 2, .code c37_58] .normal (Fr.set (Fr.set (Fr.set (Fr.set (Fr.set (Fr.set (Fr.set f 0 (Value.string s_26)) 1 (Value.string sep_27)) 5 (Value.int .u32 hashss_28)) 6 (Value.int .u32 pow_29)) 7 (Value.int .i64 n_30)) 8 (Value.int .u32 h_31)) 10 (Value.int .i64 i_32)) σ = some out
  | .inr (.inl _) => ∀ f, Fx Tryd.prog rs37 [.code c37_58] .normal f σ = some out
  | .inr (.inr x33) => ((Value.int .i64 x33), σ) = out
theorem q37_l2 (s_26 : ByteArray) (sep_27 : ByteArray) (hashss_28 : Int) (pow_29 : Int) (n_30 : Int) (h_31 : Int) (i_32 : Int) (σ : AHeap) (out : Value × AHeap) (f : Fr) (h : OptW (G_bytealg_IndexRabinKarp_string_l2 s_26 sep_27 hashss_28 pow_29 n_30 (h_31, i_32)) (C37_l2 s_26 sep_27 hashss_28 pow_29 n_30 σ out)) :
    Fx Tryd.prog rs37 [.code c37_35, .blk 2, .code c37_58] .normal (Fr.set (Fr.set (Fr.set (Fr.set (Fr.set (Fr.set (Fr.set f 0 (Value.string s_26)) 1 (Value.string sep_27)) 5 (Value.int .u32 hashss_28)) 6 (Value.int .u32 pow_29)) 7 (Value.int .i64 n_30)) 8 (Value.int .u32 h_31)) 10 (Value.int .i64 i_32)) σ = some out := by
  unfold G_bytealg_IndexRabinKarp_string_l2 at h
  refine Fx_loop (b := c37_36) rfl ?_
  refine Fx_seq (a := c37_37) (b := c37_42) rfl ?_
  refine Fx_seq (a := c37_38) (b := c37_39) rfl ?_
  refine Fx_text rfl (by kernel_rfl) ?_
  refine Ro_v (v := (Value.int .i64 i_32)) rfl (o_move rfl rfl) ?_
  refine Ro_v (v := (Value.string s_26)) rfl (o_move rfl rfl) ?_
  obtain ⟨x34, hx34, h⟩ := h.lt
  refine Ro_v (v := (Value.int .i64 x34)) rfl (o_lenS rfl tu9 rfl hx34) ?_
  obtain ⟨x35, hx35, h⟩ := h.lt
  refine Ro_v (v := (Value.bool x35)) rfl (o_lss rfl rfl rfl hx35) ?_
  refine Ro_nil ?_
  refine Fx_cond (a := c37_40) (b := c37_41) rfl rfl (fun ex35 => ?_) (fun ex35 => ?_)
  · replace h := h.ifT ex35
    refine Fx_skip (c := c37_40) rfl ?_
    refine Fx_block (b := c37_43) rfl ?_
    refine Fx_seq (a := c37_44) (b := c37_45) rfl ?_
    refine Fx_text rfl (by kernel_rfl) ?_
    refine Ro_v (v := (Value.int .u32 h_31)) rfl (o_move rfl rfl) ?_
    obtain ⟨x36, hx36, h⟩ := h.lt
    refine Ro_v (v := (Value.int .u32 x36)) rfl (o_mul rfl rfl rfl hx36) ?_
    refine Ro_v (v := (Value.int .u32 x36)) rfl (o_assign rfl rfl) ?_
    refine Ro_nil ?_
    refine Fx_seq (a := c37_46) (b := c37_47) rfl ?_
    refine Fx_text rfl (by kernel_rfl) ?_
    refine Ro_v (v := (Value.int .u32 x36)) rfl (o_move rfl rfl) ?_
    refine Ro_v (v := (Value.string s_26)) rfl (o_move rfl rfl) ?_
    refine Ro_v (v := (Value.int .i64 i_32)) rfl (o_move rfl rfl) ?_
    obtain ⟨x37, hx37, h⟩ := h.bd
    refine Ro_v (v := (Value.int .u8 x37)) rfl (o_idxS rfl tu9 rfl rfl hx37) ?_
    obtain ⟨x38, hx38, h⟩ := h.lt
    refine Ro_v (v := (Value.int .u32 x38)) rfl (o_convI rfl tu5 tu48 rfl hx38) ?_
    obtain ⟨x39, hx39, h⟩ := h.lt
    refine Ro_v (v := (Value.int .u32 x39)) rfl (o_add rfl rfl rfl hx39) ?_
    refine Ro_v (v := (Value.int .u32 x39)) rfl (o_assign rfl rfl) ?_
    refine Ro_nil ?_
    refine Fx_seq (a := c37_48) (b := c37_49) rfl ?_
    refine Fx_text rfl (by kernel_rfl) ?_
    refine Ro_v (v := (Value.int .u32 x39)) rfl (o_move rfl rfl) ?_
    refine Ro_v (v := (Value.int .u32 pow_29)) rfl (o_move rfl rfl) ?_
    refine Ro_v (v := (Value.string s_26)) rfl (o_move rfl rfl) ?_
    refine Ro_v (v := (Value.int .i64 i_32)) rfl (o_move rfl rfl) ?_
    refine Ro_v (v := (Value.int .i64 n_30)) rfl (o_move rfl rfl) ?_
    obtain ⟨x40, hx40, h⟩ := h.lt
    refine Ro_v (v := (Value.int .i64 x40)) rfl (o_sub rfl rfl rfl hx40) ?_
    obtain ⟨x41, hx41, h⟩ := h.bd
    refine Ro_v (v := (Value.int .u8 x41)) rfl (o_idxS rfl tu9 rfl rfl hx41) ?_
    obtain ⟨x42, hx42, h⟩ := h.lt
    refine Ro_v (v := (Value.int .u32 x42)) rfl (o_convI rfl tu5 tu48 rfl hx42) ?_
    obtain ⟨x43, hx43, h⟩ := h.lt
    refine Ro_v (v := (Value.int .u32 x43)) rfl (o_mul rfl rfl rfl hx43) ?_
    obtain ⟨x44, hx44, h⟩ := h.lt
    refine Ro_v (v := (Value.int .u32 x44)) rfl (o_sub rfl rfl rfl hx44) ?_
    refine Ro_v (v := (Value.int .u32 x44)) rfl (o_assign rfl rfl) ?_
    refine Ro_nil ?_
    refine Fx_seq (a := c37_50) (b := c37_51) rfl ?_
    refine Fx_text rfl (by kernel_rfl) ?_
    refine Ro_v (v := (Value.int .i64 i_32)) rfl (o_move rfl rfl) ?_
    obtain ⟨x45, hx45, h⟩ := h.lt
    refine Ro_v (v := (Value.int .i64 x45)) rfl (o_add rfl rfl rfl hx45) ?_
    refine Ro_v (v := (Value.int .i64 x45)) rfl (o_assign rfl rfl) ?_
    refine Ro_nil ?_
    refine Fx_seq (a := c37_52) (b := c37_53) rfl ?_
    refine Fx_text rfl (by kernel_rfl) ?_
    refine Ro_v (v := (Value.int .u32 x44)) rfl (o_move rfl rfl) ?_
    refine Ro_v (v := (Value.int .u32 hashss_28)) rfl (o_move rfl rfl) ?_
    obtain ⟨x46, hx46, h⟩ := h.lt
    refine Ro_v (v := (Value.bool x46)) rfl (o_eql rfl rfl rfl hx46) ?_
    refine Ro_v (v := (Value.bool x46)) rfl (o_move rfl rfl) ?_
    refine Ro_set (t := x46) (v := bif x46 then (Value.string s_26) else undef) rfl (w_T rfl rfl rfl) (by intro e; have e0 := e; subst e0; exact o_move rfl rfl) (fun e => ⟨gv_f e, rfl⟩) ?_
    refine Ro_set (t := x46) (v := bif x46 then (Value.int .i64 x45) else undef) rfl (w_T rfl rfl rfl) (by intro e; have e0 := e; subst e0; exact o_move rfl rfl) (fun e => ⟨gv_f e, rfl⟩) ?_
    refine Ro_set (t := x46) (v := bif x46 then (Value.int .i64 n_30) else undef) rfl (w_T rfl rfl rfl) (by intro e; have e0 := e; subst e0; exact o_move rfl rfl) (fun e => ⟨gv_f e, rfl⟩) ?_
    obtain ⟨x47, hx47, h⟩ := h.lt
    refine Ro_set (t := x46) (v := bif x46 then (Value.int .i64 x47) else undef) rfl (w_T rfl rfl rfl) (by intro e; have e0 := e; subst e0; exact o_sub rfl rfl rfl hx47) (fun e => ⟨gv_f e, rfl⟩) ?_
    refine Ro_set (t := x46) (v := bif x46 then (Value.int .i64 x45) else undef) rfl (w_T rfl rfl rfl) (by intro e; have e0 := e; subst e0; exact o_move rfl rfl) (fun e => ⟨gv_f e, rfl⟩) ?_
    obtain ⟨x48, hx48, h⟩ := h.bd
    refine Ro_set (t := x46) (v := bif x46 then (Value.string x48) else undef) rfl (w_T rfl rfl rfl) (by intro e; have e0 := e; subst e0; exact o_slS (some x47) (some x45) rfl tu9 rfl rfl rfl hx48) (fun e => ⟨gv_f e, rfl⟩) ?_
    refine Ro_set (t := x46) (v := bif x46 then (Value.string sep_27) else undef) rfl (w_T rfl rfl rfl) (by intro e; have e0 := e; subst e0; exact o_move rfl rfl) (fun e => ⟨gv_f e, rfl⟩) ?_
    obtain ⟨x49, hx49, h⟩ := h.lt
    refine Ro_set (t := x46) (v := bif x46 then (Value.bool x49) else undef) rfl (w_T rfl rfl rfl) (by intro e; have e0 := e; subst e0; exact o_seql rfl rfl rfl hx49) (fun e => ⟨gv_f e, rfl⟩) ?_
    obtain ⟨x50, hx50, h⟩ := h.lt
    refine Ro_v (v := (Value.bool x50)) rfl (o_pick rfl rfl (by intro e; subst e; subst hx50; rfl) (by intro e; subst e; subst hx50; rfl)) ?_
    refine Ro_nil ?_
    refine Fx_cond (a := c37_54) (b := c37_57) rfl rfl (fun ex50 => ?_) (fun ex50 => ?_)
    · replace h := h.ifT ex50
      refine Fx_seq (a := c37_55) (b := c37_56) rfl ?_
      refine Fx_text rfl (by kernel_rfl) ?_
      refine Ro_v (v := (Value.int .i64 x45)) rfl (o_move rfl rfl) ?_
      refine Ro_v (v := (Value.int .i64 n_30)) rfl (o_move rfl rfl) ?_
      obtain ⟨x51, hx51, h⟩ := h.lt
      refine Ro_v (v := (Value.int .i64 x51)) rfl (o_sub rfl rfl rfl hx51) ?_
      refine Ro_v (v := (Value.int .i64 x51)) rfl (o_assign rfl rfl) ?_
      refine Ro_nil ?_
      exact Fx_ret rfl rfl (congrArg some h.sm)
    · replace h := h.ifF ex50
      refine Fx_skip (c := c37_57) rfl ?_
      refine Fx_blk ?_
      exact Fx_forget (Fr.set_of (Fr.set_of (Fr.set_of (Fr.set_of (Fr.set_of (Fr.set_of (Fr.set_of rfl rfl) rfl) rfl) rfl) rfl) rfl) rfl) (h.sm _)
  · replace h := h.ifF ex35
    refine Fx_exit rfl ?_
    refine Fx_out_code ?_
    refine Fx_out_code ?_
    refine Fx_out_eq ?_
    exact Fx_forget rfl (h.sm _)
theorem w37 (s_2 : ByteArray) (sep_3 : ByteArray) (σ : AHeap) (r : Int) (h : G_bytealg_IndexRabinKarp_string s_2 sep_3 = some r) : callL Tryd.prog 37 [(Value.string s_2), (Value.string sep_3)] σ = some ((Value.int .i64 r), σ) := by
  refine callL_walk (fn := Tryd.f37) (c := c37_0) (rs := rs37) Tryd.func37 rfl ok37 rfl rfl ?_
  obtain ⟨out, ho⟩ : ∃ out, out = ((Value.int .i64 r), σ) := ⟨_, rfl⟩
  rw [← ho]
  replace h : OptW (G_bytealg_IndexRabinKarp_string s_2 sep_3) (fun r => ((Value.int .i64 r), σ) = out) := ⟨r, h, ho.symm⟩
  unfold G_bytealg_IndexRabinKarp_string at h
  refine Fx_seq (a := c37_1) (b := c37_2) rfl ?_
  refine Fx_text rfl (by kernel_rfl) ?_
  refine Ro_v (v := (Value.int .i64 (0))) rfl (o_assign rfl rfl) ?_
  refine Ro_nil ?_
  refine Fx_seq (a := c37_3) (b := c37_4) rfl ?_
  refine Fx_text rfl (by kernel_rfl) ?_
  refine Ro_v (v := (Value.string sep_3)) rfl (o_move rfl rfl) ?_
  obtain ⟨⟨x4, x5⟩, hx4, h⟩ := h.bd
  refine Ro_v (v := (Value.tuple #[(Value.int .u32 x4), (Value.int .u32 x5)])) rfl (o_call (vs := [(Value.string sep_3)]) rfl rfl (w43 _ _ _ hx4)) ?_
  refine Ro_v (v := (Value.tuple #[(Value.int .u32 x4), (Value.int .u32 x5)])) rfl (o_move rfl rfl) ?_
  refine Ro_v (v := (Value.int .u32 x4)) rfl (o_ext rfl rfl rfl) ?_
  refine Ro_v (v := (Value.int .u32 x5)) rfl (o_ext rfl rfl rfl) ?_
  refine Ro_v (v := (Value.int .u32 x4)) rfl (o_assign rfl rfl) ?_
  refine Ro_v (v := (Value.int .u32 x5)) rfl (o_assign rfl rfl) ?_
  refine Ro_nil ?_
  refine Fx_seq (a := c37_5) (b := c37_6) rfl ?_
  refine Fx_text rfl (by kernel_rfl) ?_
  refine Ro_v (v := (Value.string sep_3)) rfl (o_move rfl rfl) ?_
  obtain ⟨x6, hx6, h⟩ := h.lt
  refine Ro_v (v := (Value.int .i64 x6)) rfl (o_lenS rfl tu9 rfl hx6) ?_
  refine Ro_v (v := (Value.int .i64 x6)) rfl (o_assign rfl rfl) ?_
  refine Ro_nil ?_
  refine Fx_seq (a := c37_7) (b := c37_8) rfl ?_
  refine Fx_text rfl (by kernel_rfl) ?_
  refine Ro_v (v := (Value.int .u32 (0))) rfl (o_assign rfl rfl) ?_
  refine Ro_nil ?_
  refine Fx_seq (a := c37_9) (b := c37_23) rfl ?_
  refine Fx_seq (a := c37_10) (b := c37_11) rfl ?_
  refine Fx_text rfl (by kernel_rfl) ?_
  refine Ro_v (v := (Value.int .i64 (0))) rfl (o_assign rfl rfl) ?_
  refine Ro_nil ?_
  refine Fx_block (b := c37_12) rfl ?_
  refine Fx_forget (Fr.set_of (Fr.set_of (Fr.set_of (Fr.set_of (Fr.set_of (Fr.set_of (Fr.set_of rfl rfl) rfl) rfl) rfl) rfl) rfl) rfl) ((OptW.loop h (fun s => C37_l1 s_2 sep_3 x4 x5 x6 σ out (.inl s)) ?_ : C37_l1 s_2 sep_3 x4 x5 x6 σ out (.inl ((0), (0)))) _)
  intro s hs f
  obtain ⟨h_12, i_13⟩ := s
  refine q37_l1 s_2 sep_3 x4 x5 x6 h_12 i_13 σ out f (hs.imp ?_)
  intro r hr
  rcases r with y | b
  · exact hr
  · obtain ⟨h_21, rfl⟩ : ∃ x, x = b := ⟨_, rfl⟩
    have h := hr
    intro f
    refine Fx_seq (a := c37_24) (b := c37_31) rfl ?_
    refine Fx_seq (a := c37_25) (b := c37_26) rfl ?_
    refine Fx_text rfl (by kernel_rfl) ?_
    refine Ro_v (v := (Value.int .u32 h_21)) rfl (o_move rfl rfl) ?_
    refine Ro_v (v := (Value.int .u32 x4)) rfl (o_move rfl rfl) ?_
    obtain ⟨x22, hx22, h⟩ := h.lt
    refine Ro_v (v := (Value.bool x22)) rfl (o_eql rfl rfl rfl hx22) ?_
    refine Ro_v (v := (Value.bool x22)) rfl (o_move rfl rfl) ?_
    refine Ro_set (t := x22) (v := bif x22 then (Value.string s_2) else undef) rfl (w_T rfl rfl rfl) (by intro e; have e0 := e; subst e0; exact o_move rfl rfl) (fun e => ⟨gv_f e, rfl⟩) ?_
    refine Ro_set (t := x22) (v := bif x22 then (Value.int .i64 x6) else undef) rfl (w_T rfl rfl rfl) (by intro e; have e0 := e; subst e0; exact o_move rfl rfl) (fun e => ⟨gv_f e, rfl⟩) ?_
    obtain ⟨x23, hx23, h⟩ := h.bd
    refine Ro_set (t := x22) (v := bif x22 then (Value.string x23) else undef) rfl (w_T rfl rfl rfl) (by intro e; have e0 := e; subst e0; exact o_slS none (some x6) rfl tu9 rfl rfl rfl hx23) (fun e => ⟨gv_f e, rfl⟩) ?_
    refine Ro_set (t := x22) (v := bif x22 then (Value.string sep_3) else undef) rfl (w_T rfl rfl rfl) (by intro e; have e0 := e; subst e0; exact o_move rfl rfl) (fun e => ⟨gv_f e, rfl⟩) ?_
    obtain ⟨x24, hx24, h⟩ := h.lt
    refine Ro_set (t := x22) (v := bif x22 then (Value.bool x24) else undef) rfl (w_T rfl rfl rfl) (by intro e; have e0 := e; subst e0; exact o_seql rfl rfl rfl hx24) (fun e => ⟨gv_f e, rfl⟩) ?_
    obtain ⟨x25, hx25, h⟩ := h.lt
    refine Ro_v (v := (Value.bool x25)) rfl (o_pick rfl rfl (by intro e; subst e; subst hx25; rfl) (by intro e; subst e; subst hx25; rfl)) ?_
    refine Ro_nil ?_
    refine Fx_cond (a := c37_27) (b := c37_30) rfl rfl (fun ex25 => ?_) (fun ex25 => ?_)
    · replace h := h.ifT ex25
      refine Fx_seq (a := c37_28) (b := c37_29) rfl ?_
      refine Fx_text rfl (by kernel_rfl) ?_
      refine Ro_v (v := (Value.int .i64 (0))) rfl (o_assign rfl rfl) ?_
      refine Ro_nil ?_
      exact Fx_ret rfl rfl (congrArg some h.sm)
    · replace h := h.ifF ex25
      refine Fx_skip (c := c37_30) rfl ?_
      refine Fx_seq (a := c37_32) (b := c37_58) rfl ?_
      refine Fx_seq (a := c37_33) (b := c37_34) rfl ?_
      refine Fx_text rfl (by kernel_rfl) ?_
      refine Ro_v (v := (Value.int .i64 x6)) rfl (o_move rfl rfl) ?_
      refine Ro_v (v := (Value.int .i64 x6)) rfl (o_assign rfl rfl) ?_
      refine Ro_nil ?_
      refine Fx_block (b := c37_35) rfl ?_
      refine Fx_forget (Fr.set_of (Fr.set_of (Fr.set_of (Fr.set_of (Fr.set_of (Fr.set_of (Fr.set_of rfl rfl) rfl) rfl) rfl) rfl) rfl) rfl) ((OptW.loop h (fun s => C37_l2 s_2 sep_3 x4 x5 x6 σ out (.inl s)) ?_ : C37_l2 s_2 sep_3 x4 x5 x6 σ out (.inl (h_21, x6))) _)
      intro s hs f
      obtain ⟨h_31, i_32⟩ := s
      refine q37_l2 s_2 sep_3 x4 x5 x6 h_31 i_32 σ out f (hs.imp ?_)
      intro r hr
      rcases r with y | b
      · exact hr
      · rcases b with b | b
        · have h := hr
          intro f
          refine Fx_seq (a := c37_59) (b := c37_60) rfl ?_
          refine Fx_text rfl (by kernel_rfl) ?_
          refine Ro_v (v := (Value.int .i64 (-1))) rfl (o_assign rfl rfl) ?_
          refine Ro_nil ?_
          exact Fx_ret rfl rfl (congrArg some h.sm)
        · obtain ⟨x52, rfl⟩ : ∃ x, x = b := ⟨_, rfl⟩
          have h := hr
          exact h.sm
noncomputable def c32_0 : Code := bodyOf Tryd.f32
noncomputable def c32_1 : Code := cl c32_0
noncomputable def c32_2 : Code := cr c32_0
noncomputable def c32_3 : Code := cl c32_2
noncomputable def c32_4 : Code := cr c32_2
noncomputable def c32_5 : Code := cl c32_4
noncomputable def c32_6 : Code := cl c32_5
noncomputable def c32_7 : Code := cl c32_6
noncomputable def c32_8 : Code := cr c32_6
noncomputable def c32_9 : Code := cl c32_8
noncomputable def c32_10 : Code := cl c32_9
noncomputable def c32_11 : Code := cr c32_9
noncomputable def c32_12 : Code := cr c32_8
noncomputable def c32_13 : Code := cl c32_12
noncomputable def c32_14 : Code := cr c32_12
noncomputable def c32_15 : Code := cl c32_14
noncomputable def c32_16 : Code := cl c32_15
noncomputable def c32_17 : Code := cr c32_15
noncomputable def c32_18 : Code := cr c32_14
noncomputable def c32_19 : Code := cl c32_18
noncomputable def c32_20 : Code := cr c32_18
noncomputable def c32_21 : Code := cl c32_20
noncomputable def c32_22 : Code := cl c32_21
noncomputable def c32_23 : Code := cr c32_21
noncomputable def c32_24 : Code := cr c32_20
noncomputable def c32_25 : Code := cl c32_24
noncomputable def c32_26 : Code := cr c32_24
noncomputable def c32_27 : Code := cl c32_26
noncomputable def c32_28 : Code := cl c32_27
noncomputable def c32_29 : Code := cr c32_27
noncomputable def c32_30 : Code := cr c32_26
noncomputable def c32_31 : Code := cr c32_4
noncomputable def c32_32 : Code := cl c32_31
noncomputable def c32_33 : Code := cr c32_31
noncomputable def c32_34 : Code := cl c32_33
noncomputable def c32_35 : Code := cr c32_33
noncomputable def c32_36 : Code := cl c32_35
noncomputable def c32_37 : Code := cr c32_35
noncomputable def c32_38 : Code := cl c32_37
noncomputable def c32_39 : Code := cr c32_37
noncomputable def c32_40 : Code := cl c32_39
noncomputable def c32_41 : Code := cr c32_39
noncomputable def c32_42 : Code := cl c32_41
noncomputable def c32_43 : Code := cl c32_42
noncomputable def c32_44 : Code := cl c32_43
noncomputable def c32_45 : Code := cl c32_44
noncomputable def c32_46 : Code := cl c32_45
noncomputable def c32_47 : Code := cr c32_45
noncomputable def c32_48 : Code := cl c32_47
noncomputable def c32_49 : Code := cr c32_47
noncomputable def c32_50 : Code := cr c32_44
noncomputable def c32_51 : Code := cl c32_50
noncomputable def c32_52 : Code := cl c32_51
noncomputable def c32_53 : Code := cl c32_52
noncomputable def c32_54 : Code := cr c32_52
noncomputable def c32_55 : Code := cl c32_54
noncomputable def c32_56 : Code := cl c32_55
noncomputable def c32_57 : Code := cr c32_55
noncomputable def c32_58 : Code := cl c32_57
noncomputable def c32_59 : Code := cl c32_58
noncomputable def c32_60 : Code := cr c32_58
noncomputable def c32_61 : Code := cl c32_60
noncomputable def c32_62 : Code := cl c32_61
noncomputable def c32_63 : Code := cr c32_61
noncomputable def c32_64 : Code := cr c32_60
noncomputable def c32_65 : Code := cr c32_57
noncomputable def c32_66 : Code := cr c32_54
noncomputable def c32_67 : Code := cr c32_51
noncomputable def c32_68 : Code := cl c32_67
noncomputable def c32_69 : Code := cl c32_68
noncomputable def c32_70 : Code := cr c32_68
noncomputable def c32_71 : Code := cl c32_70
noncomputable def c32_72 : Code := cl c32_71
noncomputable def c32_73 : Code := cr c32_71
noncomputable def c32_74 : Code := cr c32_70
noncomputable def c32_75 : Code := cr c32_67
noncomputable def c32_76 : Code := cl c32_75
noncomputable def c32_77 : Code := cr c32_75
noncomputable def c32_78 : Code := cl c32_77
noncomputable def c32_79 : Code := cr c32_77
noncomputable def c32_80 : Code := cl c32_79
noncomputable def c32_81 : Code := cr c32_79
noncomputable def c32_82 : Code := cl c32_81
noncomputable def c32_83 : Code := cl c32_82
noncomputable def c32_84 : Code := cr c32_82
noncomputable def c32_85 : Code := cl c32_84
noncomputable def c32_86 : Code := cl c32_85
noncomputable def c32_87 : Code := cr c32_85
noncomputable def c32_88 : Code := cl c32_87
noncomputable def c32_89 : Code := cl c32_88
noncomputable def c32_90 : Code := cr c32_88
noncomputable def c32_91 : Code := cr c32_87
noncomputable def c32_92 : Code := cr c32_84
noncomputable def c32_93 : Code := cl c32_92
noncomputable def c32_94 : Code := cr c32_92
noncomputable def c32_95 : Code := cr c32_81
noncomputable def c32_96 : Code := cl c32_95
noncomputable def c32_97 : Code := cr c32_95
noncomputable def c32_98 : Code := cl c32_97
noncomputable def c32_99 : Code := cl c32_98
noncomputable def c32_100 : Code := cr c32_98
noncomputable def c32_101 : Code := cl c32_100
noncomputable def c32_102 : Code := cl c32_101
noncomputable def c32_103 : Code := cr c32_101
noncomputable def c32_104 : Code := cl c32_103
noncomputable def c32_105 : Code := cl c32_104
noncomputable def c32_106 : Code := cr c32_104
noncomputable def c32_107 : Code := cr c32_103
noncomputable def c32_108 : Code := cr c32_100
noncomputable def c32_109 : Code := cl c32_108
noncomputable def c32_110 : Code := cr c32_108
noncomputable def c32_111 : Code := cr c32_97
noncomputable def c32_112 : Code := cr c32_41
noncomputable def c32_113 : Code := cl c32_112
noncomputable def c32_114 : Code := cr c32_112
theorem ok32 : funcOk Tryd.f32 = true := by kernel_rfl
noncomputable def rs32 : List ResultVar := resultsOf Tryd.f32
theorem w32 (s_2 : ByteArray) (substr_3 : ByteArray) (σ : AHeap) (r : Int) (h : G_stringslite_Index s_2 substr_3 σ = some r) : callL Tryd.prog 32 [(Value.string s_2), (Value.string substr_3)] σ = some ((Value.int .i64 r), σ) := by
  refine callL_walk (fn := Tryd.f32) (c := c32_0) (rs := rs32) Tryd.func32 rfl ok32 rfl rfl ?_
  obtain ⟨out, ho⟩ : ∃ out, out = ((Value.int .i64 r), σ) := ⟨_, rfl⟩
  rw [← ho]
  replace h : OptW (G_stringslite_Index s_2 substr_3 σ) (fun r => ((Value.int .i64 r), σ) = out) := ⟨r, h, ho.symm⟩
  unfold G_stringslite_Index at h
  refine Fx_seq (a := c32_1) (b := c32_2) rfl ?_
  refine Fx_text rfl (by kernel_rfl) ?_
  refine Ro_v (v := (Value.int .i64 (0))) rfl (o_assign rfl rfl) ?_
  refine Ro_nil ?_
  refine Fx_seq (a := c32_3) (b := c32_4) rfl ?_
  refine Fx_text rfl (by kernel_rfl) ?_
  refine Ro_v (v := (Value.string substr_3)) rfl (o_move rfl rfl) ?_
  obtain ⟨x4, hx4, h⟩ := h.lt
  refine Ro_v (v := (Value.int .i64 x4)) rfl (o_lenS rfl tu9 rfl hx4) ?_
  refine Ro_v (v := (Value.int .i64 x4)) rfl (o_assign rfl rfl) ?_
  refine Ro_nil ?_
  refine Fx_seq (a := c32_5) (b := c32_31) rfl ?_
  refine Fx_block (b := c32_6) rfl ?_
  refine Fx_seq (a := c32_7) (b := c32_8) rfl ?_
  refine Fx_text rfl (by kernel_rfl) ?_
  refine Ro_v (v := (Value.int .i64 x4)) rfl (o_move rfl rfl) ?_
  obtain ⟨x5, hx5, h⟩ := h.lt
  refine Ro_v (v := (Value.bool x5)) rfl (o_eql rfl rfl rfl hx5) ?_
  refine Ro_v (v := (Value.bool x5)) rfl (o_move rfl rfl) ?_
  refine Ro_set (t := !x5) (v := bif !x5 then (Value.string substr_3) else undef) rfl (w_F rfl rfl rfl) (by intro e; have e0 := not_t (e); subst e0; exact o_move rfl rfl) (fun e => ⟨gv_f e, rfl⟩) ?_
  refine Ro_set (t := !x5) (v := bif !x5 then (Value.string s_2) else undef) rfl (w_F rfl rfl rfl) (by intro e; have e0 := not_t (e); subst e0; exact o_move rfl rfl) (fun e => ⟨gv_f e, rfl⟩) ?_
  obtain ⟨x6, hx6, h⟩ := h.lt
  refine Ro_set (t := !x5) (v := bif !x5 then (Value.bool x6) else undef) rfl (w_F rfl rfl rfl) (by intro e; have e0 := not_t (e); subst e0; exact o_seql rfl rfl rfl hx6) (fun e => ⟨gv_f e, rfl⟩) ?_
  obtain ⟨x7, hx7, h⟩ := h.lt
  refine Ro_v (v := (Value.bool x7)) rfl (o_pick rfl rfl (by intro e; subst e; subst hx7; rfl) (by intro e; subst e; subst hx7; rfl)) ?_
  refine Ro_v (v := (Value.bool x7)) rfl (o_assign rfl rfl) ?_
  refine Ro_nil ?_
  refine Fx_cond (a := c32_9) (b := c32_12) rfl rfl (fun ex7 => ?_) (fun ex7 => ?_)
  · replace h := h.ifT ex7
    refine Fx_seq (a := c32_10) (b := c32_11) rfl ?_
    refine Fx_text rfl (by kernel_rfl) ?_
    refine Ro_v (v := (Value.int .i64 (0))) rfl (o_assign rfl rfl) ?_
    refine Ro_nil ?_
    exact Fx_ret rfl rfl (congrArg some h.sm)
  · replace h := h.ifF ex7
    refine Fx_seq (a := c32_13) (b := c32_14) rfl ?_
    refine Fx_text rfl (by kernel_rfl) ?_
    refine Ro_v (v := (Value.int .i64 x4)) rfl (o_move rfl rfl) ?_
    obtain ⟨x8, hx8, h⟩ := h.lt
    refine Ro_v (v := (Value.bool x8)) rfl (o_eql rfl rfl rfl hx8) ?_
    refine Ro_v (v := (Value.bool x8)) rfl (o_assign rfl rfl) ?_
    refine Ro_nil ?_
    refine Fx_cond (a := c32_15) (b := c32_18) rfl rfl (fun ex8 => ?_) (fun ex8 => ?_)
    · replace h := h.ifT ex8
      refine Fx_seq (a := c32_16) (b := c32_17) rfl ?_
      refine Fx_text rfl (by kernel_rfl) ?_
      refine Ro_v (v := (Value.string s_2)) rfl (o_move rfl rfl) ?_
      refine Ro_v (v := (Value.string substr_3)) rfl (o_move rfl rfl) ?_
      obtain ⟨x9, hx9, h⟩ := h.bd
      refine Ro_v (v := (Value.int .u8 x9)) rfl (o_idxS rfl tu9 rfl rfl hx9) ?_
      obtain ⟨x10, hx10, h⟩ := h.bd
      refine Ro_v (v := (Value.int .i64 x10)) rfl (o_call (vs := [(Value.string s_2), (Value.int .u8 x9)]) rfl rfl (w34 _ _ _ _ hx10)) ?_
      refine Ro_v (v := (Value.int .i64 x10)) rfl (o_assign rfl rfl) ?_
      refine Ro_nil ?_
      exact Fx_ret rfl rfl (congrArg some h.sm)
    · replace h := h.ifF ex8
      refine Fx_seq (a := c32_19) (b := c32_20) rfl ?_
      refine Fx_text rfl (by kernel_rfl) ?_
      refine Ro_v (v := (Value.int .i64 x4)) rfl (o_move rfl rfl) ?_
      refine Ro_v (v := (Value.string s_2)) rfl (o_move rfl rfl) ?_
      obtain ⟨x11, hx11, h⟩ := h.lt
      refine Ro_v (v := (Value.int .i64 x11)) rfl (o_lenS rfl tu9 rfl hx11) ?_
      obtain ⟨x12, hx12, h⟩ := h.lt
      refine Ro_v (v := (Value.bool x12)) rfl (o_geq rfl rfl rfl hx12) ?_
      refine Ro_v (v := (Value.bool x12)) rfl (o_assign rfl rfl) ?_
      refine Ro_nil ?_
      refine Fx_cond (a := c32_21) (b := c32_24) rfl rfl (fun ex12 => ?_) (fun ex12 => ?_)
      · replace h := h.ifT ex12
        refine Fx_seq (a := c32_22) (b := c32_23) rfl ?_
        refine Fx_text rfl (by kernel_rfl) ?_
        refine Ro_v (v := (Value.int .i64 (-1))) rfl (o_assign rfl rfl) ?_
        refine Ro_nil ?_
        exact Fx_ret rfl rfl (congrArg some h.sm)
      · replace h := h.ifF ex12
        exact h.nn.elim
noncomputable def c30_0 : Code := bodyOf Tryd.f30
noncomputable def c30_1 : Code := cl c30_0
noncomputable def c30_2 : Code := cr c30_0
noncomputable def c30_3 : Code := cl c30_2
noncomputable def c30_4 : Code := cl c30_3
noncomputable def c30_5 : Code := cr c30_3
noncomputable def c30_6 : Code := cl c30_5
noncomputable def c30_7 : Code := cr c30_5
noncomputable def c30_8 : Code := cl c30_7
noncomputable def c30_9 : Code := cl c30_8
noncomputable def c30_10 : Code := cr c30_8
noncomputable def c30_11 : Code := cr c30_7
noncomputable def c30_12 : Code := cr c30_2
noncomputable def c30_13 : Code := cl c30_12
noncomputable def c30_14 : Code := cr c30_12
theorem ok30 : funcOk Tryd.f30 = true := by kernel_rfl
noncomputable def rs30 : List ResultVar := resultsOf Tryd.f30
theorem w30 (s_4 : ByteArray) (sep_5 : ByteArray) (σ : AHeap) (r : (ByteArray × ByteArray × Bool)) (h : G_stringslite_Cut s_4 sep_5 σ = some r) : callL Tryd.prog 30 [(Value.string s_4), (Value.string sep_5)] σ = some ((Value.tuple #[(Value.string r.1), (Value.string r.2.1), (Value.bool r.2.2)]), σ) := by
  refine callL_walk (fn := Tryd.f30) (c := c30_0) (rs := rs30) Tryd.func30 rfl ok30 rfl rfl ?_
  obtain ⟨out, ho⟩ : ∃ out, out = ((Value.tuple #[(Value.string r.1), (Value.string r.2.1), (Value.bool r.2.2)]), σ) := ⟨_, rfl⟩
  rw [← ho]
  replace h : OptW (G_stringslite_Cut s_4 sep_5 σ) (fun r => ((Value.tuple #[(Value.string r.1), (Value.string r.2.1), (Value.bool r.2.2)]), σ) = out) := ⟨r, h, ho.symm⟩
  unfold G_stringslite_Cut at h
  refine Fx_seq (a := c30_1) (b := c30_2) rfl ?_
  refine Fx_text rfl (by kernel_rfl) ?_
  refine Ro_v (v := (Value.string (⟨#[]⟩ : ByteArray))) rfl (o_assign rfl rfl) ?_
  refine Ro_v (v := (Value.string (⟨#[]⟩ : ByteArray))) rfl (o_assign rfl rfl) ?_
  refine Ro_v (v := (Value.bool false)) rfl (o_assign rfl rfl) ?_
  refine Ro_nil ?_
  refine Fx_seq (a := c30_3) (b := c30_12) rfl ?_
  refine Fx_seq (a := c30_4) (b := c30_5) rfl ?_
  refine Fx_text rfl (by kernel_rfl) ?_
  refine Ro_v (v := (Value.string s_4)) rfl (o_move rfl rfl) ?_
  refine Ro_v (v := (Value.string sep_5)) rfl (o_move rfl rfl) ?_
  obtain ⟨x6, hx6, h⟩ := h.bd
  refine Ro_v (v := (Value.int .i64 x6)) rfl (o_call (vs := [(Value.string s_4), (Value.string sep_5)]) rfl rfl (w32 _ _ _ _ hx6)) ?_
  refine Ro_v (v := (Value.int .i64 x6)) rfl (o_assign rfl rfl) ?_
  refine Ro_nil ?_
  refine Fx_seq (a := c30_6) (b := c30_7) rfl ?_
  refine Fx_text rfl (by kernel_rfl) ?_
  refine Ro_v (v := (Value.int .i64 x6)) rfl (o_move rfl rfl) ?_
  obtain ⟨x7, hx7, h⟩ := h.lt
  refine Ro_v (v := (Value.bool x7)) rfl (o_geq rfl rfl rfl hx7) ?_
  refine Ro_nil ?_
  refine Fx_cond (a := c30_8) (b := c30_11) rfl rfl (fun ex7 => ?_) (fun ex7 => ?_)
  · replace h := h.ifT ex7
    refine Fx_seq (a := c30_9) (b := c30_10) rfl ?_
    refine Fx_draw (ops := opsIn c30_9) (l := [(opA (opsIn c30_9) 0, 0), (opA (opsIn c30_9) 1, 1), (opA (opsIn c30_9) 2, 2), (opA (opsIn c30_9) 3, 3), (opA (opsIn c30_9) 4, 4), (opA (opsIn c30_9) 5, 5), (opA (opsIn c30_9) 6, 6), (opA (opsIn c30_9) 7, 7), (opA (opsIn c30_9) 8, 8), (opA (opsIn c30_9) 9, 9), (opA (opsIn c30_9) 10, 10), (opA (opsIn c30_9) 11, 11)]) rfl (by kernel_rfl) (by kernel_rfl) (by kernel_rfl) ?_
    refine Rd_v (v := (Value.string s_4)) (ps' := []) rfl (o_move rfl rfl) (reads_no rfl) rfl ?_
    refine Rd_v (v := (Value.int .i64 x6)) (ps' := []) rfl (o_move rfl rfl) (reads_no rfl) rfl ?_
    obtain ⟨x8, hx8, h⟩ := h.bd
    refine Rd_v (v := (Value.string x8)) (ps' := []) rfl (o_slS none (some x6) rfl tu9 rfl rfl rfl hx8) reads_nil rfl ?_
    refine Rd_v (v := (Value.string s_4)) (ps' := []) rfl (o_move rfl rfl) (reads_no rfl) rfl ?_
    refine Rd_v (v := (Value.int .i64 x6)) (ps' := []) rfl (o_move rfl rfl) (reads_no rfl) rfl ?_
    refine Rd_v (v := (Value.string sep_5)) (ps' := []) rfl (o_move rfl rfl) (reads_no rfl) rfl ?_
    obtain ⟨x9, hx9, h⟩ := h.lt
    refine Rd_v (v := (Value.int .i64 x9)) (ps' := []) rfl (o_lenS rfl tu9 rfl hx9) reads_nil rfl ?_
    obtain ⟨x10, hx10, h⟩ := h.lt
    refine Rd_v (v := (Value.int .i64 x10)) (ps' := []) rfl (o_add rfl rfl rfl hx10) (reads_no rfl) rfl ?_
    obtain ⟨x11, hx11, h⟩ := h.bd
    refine Rd_v (v := (Value.string x11)) (ps' := []) rfl (o_slS (some x10) none rfl tu9 rfl rfl rfl hx11) reads_nil rfl ?_
    refine Rd_v (v := (Value.string x8)) (ps' := []) rfl (o_assign rfl rfl) (reads_no rfl) rfl ?_
    refine Rd_v (v := (Value.string x11)) (ps' := []) rfl (o_assign rfl rfl) (reads_no rfl) rfl ?_
    refine Rd_v (v := (Value.bool true)) (ps' := []) rfl (o_assign rfl rfl) (reads_no rfl) rfl ?_
    refine Rd_nil ?_
    exact Fx_ret rfl rfl (congrArg some h.sm)
  · replace h := h.ifF ex7
    refine Fx_skip (c := c30_11) rfl ?_
    refine Fx_seq (a := c30_13) (b := c30_14) rfl ?_
    refine Fx_text rfl (by kernel_rfl) ?_
    refine Ro_v (v := (Value.string s_4)) rfl (o_move rfl rfl) ?_
    refine Ro_v (v := (Value.string s_4)) rfl (o_assign rfl rfl) ?_
    refine Ro_v (v := (Value.string (⟨#[]⟩ : ByteArray))) rfl (o_assign rfl rfl) ?_
    refine Ro_v (v := (Value.bool false)) rfl (o_assign rfl rfl) ?_
    refine Ro_nil ?_
    exact Fx_ret rfl rfl (congrArg some h.sm)
noncomputable def c25_0 : Code := bodyOf Tryd.f25
noncomputable def c25_1 : Code := cl c25_0
noncomputable def c25_2 : Code := cr c25_0
noncomputable def c25_3 : Code := cl c25_2
noncomputable def c25_4 : Code := cr c25_2
theorem ok25 : funcOk Tryd.f25 = true := by kernel_rfl
noncomputable def rs25 : List ResultVar := resultsOf Tryd.f25
theorem w25 (s_4 : ByteArray) (sep_5 : ByteArray) (σ : AHeap) (r : (ByteArray × ByteArray × Bool)) (h : G_strings_Cut s_4 sep_5 σ = some r) : callL Tryd.prog 25 [(Value.string s_4), (Value.string sep_5)] σ = some ((Value.tuple #[(Value.string r.1), (Value.string r.2.1), (Value.bool r.2.2)]), σ) := by
  refine callL_walk (fn := Tryd.f25) (c := c25_0) (rs := rs25) Tryd.func25 rfl ok25 rfl rfl ?_
  obtain ⟨out, ho⟩ : ∃ out, out = ((Value.tuple #[(Value.string r.1), (Value.string r.2.1), (Value.bool r.2.2)]), σ) := ⟨_, rfl⟩
  rw [← ho]
  replace h : OptW (G_strings_Cut s_4 sep_5 σ) (fun r => ((Value.tuple #[(Value.string r.1), (Value.string r.2.1), (Value.bool r.2.2)]), σ) = out) := ⟨r, h, ho.symm⟩
  unfold G_strings_Cut at h
  refine Fx_seq (a := c25_1) (b := c25_2) rfl ?_
  refine Fx_text rfl (by kernel_rfl) ?_
  refine Ro_v (v := (Value.string (⟨#[]⟩ : ByteArray))) rfl (o_assign rfl rfl) ?_
  refine Ro_v (v := (Value.string (⟨#[]⟩ : ByteArray))) rfl (o_assign rfl rfl) ?_
  refine Ro_v (v := (Value.bool false)) rfl (o_assign rfl rfl) ?_
  refine Ro_nil ?_
  refine Fx_seq (a := c25_3) (b := c25_4) rfl ?_
  refine Fx_text rfl (by kernel_rfl) ?_
  refine Ro_v (v := (Value.string s_4)) rfl (o_move rfl rfl) ?_
  refine Ro_v (v := (Value.string sep_5)) rfl (o_move rfl rfl) ?_
  obtain ⟨⟨x6, x7, x8⟩, hx6, h⟩ := h.bd
  refine Ro_v (v := (Value.tuple #[(Value.string x6), (Value.string x7), (Value.bool x8)])) rfl (o_call (vs := [(Value.string s_4), (Value.string sep_5)]) rfl rfl (w30 _ _ _ _ hx6)) ?_
  refine Ro_v (v := (Value.string x6)) rfl (o_ext rfl rfl rfl) ?_
  refine Ro_v (v := (Value.string x7)) rfl (o_ext rfl rfl rfl) ?_
  refine Ro_v (v := (Value.bool x8)) rfl (o_ext rfl rfl rfl) ?_
  refine Ro_v (v := (Value.string x6)) rfl (o_assign rfl rfl) ?_
  refine Ro_v (v := (Value.string x7)) rfl (o_assign rfl rfl) ?_
  refine Ro_v (v := (Value.bool x8)) rfl (o_assign rfl rfl) ?_
  refine Ro_nil ?_
  exact Fx_ret rfl rfl (congrArg some h.sm)
noncomputable def c26_0 : Code := bodyOf Tryd.f26
noncomputable def c26_1 : Code := cl c26_0
noncomputable def c26_2 : Code := cr c26_0
noncomputable def c26_3 : Code := cl c26_2
noncomputable def c26_4 : Code := cl c26_3
noncomputable def c26_5 : Code := cr c26_3
noncomputable def c26_6 : Code := cl c26_5
noncomputable def c26_7 : Code := cl c26_6
noncomputable def c26_8 : Code := cr c26_6
noncomputable def c26_9 : Code := cr c26_5
noncomputable def c26_10 : Code := cr c26_2
noncomputable def c26_11 : Code := cl c26_10
noncomputable def c26_12 : Code := cr c26_10
noncomputable def c26_13 : Code := cl c26_12
noncomputable def c26_14 : Code := cl c26_13
noncomputable def c26_15 : Code := cr c26_13
noncomputable def c26_16 : Code := cl c26_15
noncomputable def c26_17 : Code := cl c26_16
noncomputable def c26_18 : Code := cl c26_17
noncomputable def c26_19 : Code := cl c26_18
noncomputable def c26_20 : Code := cr c26_18
noncomputable def c26_21 : Code := cl c26_20
noncomputable def c26_22 : Code := cr c26_20
noncomputable def c26_23 : Code := cr c26_17
noncomputable def c26_24 : Code := cl c26_23
noncomputable def c26_25 : Code := cl c26_24
noncomputable def c26_26 : Code := cl c26_25
noncomputable def c26_27 : Code := cl c26_26
noncomputable def c26_28 : Code := cr c26_26
noncomputable def c26_29 : Code := cl c26_28
noncomputable def c26_30 : Code := cl c26_29
noncomputable def c26_31 : Code := cr c26_29
noncomputable def c26_32 : Code := cr c26_28
noncomputable def c26_33 : Code := cr c26_25
noncomputable def c26_34 : Code := cr c26_23
noncomputable def c26_35 : Code := cr c26_12
noncomputable def c26_36 : Code := cl c26_35
noncomputable def c26_37 : Code := cr c26_35
theorem ok26 : funcOk Tryd.f26 = true := by kernel_rfl
noncomputable def rs26 : List ResultVar := resultsOf Tryd.f26
noncomputable def C26_l1 (s_11 : ByteArray) (σ : AHeap) (out : Value × AHeap) : (Int × Int) ⊕ (Int ⊕ (Int × Bool)) → Prop
  | .inl (n_12, i_13) => ∀ f, Fx Tryd.prog rs26 [.code c26_16, .blk 0, .code c26_35] .normal (Fr.set (Fr.set (Fr.set f 0 (Value.string s_11)) 4 (Value.int .i64 n_12)) 5 (Value.int .i64 i_13)) σ = some out
  | .inr (.inl n_14) => ∀ f, Fx Tryd.prog rs26 [.code c26_35] .normal (Fr.set f 4 (Value.int .i64 n_14)) σ = some out
  | .inr (.inr (x15, x16)) => ((Value.tuple #[(Value.int .i64 x15), (Value.bool x16)]), σ) = out
theorem q26_l1 (s_11 : ByteArray) (n_12 : Int) (i_13 : Int) (σ : AHeap) (out : Value × AHeap) (f : Fr) (h : OptW (G_ident_number_l1 s_11 (n_12, i_13)) (C26_l1 s_11 σ out)) :
    Fx Tryd.prog rs26 [.code c26_16, .blk 0, .code c26_35] .normal (Fr.set (Fr.set (Fr.set f 0 (Value.string s_11)) 4 (Value.int .i64 n_12)) 5 (Value.int .i64 i_13)) σ = some out := by
  unfold G_ident_number_l1 at h
  refine Fx_loop (b := c26_17) rfl ?_
  refine Fx_seq (a := c26_18) (b := c26_23) rfl ?_
  refine Fx_seq (a := c26_19) (b := c26_20) rfl ?_
  refine Fx_text rfl (by kernel_rfl) ?_
  refine Ro_v (v := (Value.int .i64 i_13)) rfl (o_move rfl rfl) ?_
  refine Ro_v (v := (Value.string s_11)) rfl (o_move rfl rfl) ?_
  obtain ⟨x17, hx17, h⟩ := h.lt
  refine Ro_v (v := (Value.int .i64 x17)) rfl (o_lenS rfl tu9 rfl hx17) ?_
  obtain ⟨x18, hx18, h⟩ := h.lt
  refine Ro_v (v := (Value.bool x18)) rfl (o_lss rfl rfl rfl hx18) ?_
  refine Ro_nil ?_
  refine Fx_cond (a := c26_21) (b := c26_22) rfl rfl (fun ex18 => ?_) (fun ex18 => ?_)
  · replace h := h.ifT ex18
    refine Fx_skip (c := c26_21) rfl ?_
    refine Fx_seq (a := c26_24) (b := c26_34) rfl ?_
    refine Fx_block (b := c26_25) rfl ?_
    refine Fx_seq (a := c26_26) (b := c26_33) rfl ?_
    refine Fx_seq (a := c26_27) (b := c26_28) rfl ?_
    refine Fx_text rfl (by kernel_rfl) ?_
    refine Ro_v (v := (Value.string s_11)) rfl (o_move rfl rfl) ?_
    refine Ro_v (v := (Value.int .i64 i_13)) rfl (o_move rfl rfl) ?_
    obtain ⟨x19, hx19, h⟩ := h.bd
    refine Ro_v (v := (Value.int .u8 x19)) rfl (o_idxS rfl tu9 rfl rfl hx19) ?_
    obtain ⟨x20, hx20, h⟩ := h.lt
    refine Ro_v (v := (Value.bool x20)) rfl (o_lss rfl rfl rfl hx20) ?_
    refine Ro_v (v := (Value.bool x20)) rfl (o_move rfl rfl) ?_
    refine Ro_set (t := !x20) (v := bif !x20 then (Value.string s_11) else undef) rfl (w_F rfl rfl rfl) (by intro e; have e0 := not_t (e); subst e0; exact o_move rfl rfl) (fun e => ⟨gv_f e, rfl⟩) ?_
    refine Ro_set (t := !x20) (v := bif !x20 then (Value.int .i64 i_13) else undef) rfl (w_F rfl rfl rfl) (by intro e; have e0 := not_t (e); subst e0; exact o_move rfl rfl) (fun e => ⟨gv_f e, rfl⟩) ?_
    obtain ⟨x21, hx21, h⟩ := h.bd
    refine Ro_set (t := !x20) (v := bif !x20 then (Value.int .u8 x21) else undef) rfl (w_F rfl rfl rfl) (by intro e; have e0 := not_t (e); subst e0; exact o_idxS rfl tu9 rfl rfl hx21) (fun e => ⟨gv_f e, rfl⟩) ?_
    obtain ⟨x22, hx22, h⟩ := h.lt
    refine Ro_set (t := !x20) (v := bif !x20 then (Value.bool x22) else undef) rfl (w_F rfl rfl rfl) (by intro e; have e0 := not_t (e); subst e0; exact o_gtr rfl rfl rfl hx22) (fun e => ⟨gv_f e, rfl⟩) ?_
    obtain ⟨x23, hx23, h⟩ := h.lt
    refine Ro_v (v := (Value.bool x23)) rfl (o_pick rfl rfl (by intro e; subst e; subst hx23; rfl) (by intro e; subst e; subst hx23; rfl)) ?_
    refine Ro_nil ?_
    refine Fx_cond (a := c26_29) (b := c26_32) rfl rfl (fun ex23 => ?_) (fun ex23 => ?_)
    · replace h := h.ifT ex23
      refine Fx_seq (a := c26_30) (b := c26_31) rfl ?_
      refine Fx_text rfl (by kernel_rfl) ?_
      refine Ro_v (v := (Value.int .i64 (0))) rfl (o_assign rfl rfl) ?_
      refine Ro_v (v := (Value.bool false)) rfl (o_assign rfl rfl) ?_
      refine Ro_nil ?_
      exact Fx_ret rfl rfl (congrArg some h.sm)
    · replace h := h.ifF ex23
      refine Fx_skip (c := c26_32) rfl ?_
      refine Fx_text rfl (by kernel_rfl) ?_
      refine Ro_v (v := (Value.int .i64 n_12)) rfl (o_move rfl rfl) ?_
      obtain ⟨x24, hx24, h⟩ := h.lt
      refine Ro_v (v := (Value.int .i64 x24)) rfl (o_mul rfl rfl rfl hx24) ?_
      refine Ro_v (v := (Value.string s_11)) rfl (o_move rfl rfl) ?_
      refine Ro_v (v := (Value.int .i64 i_13)) rfl (o_move rfl rfl) ?_
      obtain ⟨x25, hx25, h⟩ := h.bd
      refine Ro_v (v := (Value.int .u8 x25)) rfl (o_idxS rfl tu9 rfl rfl hx25) ?_
      obtain ⟨x26, hx26, h⟩ := h.lt
      refine Ro_v (v := (Value.int .u8 x26)) rfl (o_sub rfl rfl rfl hx26) ?_
      obtain ⟨x27, hx27, h⟩ := h.lt
      refine Ro_v (v := (Value.int .i64 x27)) rfl (o_convI rfl tu5 tu3 rfl hx27) ?_
      obtain ⟨x28, hx28, h⟩ := h.lt
      refine Ro_v (v := (Value.int .i64 x28)) rfl (o_add rfl rfl rfl hx28) ?_
      refine Ro_v (v := (Value.int .i64 x28)) rfl (o_assign rfl rfl) ?_
      refine Ro_nil ?_
      refine Fx_blk ?_
      refine Fx_text rfl (by kernel_rfl) ?_
      refine Ro_v (v := (Value.int .i64 i_13)) rfl (o_move rfl rfl) ?_
      obtain ⟨x29, hx29, h⟩ := h.lt
      refine Ro_v (v := (Value.int .i64 x29)) rfl (o_add rfl rfl rfl hx29) ?_
      refine Ro_v (v := (Value.int .i64 x29)) rfl (o_assign rfl rfl) ?_
      refine Ro_nil ?_
      exact Fx_forget (Fr.set_of (Fr.set_of (Fr.set_of rfl rfl) rfl) rfl) (h.sm _)
  · replace h := h.ifF ex18
    refine Fx_exit rfl ?_
    refine Fx_out_code ?_
    refine Fx_out_code ?_
    refine Fx_out_eq ?_
    exact Fx_forget (Fr.set_of rfl rfl) (h.sm _)
theorem w26 (s_3 : ByteArray) (σ : AHeap) (r : (Int × Bool)) (h : G_ident_number s_3 = some r) : callL Tryd.prog 26 [(Value.string s_3)] σ = some ((Value.tuple #[(Value.int .i64 r.1), (Value.bool r.2)]), σ) := by
  refine callL_walk (fn := Tryd.f26) (c := c26_0) (rs := rs26) Tryd.func26 rfl ok26 rfl rfl ?_
  obtain ⟨out, ho⟩ : ∃ out, out = ((Value.tuple #[(Value.int .i64 r.1), (Value.bool r.2)]), σ) := ⟨_, rfl⟩
  rw [← ho]
  replace h : OptW (G_ident_number s_3) (fun r => ((Value.tuple #[(Value.int .i64 r.1), (Value.bool r.2)]), σ) = out) := ⟨r, h, ho.symm⟩
  unfold G_ident_number at h
  refine Fx_seq (a := c26_1) (b := c26_2) rfl ?_
  refine Fx_text rfl (by kernel_rfl) ?_
  refine Ro_v (v := (Value.int .i64 (0))) rfl (o_assign rfl rfl) ?_
  refine Ro_v (v := (Value.bool false)) rfl (o_assign rfl rfl) ?_
  refine Ro_nil ?_
  refine Fx_seq (a := c26_3) (b := c26_10) rfl ?_
  refine Fx_seq (a := c26_4) (b := c26_5) rfl ?_
  refine Fx_text rfl (by kernel_rfl) ?_
  refine Ro_v (v := (Value.string s_3)) rfl (o_move rfl rfl) ?_
  obtain ⟨x4, hx4, h⟩ := h.lt
  refine Ro_v (v := (Value.bool x4)) rfl (o_seql rfl rfl rfl hx4) ?_
  refine Ro_v (v := (Value.bool x4)) rfl (o_move rfl rfl) ?_
  refine Ro_set (t := !x4) (v := bif !x4 then (Value.string s_3) else undef) rfl (w_F rfl rfl rfl) (by intro e; have e0 := not_t (e); subst e0; exact o_move rfl rfl) (fun e => ⟨gv_f e, rfl⟩) ?_
  obtain ⟨x5, hx5, h⟩ := h.lt
  refine Ro_set (t := !x4) (v := bif !x4 then (Value.int .i64 x5) else undef) rfl (w_F rfl rfl rfl) (by intro e; have e0 := not_t (e); subst e0; exact o_lenS rfl tu9 rfl hx5) (fun e => ⟨gv_f e, rfl⟩) ?_
  obtain ⟨x6, hx6, h⟩ := h.lt
  refine Ro_set (t := !x4) (v := bif !x4 then (Value.bool x6) else undef) rfl (w_F rfl rfl rfl) (by intro e; have e0 := not_t (e); subst e0; exact o_gtr rfl rfl rfl hx6) (fun e => ⟨gv_f e, rfl⟩) ?_
  obtain ⟨x7, hx7, h⟩ := h.lt
  refine Ro_v (v := (Value.bool x7)) rfl (o_pick rfl rfl (by intro e; subst e; subst hx7; rfl) (by intro e; subst e; subst hx7; rfl)) ?_
  refine Ro_v (v := (Value.bool x7)) rfl (o_move rfl rfl) ?_
  refine Ro_set (t := !x7) (v := bif !x7 then (Value.string s_3) else undef) rfl (w_F rfl rfl rfl) (by intro e; have e0 := not_t (e); subst e0; exact o_move rfl rfl) (fun e => ⟨gv_f e, rfl⟩) ?_
  obtain ⟨x8, hx8, h⟩ := h.bd
  refine Ro_set (t := !x7) (v := bif !x7 then (Value.int .u8 x8) else undef) rfl (w_F rfl rfl rfl) (by intro e; have e0 := not_t (e); subst e0; exact o_idxS rfl tu9 rfl rfl hx8) (fun e => ⟨gv_f e, rfl⟩) ?_
  obtain ⟨x9, hx9, h⟩ := h.lt
  refine Ro_set (t := !x7) (v := bif !x7 then (Value.bool x9) else undef) rfl (w_F rfl rfl rfl) (by intro e; have e0 := not_t (e); subst e0; exact o_eql rfl rfl rfl hx9) (fun e => ⟨gv_f e, rfl⟩) ?_
  obtain ⟨x10, hx10, h⟩ := h.lt
  refine Ro_v (v := (Value.bool x10)) rfl (o_pick rfl rfl (by intro e; subst e; subst hx10; rfl) (by intro e; subst e; subst hx10; rfl)) ?_
  refine Ro_nil ?_
  refine Fx_cond (a := c26_6) (b := c26_9) rfl rfl (fun ex10 => ?_) (fun ex10 => ?_)
  · replace h := h.ifT ex10
    refine Fx_seq (a := c26_7) (b := c26_8) rfl ?_
    refine Fx_text rfl (by kernel_rfl) ?_
    refine Ro_v (v := (Value.int .i64 (0))) rfl (o_assign rfl rfl) ?_
    refine Ro_v (v := (Value.bool false)) rfl (o_assign rfl rfl) ?_
    refine Ro_nil ?_
    exact Fx_ret rfl rfl (congrArg some h.sm)
  · replace h := h.ifF ex10
    refine Fx_skip (c := c26_9) rfl ?_
    refine Fx_seq (a := c26_11) (b := c26_12) rfl ?_
    refine Fx_text rfl (by kernel_rfl) ?_
    refine Ro_v (v := (Value.int .i64 (0))) rfl (o_assign rfl rfl) ?_
    refine Ro_nil ?_
    refine Fx_seq (a := c26_13) (b := c26_35) rfl ?_
    refine Fx_seq (a := c26_14) (b := c26_15) rfl ?_
    refine Fx_text rfl (by kernel_rfl) ?_
    refine Ro_v (v := (Value.int .i64 (0))) rfl (o_assign rfl rfl) ?_
    refine Ro_nil ?_
    refine Fx_block (b := c26_16) rfl ?_
    refine Fx_forget (Fr.set_of (Fr.set_of (Fr.set_of rfl rfl) rfl) rfl) ((OptW.loop h (fun s => C26_l1 s_3 σ out (.inl s)) ?_ : C26_l1 s_3 σ out (.inl ((0), (0)))) _)
    intro s hs f
    obtain ⟨n_12, i_13⟩ := s
    refine q26_l1 s_3 n_12 i_13 σ out f (hs.imp ?_)
    intro r hr
    rcases r with y | b
    · exact hr
    · rcases b with b | b
      · obtain ⟨n_30, rfl⟩ : ∃ x, x = b := ⟨_, rfl⟩
        have h := hr
        intro f
        refine Fx_seq (a := c26_36) (b := c26_37) rfl ?_
        refine Fx_text rfl (by kernel_rfl) ?_
        refine Ro_v (v := (Value.int .i64 n_30)) rfl (o_move rfl rfl) ?_
        refine Ro_v (v := (Value.int .i64 n_30)) rfl (o_assign rfl rfl) ?_
        refine Ro_v (v := (Value.bool true)) rfl (o_assign rfl rfl) ?_
        refine Ro_nil ?_
        exact Fx_ret rfl rfl (congrArg some h.sm)
      · obtain ⟨x31, x32⟩ := b
        have h := hr
        exact h.sm
noncomputable def c18_0 : Code := bodyOf Tryd.f18
noncomputable def c18_1 : Code := cl c18_0
noncomputable def c18_2 : Code := cr c18_0
noncomputable def c18_3 : Code := cl c18_2
noncomputable def c18_4 : Code := cr c18_2
noncomputable def c18_5 : Code := cl c18_4
noncomputable def c18_6 : Code := cl c18_5
noncomputable def c18_7 : Code := cr c18_5
noncomputable def c18_8 : Code := cl c18_7
noncomputable def c18_9 : Code := cl c18_8
noncomputable def c18_10 : Code := cr c18_8
noncomputable def c18_11 : Code := cr c18_7
noncomputable def c18_12 : Code := cr c18_4
noncomputable def c18_13 : Code := cl c18_12
noncomputable def c18_14 : Code := cr c18_12
noncomputable def c18_15 : Code := cl c18_14
noncomputable def c18_16 : Code := cr c18_14
noncomputable def c18_17 : Code := cl c18_16
noncomputable def c18_18 : Code := cl c18_17
noncomputable def c18_19 : Code := cr c18_17
noncomputable def c18_20 : Code := cl c18_19
noncomputable def c18_21 : Code := cl c18_20
noncomputable def c18_22 : Code := cr c18_20
noncomputable def c18_23 : Code := cr c18_19
noncomputable def c18_24 : Code := cr c18_16
noncomputable def c18_25 : Code := cl c18_24
noncomputable def c18_26 : Code := cr c18_24
noncomputable def c18_27 : Code := cl c18_26
noncomputable def c18_28 : Code := cl c18_27
noncomputable def c18_29 : Code := cr c18_27
noncomputable def c18_30 : Code := cl c18_29
noncomputable def c18_31 : Code := cl c18_30
noncomputable def c18_32 : Code := cr c18_30
noncomputable def c18_33 : Code := cr c18_29
noncomputable def c18_34 : Code := cr c18_26
noncomputable def c18_35 : Code := cl c18_34
noncomputable def c18_36 : Code := cr c18_34
theorem ok18 : funcOk Tryd.f18 = true := by kernel_rfl
noncomputable def rs18 : List ResultVar := resultsOf Tryd.f18
theorem w18 (s_3 : ByteArray) (σ : AHeap) (r : (Int × Int)) (h : G_ident_Parse s_3 σ = some r) : callL Tryd.prog 18 [(Value.string s_3)] σ = some ((Value.tuple #[(Value.int .i64 r.1), (Value.int .i64 r.2)]), σ) := by
  refine callL_walk (fn := Tryd.f18) (c := c18_0) (rs := rs18) Tryd.func18 rfl ok18 rfl rfl ?_
  obtain ⟨out, ho⟩ : ∃ out, out = ((Value.tuple #[(Value.int .i64 r.1), (Value.int .i64 r.2)]), σ) := ⟨_, rfl⟩
  rw [← ho]
  replace h : OptW (G_ident_Parse s_3 σ) (fun r => ((Value.tuple #[(Value.int .i64 r.1), (Value.int .i64 r.2)]), σ) = out) := ⟨r, h, ho.symm⟩
  unfold G_ident_Parse at h
  refine Fx_seq (a := c18_1) (b := c18_2) rfl ?_
  refine Fx_text rfl (by kernel_rfl) ?_
  refine Ro_v (v := (Value.int .i64 (0))) rfl (o_assign rfl rfl) ?_
  refine Ro_v (v := (Value.int .i64 (0))) rfl (o_assign rfl rfl) ?_
  refine Ro_nil ?_
  refine Fx_seq (a := c18_3) (b := c18_4) rfl ?_
  refine Fx_text rfl (by kernel_rfl) ?_
  refine Ro_v (v := (Value.string s_3)) rfl (o_move rfl rfl) ?_
  obtain ⟨⟨x4, x5, x6⟩, hx4, h⟩ := h.bd
  refine Ro_v (v := (Value.tuple #[(Value.string x4), (Value.string x5), (Value.bool x6)])) rfl (o_call (vs := [(Value.string s_3), (Value.string (⟨#[46]⟩ : ByteArray))]) rfl rfl (w25 _ _ _ _ hx4)) ?_
  refine Ro_v (v := (Value.tuple #[(Value.string x4), (Value.string x5), (Value.bool x6)])) rfl (o_move rfl rfl) ?_
  refine Ro_v (v := (Value.string x4)) rfl (o_ext rfl rfl rfl) ?_
  refine Ro_v (v := (Value.string x5)) rfl (o_ext rfl rfl rfl) ?_
  refine Ro_v (v := (Value.bool x6)) rfl (o_ext rfl rfl rfl) ?_
  refine Ro_v (v := (Value.string x4)) rfl (o_assign rfl rfl) ?_
  refine Ro_v (v := (Value.string x5)) rfl (o_assign rfl rfl) ?_
  refine Ro_v (v := (Value.bool x6)) rfl (o_assign rfl rfl) ?_
  refine Ro_nil ?_
  refine Fx_seq (a := c18_5) (b := c18_12) rfl ?_
  refine Fx_seq (a := c18_6) (b := c18_7) rfl ?_
  refine Fx_text rfl (by kernel_rfl) ?_
  refine Ro_v (v := (Value.bool x6)) rfl (o_move rfl rfl) ?_
  obtain ⟨x7, hx7, h⟩ := h.lt
  refine Ro_v (v := (Value.bool x7)) rfl (o_not rfl rfl hx7) ?_
  refine Ro_nil ?_
  refine Fx_cond (a := c18_8) (b := c18_11) rfl rfl (fun ex7 => ?_) (fun ex7 => ?_)
  · replace h := h.ifT ex7
    refine Fx_seq (a := c18_9) (b := c18_10) rfl ?_
    refine Fx_text rfl (by kernel_rfl) ?_
    refine Ro_v (v := (Value.int .i64 (0))) rfl (o_assign rfl rfl) ?_
    refine Ro_v (v := (Value.int .i64 (13))) rfl (o_assign rfl rfl) ?_
    refine Ro_nil ?_
    exact Fx_ret rfl rfl (congrArg some h.sm)
  · replace h := h.ifF ex7
    refine Fx_skip (c := c18_11) rfl ?_
    refine Fx_seq (a := c18_13) (b := c18_14) rfl ?_
    refine Fx_text rfl (by kernel_rfl) ?_
    refine Ro_v (v := (Value.string x4)) rfl (o_move rfl rfl) ?_
    obtain ⟨⟨x8, x9⟩, hx8, h⟩ := h.bd
    refine Ro_v (v := (Value.tuple #[(Value.int .i64 x8), (Value.bool x9)])) rfl (o_call (vs := [(Value.string x4)]) rfl rfl (w26 _ _ _ hx8)) ?_
    refine Ro_v (v := (Value.tuple #[(Value.int .i64 x8), (Value.bool x9)])) rfl (o_move rfl rfl) ?_
    refine Ro_v (v := (Value.int .i64 x8)) rfl (o_ext rfl rfl rfl) ?_
    refine Ro_v (v := (Value.bool x9)) rfl (o_ext rfl rfl rfl) ?_
    refine Ro_v (v := (Value.int .i64 x8)) rfl (o_assign rfl rfl) ?_
    refine Ro_v (v := (Value.bool x9)) rfl (o_assign rfl rfl) ?_
    refine Ro_nil ?_
    refine Fx_seq (a := c18_15) (b := c18_16) rfl ?_
    refine Fx_text rfl (by kernel_rfl) ?_
    refine Ro_v (v := (Value.string x5)) rfl (o_move rfl rfl) ?_
    obtain ⟨⟨x10, x11⟩, hx10, h⟩ := h.bd
    refine Ro_v (v := (Value.tuple #[(Value.int .i64 x10), (Value.bool x11)])) rfl (o_call (vs := [(Value.string x5)]) rfl rfl (w26 _ _ _ hx10)) ?_
    refine Ro_v (v := (Value.tuple #[(Value.int .i64 x10), (Value.bool x11)])) rfl (o_move rfl rfl) ?_
    refine Ro_v (v := (Value.int .i64 x10)) rfl (o_ext rfl rfl rfl) ?_
    refine Ro_v (v := (Value.bool x11)) rfl (o_ext rfl rfl rfl) ?_
    refine Ro_v (v := (Value.int .i64 x10)) rfl (o_assign rfl rfl) ?_
    refine Ro_v (v := (Value.bool x11)) rfl (o_assign rfl rfl) ?_
    refine Ro_nil ?_
    refine Fx_seq (a := c18_17) (b := c18_24) rfl ?_
    refine Fx_seq (a := c18_18) (b := c18_19) rfl ?_
    refine Fx_text rfl (by kernel_rfl) ?_
    refine Ro_v (v := (Value.bool x9)) rfl (o_move rfl rfl) ?_
    obtain ⟨x12, hx12, h⟩ := h.lt
    refine Ro_v (v := (Value.bool x12)) rfl (o_not rfl rfl hx12) ?_
    refine Ro_v (v := (Value.bool x12)) rfl (o_move rfl rfl) ?_
    refine Ro_set (t := !x12) (v := bif !x12 then (Value.bool x11) else undef) rfl (w_F rfl rfl rfl) (by intro e; have e0 := not_t (e); subst e0; exact o_move rfl rfl) (fun e => ⟨gv_f e, rfl⟩) ?_
    obtain ⟨x13, hx13, h⟩ := h.lt
    refine Ro_set (t := !x12) (v := bif !x12 then (Value.bool x13) else undef) rfl (w_F rfl rfl rfl) (by intro e; have e0 := not_t (e); subst e0; exact o_not rfl rfl hx13) (fun e => ⟨gv_f e, rfl⟩) ?_
    obtain ⟨x14, hx14, h⟩ := h.lt
    refine Ro_v (v := (Value.bool x14)) rfl (o_pick rfl rfl (by intro e; subst e; subst hx14; rfl) (by intro e; subst e; subst hx14; rfl)) ?_
    refine Ro_nil ?_
    refine Fx_cond (a := c18_20) (b := c18_23) rfl rfl (fun ex14 => ?_) (fun ex14 => ?_)
    · replace h := h.ifT ex14
      refine Fx_seq (a := c18_21) (b := c18_22) rfl ?_
      refine Fx_text rfl (by kernel_rfl) ?_
      refine Ro_v (v := (Value.int .i64 (0))) rfl (o_assign rfl rfl) ?_
      refine Ro_v (v := (Value.int .i64 (13))) rfl (o_assign rfl rfl) ?_
      refine Ro_nil ?_
      exact Fx_ret rfl rfl (congrArg some h.sm)
    · replace h := h.ifF ex14
      refine Fx_skip (c := c18_23) rfl ?_
      refine Fx_seq (a := c18_25) (b := c18_26) rfl ?_
      refine Fx_text rfl (by kernel_rfl) ?_
      refine Ro_v (v := (Value.int .i64 x8)) rfl (o_move rfl rfl) ?_
      refine Ro_v (v := (Value.int .i64 x10)) rfl (o_move rfl rfl) ?_
      obtain ⟨⟨x15, x16⟩, hx15, h⟩ := h.bd
      refine Ro_v (v := (Value.tuple #[(Value.int .i64 x15), (Value.int .i64 x16)])) rfl (o_call (vs := [(Value.int .i64 x8), (Value.int .i64 x10)]) rfl rfl (w9 _ _ _ _ hx15)) ?_
      refine Ro_v (v := (Value.tuple #[(Value.int .i64 x15), (Value.int .i64 x16)])) rfl (o_move rfl rfl) ?_
      refine Ro_v (v := (Value.int .i64 x15)) rfl (o_ext rfl rfl rfl) ?_
      refine Ro_v (v := (Value.int .i64 x16)) rfl (o_ext rfl rfl rfl) ?_
      refine Ro_v (v := (Value.int .i64 x15)) rfl (o_assign rfl rfl) ?_
      refine Ro_v (v := (Value.int .i64 x16)) rfl (o_assign rfl rfl) ?_
      refine Ro_nil ?_
      refine Fx_seq (a := c18_27) (b := c18_34) rfl ?_
      refine Fx_seq (a := c18_28) (b := c18_29) rfl ?_
      refine Fx_text rfl (by kernel_rfl) ?_
      refine Ro_v (v := (Value.int .i64 x16)) rfl (o_move rfl rfl) ?_
      obtain ⟨x17, hx17, h⟩ := h.lt
      refine Ro_v (v := (Value.bool x17)) rfl (o_neq rfl rfl rfl hx17) ?_
      refine Ro_nil ?_
      refine Fx_cond (a := c18_30) (b := c18_33) rfl rfl (fun ex17 => ?_) (fun ex17 => ?_)
      · replace h := h.ifT ex17
        refine Fx_seq (a := c18_31) (b := c18_32) rfl ?_
        refine Fx_text rfl (by kernel_rfl) ?_
        refine Ro_v (v := (Value.int .i64 (0))) rfl (o_assign rfl rfl) ?_
        refine Ro_v (v := (Value.int .i64 (13))) rfl (o_assign rfl rfl) ?_
        refine Ro_nil ?_
        exact Fx_ret rfl rfl (congrArg some h.sm)
      · replace h := h.ifF ex17
        refine Fx_skip (c := c18_33) rfl ?_
        refine Fx_seq (a := c18_35) (b := c18_36) rfl ?_
        refine Fx_text rfl (by kernel_rfl) ?_
        refine Ro_v (v := (Value.int .i64 x15)) rfl (o_move rfl rfl) ?_
        refine Ro_v (v := (Value.int .i64 x15)) rfl (o_assign rfl rfl) ?_
        refine Ro_v (v := (Value.int .i64 (0))) rfl (o_assign rfl rfl) ?_
        refine Ro_nil ?_
        exact Fx_ret rfl rfl (congrArg some h.sm)
theorem w27 (n : Int) (σ : AHeap) (r : ByteArray) (h : G_strconv_Itoa n σ = some r) : callL Tryd.prog 27 [.int .i64 n] σ = some (.string r, σ) :=
  callL_itoa Tryd.func27 rfl (by kernel_rfl) (by kernel_rfl) (fun n h0 h1 w ht => Tryd.strconv_Itoa n h0 h1 w ht) h
noncomputable def c20_0 : Code := bodyOf Tryd.f20
noncomputable def c20_1 : Code := cl c20_0
noncomputable def c20_2 : Code := cr c20_0
noncomputable def c20_3 : Code := cl c20_2
noncomputable def c20_4 : Code := cl c20_3
noncomputable def c20_5 : Code := cr c20_3
noncomputable def c20_6 : Code := cl c20_5
noncomputable def c20_7 : Code := cl c20_6
noncomputable def c20_8 : Code := cr c20_6
noncomputable def c20_9 : Code := cr c20_5
noncomputable def c20_10 : Code := cr c20_2
noncomputable def c20_11 : Code := cl c20_10
noncomputable def c20_12 : Code := cr c20_10
theorem ok20 : funcOk Tryd.f20 = true := by kernel_rfl
noncomputable def rs20 : List ResultVar := resultsOf Tryd.f20
theorem w20 (id_2 : Int) (σ : AHeap) (r : ByteArray) (h : G_ident_Format id_2 σ = some r) : callL Tryd.prog 20 [(Value.int .i64 id_2)] σ = some ((Value.string r), σ) := by
  refine callL_walk (fn := Tryd.f20) (c := c20_0) (rs := rs20) Tryd.func20 rfl ok20 rfl rfl ?_
  obtain ⟨out, ho⟩ : ∃ out, out = ((Value.string r), σ) := ⟨_, rfl⟩
  rw [← ho]
  replace h : OptW (G_ident_Format id_2 σ) (fun r => ((Value.string r), σ) = out) := ⟨r, h, ho.symm⟩
  unfold G_ident_Format at h
  refine Fx_seq (a := c20_1) (b := c20_2) rfl ?_
  refine Fx_text rfl (by kernel_rfl) ?_
  refine Ro_v (v := (Value.string (⟨#[]⟩ : ByteArray))) rfl (o_assign rfl rfl) ?_
  refine Ro_nil ?_
  refine Fx_seq (a := c20_3) (b := c20_10) rfl ?_
  refine Fx_seq (a := c20_4) (b := c20_5) rfl ?_
  refine Fx_text rfl (by kernel_rfl) ?_
  refine Ro_v (v := (Value.int .i64 id_2)) rfl (o_move rfl rfl) ?_
  obtain ⟨x3, hx3, h⟩ := h.bd
  refine Ro_v (v := (Value.bool x3)) rfl (o_call (vs := [(Value.int .i64 id_2)]) rfl rfl (w12 _ _ _ hx3)) ?_
  obtain ⟨x4, hx4, h⟩ := h.lt
  refine Ro_v (v := (Value.bool x4)) rfl (o_not rfl rfl hx4) ?_
  refine Ro_nil ?_
  refine Fx_cond (a := c20_6) (b := c20_9) rfl rfl (fun ex4 => ?_) (fun ex4 => ?_)
  · replace h := h.ifT ex4
    refine Fx_seq (a := c20_7) (b := c20_8) rfl ?_
    refine Fx_text rfl (by kernel_rfl) ?_
    refine Ro_v (v := (Value.string (⟨#[]⟩ : ByteArray))) rfl (o_assign rfl rfl) ?_
    refine Ro_nil ?_
    exact Fx_ret rfl rfl (congrArg some h.sm)
  · replace h := h.ifF ex4
    refine Fx_skip (c := c20_9) rfl ?_
    refine Fx_seq (a := c20_11) (b := c20_12) rfl ?_
    refine Fx_text rfl (by kernel_rfl) ?_
    refine Ro_v (v := (Value.int .i64 id_2)) rfl (o_move rfl rfl) ?_
    obtain ⟨x5, hx5, h⟩ := h.bd
    refine Ro_v (v := (Value.int .i64 x5)) rfl (o_shr rfl rfl rfl hx5) ?_
    obtain ⟨x6, hx6, h⟩ := h.bd
    refine Ro_v (v := (Value.string x6)) rfl (o_call (vs := [(Value.int .i64 x5)]) rfl rfl (w27 _ _ _ hx6)) ?_
    obtain ⟨x7, hx7, h⟩ := h.bd
    refine Ro_v (v := (Value.string x7)) rfl (o_saddO rfl rfl rfl hx7) ?_
    refine Ro_v (v := (Value.int .i64 id_2)) rfl (o_move rfl rfl) ?_
    obtain ⟨x8, hx8, h⟩ := h.lt
    refine Ro_v (v := (Value.int .i64 x8)) rfl (o_and rfl rfl rfl hx8) ?_
    obtain ⟨x9, hx9, h⟩ := h.bd
    refine Ro_v (v := (Value.string x9)) rfl (o_call (vs := [(Value.int .i64 x8)]) rfl rfl (w27 _ _ _ hx9)) ?_
    obtain ⟨x10, hx10, h⟩ := h.bd
    refine Ro_v (v := (Value.string x10)) rfl (o_saddO rfl rfl rfl hx10) ?_
    refine Ro_v (v := (Value.string x10)) rfl (o_assign rfl rfl) ?_
    refine Ro_nil ?_
    exact Fx_ret rfl rfl (congrArg some h.sm)
noncomputable def c11_0 : Code := bodyOf Tryd.f11
noncomputable def c11_1 : Code := cl c11_0
noncomputable def c11_2 : Code := cr c11_0
noncomputable def c11_3 : Code := cl c11_2
noncomputable def c11_4 : Code := cr c11_2
noncomputable def c11_5 : Code := cl c11_4
noncomputable def c11_6 : Code := cr c11_4
noncomputable def c11_7 : Code := cl c11_6
noncomputable def c11_8 : Code := cr c11_6
theorem ok11 : funcOk Tryd.f11 = true := by kernel_rfl
noncomputable def rs11 : List ResultVar := resultsOf Tryd.f11
theorem w11  (σ : AHeap) (r : Bool) (h : G_semvcslaw10_awake σ = some r) : callL Tryd.prog 11 [] σ = some ((Value.bool r), σ) := by
  refine callL_walk (fn := Tryd.f11) (c := c11_0) (rs := rs11) Tryd.func11 rfl ok11 rfl rfl ?_
  obtain ⟨out, ho⟩ : ∃ out, out = ((Value.bool r), σ) := ⟨_, rfl⟩
  rw [← ho]
  replace h : OptW (G_semvcslaw10_awake σ) (fun r => ((Value.bool r), σ) = out) := ⟨r, h, ho.symm⟩
  unfold G_semvcslaw10_awake at h
  refine Fx_seq (a := c11_1) (b := c11_2) rfl ?_
  refine Fx_text rfl (by kernel_rfl) ?_
  refine Ro_v (v := (Value.bool false)) rfl (o_assign rfl rfl) ?_
  refine Ro_nil ?_
  refine Fx_seq (a := c11_3) (b := c11_4) rfl ?_
  refine Fx_text rfl (by kernel_rfl) ?_
  obtain ⟨⟨x2, x3⟩, hx2, h⟩ := h.bd
  refine Ro_v (v := (Value.tuple #[(Value.int .i64 x2), (Value.int .i64 x3)])) rfl (o_call (vs := [(Value.int .i64 (3)), (Value.int .i64 (17))]) rfl rfl (w9 _ _ _ _ hx2)) ?_
  refine Ro_v (v := (Value.tuple #[(Value.int .i64 x2), (Value.int .i64 x3)])) rfl (o_move rfl rfl) ?_
  refine Ro_v (v := (Value.int .i64 x2)) rfl (o_ext rfl rfl rfl) ?_
  refine Ro_v (v := (Value.int .i64 x3)) rfl (o_ext rfl rfl rfl) ?_
  refine Ro_v (v := (Value.int .i64 x2)) rfl (o_assign rfl rfl) ?_
  refine Ro_v (v := (Value.int .i64 x3)) rfl (o_assign rfl rfl) ?_
  refine Ro_nil ?_
  refine Fx_seq (a := c11_5) (b := c11_6) rfl ?_
  refine Fx_text rfl (by kernel_rfl) ?_
  obtain ⟨⟨x4, x5⟩, hx4, h⟩ := h.bd
  refine Ro_v (v := (Value.tuple #[(Value.int .i64 x4), (Value.int .i64 x5)])) rfl (o_call (vs := [(Value.string (⟨#[51, 46, 49, 55]⟩ : ByteArray))]) rfl rfl (w18 _ _ _ hx4)) ?_
  refine Ro_v (v := (Value.tuple #[(Value.int .i64 x4), (Value.int .i64 x5)])) rfl (o_move rfl rfl) ?_
  refine Ro_v (v := (Value.int .i64 x4)) rfl (o_ext rfl rfl rfl) ?_
  refine Ro_v (v := (Value.int .i64 x5)) rfl (o_ext rfl rfl rfl) ?_
  refine Ro_v (v := (Value.int .i64 x4)) rfl (o_assign rfl rfl) ?_
  refine Ro_v (v := (Value.int .i64 x5)) rfl (o_assign rfl rfl) ?_
  refine Ro_nil ?_
  refine Fx_seq (a := c11_7) (b := c11_8) rfl ?_
  refine Fx_text rfl (by kernel_rfl) ?_
  refine Ro_v (v := (Value.int .i64 x3)) rfl (o_move rfl rfl) ?_
  obtain ⟨x6, hx6, h⟩ := h.lt
  refine Ro_v (v := (Value.bool x6)) rfl (o_eql rfl rfl rfl hx6) ?_
  refine Ro_v (v := (Value.bool x6)) rfl (o_move rfl rfl) ?_
  refine Ro_set (t := x6) (v := bif x6 then (Value.int .i64 x5) else undef) rfl (w_T rfl rfl rfl) (by intro e; have e0 := e; subst e0; exact o_move rfl rfl) (fun e => ⟨gv_f e, rfl⟩) ?_
  obtain ⟨x7, hx7, h⟩ := h.lt
  refine Ro_set (t := x6) (v := bif x6 then (Value.bool x7) else undef) rfl (w_T rfl rfl rfl) (by intro e; have e0 := e; subst e0; exact o_eql rfl rfl rfl hx7) (fun e => ⟨gv_f e, rfl⟩) ?_
  obtain ⟨x8, hx8, h⟩ := h.lt
  refine Ro_v (v := (Value.bool x8)) rfl (o_pick rfl rfl (by intro e; subst e; subst hx8; rfl) (by intro e; subst e; subst hx8; rfl)) ?_
  refine Ro_v (v := (Value.bool x8)) rfl (o_move rfl rfl) ?_
  refine Ro_set (t := x8) (v := bif x8 then (Value.int .i64 x2) else undef) rfl (w_T rfl rfl rfl) (by intro e; have e0 := e; subst e0; exact o_move rfl rfl) (fun e => ⟨gv_f e, rfl⟩) ?_
  obtain ⟨x9, hx9, h⟩ := h.lt
  refine Ro_set (t := x8) (v := bif x8 then (Value.bool x9) else undef) rfl (w_T rfl rfl rfl) (by intro e; have e0 := e; subst e0; exact o_eql rfl rfl rfl hx9) (fun e => ⟨gv_f e, rfl⟩) ?_
  obtain ⟨x10, hx10, h⟩ := h.lt
  refine Ro_v (v := (Value.bool x10)) rfl (o_pick rfl rfl (by intro e; subst e; subst hx10; rfl) (by intro e; subst e; subst hx10; rfl)) ?_
  refine Ro_v (v := (Value.bool x10)) rfl (o_move rfl rfl) ?_
  refine Ro_set (t := x10) (v := bif x10 then (Value.int .i64 x4) else undef) rfl (w_T rfl rfl rfl) (by intro e; have e0 := e; subst e0; exact o_move rfl rfl) (fun e => ⟨gv_f e, rfl⟩) ?_
  refine Ro_set (t := x10) (v := bif x10 then (Value.int .i64 x2) else undef) rfl (w_T rfl rfl rfl) (by intro e; have e0 := e; subst e0; exact o_move rfl rfl) (fun e => ⟨gv_f e, rfl⟩) ?_
  obtain ⟨x11, hx11, h⟩ := h.lt
  refine Ro_set (t := x10) (v := bif x10 then (Value.bool x11) else undef) rfl (w_T rfl rfl rfl) (by intro e; have e0 := e; subst e0; exact o_eql rfl rfl rfl hx11) (fun e => ⟨gv_f e, rfl⟩) ?_
  obtain ⟨x12, hx12, h⟩ := h.lt
  refine Ro_v (v := (Value.bool x12)) rfl (o_pick rfl rfl (by intro e; subst e; subst hx12; rfl) (by intro e; subst e; subst hx12; rfl)) ?_
  refine Ro_v (v := (Value.bool x12)) rfl (o_move rfl rfl) ?_
  refine Ro_set (t := x12) (v := bif x12 then (Value.int .i64 x2) else undef) rfl (w_T rfl rfl rfl) (by intro e; have e0 := e; subst e0; exact o_move rfl rfl) (fun e => ⟨gv_f e, rfl⟩) ?_
  obtain ⟨x13, hx13, h⟩ := h.bd
  refine Ro_set (t := x12) (v := bif x12 then (Value.string x13) else undef) rfl (w_T rfl rfl rfl) (by intro e; have e0 := e; subst e0; exact o_call (vs := [(Value.int .i64 x2)]) rfl rfl (w20 _ _ _ hx13)) (fun e => ⟨gv_f e, rfl⟩) ?_
  obtain ⟨x14, hx14, h⟩ := h.lt
  refine Ro_set (t := x12) (v := bif x12 then (Value.bool x14) else undef) rfl (w_T rfl rfl rfl) (by intro e; have e0 := e; subst e0; exact o_seql rfl rfl rfl hx14) (fun e => ⟨gv_f e, rfl⟩) ?_
  obtain ⟨x15, hx15, h⟩ := h.lt
  refine Ro_v (v := (Value.bool x15)) rfl (o_pick rfl rfl (by intro e; subst e; subst hx15; rfl) (by intro e; subst e; subst hx15; rfl)) ?_
  refine Ro_v (v := (Value.bool x15)) rfl (o_move rfl rfl) ?_
  refine Ro_set (t := x15) (v := bif x15 then (Value.int .i64 x2) else undef) rfl (w_T rfl rfl rfl) (by intro e; have e0 := e; subst e0; exact o_move rfl rfl) (fun e => ⟨gv_f e, rfl⟩) ?_
  obtain ⟨x16, hx16, h⟩ := h.bd
  refine Ro_set (t := x15) (v := bif x15 then (Value.int .i64 x16) else undef) rfl (w_T rfl rfl rfl) (by intro e; have e0 := e; subst e0; exact o_call (vs := [(Value.int .i64 x2)]) rfl rfl (w14 _ _ _ hx16)) (fun e => ⟨gv_f e, rfl⟩) ?_
  obtain ⟨x17, hx17, h⟩ := h.lt
  refine Ro_set (t := x15) (v := bif x15 then (Value.bool x17) else undef) rfl (w_T rfl rfl rfl) (by intro e; have e0 := e; subst e0; exact o_eql rfl rfl rfl hx17) (fun e => ⟨gv_f e, rfl⟩) ?_
  obtain ⟨x18, hx18, h⟩ := h.lt
  refine Ro_v (v := (Value.bool x18)) rfl (o_pick rfl rfl (by intro e; subst e; subst hx18; rfl) (by intro e; subst e; subst hx18; rfl)) ?_
  refine Ro_v (v := (Value.bool x18)) rfl (o_move rfl rfl) ?_
  refine Ro_set (t := x18) (v := bif x18 then (Value.int .i64 x2) else undef) rfl (w_T rfl rfl rfl) (by intro e; have e0 := e; subst e0; exact o_move rfl rfl) (fun e => ⟨gv_f e, rfl⟩) ?_
  obtain ⟨x19, hx19, h⟩ := h.bd
  refine Ro_set (t := x18) (v := bif x18 then (Value.int .i64 x19) else undef) rfl (w_T rfl rfl rfl) (by intro e; have e0 := e; subst e0; exact o_call (vs := [(Value.int .i64 x2)]) rfl rfl (w16 _ _ _ hx19)) (fun e => ⟨gv_f e, rfl⟩) ?_
  obtain ⟨x20, hx20, h⟩ := h.lt
  refine Ro_set (t := x18) (v := bif x18 then (Value.bool x20) else undef) rfl (w_T rfl rfl rfl) (by intro e; have e0 := e; subst e0; exact o_eql rfl rfl rfl hx20) (fun e => ⟨gv_f e, rfl⟩) ?_
  obtain ⟨x21, hx21, h⟩ := h.lt
  refine Ro_v (v := (Value.bool x21)) rfl (o_pick rfl rfl (by intro e; subst e; subst hx21; rfl) (by intro e; subst e; subst hx21; rfl)) ?_
  refine Ro_v (v := (Value.bool x21)) rfl (o_move rfl rfl) ?_
  refine Ro_set (t := x21) (v := bif x21 then (Value.int .i64 x2) else undef) rfl (w_T rfl rfl rfl) (by intro e; have e0 := e; subst e0; exact o_move rfl rfl) (fun e => ⟨gv_f e, rfl⟩) ?_
  obtain ⟨x22, hx22, h⟩ := h.bd
  refine Ro_set (t := x21) (v := bif x21 then (Value.bool x22) else undef) rfl (w_T rfl rfl rfl) (by intro e; have e0 := e; subst e0; exact o_call (vs := [(Value.int .i64 x2)]) rfl rfl (w12 _ _ _ hx22)) (fun e => ⟨gv_f e, rfl⟩) ?_
  obtain ⟨x23, hx23, h⟩ := h.lt
  refine Ro_v (v := (Value.bool x23)) rfl (o_pick rfl rfl (by intro e; subst e; subst hx23; rfl) (by intro e; subst e; subst hx23; rfl)) ?_
  refine Ro_v (v := (Value.bool x23)) rfl (o_assign rfl rfl) ?_
  refine Ro_nil ?_
  exact Fx_ret rfl rfl (congrArg some h.sm)
noncomputable def c13_0 : Code := bodyOf Tryd.f13
noncomputable def c13_1 : Code := cl c13_0
noncomputable def c13_2 : Code := cr c13_0
noncomputable def c13_3 : Code := cl c13_2
noncomputable def c13_4 : Code := cr c13_2
theorem ok13 : funcOk Tryd.f13 = true := by kernel_rfl
noncomputable def rs13 : List ResultVar := resultsOf Tryd.f13
theorem w13 (id_2 : Int) (σ : AHeap) (r : Bool) (h : G_semvcsref10_Valid id_2 = some r) : callL Tryd.prog 13 [(Value.int .i64 id_2)] σ = some ((Value.bool r), σ) := by
  refine callL_walk (fn := Tryd.f13) (c := c13_0) (rs := rs13) Tryd.func13 rfl ok13 rfl rfl ?_
  obtain ⟨out, ho⟩ : ∃ out, out = ((Value.bool r), σ) := ⟨_, rfl⟩
  rw [← ho]
  replace h : OptW (G_semvcsref10_Valid id_2) (fun r => ((Value.bool r), σ) = out) := ⟨r, h, ho.symm⟩
  unfold G_semvcsref10_Valid at h
  refine Fx_seq (a := c13_1) (b := c13_2) rfl ?_
  refine Fx_text rfl (by kernel_rfl) ?_
  refine Ro_v (v := (Value.bool false)) rfl (o_assign rfl rfl) ?_
  refine Ro_nil ?_
  refine Fx_seq (a := c13_3) (b := c13_4) rfl ?_
  refine Fx_text rfl (by kernel_rfl) ?_
  refine Ro_v (v := (Value.int .i64 id_2)) rfl (o_move rfl rfl) ?_
  obtain ⟨x3, hx3, h⟩ := h.lt
  refine Ro_v (v := (Value.bool x3)) rfl (o_gtr rfl rfl rfl hx3) ?_
  refine Ro_v (v := (Value.bool x3)) rfl (o_move rfl rfl) ?_
  refine Ro_set (t := x3) (v := bif x3 then (Value.int .i64 id_2) else undef) rfl (w_T rfl rfl rfl) (by intro e; have e0 := e; subst e0; exact o_move rfl rfl) (fun e => ⟨gv_f e, rfl⟩) ?_
  obtain ⟨x4, hx4, h⟩ := h.lt
  refine Ro_set (t := x3) (v := bif x3 then (Value.bool x4) else undef) rfl (w_T rfl rfl rfl) (by intro e; have e0 := e; subst e0; exact o_lss rfl rfl rfl hx4) (fun e => ⟨gv_f e, rfl⟩) ?_
  obtain ⟨x5, hx5, h⟩ := h.lt
  refine Ro_v (v := (Value.bool x5)) rfl (o_pick rfl rfl (by intro e; subst e; subst hx5; rfl) (by intro e; subst e; subst hx5; rfl)) ?_
  refine Ro_v (v := (Value.bool x5)) rfl (o_move rfl rfl) ?_
  refine Ro_set (t := x5) (v := bif x5 then (Value.int .i64 id_2) else undef) rfl (w_T rfl rfl rfl) (by intro e; have e0 := e; subst e0; exact o_move rfl rfl) (fun e => ⟨gv_f e, rfl⟩) ?_
  obtain ⟨x6, hx6, h⟩ := h.lt
  refine Ro_set (t := x5) (v := bif x5 then (Value.int .i64 x6) else undef) rfl (w_T rfl rfl rfl) (by intro e; have e0 := e; subst e0; exact o_rem rfl rfl rfl (by decide) hx6) (fun e => ⟨gv_f e, rfl⟩) ?_
  obtain ⟨x7, hx7, h⟩ := h.lt
  refine Ro_set (t := x5) (v := bif x5 then (Value.bool x7) else undef) rfl (w_T rfl rfl rfl) (by intro e; have e0 := e; subst e0; exact o_neq rfl rfl rfl hx7) (fun e => ⟨gv_f e, rfl⟩) ?_
  obtain ⟨x8, hx8, h⟩ := h.lt
  refine Ro_v (v := (Value.bool x8)) rfl (o_pick rfl rfl (by intro e; subst e; subst hx8; rfl) (by intro e; subst e; subst hx8; rfl)) ?_
  refine Ro_v (v := (Value.bool x8)) rfl (o_assign rfl rfl) ?_
  refine Ro_nil ?_
  exact Fx_ret rfl rfl (congrArg some h.sm)
noncomputable def c15_0 : Code := bodyOf Tryd.f15
noncomputable def c15_1 : Code := cl c15_0
noncomputable def c15_2 : Code := cr c15_0
noncomputable def c15_3 : Code := cl c15_2
noncomputable def c15_4 : Code := cl c15_3
noncomputable def c15_5 : Code := cr c15_3
noncomputable def c15_6 : Code := cl c15_5
noncomputable def c15_7 : Code := cl c15_6
noncomputable def c15_8 : Code := cr c15_6
noncomputable def c15_9 : Code := cr c15_5
noncomputable def c15_10 : Code := cr c15_2
noncomputable def c15_11 : Code := cl c15_10
noncomputable def c15_12 : Code := cr c15_10
theorem ok15 : funcOk Tryd.f15 = true := by kernel_rfl
noncomputable def rs15 : List ResultVar := resultsOf Tryd.f15
theorem w15 (id_2 : Int) (σ : AHeap) (r : Int) (h : G_semvcsref10_Site id_2 = some r) : callL Tryd.prog 15 [(Value.int .i64 id_2)] σ = some ((Value.int .i64 r), σ) := by
  refine callL_walk (fn := Tryd.f15) (c := c15_0) (rs := rs15) Tryd.func15 rfl ok15 rfl rfl ?_
  obtain ⟨out, ho⟩ : ∃ out, out = ((Value.int .i64 r), σ) := ⟨_, rfl⟩
  rw [← ho]
  replace h : OptW (G_semvcsref10_Site id_2) (fun r => ((Value.int .i64 r), σ) = out) := ⟨r, h, ho.symm⟩
  unfold G_semvcsref10_Site at h
  refine Fx_seq (a := c15_1) (b := c15_2) rfl ?_
  refine Fx_text rfl (by kernel_rfl) ?_
  refine Ro_v (v := (Value.int .i64 (0))) rfl (o_assign rfl rfl) ?_
  refine Ro_nil ?_
  refine Fx_seq (a := c15_3) (b := c15_10) rfl ?_
  refine Fx_seq (a := c15_4) (b := c15_5) rfl ?_
  refine Fx_text rfl (by kernel_rfl) ?_
  refine Ro_v (v := (Value.int .i64 id_2)) rfl (o_move rfl rfl) ?_
  obtain ⟨x3, hx3, h⟩ := h.bd
  refine Ro_v (v := (Value.bool x3)) rfl (o_call (vs := [(Value.int .i64 id_2)]) rfl rfl (w13 _ _ _ hx3)) ?_
  obtain ⟨x4, hx4, h⟩ := h.lt
  refine Ro_v (v := (Value.bool x4)) rfl (o_not rfl rfl hx4) ?_
  refine Ro_nil ?_
  refine Fx_cond (a := c15_6) (b := c15_9) rfl rfl (fun ex4 => ?_) (fun ex4 => ?_)
  · replace h := h.ifT ex4
    refine Fx_seq (a := c15_7) (b := c15_8) rfl ?_
    refine Fx_text rfl (by kernel_rfl) ?_
    refine Ro_v (v := (Value.int .i64 (0))) rfl (o_assign rfl rfl) ?_
    refine Ro_nil ?_
    exact Fx_ret rfl rfl (congrArg some h.sm)
  · replace h := h.ifF ex4
    refine Fx_skip (c := c15_9) rfl ?_
    refine Fx_seq (a := c15_11) (b := c15_12) rfl ?_
    refine Fx_text rfl (by kernel_rfl) ?_
    refine Ro_v (v := (Value.int .i64 id_2)) rfl (o_move rfl rfl) ?_
    obtain ⟨x5, hx5, h⟩ := h.lt
    refine Ro_v (v := (Value.int .i64 x5)) rfl (o_quo rfl rfl rfl (by decide) hx5) ?_
    refine Ro_v (v := (Value.int .i64 x5)) rfl (o_assign rfl rfl) ?_
    refine Ro_nil ?_
    exact Fx_ret rfl rfl (congrArg some h.sm)
noncomputable def c17_0 : Code := bodyOf Tryd.f17
noncomputable def c17_1 : Code := cl c17_0
noncomputable def c17_2 : Code := cr c17_0
noncomputable def c17_3 : Code := cl c17_2
noncomputable def c17_4 : Code := cl c17_3
noncomputable def c17_5 : Code := cr c17_3
noncomputable def c17_6 : Code := cl c17_5
noncomputable def c17_7 : Code := cl c17_6
noncomputable def c17_8 : Code := cr c17_6
noncomputable def c17_9 : Code := cr c17_5
noncomputable def c17_10 : Code := cr c17_2
noncomputable def c17_11 : Code := cl c17_10
noncomputable def c17_12 : Code := cr c17_10
theorem ok17 : funcOk Tryd.f17 = true := by kernel_rfl
noncomputable def rs17 : List ResultVar := resultsOf Tryd.f17
theorem w17 (id_2 : Int) (σ : AHeap) (r : Int) (h : G_semvcsref10_Serial id_2 = some r) : callL Tryd.prog 17 [(Value.int .i64 id_2)] σ = some ((Value.int .i64 r), σ) := by
  refine callL_walk (fn := Tryd.f17) (c := c17_0) (rs := rs17) Tryd.func17 rfl ok17 rfl rfl ?_
  obtain ⟨out, ho⟩ : ∃ out, out = ((Value.int .i64 r), σ) := ⟨_, rfl⟩
  rw [← ho]
  replace h : OptW (G_semvcsref10_Serial id_2) (fun r => ((Value.int .i64 r), σ) = out) := ⟨r, h, ho.symm⟩
  unfold G_semvcsref10_Serial at h
  refine Fx_seq (a := c17_1) (b := c17_2) rfl ?_
  refine Fx_text rfl (by kernel_rfl) ?_
  refine Ro_v (v := (Value.int .i64 (0))) rfl (o_assign rfl rfl) ?_
  refine Ro_nil ?_
  refine Fx_seq (a := c17_3) (b := c17_10) rfl ?_
  refine Fx_seq (a := c17_4) (b := c17_5) rfl ?_
  refine Fx_text rfl (by kernel_rfl) ?_
  refine Ro_v (v := (Value.int .i64 id_2)) rfl (o_move rfl rfl) ?_
  obtain ⟨x3, hx3, h⟩ := h.bd
  refine Ro_v (v := (Value.bool x3)) rfl (o_call (vs := [(Value.int .i64 id_2)]) rfl rfl (w13 _ _ _ hx3)) ?_
  obtain ⟨x4, hx4, h⟩ := h.lt
  refine Ro_v (v := (Value.bool x4)) rfl (o_not rfl rfl hx4) ?_
  refine Ro_nil ?_
  refine Fx_cond (a := c17_6) (b := c17_9) rfl rfl (fun ex4 => ?_) (fun ex4 => ?_)
  · replace h := h.ifT ex4
    refine Fx_seq (a := c17_7) (b := c17_8) rfl ?_
    refine Fx_text rfl (by kernel_rfl) ?_
    refine Ro_v (v := (Value.int .i64 (0))) rfl (o_assign rfl rfl) ?_
    refine Ro_nil ?_
    exact Fx_ret rfl rfl (congrArg some h.sm)
  · replace h := h.ifF ex4
    refine Fx_skip (c := c17_9) rfl ?_
    refine Fx_seq (a := c17_11) (b := c17_12) rfl ?_
    refine Fx_text rfl (by kernel_rfl) ?_
    refine Ro_v (v := (Value.int .i64 id_2)) rfl (o_move rfl rfl) ?_
    obtain ⟨x5, hx5, h⟩ := h.lt
    refine Ro_v (v := (Value.int .i64 x5)) rfl (o_rem rfl rfl rfl (by decide) hx5) ?_
    refine Ro_v (v := (Value.int .i64 x5)) rfl (o_assign rfl rfl) ?_
    refine Ro_nil ?_
    exact Fx_ret rfl rfl (congrArg some h.sm)
noncomputable def c3_0 : Code := bodyOf Tryd.f3
noncomputable def c3_1 : Code := cl c3_0
noncomputable def c3_2 : Code := cr c3_0
noncomputable def c3_3 : Code := cl c3_2
noncomputable def c3_4 : Code := cr c3_2
noncomputable def c3_5 : Code := cl c3_4
noncomputable def c3_6 : Code := cr c3_4
noncomputable def c3_7 : Code := cl c3_6
noncomputable def c3_8 : Code := cr c3_6
theorem ok3 : funcOk Tryd.f3 = true := by kernel_rfl
noncomputable def rs3 : List ResultVar := resultsOf Tryd.f3
theorem w3 (site_2 : Int) (n_3 : Int) (id_4 : Int) (σ : AHeap) (r : Bool) (h : G_semvcslaw10_IdentMakes site_2 n_3 id_4 σ = some r) : callL Tryd.prog 3 [(Value.int .i64 site_2), (Value.int .i64 n_3), (Value.int .i64 id_4)] σ = some ((Value.bool r), σ) := by
  refine callL_walk (fn := Tryd.f3) (c := c3_0) (rs := rs3) Tryd.func3 rfl ok3 rfl rfl ?_
  obtain ⟨out, ho⟩ : ∃ out, out = ((Value.bool r), σ) := ⟨_, rfl⟩
  rw [← ho]
  replace h : OptW (G_semvcslaw10_IdentMakes site_2 n_3 id_4 σ) (fun r => ((Value.bool r), σ) = out) := ⟨r, h, ho.symm⟩
  unfold G_semvcslaw10_IdentMakes at h
  refine Fx_seq (a := c3_1) (b := c3_2) rfl ?_
  refine Fx_text rfl (by kernel_rfl) ?_
  refine Ro_v (v := (Value.bool false)) rfl (o_assign rfl rfl) ?_
  refine Ro_nil ?_
  refine Fx_seq (a := c3_3) (b := c3_4) rfl ?_
  refine Fx_text rfl (by kernel_rfl) ?_
  refine Ro_v (v := (Value.int .i64 site_2)) rfl (o_move rfl rfl) ?_
  refine Ro_v (v := (Value.int .i64 n_3)) rfl (o_move rfl rfl) ?_
  obtain ⟨⟨x5, x6⟩, hx5, h⟩ := h.bd
  refine Ro_v (v := (Value.tuple #[(Value.int .i64 x5), (Value.int .i64 x6)])) rfl (o_call (vs := [(Value.int .i64 site_2), (Value.int .i64 n_3)]) rfl rfl (w9 _ _ _ _ hx5)) ?_
  refine Ro_v (v := (Value.tuple #[(Value.int .i64 x5), (Value.int .i64 x6)])) rfl (o_move rfl rfl) ?_
  refine Ro_v (v := (Value.int .i64 x5)) rfl (o_ext rfl rfl rfl) ?_
  refine Ro_v (v := (Value.int .i64 x6)) rfl (o_ext rfl rfl rfl) ?_
  refine Ro_v (v := (Value.int .i64 x5)) rfl (o_assign rfl rfl) ?_
  refine Ro_v (v := (Value.int .i64 x6)) rfl (o_assign rfl rfl) ?_
  refine Ro_nil ?_
  refine Fx_seq (a := c3_5) (b := c3_6) rfl ?_
  refine Fx_text rfl (by kernel_rfl) ?_
  refine Ro_v (v := (Value.int .i64 site_2)) rfl (o_move rfl rfl) ?_
  refine Ro_v (v := (Value.int .i64 n_3)) rfl (o_move rfl rfl) ?_
  obtain ⟨⟨x7, x8⟩, hx7, h⟩ := h.bd
  refine Ro_v (v := (Value.tuple #[(Value.int .i64 x7), (Value.int .i64 x8)])) rfl (o_call (vs := [(Value.int .i64 site_2), (Value.int .i64 n_3)]) rfl rfl (w10 _ _ _ _ hx7)) ?_
  refine Ro_v (v := (Value.tuple #[(Value.int .i64 x7), (Value.int .i64 x8)])) rfl (o_move rfl rfl) ?_
  refine Ro_v (v := (Value.int .i64 x7)) rfl (o_ext rfl rfl rfl) ?_
  refine Ro_v (v := (Value.int .i64 x8)) rfl (o_ext rfl rfl rfl) ?_
  refine Ro_v (v := (Value.int .i64 x7)) rfl (o_assign rfl rfl) ?_
  refine Ro_v (v := (Value.int .i64 x8)) rfl (o_assign rfl rfl) ?_
  refine Ro_nil ?_
  refine Fx_seq (a := c3_7) (b := c3_8) rfl ?_
  refine Fx_text rfl (by kernel_rfl) ?_
  obtain ⟨x9, hx9, h⟩ := h.bd
  refine Ro_v (v := (Value.bool x9)) rfl (o_call (vs := []) rfl rfl (w11 _ _ hx9)) ?_
  refine Ro_v (v := (Value.bool x9)) rfl (o_move rfl rfl) ?_
  refine Ro_set (t := x9) (v := bif x9 then (Value.int .i64 x5) else undef) rfl (w_T rfl rfl rfl) (by intro e; have e0 := e; subst e0; exact o_move rfl rfl) (fun e => ⟨gv_f e, rfl⟩) ?_
  refine Ro_set (t := x9) (v := bif x9 then (Value.int .i64 x7) else undef) rfl (w_T rfl rfl rfl) (by intro e; have e0 := e; subst e0; exact o_move rfl rfl) (fun e => ⟨gv_f e, rfl⟩) ?_
  obtain ⟨x10, hx10, h⟩ := h.lt
  refine Ro_set (t := x9) (v := bif x9 then (Value.bool x10) else undef) rfl (w_T rfl rfl rfl) (by intro e; have e0 := e; subst e0; exact o_eql rfl rfl rfl hx10) (fun e => ⟨gv_f e, rfl⟩) ?_
  obtain ⟨x11, hx11, h⟩ := h.lt
  refine Ro_v (v := (Value.bool x11)) rfl (o_pick rfl rfl (by intro e; subst e; subst hx11; rfl) (by intro e; subst e; subst hx11; rfl)) ?_
  refine Ro_v (v := (Value.bool x11)) rfl (o_move rfl rfl) ?_
  refine Ro_set (t := x11) (v := bif x11 then (Value.int .i64 x6) else undef) rfl (w_T rfl rfl rfl) (by intro e; have e0 := e; subst e0; exact o_move rfl rfl) (fun e => ⟨gv_f e, rfl⟩) ?_
  refine Ro_set (t := x11) (v := bif x11 then (Value.int .i64 x8) else undef) rfl (w_T rfl rfl rfl) (by intro e; have e0 := e; subst e0; exact o_move rfl rfl) (fun e => ⟨gv_f e, rfl⟩) ?_
  obtain ⟨x12, hx12, h⟩ := h.lt
  refine Ro_set (t := x11) (v := bif x11 then (Value.bool x12) else undef) rfl (w_T rfl rfl rfl) (by intro e; have e0 := e; subst e0; exact o_eql rfl rfl rfl hx12) (fun e => ⟨gv_f e, rfl⟩) ?_
  obtain ⟨x13, hx13, h⟩ := h.lt
  refine Ro_v (v := (Value.bool x13)) rfl (o_pick rfl rfl (by intro e; subst e; subst hx13; rfl) (by intro e; subst e; subst hx13; rfl)) ?_
  refine Ro_v (v := (Value.bool x13)) rfl (o_move rfl rfl) ?_
  refine Ro_set (t := x13) (v := bif x13 then (Value.int .i64 id_4) else undef) rfl (w_T rfl rfl rfl) (by intro e; have e0 := e; subst e0; exact o_move rfl rfl) (fun e => ⟨gv_f e, rfl⟩) ?_
  obtain ⟨x14, hx14, h⟩ := h.bd
  refine Ro_set (t := x13) (v := bif x13 then (Value.bool x14) else undef) rfl (w_T rfl rfl rfl) (by intro e; have e0 := e; subst e0; exact o_call (vs := [(Value.int .i64 id_4)]) rfl rfl (w12 _ _ _ hx14)) (fun e => ⟨gv_f e, rfl⟩) ?_
  refine Ro_set (t := x13) (v := bif x13 then (Value.int .i64 id_4) else undef) rfl (w_T rfl rfl rfl) (by intro e; have e0 := e; subst e0; exact o_move rfl rfl) (fun e => ⟨gv_f e, rfl⟩) ?_
  obtain ⟨x15, hx15, h⟩ := h.bd
  refine Ro_set (t := x13) (v := bif x13 then (Value.bool x15) else undef) rfl (w_T rfl rfl rfl) (by intro e; have e0 := e; subst e0; exact o_call (vs := [(Value.int .i64 id_4)]) rfl rfl (w13 _ _ _ hx15)) (fun e => ⟨gv_f e, rfl⟩) ?_
  obtain ⟨x16, hx16, h⟩ := h.lt
  refine Ro_set (t := x13) (v := bif x13 then (Value.bool x16) else undef) rfl (w_T rfl rfl rfl) (by intro e; have e0 := e; subst e0; exact o_beql rfl tu4 rfl rfl hx16) (fun e => ⟨gv_f e, rfl⟩) ?_
  obtain ⟨x17, hx17, h⟩ := h.lt
  refine Ro_v (v := (Value.bool x17)) rfl (o_pick rfl rfl (by intro e; subst e; subst hx17; rfl) (by intro e; subst e; subst hx17; rfl)) ?_
  refine Ro_v (v := (Value.bool x17)) rfl (o_move rfl rfl) ?_
  refine Ro_set (t := x17) (v := bif x17 then (Value.int .i64 id_4) else undef) rfl (w_T rfl rfl rfl) (by intro e; have e0 := e; subst e0; exact o_move rfl rfl) (fun e => ⟨gv_f e, rfl⟩) ?_
  obtain ⟨x18, hx18, h⟩ := h.bd
  refine Ro_set (t := x17) (v := bif x17 then (Value.int .i64 x18) else undef) rfl (w_T rfl rfl rfl) (by intro e; have e0 := e; subst e0; exact o_call (vs := [(Value.int .i64 id_4)]) rfl rfl (w14 _ _ _ hx18)) (fun e => ⟨gv_f e, rfl⟩) ?_
  refine Ro_set (t := x17) (v := bif x17 then (Value.int .i64 id_4) else undef) rfl (w_T rfl rfl rfl) (by intro e; have e0 := e; subst e0; exact o_move rfl rfl) (fun e => ⟨gv_f e, rfl⟩) ?_
  obtain ⟨x19, hx19, h⟩ := h.bd
  refine Ro_set (t := x17) (v := bif x17 then (Value.int .i64 x19) else undef) rfl (w_T rfl rfl rfl) (by intro e; have e0 := e; subst e0; exact o_call (vs := [(Value.int .i64 id_4)]) rfl rfl (w15 _ _ _ hx19)) (fun e => ⟨gv_f e, rfl⟩) ?_
  obtain ⟨x20, hx20, h⟩ := h.lt
  refine Ro_set (t := x17) (v := bif x17 then (Value.bool x20) else undef) rfl (w_T rfl rfl rfl) (by intro e; have e0 := e; subst e0; exact o_eql rfl rfl rfl hx20) (fun e => ⟨gv_f e, rfl⟩) ?_
  obtain ⟨x21, hx21, h⟩ := h.lt
  refine Ro_v (v := (Value.bool x21)) rfl (o_pick rfl rfl (by intro e; subst e; subst hx21; rfl) (by intro e; subst e; subst hx21; rfl)) ?_
  refine Ro_v (v := (Value.bool x21)) rfl (o_move rfl rfl) ?_
  refine Ro_set (t := x21) (v := bif x21 then (Value.int .i64 id_4) else undef) rfl (w_T rfl rfl rfl) (by intro e; have e0 := e; subst e0; exact o_move rfl rfl) (fun e => ⟨gv_f e, rfl⟩) ?_
  obtain ⟨x22, hx22, h⟩ := h.bd
  refine Ro_set (t := x21) (v := bif x21 then (Value.int .i64 x22) else undef) rfl (w_T rfl rfl rfl) (by intro e; have e0 := e; subst e0; exact o_call (vs := [(Value.int .i64 id_4)]) rfl rfl (w16 _ _ _ hx22)) (fun e => ⟨gv_f e, rfl⟩) ?_
  refine Ro_set (t := x21) (v := bif x21 then (Value.int .i64 id_4) else undef) rfl (w_T rfl rfl rfl) (by intro e; have e0 := e; subst e0; exact o_move rfl rfl) (fun e => ⟨gv_f e, rfl⟩) ?_
  obtain ⟨x23, hx23, h⟩ := h.bd
  refine Ro_set (t := x21) (v := bif x21 then (Value.int .i64 x23) else undef) rfl (w_T rfl rfl rfl) (by intro e; have e0 := e; subst e0; exact o_call (vs := [(Value.int .i64 id_4)]) rfl rfl (w17 _ _ _ hx23)) (fun e => ⟨gv_f e, rfl⟩) ?_
  obtain ⟨x24, hx24, h⟩ := h.lt
  refine Ro_set (t := x21) (v := bif x21 then (Value.bool x24) else undef) rfl (w_T rfl rfl rfl) (by intro e; have e0 := e; subst e0; exact o_eql rfl rfl rfl hx24) (fun e => ⟨gv_f e, rfl⟩) ?_
  obtain ⟨x25, hx25, h⟩ := h.lt
  refine Ro_v (v := (Value.bool x25)) rfl (o_pick rfl rfl (by intro e; subst e; subst hx25; rfl) (by intro e; subst e; subst hx25; rfl)) ?_
  refine Ro_v (v := (Value.bool x25)) rfl (o_assign rfl rfl) ?_
  refine Ro_nil ?_
  exact Fx_ret rfl rfl (congrArg some h.sm)
noncomputable def c28_0 : Code := bodyOf Tryd.f28
noncomputable def c28_1 : Code := cl c28_0
noncomputable def c28_2 : Code := cr c28_0
noncomputable def c28_3 : Code := cl c28_2
noncomputable def c28_4 : Code := cr c28_2
noncomputable def c28_5 : Code := cl c28_4
noncomputable def c28_6 : Code := cl c28_5
noncomputable def c28_7 : Code := cl c28_6
noncomputable def c28_8 : Code := cl c28_7
noncomputable def c28_9 : Code := cr c28_7
noncomputable def c28_10 : Code := cl c28_9
noncomputable def c28_11 : Code := cr c28_9
noncomputable def c28_12 : Code := cl c28_11
noncomputable def c28_13 : Code := cr c28_11
noncomputable def c28_14 : Code := cl c28_13
noncomputable def c28_15 : Code := cl c28_14
noncomputable def c28_16 : Code := cr c28_14
noncomputable def c28_17 : Code := cr c28_13
theorem ok28 : funcOk Tryd.f28 = true := by kernel_rfl
noncomputable def rs28 : List ResultVar := resultsOf Tryd.f28
noncomputable def C28_l1   (out : Value × AHeap) : (Int × ByteArray × AHeap) ⊕ (ByteArray × AHeap) → Prop
  | .inl (n_3, s_4, σ) => ∀ f, Fx Tryd.prog rs28 [.code c28_5, .blk 0] .normal (Fr.set (Fr.set f 0 (Value.int .i64 n_3)) 3 (Value.string s_4)) σ = some out
  | .inr (x5, σ) => ((Value.string x5), σ) = out
theorem q28_l1 (n_3 : Int) (s_4 : ByteArray) (σ : AHeap)  (out : Value × AHeap) (f : Fr) (h : OptW (G_semvcsref10_decimal_l1 (n_3, s_4, σ)) (C28_l1 out)) :
    Fx Tryd.prog rs28 [.code c28_5, .blk 0] .normal (Fr.set (Fr.set f 0 (Value.int .i64 n_3)) 3 (Value.string s_4)) σ = some out := by
  unfold G_semvcsref10_decimal_l1 at h
  refine Fx_loop (b := c28_6) rfl ?_
  refine Fx_block (b := c28_7) rfl ?_
  refine Fx_seq (a := c28_8) (b := c28_9) rfl ?_
  refine Fx_text rfl (by kernel_rfl) ?_
  refine Ro_v (v := (Value.int .i64 n_3)) rfl (o_move rfl rfl) ?_
  obtain ⟨x6, hx6, h⟩ := h.lt
  refine Ro_v (v := (Value.int .i64 x6)) rfl (o_rem rfl rfl rfl (by decide) hx6) ?_
  obtain ⟨x7, hx7, h⟩ := h.lt
  refine Ro_v (v := (Value.int .i64 x7)) rfl (o_add rfl rfl rfl hx7) ?_
  obtain ⟨x8, hx8, h⟩ := h.lt
  refine Ro_v (v := (Value.int .u8 x8)) rfl (o_convI rfl tu3 tu5 rfl hx8) ?_
  obtain ⟨⟨x9, σ10⟩, hσ10, h⟩ := h.lt
  refine Ro_v (v := (Sl.v x9)) rfl (o_buildSl (ps := [(0, (Value.int .u8 x8))]) (cs := #[(Value.int .u8 x8)]) (vs := [(Value.int .u8 x8)]) rfl tu38 ts5 tz5 rfl rfl (by decide) rfl rfl hσ10.symm) ?_
  obtain ⟨x11, hx11, h⟩ := h.bd
  refine Ro_v (v := (Value.string x11)) rfl (o_convBS rfl tu38 tu9 tu5 rfl hx11) ?_
  refine Ro_v (v := (Value.string s_4)) rfl (o_move rfl rfl) ?_
  obtain ⟨x12, hx12, h⟩ := h.bd
  refine Ro_v (v := (Value.string x12)) rfl (o_saddO rfl rfl rfl hx12) ?_
  refine Ro_v (v := (Value.string x12)) rfl (o_assign rfl rfl) ?_
  refine Ro_nil ?_
  refine Fx_seq (a := c28_10) (b := c28_11) rfl ?_
  refine Fx_text rfl (by kernel_rfl) ?_
  refine Ro_v (v := (Value.int .i64 n_3)) rfl (o_move rfl rfl) ?_
  obtain ⟨x13, hx13, h⟩ := h.lt
  refine Ro_v (v := (Value.int .i64 x13)) rfl (o_quo rfl rfl rfl (by decide) hx13) ?_
  refine Ro_v (v := (Value.int .i64 x13)) rfl (o_assign rfl rfl) ?_
  refine Ro_nil ?_
  refine Fx_seq (a := c28_12) (b := c28_13) rfl ?_
  refine Fx_text rfl (by kernel_rfl) ?_
  refine Ro_v (v := (Value.int .i64 x13)) rfl (o_move rfl rfl) ?_
  obtain ⟨x14, hx14, h⟩ := h.lt
  refine Ro_v (v := (Value.bool x14)) rfl (o_eql rfl rfl rfl hx14) ?_
  refine Ro_nil ?_
  refine Fx_cond (a := c28_14) (b := c28_17) rfl rfl (fun ex14 => ?_) (fun ex14 => ?_)
  · replace h := h.ifT ex14
    refine Fx_seq (a := c28_15) (b := c28_16) rfl ?_
    refine Fx_text rfl (by kernel_rfl) ?_
    refine Ro_v (v := (Value.string x12)) rfl (o_move rfl rfl) ?_
    refine Ro_v (v := (Value.string x12)) rfl (o_assign rfl rfl) ?_
    refine Ro_nil ?_
    exact Fx_ret rfl rfl (congrArg some h.sm)
  · replace h := h.ifF ex14
    refine Fx_skip (c := c28_17) rfl ?_
    refine Fx_blk ?_
    exact Fx_forget (Fr.set_of (Fr.set_of rfl rfl) rfl) (h.sm _)
theorem w28 (n_2 : Int) (σ : AHeap) (r : (ByteArray × AHeap)) (h : G_semvcsref10_decimal n_2 σ = some r) : callL Tryd.prog 28 [(Value.int .i64 n_2)] σ = some ((Value.string r.1), r.2) := by
  refine callL_walk (fn := Tryd.f28) (c := c28_0) (rs := rs28) Tryd.func28 rfl ok28 rfl rfl ?_
  obtain ⟨out, ho⟩ : ∃ out, out = ((Value.string r.1), r.2) := ⟨_, rfl⟩
  rw [← ho]
  replace h : OptW (G_semvcsref10_decimal n_2 σ) (fun r => ((Value.string r.1), r.2) = out) := ⟨r, h, ho.symm⟩
  unfold G_semvcsref10_decimal at h
  refine Fx_seq (a := c28_1) (b := c28_2) rfl ?_
  refine Fx_text rfl (by kernel_rfl) ?_
  refine Ro_v (v := (Value.string (⟨#[]⟩ : ByteArray))) rfl (o_assign rfl rfl) ?_
  refine Ro_nil ?_
  refine Fx_seq (a := c28_3) (b := c28_4) rfl ?_
  refine Fx_text rfl (by kernel_rfl) ?_
  refine Ro_v (v := (Value.string (⟨#[]⟩ : ByteArray))) rfl (o_assign rfl rfl) ?_
  refine Ro_nil ?_
  refine Fx_block (b := c28_5) rfl ?_
  refine Fx_forget (Fr.set_of (Fr.set_of rfl rfl) rfl) ((OptW.loop h (fun s => C28_l1 out (.inl s)) ?_ : C28_l1 out (.inl (n_2, (⟨#[]⟩ : ByteArray), σ))) _)
  intro s hs f
  obtain ⟨n_3, s_4, σ⟩ := s
  refine q28_l1 n_3 s_4 σ out f (hs.imp ?_)
  intro r hr
  rcases r with y | b
  · exact hr
  · obtain ⟨x15, σ16⟩ := b
    have h := hr
    exact h.sm
noncomputable def c21_0 : Code := bodyOf Tryd.f21
noncomputable def c21_1 : Code := cl c21_0
noncomputable def c21_2 : Code := cr c21_0
noncomputable def c21_3 : Code := cl c21_2
noncomputable def c21_4 : Code := cl c21_3
noncomputable def c21_5 : Code := cr c21_3
noncomputable def c21_6 : Code := cl c21_5
noncomputable def c21_7 : Code := cl c21_6
noncomputable def c21_8 : Code := cr c21_6
noncomputable def c21_9 : Code := cr c21_5
noncomputable def c21_10 : Code := cr c21_2
noncomputable def c21_11 : Code := cl c21_10
noncomputable def c21_12 : Code := cr c21_10
theorem ok21 : funcOk Tryd.f21 = true := by kernel_rfl
noncomputable def rs21 : List ResultVar := resultsOf Tryd.f21
theorem w21 (id_2 : Int) (σ : AHeap) (r : (ByteArray × AHeap)) (h : G_semvcsref10_Format id_2 σ = some r) : callL Tryd.prog 21 [(Value.int .i64 id_2)] σ = some ((Value.string r.1), r.2) := by
  refine callL_walk (fn := Tryd.f21) (c := c21_0) (rs := rs21) Tryd.func21 rfl ok21 rfl rfl ?_
  obtain ⟨out, ho⟩ : ∃ out, out = ((Value.string r.1), r.2) := ⟨_, rfl⟩
  rw [← ho]
  replace h : OptW (G_semvcsref10_Format id_2 σ) (fun r => ((Value.string r.1), r.2) = out) := ⟨r, h, ho.symm⟩
  unfold G_semvcsref10_Format at h
  refine Fx_seq (a := c21_1) (b := c21_2) rfl ?_
  refine Fx_text rfl (by kernel_rfl) ?_
  refine Ro_v (v := (Value.string (⟨#[]⟩ : ByteArray))) rfl (o_assign rfl rfl) ?_
  refine Ro_nil ?_
  refine Fx_seq (a := c21_3) (b := c21_10) rfl ?_
  refine Fx_seq (a := c21_4) (b := c21_5) rfl ?_
  refine Fx_text rfl (by kernel_rfl) ?_
  refine Ro_v (v := (Value.int .i64 id_2)) rfl (o_move rfl rfl) ?_
  obtain ⟨x3, hx3, h⟩ := h.bd
  refine Ro_v (v := (Value.bool x3)) rfl (o_call (vs := [(Value.int .i64 id_2)]) rfl rfl (w13 _ _ _ hx3)) ?_
  obtain ⟨x4, hx4, h⟩ := h.lt
  refine Ro_v (v := (Value.bool x4)) rfl (o_not rfl rfl hx4) ?_
  refine Ro_nil ?_
  refine Fx_cond (a := c21_6) (b := c21_9) rfl rfl (fun ex4 => ?_) (fun ex4 => ?_)
  · replace h := h.ifT ex4
    refine Fx_seq (a := c21_7) (b := c21_8) rfl ?_
    refine Fx_text rfl (by kernel_rfl) ?_
    refine Ro_v (v := (Value.string (⟨#[]⟩ : ByteArray))) rfl (o_assign rfl rfl) ?_
    refine Ro_nil ?_
    exact Fx_ret rfl rfl (congrArg some h.sm)
  · replace h := h.ifF ex4
    refine Fx_skip (c := c21_9) rfl ?_
    refine Fx_seq (a := c21_11) (b := c21_12) rfl ?_
    refine Fx_text rfl (by kernel_rfl) ?_
    refine Ro_v (v := (Value.int .i64 id_2)) rfl (o_move rfl rfl) ?_
    obtain ⟨x5, hx5, h⟩ := h.bd
    refine Ro_v (v := (Value.int .i64 x5)) rfl (o_call (vs := [(Value.int .i64 id_2)]) rfl rfl (w15 _ _ _ hx5)) ?_
    obtain ⟨⟨x7, σ8⟩, hσ8, h⟩ := h.bd
    refine Ro_v (v := (Value.string x7)) rfl (o_call (vs := [(Value.int .i64 x5)]) rfl rfl (w28 _ _ _ hσ8)) ?_
    obtain ⟨x9, hx9, h⟩ := h.bd
    refine Ro_v (v := (Value.string x9)) rfl (o_saddO rfl rfl rfl hx9) ?_
    refine Ro_v (v := (Value.int .i64 id_2)) rfl (o_move rfl rfl) ?_
    obtain ⟨x10, hx10, h⟩ := h.bd
    refine Ro_v (v := (Value.int .i64 x10)) rfl (o_call (vs := [(Value.int .i64 id_2)]) rfl rfl (w17 _ _ _ hx10)) ?_
    obtain ⟨⟨x12, σ13⟩, hσ13, h⟩ := h.bd
    refine Ro_v (v := (Value.string x12)) rfl (o_call (vs := [(Value.int .i64 x10)]) rfl rfl (w28 _ _ _ hσ13)) ?_
    obtain ⟨x14, hx14, h⟩ := h.bd
    refine Ro_v (v := (Value.string x14)) rfl (o_saddO rfl rfl rfl hx14) ?_
    refine Ro_v (v := (Value.string x14)) rfl (o_assign rfl rfl) ?_
    refine Ro_nil ?_
    exact Fx_ret rfl rfl (congrArg some h.sm)
noncomputable def c19_0 : Code := bodyOf Tryd.f19
noncomputable def c19_1 : Code := cl c19_0
noncomputable def c19_2 : Code := cr c19_0
noncomputable def c19_3 : Code := cl c19_2
noncomputable def c19_4 : Code := cr c19_2
noncomputable def c19_5 : Code := cl c19_4
noncomputable def c19_6 : Code := cl c19_5
noncomputable def c19_7 : Code := cr c19_5
noncomputable def c19_8 : Code := cl c19_7
noncomputable def c19_9 : Code := cl c19_8
noncomputable def c19_10 : Code := cr c19_8
noncomputable def c19_11 : Code := cr c19_7
noncomputable def c19_12 : Code := cr c19_4
noncomputable def c19_13 : Code := cl c19_12
noncomputable def c19_14 : Code := cl c19_13
noncomputable def c19_15 : Code := cr c19_13
noncomputable def c19_16 : Code := cl c19_15
noncomputable def c19_17 : Code := cl c19_16
noncomputable def c19_18 : Code := cl c19_17
noncomputable def c19_19 : Code := cl c19_18
noncomputable def c19_20 : Code := cr c19_18
noncomputable def c19_21 : Code := cl c19_20
noncomputable def c19_22 : Code := cr c19_20
noncomputable def c19_23 : Code := cr c19_17
noncomputable def c19_24 : Code := cl c19_23
noncomputable def c19_25 : Code := cl c19_24
noncomputable def c19_26 : Code := cl c19_25
noncomputable def c19_27 : Code := cl c19_26
noncomputable def c19_28 : Code := cr c19_26
noncomputable def c19_29 : Code := cl c19_28
noncomputable def c19_30 : Code := cr c19_28
noncomputable def c19_31 : Code := cl c19_30
noncomputable def c19_32 : Code := cr c19_30
noncomputable def c19_33 : Code := cl c19_32
noncomputable def c19_34 : Code := cl c19_33
noncomputable def c19_35 : Code := cr c19_33
noncomputable def c19_36 : Code := cr c19_32
noncomputable def c19_37 : Code := cl c19_36
noncomputable def c19_38 : Code := cr c19_36
noncomputable def c19_39 : Code := cl c19_38
noncomputable def c19_40 : Code := cr c19_38
noncomputable def c19_41 : Code := cr c19_23
noncomputable def c19_42 : Code := cr c19_12
noncomputable def c19_43 : Code := cl c19_42
noncomputable def c19_44 : Code := cr c19_42
noncomputable def c19_45 : Code := cl c19_44
noncomputable def c19_46 : Code := cl c19_45
noncomputable def c19_47 : Code := cr c19_45
noncomputable def c19_48 : Code := cl c19_47
noncomputable def c19_49 : Code := cl c19_48
noncomputable def c19_50 : Code := cr c19_48
noncomputable def c19_51 : Code := cr c19_47
noncomputable def c19_52 : Code := cr c19_44
noncomputable def c19_53 : Code := cl c19_52
noncomputable def c19_54 : Code := cr c19_52
theorem ok19 : funcOk Tryd.f19 = true := by kernel_rfl
noncomputable def rs19 : List ResultVar := resultsOf Tryd.f19
noncomputable def C19_l1 (s_6 : ByteArray)  (out : Value × AHeap) : (Int × Int × Int × Int × AHeap) ⊕ ((Int × Int × AHeap) ⊕ (Int × Int × AHeap)) → Prop
  | .inl (site_7, n_8, dots_9, i_10, σ) => ∀ f, Fx Tryd.prog rs19 [.code c19_16, .blk 0, .code c19_42] .normal (Fr.set (Fr.set (Fr.set (Fr.set (Fr.set f 0 (Value.string s_6)) 4 (Value.int .i64 site_7)) 5 (Value.int .i64 n_8)) 6 (Value.int .i64 dots_9)) 7 (Value.int .i64 i_10)) σ = some out
  | .inr (.inl (site_11, n_12, σ)) => ∀ f, Fx Tryd.prog rs19 [.code c19_42] .normal (Fr.set (Fr.set (Fr.set f 0 (Value.string s_6)) 4 (Value.int .i64 site_11)) 5 (Value.int .i64 n_12)) σ = some out
  | .inr (.inr (x13, x14, σ)) => ((Value.tuple #[(Value.int .i64 x13), (Value.int .i64 x14)]), σ) = out
theorem p19_j1 (s_6 : ByteArray) (site_20 : Int) (n_21 : Int) (dots_22 : Int) (i_23 : Int) (σ : AHeap) (out : Value × AHeap) (f : Fr) (h : OptW (G_semvcsref10_Parse_j1 s_6 site_20 n_21 dots_22 i_23 σ) (C19_l1 s_6 out)) :
    Fx Tryd.prog rs19 [.code c19_41, .code c19_16, .blk 0, .code c19_42] .normal (Fr.set (Fr.set (Fr.set (Fr.set (Fr.set f 0 (Value.string s_6)) 4 (Value.int .i64 site_20)) 5 (Value.int .i64 n_21)) 6 (Value.int .i64 dots_22)) 7 (Value.int .i64 i_23)) σ = some out := by
  unfold G_semvcsref10_Parse_j1 at h
  refine Fx_text rfl (by kernel_rfl) ?_
  refine Ro_v (v := (Value.int .i64 i_23)) rfl (o_move rfl rfl) ?_
  obtain ⟨x24, hx24, h⟩ := h.lt
  refine Ro_v (v := (Value.int .i64 x24)) rfl (o_add rfl rfl rfl hx24) ?_
  refine Ro_v (v := (Value.int .i64 x24)) rfl (o_assign rfl rfl) ?_
  refine Ro_nil ?_
  exact Fx_forget (Fr.set_of (Fr.set_of (Fr.set_of (Fr.set_of (Fr.set_of rfl rfl) rfl) rfl) rfl) rfl) (h.sm _)
theorem q19_l1 (s_6 : ByteArray) (site_7 : Int) (n_8 : Int) (dots_9 : Int) (i_10 : Int) (σ : AHeap)  (out : Value × AHeap) (f : Fr) (h : OptW (G_semvcsref10_Parse_l1 s_6 (site_7, n_8, dots_9, i_10, σ)) (C19_l1 s_6 out)) :
    Fx Tryd.prog rs19 [.code c19_16, .blk 0, .code c19_42] .normal (Fr.set (Fr.set (Fr.set (Fr.set (Fr.set f 0 (Value.string s_6)) 4 (Value.int .i64 site_7)) 5 (Value.int .i64 n_8)) 6 (Value.int .i64 dots_9)) 7 (Value.int .i64 i_10)) σ = some out := by
  unfold G_semvcsref10_Parse_l1 at h
  refine Fx_loop (b := c19_17) rfl ?_
  refine Fx_seq (a := c19_18) (b := c19_23) rfl ?_
  refine Fx_seq (a := c19_19) (b := c19_20) rfl ?_
  refine Fx_text rfl (by kernel_rfl) ?_
  refine Ro_v (v := (Value.int .i64 i_10)) rfl (o_move rfl rfl) ?_
  refine Ro_v (v := (Value.string s_6)) rfl (o_move rfl rfl) ?_
  obtain ⟨x15, hx15, h⟩ := h.lt
  refine Ro_v (v := (Value.int .i64 x15)) rfl (o_lenS rfl tu9 rfl hx15) ?_
  obtain ⟨x16, hx16, h⟩ := h.lt
  refine Ro_v (v := (Value.bool x16)) rfl (o_lss rfl rfl rfl hx16) ?_
  refine Ro_nil ?_
  refine Fx_cond (a := c19_21) (b := c19_22) rfl rfl (fun ex16 => ?_) (fun ex16 => ?_)
  · replace h := h.ifT ex16
    refine Fx_skip (c := c19_21) rfl ?_
    refine Fx_seq (a := c19_24) (b := c19_41) rfl ?_
    refine Fx_block (b := c19_25) rfl ?_
    refine Fx_block (b := c19_26) rfl ?_
    refine Fx_seq (a := c19_27) (b := c19_28) rfl ?_
    refine Fx_text rfl (by kernel_rfl) ?_
    refine Ro_v (v := (Value.string s_6)) rfl (o_move rfl rfl) ?_
    refine Ro_v (v := (Value.int .i64 i_10)) rfl (o_move rfl rfl) ?_
    obtain ⟨x17, hx17, h⟩ := h.bd
    refine Ro_v (v := (Value.int .u8 x17)) rfl (o_idxS rfl tu9 rfl rfl hx17) ?_
    obtain ⟨x18, hx18, h⟩ := h.lt
    refine Ro_v (v := (Value.bool x18)) rfl (o_eql rfl rfl rfl hx18) ?_
    refine Ro_v (v := (Value.bool x18)) rfl (o_assign rfl rfl) ?_
    refine Ro_nil ?_
    refine Fx_cond (a := c19_29) (b := c19_30) rfl rfl (fun ex18 => ?_) (fun ex18 => ?_)
    · replace h := h.ifT ex18
      refine Fx_text rfl (by kernel_rfl) ?_
      refine Ro_v (v := (Value.int .i64 dots_9)) rfl (o_move rfl rfl) ?_
      obtain ⟨x19, hx19, h⟩ := h.lt
      refine Ro_v (v := (Value.int .i64 x19)) rfl (o_add rfl rfl rfl hx19) ?_
      refine Ro_v (v := (Value.int .i64 x19)) rfl (o_assign rfl rfl) ?_
      refine Ro_nil ?_
      refine Fx_blk ?_
      refine Fx_blk ?_
      exact Fx_forget (Fr.set_of (Fr.set_of (Fr.set_of (Fr.set_of (Fr.set_of rfl rfl) rfl) rfl) rfl) rfl) (p19_j1 _ _ _ _ _ _ _ _ h)
    · replace h := h.ifF ex18
      refine Fx_seq (a := c19_31) (b := c19_32) rfl ?_
      refine Fx_text rfl (by kernel_rfl) ?_
      refine Ro_v (v := (Value.string s_6)) rfl (o_move rfl rfl) ?_
      refine Ro_v (v := (Value.int .i64 i_10)) rfl (o_move rfl rfl) ?_
      obtain ⟨x25, hx25, h⟩ := h.bd
      refine Ro_v (v := (Value.int .u8 x25)) rfl (o_idxS rfl tu9 rfl rfl hx25) ?_
      obtain ⟨x26, hx26, h⟩ := h.lt
      refine Ro_v (v := (Value.bool x26)) rfl (o_lss rfl rfl rfl hx26) ?_
      refine Ro_v (v := (Value.bool x26)) rfl (o_move rfl rfl) ?_
      refine Ro_set (t := !x26) (v := bif !x26 then (Value.string s_6) else undef) rfl (w_F rfl rfl rfl) (by intro e; have e0 := not_t (e); subst e0; exact o_move rfl rfl) (fun e => ⟨gv_f e, rfl⟩) ?_
      refine Ro_set (t := !x26) (v := bif !x26 then (Value.int .i64 i_10) else undef) rfl (w_F rfl rfl rfl) (by intro e; have e0 := not_t (e); subst e0; exact o_move rfl rfl) (fun e => ⟨gv_f e, rfl⟩) ?_
      obtain ⟨x27, hx27, h⟩ := h.bd
      refine Ro_set (t := !x26) (v := bif !x26 then (Value.int .u8 x27) else undef) rfl (w_F rfl rfl rfl) (by intro e; have e0 := not_t (e); subst e0; exact o_idxS rfl tu9 rfl rfl hx27) (fun e => ⟨gv_f e, rfl⟩) ?_
      obtain ⟨x28, hx28, h⟩ := h.lt
      refine Ro_set (t := !x26) (v := bif !x26 then (Value.bool x28) else undef) rfl (w_F rfl rfl rfl) (by intro e; have e0 := not_t (e); subst e0; exact o_gtr rfl rfl rfl hx28) (fun e => ⟨gv_f e, rfl⟩) ?_
      obtain ⟨x29, hx29, h⟩ := h.lt
      refine Ro_v (v := (Value.bool x29)) rfl (o_pick rfl rfl (by intro e; subst e; subst hx29; rfl) (by intro e; subst e; subst hx29; rfl)) ?_
      refine Ro_v (v := (Value.bool x29)) rfl (o_move rfl rfl) ?_
      refine Ro_set (t := !x29) (v := bif !x29 then (Value.int .i64 site_7) else undef) rfl (w_F rfl rfl rfl) (by intro e; have e0 := not_t (e); subst e0; exact o_move rfl rfl) (fun e => ⟨gv_f e, rfl⟩) ?_
      obtain ⟨x30, hx30, h⟩ := h.lt
      refine Ro_set (t := !x29) (v := bif !x29 then (Value.bool x30) else undef) rfl (w_F rfl rfl rfl) (by intro e; have e0 := not_t (e); subst e0; exact o_gtr rfl rfl rfl hx30) (fun e => ⟨gv_f e, rfl⟩) ?_
      obtain ⟨x31, hx31, h⟩ := h.lt
      refine Ro_v (v := (Value.bool x31)) rfl (o_pick rfl rfl (by intro e; subst e; subst hx31; rfl) (by intro e; subst e; subst hx31; rfl)) ?_
      refine Ro_v (v := (Value.bool x31)) rfl (o_move rfl rfl) ?_
      refine Ro_set (t := !x31) (v := bif !x31 then (Value.int .i64 n_8) else undef) rfl (w_F rfl rfl rfl) (by intro e; have e0 := not_t (e); subst e0; exact o_move rfl rfl) (fun e => ⟨gv_f e, rfl⟩) ?_
      obtain ⟨x32, hx32, h⟩ := h.lt
      refine Ro_set (t := !x31) (v := bif !x31 then (Value.bool x32) else undef) rfl (w_F rfl rfl rfl) (by intro e; have e0 := not_t (e); subst e0; exact o_gtr rfl rfl rfl hx32) (fun e => ⟨gv_f e, rfl⟩) ?_
      obtain ⟨x33, hx33, h⟩ := h.lt
      refine Ro_v (v := (Value.bool x33)) rfl (o_pick rfl rfl (by intro e; subst e; subst hx33; rfl) (by intro e; subst e; subst hx33; rfl)) ?_
      refine Ro_v (v := (Value.bool x33)) rfl (o_assign rfl rfl) ?_
      refine Ro_nil ?_
      refine Fx_cond (a := c19_33) (b := c19_36) rfl rfl (fun ex33 => ?_) (fun ex33 => ?_)
      · replace h := h.ifT ex33
        refine Fx_seq (a := c19_34) (b := c19_35) rfl ?_
        refine Fx_text rfl (by kernel_rfl) ?_
        refine Ro_v (v := (Value.int .i64 (0))) rfl (o_assign rfl rfl) ?_
        refine Ro_v (v := (Value.int .i64 (13))) rfl (o_assign rfl rfl) ?_
        refine Ro_nil ?_
        exact Fx_ret rfl rfl (congrArg some h.sm)
      · replace h := h.ifF ex33
        refine Fx_seq (a := c19_37) (b := c19_38) rfl ?_
        refine Fx_text rfl (by kernel_rfl) ?_
        refine Ro_v (v := (Value.int .i64 dots_9)) rfl (o_move rfl rfl) ?_
        obtain ⟨x34, hx34, h⟩ := h.lt
        refine Ro_v (v := (Value.bool x34)) rfl (o_eql rfl rfl rfl hx34) ?_
        refine Ro_v (v := (Value.bool x34)) rfl (o_assign rfl rfl) ?_
        refine Ro_nil ?_
        refine Fx_cond (a := c19_39) (b := c19_40) rfl rfl (fun ex34 => ?_) (fun ex34 => ?_)
        · replace h := h.ifT ex34
          refine Fx_text rfl (by kernel_rfl) ?_
          refine Ro_v (v := (Value.int .i64 site_7)) rfl (o_move rfl rfl) ?_
          obtain ⟨x35, hx35, h⟩ := h.lt
          refine Ro_v (v := (Value.int .i64 x35)) rfl (o_mul rfl rfl rfl hx35) ?_
          refine Ro_v (v := (Value.string s_6)) rfl (o_move rfl rfl) ?_
          refine Ro_v (v := (Value.int .i64 i_10)) rfl (o_move rfl rfl) ?_
          obtain ⟨x36, hx36, h⟩ := h.bd
          refine Ro_v (v := (Value.int .u8 x36)) rfl (o_idxS rfl tu9 rfl rfl hx36) ?_
          obtain ⟨x37, hx37, h⟩ := h.lt
          refine Ro_v (v := (Value.int .u8 x37)) rfl (o_sub rfl rfl rfl hx37) ?_
          obtain ⟨x38, hx38, h⟩ := h.lt
          refine Ro_v (v := (Value.int .i64 x38)) rfl (o_convI rfl tu5 tu3 rfl hx38) ?_
          obtain ⟨x39, hx39, h⟩ := h.lt
          refine Ro_v (v := (Value.int .i64 x39)) rfl (o_add rfl rfl rfl hx39) ?_
          refine Ro_v (v := (Value.int .i64 x39)) rfl (o_assign rfl rfl) ?_
          refine Ro_nil ?_
          refine Fx_blk ?_
          refine Fx_blk ?_
          exact Fx_forget (Fr.set_of (Fr.set_of (Fr.set_of (Fr.set_of (Fr.set_of rfl rfl) rfl) rfl) rfl) rfl) (p19_j1 _ _ _ _ _ _ _ _ h)
        · replace h := h.ifF ex34
          refine Fx_text rfl (by kernel_rfl) ?_
          refine Ro_v (v := (Value.int .i64 n_8)) rfl (o_move rfl rfl) ?_
          obtain ⟨x40, hx40, h⟩ := h.lt
          refine Ro_v (v := (Value.int .i64 x40)) rfl (o_mul rfl rfl rfl hx40) ?_
          refine Ro_v (v := (Value.string s_6)) rfl (o_move rfl rfl) ?_
          refine Ro_v (v := (Value.int .i64 i_10)) rfl (o_move rfl rfl) ?_
          obtain ⟨x41, hx41, h⟩ := h.bd
          refine Ro_v (v := (Value.int .u8 x41)) rfl (o_idxS rfl tu9 rfl rfl hx41) ?_
          obtain ⟨x42, hx42, h⟩ := h.lt
          refine Ro_v (v := (Value.int .u8 x42)) rfl (o_sub rfl rfl rfl hx42) ?_
          obtain ⟨x43, hx43, h⟩ := h.lt
          refine Ro_v (v := (Value.int .i64 x43)) rfl (o_convI rfl tu5 tu3 rfl hx43) ?_
          obtain ⟨x44, hx44, h⟩ := h.lt
          refine Ro_v (v := (Value.int .i64 x44)) rfl (o_add rfl rfl rfl hx44) ?_
          refine Ro_v (v := (Value.int .i64 x44)) rfl (o_assign rfl rfl) ?_
          refine Ro_nil ?_
          refine Fx_blk ?_
          refine Fx_blk ?_
          exact Fx_forget (Fr.set_of (Fr.set_of (Fr.set_of (Fr.set_of (Fr.set_of rfl rfl) rfl) rfl) rfl) rfl) (p19_j1 _ _ _ _ _ _ _ _ h)
  · replace h := h.ifF ex16
    refine Fx_exit rfl ?_
    refine Fx_out_code ?_
    refine Fx_out_code ?_
    refine Fx_out_eq ?_
    exact Fx_forget (Fr.set_of (Fr.set_of (Fr.set_of rfl rfl) rfl) rfl) (h.sm _)
theorem w19 (s_3 : ByteArray) (σ : AHeap) (r : (Int × Int × AHeap)) (h : G_semvcsref10_Parse s_3 σ = some r) : callL Tryd.prog 19 [(Value.string s_3)] σ = some ((Value.tuple #[(Value.int .i64 r.1), (Value.int .i64 r.2.1)]), r.2.2) := by
  refine callL_walk (fn := Tryd.f19) (c := c19_0) (rs := rs19) Tryd.func19 rfl ok19 rfl rfl ?_
  obtain ⟨out, ho⟩ : ∃ out, out = ((Value.tuple #[(Value.int .i64 r.1), (Value.int .i64 r.2.1)]), r.2.2) := ⟨_, rfl⟩
  rw [← ho]
  replace h : OptW (G_semvcsref10_Parse s_3 σ) (fun r => ((Value.tuple #[(Value.int .i64 r.1), (Value.int .i64 r.2.1)]), r.2.2) = out) := ⟨r, h, ho.symm⟩
  unfold G_semvcsref10_Parse at h
  refine Fx_seq (a := c19_1) (b := c19_2) rfl ?_
  refine Fx_text rfl (by kernel_rfl) ?_
  refine Ro_v (v := (Value.int .i64 (0))) rfl (o_assign rfl rfl) ?_
  refine Ro_v (v := (Value.int .i64 (0))) rfl (o_assign rfl rfl) ?_
  refine Ro_nil ?_
  refine Fx_seq (a := c19_3) (b := c19_4) rfl ?_
  refine Fx_text rfl (by kernel_rfl) ?_
  refine Ro_v (v := (Value.int .i64 (0))) rfl (o_assign rfl rfl) ?_
  refine Ro_v (v := (Value.int .i64 (0))) rfl (o_assign rfl rfl) ?_
  refine Ro_v (v := (Value.int .i64 (0))) rfl (o_assign rfl rfl) ?_
  refine Ro_nil ?_
  refine Fx_seq (a := c19_5) (b := c19_12) rfl ?_
  refine Fx_seq (a := c19_6) (b := c19_7) rfl ?_
  refine Fx_text rfl (by kernel_rfl) ?_
  refine Ro_v (v := (Value.string s_3)) rfl (o_move rfl rfl) ?_
  obtain ⟨x4, hx4, h⟩ := h.lt
  refine Ro_v (v := (Value.int .i64 x4)) rfl (o_lenS rfl tu9 rfl hx4) ?_
  obtain ⟨x5, hx5, h⟩ := h.lt
  refine Ro_v (v := (Value.bool x5)) rfl (o_gtr rfl rfl rfl hx5) ?_
  refine Ro_nil ?_
  refine Fx_cond (a := c19_8) (b := c19_11) rfl rfl (fun ex5 => ?_) (fun ex5 => ?_)
  · replace h := h.ifT ex5
    refine Fx_seq (a := c19_9) (b := c19_10) rfl ?_
    refine Fx_text rfl (by kernel_rfl) ?_
    refine Ro_v (v := (Value.int .i64 (0))) rfl (o_assign rfl rfl) ?_
    refine Ro_v (v := (Value.int .i64 (13))) rfl (o_assign rfl rfl) ?_
    refine Ro_nil ?_
    exact Fx_ret rfl rfl (congrArg some h.sm)
  · replace h := h.ifF ex5
    refine Fx_skip (c := c19_11) rfl ?_
    refine Fx_seq (a := c19_13) (b := c19_42) rfl ?_
    refine Fx_seq (a := c19_14) (b := c19_15) rfl ?_
    refine Fx_text rfl (by kernel_rfl) ?_
    refine Ro_v (v := (Value.int .i64 (0))) rfl (o_assign rfl rfl) ?_
    refine Ro_nil ?_
    refine Fx_block (b := c19_16) rfl ?_
    refine Fx_forget (Fr.set_of (Fr.set_of (Fr.set_of (Fr.set_of (Fr.set_of rfl rfl) rfl) rfl) rfl) rfl) ((OptW.loop h (fun s => C19_l1 s_3 out (.inl s)) ?_ : C19_l1 s_3 out (.inl ((0), (0), (0), (0), σ))) _)
    intro s hs f
    obtain ⟨site_7, n_8, dots_9, i_10, σ⟩ := s
    refine q19_l1 s_3 site_7 n_8 dots_9 i_10 σ out f (hs.imp ?_)
    intro r hr
    rcases r with y | b
    · exact hr
    · rcases b with b | b
      · obtain ⟨site_45, n_46, σ47⟩ := b
        have h := hr
        intro f
        refine Fx_seq (a := c19_43) (b := c19_44) rfl ?_
        refine Fx_text rfl (by kernel_rfl) ?_
        refine Ro_v (v := (Value.int .i64 site_45)) rfl (o_move rfl rfl) ?_
        refine Ro_v (v := (Value.int .i64 n_46)) rfl (o_move rfl rfl) ?_
        obtain ⟨⟨x48, x49⟩, hx48, h⟩ := h.bd
        refine Ro_v (v := (Value.tuple #[(Value.int .i64 x48), (Value.int .i64 x49)])) rfl (o_call (vs := [(Value.int .i64 site_45), (Value.int .i64 n_46)]) rfl rfl (w10 _ _ _ _ hx48)) ?_
        refine Ro_v (v := (Value.tuple #[(Value.int .i64 x48), (Value.int .i64 x49)])) rfl (o_move rfl rfl) ?_
        refine Ro_v (v := (Value.int .i64 x48)) rfl (o_ext rfl rfl rfl) ?_
        refine Ro_v (v := (Value.int .i64 x49)) rfl (o_ext rfl rfl rfl) ?_
        refine Ro_v (v := (Value.int .i64 x48)) rfl (o_assign rfl rfl) ?_
        refine Ro_v (v := (Value.int .i64 x49)) rfl (o_assign rfl rfl) ?_
        refine Ro_nil ?_
        refine Fx_seq (a := c19_45) (b := c19_52) rfl ?_
        refine Fx_seq (a := c19_46) (b := c19_47) rfl ?_
        refine Fx_text rfl (by kernel_rfl) ?_
        refine Ro_v (v := (Value.int .i64 x49)) rfl (o_move rfl rfl) ?_
        obtain ⟨x50, hx50, h⟩ := h.lt
        refine Ro_v (v := (Value.bool x50)) rfl (o_neq rfl rfl rfl hx50) ?_
        refine Ro_v (v := (Value.bool x50)) rfl (o_move rfl rfl) ?_
        refine Ro_set (t := !x50) (v := bif !x50 then (Value.int .i64 x48) else undef) rfl (w_F rfl rfl rfl) (by intro e; have e0 := not_t (e); subst e0; exact o_move rfl rfl) (fun e => ⟨gv_f e, rfl⟩) ?_
        obtain ⟨⟨x52, σ53⟩, hσ53, h⟩ := h.bd
        refine Ro_set (t := !x50) (v := bif !x50 then (Value.string x52) else undef) rfl (w_F rfl rfl rfl) (by intro e; have e0 := not_t (e); subst e0; exact o_call (vs := [(Value.int .i64 x48)]) rfl rfl (w21 _ _ _ hσ53)) (fun e => ⟨gv_f e, (by have q := hσ53; rw [e] at q; simp only [cond_false, Option.some.injEq, Prod.mk.injEq] at q; exact q.2.symm)⟩) ?_
        refine Ro_set (t := !x50) (v := bif !x50 then (Value.string s_3) else undef) rfl (w_F rfl rfl rfl) (by intro e; have e0 := not_t (e); subst e0; exact o_move rfl rfl) (fun e => ⟨gv_f e, rfl⟩) ?_
        obtain ⟨x54, hx54, h⟩ := h.lt
        refine Ro_set (t := !x50) (v := bif !x50 then (Value.bool x54) else undef) rfl (w_F rfl rfl rfl) (by intro e; have e0 := not_t (e); subst e0; exact o_sneq rfl rfl rfl hx54) (fun e => ⟨gv_f e, rfl⟩) ?_
        obtain ⟨x55, hx55, h⟩ := h.lt
        refine Ro_v (v := (Value.bool x55)) rfl (o_pick rfl rfl (by intro e; subst e; subst hx55; rfl) (by intro e; subst e; subst hx55; rfl)) ?_
        refine Ro_nil ?_
        refine Fx_cond (a := c19_48) (b := c19_51) rfl rfl (fun ex55 => ?_) (fun ex55 => ?_)
        · replace h := h.ifT ex55
          refine Fx_seq (a := c19_49) (b := c19_50) rfl ?_
          refine Fx_text rfl (by kernel_rfl) ?_
          refine Ro_v (v := (Value.int .i64 (0))) rfl (o_assign rfl rfl) ?_
          refine Ro_v (v := (Value.int .i64 (13))) rfl (o_assign rfl rfl) ?_
          refine Ro_nil ?_
          exact Fx_ret rfl rfl (congrArg some h.sm)
        · replace h := h.ifF ex55
          refine Fx_skip (c := c19_51) rfl ?_
          refine Fx_seq (a := c19_53) (b := c19_54) rfl ?_
          refine Fx_text rfl (by kernel_rfl) ?_
          refine Ro_v (v := (Value.int .i64 x48)) rfl (o_move rfl rfl) ?_
          refine Ro_v (v := (Value.int .i64 x48)) rfl (o_assign rfl rfl) ?_
          refine Ro_v (v := (Value.int .i64 (0))) rfl (o_assign rfl rfl) ?_
          refine Ro_nil ?_
          exact Fx_ret rfl rfl (congrArg some h.sm)
      · obtain ⟨x56, x57, σ58⟩ := b
        have h := hr
        exact h.sm
noncomputable def c4_0 : Code := bodyOf Tryd.f4
noncomputable def c4_1 : Code := cl c4_0
noncomputable def c4_2 : Code := cr c4_0
noncomputable def c4_3 : Code := cl c4_2
noncomputable def c4_4 : Code := cr c4_2
noncomputable def c4_5 : Code := cl c4_4
noncomputable def c4_6 : Code := cr c4_4
noncomputable def c4_7 : Code := cl c4_6
noncomputable def c4_8 : Code := cr c4_6
theorem ok4 : funcOk Tryd.f4 = true := by kernel_rfl
noncomputable def rs4 : List ResultVar := resultsOf Tryd.f4
theorem w4 (id_2 : Int) (s_3 : ByteArray) (σ : AHeap) (r : (Bool × AHeap)) (h : G_semvcslaw10_IdentTexts id_2 s_3 σ = some r) : callL Tryd.prog 4 [(Value.int .i64 id_2), (Value.string s_3)] σ = some ((Value.bool r.1), r.2) := by
  refine callL_walk (fn := Tryd.f4) (c := c4_0) (rs := rs4) Tryd.func4 rfl ok4 rfl rfl ?_
  obtain ⟨out, ho⟩ : ∃ out, out = ((Value.bool r.1), r.2) := ⟨_, rfl⟩
  rw [← ho]
  replace h : OptW (G_semvcslaw10_IdentTexts id_2 s_3 σ) (fun r => ((Value.bool r.1), r.2) = out) := ⟨r, h, ho.symm⟩
  unfold G_semvcslaw10_IdentTexts at h
  refine Fx_seq (a := c4_1) (b := c4_2) rfl ?_
  refine Fx_text rfl (by kernel_rfl) ?_
  refine Ro_v (v := (Value.bool false)) rfl (o_assign rfl rfl) ?_
  refine Ro_nil ?_
  refine Fx_seq (a := c4_3) (b := c4_4) rfl ?_
  refine Fx_text rfl (by kernel_rfl) ?_
  refine Ro_v (v := (Value.string s_3)) rfl (o_move rfl rfl) ?_
  obtain ⟨⟨x4, x5⟩, hx4, h⟩ := h.bd
  refine Ro_v (v := (Value.tuple #[(Value.int .i64 x4), (Value.int .i64 x5)])) rfl (o_call (vs := [(Value.string s_3)]) rfl rfl (w18 _ _ _ hx4)) ?_
  refine Ro_v (v := (Value.tuple #[(Value.int .i64 x4), (Value.int .i64 x5)])) rfl (o_move rfl rfl) ?_
  refine Ro_v (v := (Value.int .i64 x4)) rfl (o_ext rfl rfl rfl) ?_
  refine Ro_v (v := (Value.int .i64 x5)) rfl (o_ext rfl rfl rfl) ?_
  refine Ro_v (v := (Value.int .i64 x4)) rfl (o_assign rfl rfl) ?_
  refine Ro_v (v := (Value.int .i64 x5)) rfl (o_assign rfl rfl) ?_
  refine Ro_nil ?_
  refine Fx_seq (a := c4_5) (b := c4_6) rfl ?_
  refine Fx_text rfl (by kernel_rfl) ?_
  refine Ro_v (v := (Value.string s_3)) rfl (o_move rfl rfl) ?_
  obtain ⟨⟨x8, x9, σ10⟩, hσ10, h⟩ := h.bd
  refine Ro_v (v := (Value.tuple #[(Value.int .i64 x8), (Value.int .i64 x9)])) rfl (o_call (vs := [(Value.string s_3)]) rfl rfl (w19 _ _ _ hσ10)) ?_
  refine Ro_v (v := (Value.tuple #[(Value.int .i64 x8), (Value.int .i64 x9)])) rfl (o_move rfl rfl) ?_
  refine Ro_v (v := (Value.int .i64 x8)) rfl (o_ext rfl rfl rfl) ?_
  refine Ro_v (v := (Value.int .i64 x9)) rfl (o_ext rfl rfl rfl) ?_
  refine Ro_v (v := (Value.int .i64 x8)) rfl (o_assign rfl rfl) ?_
  refine Ro_v (v := (Value.int .i64 x9)) rfl (o_assign rfl rfl) ?_
  refine Ro_nil ?_
  refine Fx_seq (a := c4_7) (b := c4_8) rfl ?_
  refine Fx_text rfl (by kernel_rfl) ?_
  obtain ⟨x11, hx11, h⟩ := h.bd
  refine Ro_v (v := (Value.bool x11)) rfl (o_call (vs := []) rfl rfl (w11 _ _ hx11)) ?_
  refine Ro_v (v := (Value.bool x11)) rfl (o_move rfl rfl) ?_
  refine Ro_set (t := x11) (v := bif x11 then (Value.int .i64 id_2) else undef) rfl (w_T rfl rfl rfl) (by intro e; have e0 := e; subst e0; exact o_move rfl rfl) (fun e => ⟨gv_f e, rfl⟩) ?_
  obtain ⟨x12, hx12, h⟩ := h.bd
  refine Ro_set (t := x11) (v := bif x11 then (Value.string x12) else undef) rfl (w_T rfl rfl rfl) (by intro e; have e0 := e; subst e0; exact o_call (vs := [(Value.int .i64 id_2)]) rfl rfl (w20 _ _ _ hx12)) (fun e => ⟨gv_f e, rfl⟩) ?_
  refine Ro_set (t := x11) (v := bif x11 then (Value.int .i64 id_2) else undef) rfl (w_T rfl rfl rfl) (by intro e; have e0 := e; subst e0; exact o_move rfl rfl) (fun e => ⟨gv_f e, rfl⟩) ?_
  obtain ⟨⟨x14, σ15⟩, hσ15, h⟩ := h.bd
  refine Ro_set (t := x11) (v := bif x11 then (Value.string x14) else undef) rfl (w_T rfl rfl rfl) (by intro e; have e0 := e; subst e0; exact o_call (vs := [(Value.int .i64 id_2)]) rfl rfl (w21 _ _ _ hσ15)) (fun e => ⟨gv_f e, (by have q := hσ15; rw [e] at q; simp only [cond_false, Option.some.injEq, Prod.mk.injEq] at q; exact q.2.symm)⟩) ?_
  obtain ⟨x16, hx16, h⟩ := h.lt
  refine Ro_set (t := x11) (v := bif x11 then (Value.bool x16) else undef) rfl (w_T rfl rfl rfl) (by intro e; have e0 := e; subst e0; exact o_seql rfl rfl rfl hx16) (fun e => ⟨gv_f e, rfl⟩) ?_
  obtain ⟨x17, hx17, h⟩ := h.lt
  refine Ro_v (v := (Value.bool x17)) rfl (o_pick rfl rfl (by intro e; subst e; subst hx17; rfl) (by intro e; subst e; subst hx17; rfl)) ?_
  refine Ro_v (v := (Value.bool x17)) rfl (o_move rfl rfl) ?_
  refine Ro_set (t := x17) (v := bif x17 then (Value.int .i64 x4) else undef) rfl (w_T rfl rfl rfl) (by intro e; have e0 := e; subst e0; exact o_move rfl rfl) (fun e => ⟨gv_f e, rfl⟩) ?_
  refine Ro_set (t := x17) (v := bif x17 then (Value.int .i64 x8) else undef) rfl (w_T rfl rfl rfl) (by intro e; have e0 := e; subst e0; exact o_move rfl rfl) (fun e => ⟨gv_f e, rfl⟩) ?_
  obtain ⟨x18, hx18, h⟩ := h.lt
  refine Ro_set (t := x17) (v := bif x17 then (Value.bool x18) else undef) rfl (w_T rfl rfl rfl) (by intro e; have e0 := e; subst e0; exact o_eql rfl rfl rfl hx18) (fun e => ⟨gv_f e, rfl⟩) ?_
  obtain ⟨x19, hx19, h⟩ := h.lt
  refine Ro_v (v := (Value.bool x19)) rfl (o_pick rfl rfl (by intro e; subst e; subst hx19; rfl) (by intro e; subst e; subst hx19; rfl)) ?_
  refine Ro_v (v := (Value.bool x19)) rfl (o_move rfl rfl) ?_
  refine Ro_set (t := x19) (v := bif x19 then (Value.int .i64 x5) else undef) rfl (w_T rfl rfl rfl) (by intro e; have e0 := e; subst e0; exact o_move rfl rfl) (fun e => ⟨gv_f e, rfl⟩) ?_
  refine Ro_set (t := x19) (v := bif x19 then (Value.int .i64 x9) else undef) rfl (w_T rfl rfl rfl) (by intro e; have e0 := e; subst e0; exact o_move rfl rfl) (fun e => ⟨gv_f e, rfl⟩) ?_
  obtain ⟨x20, hx20, h⟩ := h.lt
  refine Ro_set (t := x19) (v := bif x19 then (Value.bool x20) else undef) rfl (w_T rfl rfl rfl) (by intro e; have e0 := e; subst e0; exact o_eql rfl rfl rfl hx20) (fun e => ⟨gv_f e, rfl⟩) ?_
  obtain ⟨x21, hx21, h⟩ := h.lt
  refine Ro_v (v := (Value.bool x21)) rfl (o_pick rfl rfl (by intro e; subst e; subst hx21; rfl) (by intro e; subst e; subst hx21; rfl)) ?_
  refine Ro_v (v := (Value.bool x21)) rfl (o_assign rfl rfl) ?_
  refine Ro_nil ?_
  exact Fx_ret rfl rfl (congrArg some h.sm)
noncomputable def c5_0 : Code := bodyOf Tryd.f5
noncomputable def c5_1 : Code := cl c5_0
noncomputable def c5_2 : Code := cr c5_0
noncomputable def c5_3 : Code := cl c5_2
noncomputable def c5_4 : Code := cr c5_2
noncomputable def c5_5 : Code := cl c5_4
noncomputable def c5_6 : Code := cl c5_5
noncomputable def c5_7 : Code := cr c5_5
noncomputable def c5_8 : Code := cl c5_7
noncomputable def c5_9 : Code := cl c5_8
noncomputable def c5_10 : Code := cr c5_8
noncomputable def c5_11 : Code := cr c5_7
noncomputable def c5_12 : Code := cr c5_4
noncomputable def c5_13 : Code := cl c5_12
noncomputable def c5_14 : Code := cr c5_12
noncomputable def c5_15 : Code := cl c5_14
noncomputable def c5_16 : Code := cr c5_14
theorem ok5 : funcOk Tryd.f5 = true := by kernel_rfl
noncomputable def rs5 : List ResultVar := resultsOf Tryd.f5
theorem w5 (site_2 : Int) (n_3 : Int) (σ : AHeap) (r : Bool) (h : G_semvcslaw10_IdentBack site_2 n_3 σ = some r) : callL Tryd.prog 5 [(Value.int .i64 site_2), (Value.int .i64 n_3)] σ = some ((Value.bool r), σ) := by
  refine callL_walk (fn := Tryd.f5) (c := c5_0) (rs := rs5) Tryd.func5 rfl ok5 rfl rfl ?_
  obtain ⟨out, ho⟩ : ∃ out, out = ((Value.bool r), σ) := ⟨_, rfl⟩
  rw [← ho]
  replace h : OptW (G_semvcslaw10_IdentBack site_2 n_3 σ) (fun r => ((Value.bool r), σ) = out) := ⟨r, h, ho.symm⟩
  unfold G_semvcslaw10_IdentBack at h
  refine Fx_seq (a := c5_1) (b := c5_2) rfl ?_
  refine Fx_text rfl (by kernel_rfl) ?_
  refine Ro_v (v := (Value.bool false)) rfl (o_assign rfl rfl) ?_
  refine Ro_nil ?_
  refine Fx_seq (a := c5_3) (b := c5_4) rfl ?_
  refine Fx_text rfl (by kernel_rfl) ?_
  refine Ro_v (v := (Value.int .i64 site_2)) rfl (o_move rfl rfl) ?_
  refine Ro_v (v := (Value.int .i64 n_3)) rfl (o_move rfl rfl) ?_
  obtain ⟨⟨x4, x5⟩, hx4, h⟩ := h.bd
  refine Ro_v (v := (Value.tuple #[(Value.int .i64 x4), (Value.int .i64 x5)])) rfl (o_call (vs := [(Value.int .i64 site_2), (Value.int .i64 n_3)]) rfl rfl (w9 _ _ _ _ hx4)) ?_
  refine Ro_v (v := (Value.tuple #[(Value.int .i64 x4), (Value.int .i64 x5)])) rfl (o_move rfl rfl) ?_
  refine Ro_v (v := (Value.int .i64 x4)) rfl (o_ext rfl rfl rfl) ?_
  refine Ro_v (v := (Value.int .i64 x5)) rfl (o_ext rfl rfl rfl) ?_
  refine Ro_v (v := (Value.int .i64 x4)) rfl (o_assign rfl rfl) ?_
  refine Ro_v (v := (Value.int .i64 x5)) rfl (o_assign rfl rfl) ?_
  refine Ro_nil ?_
  refine Fx_seq (a := c5_5) (b := c5_12) rfl ?_
  refine Fx_seq (a := c5_6) (b := c5_7) rfl ?_
  refine Fx_text rfl (by kernel_rfl) ?_
  refine Ro_v (v := (Value.int .i64 x5)) rfl (o_move rfl rfl) ?_
  obtain ⟨x6, hx6, h⟩ := h.lt
  refine Ro_v (v := (Value.bool x6)) rfl (o_neq rfl rfl rfl hx6) ?_
  refine Ro_nil ?_
  refine Fx_cond (a := c5_8) (b := c5_11) rfl rfl (fun ex6 => ?_) (fun ex6 => ?_)
  · replace h := h.ifT ex6
    refine Fx_seq (a := c5_9) (b := c5_10) rfl ?_
    refine Fx_text rfl (by kernel_rfl) ?_
    obtain ⟨x7, hx7, h⟩ := h.bd
    refine Ro_v (v := (Value.bool x7)) rfl (o_call (vs := []) rfl rfl (w11 _ _ hx7)) ?_
    refine Ro_v (v := (Value.bool x7)) rfl (o_move rfl rfl) ?_
    refine Ro_set (t := x7) (v := bif x7 then (Value.int .i64 x4) else undef) rfl (w_T rfl rfl rfl) (by intro e; have e0 := e; subst e0; exact o_move rfl rfl) (fun e => ⟨gv_f e, rfl⟩) ?_
    obtain ⟨x8, hx8, h⟩ := h.lt
    refine Ro_set (t := x7) (v := bif x7 then (Value.bool x8) else undef) rfl (w_T rfl rfl rfl) (by intro e; have e0 := e; subst e0; exact o_eql rfl rfl rfl hx8) (fun e => ⟨gv_f e, rfl⟩) ?_
    obtain ⟨x9, hx9, h⟩ := h.lt
    refine Ro_v (v := (Value.bool x9)) rfl (o_pick rfl rfl (by intro e; subst e; subst hx9; rfl) (by intro e; subst e; subst hx9; rfl)) ?_
    refine Ro_v (v := (Value.bool x9)) rfl (o_move rfl rfl) ?_
    refine Ro_set (t := x9) (v := bif x9 then (Value.int .i64 site_2) else undef) rfl (w_T rfl rfl rfl) (by intro e; have e0 := e; subst e0; exact o_move rfl rfl) (fun e => ⟨gv_f e, rfl⟩) ?_
    obtain ⟨x10, hx10, h⟩ := h.lt
    refine Ro_set (t := x9) (v := bif x9 then (Value.bool x10) else undef) rfl (w_T rfl rfl rfl) (by intro e; have e0 := e; subst e0; exact o_lss rfl rfl rfl hx10) (fun e => ⟨gv_f e, rfl⟩) ?_
    refine Ro_set (t := x9) (v := bif x9 then (Value.bool x10) else undef) rfl (w_T rfl rfl rfl) (by intro e; have e0 := e; subst e0; exact o_move rfl rfl) (fun e => ⟨gv_f e, rfl⟩) ?_
    refine Ro_set (t := (x9 && !x10)) (v := bif (x9 && !x10) then (Value.int .i64 site_2) else undef) rfl (w_gF rfl rfl rfl) (by intro e; have e1 := not_t (and_t e).2; have e0 := (and_t e).1; subst e1; subst e0; exact o_move rfl rfl) (fun e => ⟨gv_f e, rfl⟩) ?_
    obtain ⟨x11, hx11, h⟩ := h.lt
    refine Ro_set (t := (x9 && !x10)) (v := bif (x9 && !x10) then (Value.bool x11) else undef) rfl (w_gF rfl rfl rfl) (by intro e; have e1 := not_t (and_t e).2; have e0 := (and_t e).1; subst e1; subst e0; exact o_gtr rfl rfl rfl hx11) (fun e => ⟨gv_f e, rfl⟩) ?_
    obtain ⟨x12, hx12, h⟩ := h.lt
    refine Ro_set (t := x9) (v := bif x9 then (Value.bool x12) else undef) rfl (w_T rfl rfl rfl) (by intro e; have e0 := e; subst e0; exact o_pick rfl rfl (by intro e; subst e; subst hx12; rfl) (by intro e; subst e; subst hx12; rfl)) (fun e => ⟨gv_f e, rfl⟩) ?_
    refine Ro_set (t := x9) (v := bif x9 then (Value.bool x12) else undef) rfl (w_T rfl rfl rfl) (by intro e; have e0 := e; subst e0; exact o_move rfl rfl) (fun e => ⟨gv_f e, rfl⟩) ?_
    refine Ro_set (t := (x9 && !x12)) (v := bif (x9 && !x12) then (Value.int .i64 n_3) else undef) rfl (w_gF rfl rfl rfl) (by intro e; have e1 := not_t (and_t e).2; have e0 := (and_t e).1; subst e1; subst e0; exact o_move rfl rfl) (fun e => ⟨gv_f e, rfl⟩) ?_
    obtain ⟨x13, hx13, h⟩ := h.lt
    refine Ro_set (t := (x9 && !x12)) (v := bif (x9 && !x12) then (Value.bool x13) else undef) rfl (w_gF rfl rfl rfl) (by intro e; have e1 := not_t (and_t e).2; have e0 := (and_t e).1; subst e1; subst e0; exact o_lss rfl rfl rfl hx13) (fun e => ⟨gv_f e, rfl⟩) ?_
    obtain ⟨x14, hx14, h⟩ := h.lt
    refine Ro_set (t := x9) (v := bif x9 then (Value.bool x14) else undef) rfl (w_T rfl rfl rfl) (by intro e; have e0 := e; subst e0; exact o_pick rfl rfl (by intro e; subst e; subst hx14; rfl) (by intro e; subst e; subst hx14; rfl)) (fun e => ⟨gv_f e, rfl⟩) ?_
    refine Ro_set (t := x9) (v := bif x9 then (Value.bool x14) else undef) rfl (w_T rfl rfl rfl) (by intro e; have e0 := e; subst e0; exact o_move rfl rfl) (fun e => ⟨gv_f e, rfl⟩) ?_
    refine Ro_set (t := (x9 && !x14)) (v := bif (x9 && !x14) then (Value.int .i64 n_3) else undef) rfl (w_gF rfl rfl rfl) (by intro e; have e1 := not_t (and_t e).2; have e0 := (and_t e).1; subst e1; subst e0; exact o_move rfl rfl) (fun e => ⟨gv_f e, rfl⟩) ?_
    obtain ⟨x15, hx15, h⟩ := h.lt
    refine Ro_set (t := (x9 && !x14)) (v := bif (x9 && !x14) then (Value.bool x15) else undef) rfl (w_gF rfl rfl rfl) (by intro e; have e1 := not_t (and_t e).2; have e0 := (and_t e).1; subst e1; subst e0; exact o_gtr rfl rfl rfl hx15) (fun e => ⟨gv_f e, rfl⟩) ?_
    obtain ⟨x16, hx16, h⟩ := h.lt
    refine Ro_set (t := x9) (v := bif x9 then (Value.bool x16) else undef) rfl (w_T rfl rfl rfl) (by intro e; have e0 := e; subst e0; exact o_pick rfl rfl (by intro e; subst e; subst hx16; rfl) (by intro e; subst e; subst hx16; rfl)) (fun e => ⟨gv_f e, rfl⟩) ?_
    obtain ⟨x17, hx17, h⟩ := h.lt
    refine Ro_v (v := (Value.bool x17)) rfl (o_pick rfl rfl (by intro e; subst e; subst hx17; rfl) (by intro e; subst e; subst hx17; rfl)) ?_
    refine Ro_v (v := (Value.bool x17)) rfl (o_assign rfl rfl) ?_
    refine Ro_nil ?_
    exact Fx_ret rfl rfl (congrArg some h.sm)
  · replace h := h.ifF ex6
    refine Fx_skip (c := c5_11) rfl ?_
    refine Fx_seq (a := c5_13) (b := c5_14) rfl ?_
    refine Fx_text rfl (by kernel_rfl) ?_
    refine Ro_v (v := (Value.int .i64 x4)) rfl (o_move rfl rfl) ?_
    obtain ⟨x18, hx18, h⟩ := h.bd
    refine Ro_v (v := (Value.string x18)) rfl (o_call (vs := [(Value.int .i64 x4)]) rfl rfl (w20 _ _ _ hx18)) ?_
    obtain ⟨⟨x19, x20⟩, hx19, h⟩ := h.bd
    refine Ro_v (v := (Value.tuple #[(Value.int .i64 x19), (Value.int .i64 x20)])) rfl (o_call (vs := [(Value.string x18)]) rfl rfl (w18 _ _ _ hx19)) ?_
    refine Ro_v (v := (Value.tuple #[(Value.int .i64 x19), (Value.int .i64 x20)])) rfl (o_move rfl rfl) ?_
    refine Ro_v (v := (Value.int .i64 x19)) rfl (o_ext rfl rfl rfl) ?_
    refine Ro_v (v := (Value.int .i64 x20)) rfl (o_ext rfl rfl rfl) ?_
    refine Ro_v (v := (Value.int .i64 x19)) rfl (o_assign rfl rfl) ?_
    refine Ro_v (v := (Value.int .i64 x20)) rfl (o_assign rfl rfl) ?_
    refine Ro_nil ?_
    refine Fx_seq (a := c5_15) (b := c5_16) rfl ?_
    refine Fx_text rfl (by kernel_rfl) ?_
    obtain ⟨x21, hx21, h⟩ := h.bd
    refine Ro_v (v := (Value.bool x21)) rfl (o_call (vs := []) rfl rfl (w11 _ _ hx21)) ?_
    refine Ro_v (v := (Value.bool x21)) rfl (o_move rfl rfl) ?_
    refine Ro_set (t := x21) (v := bif x21 then (Value.int .i64 x20) else undef) rfl (w_T rfl rfl rfl) (by intro e; have e0 := e; subst e0; exact o_move rfl rfl) (fun e => ⟨gv_f e, rfl⟩) ?_
    obtain ⟨x22, hx22, h⟩ := h.lt
    refine Ro_set (t := x21) (v := bif x21 then (Value.bool x22) else undef) rfl (w_T rfl rfl rfl) (by intro e; have e0 := e; subst e0; exact o_eql rfl rfl rfl hx22) (fun e => ⟨gv_f e, rfl⟩) ?_
    obtain ⟨x23, hx23, h⟩ := h.lt
    refine Ro_v (v := (Value.bool x23)) rfl (o_pick rfl rfl (by intro e; subst e; subst hx23; rfl) (by intro e; subst e; subst hx23; rfl)) ?_
    refine Ro_v (v := (Value.bool x23)) rfl (o_move rfl rfl) ?_
    refine Ro_set (t := x23) (v := bif x23 then (Value.int .i64 x19) else undef) rfl (w_T rfl rfl rfl) (by intro e; have e0 := e; subst e0; exact o_move rfl rfl) (fun e => ⟨gv_f e, rfl⟩) ?_
    refine Ro_set (t := x23) (v := bif x23 then (Value.int .i64 x4) else undef) rfl (w_T rfl rfl rfl) (by intro e; have e0 := e; subst e0; exact o_move rfl rfl) (fun e => ⟨gv_f e, rfl⟩) ?_
    obtain ⟨x24, hx24, h⟩ := h.lt
    refine Ro_set (t := x23) (v := bif x23 then (Value.bool x24) else undef) rfl (w_T rfl rfl rfl) (by intro e; have e0 := e; subst e0; exact o_eql rfl rfl rfl hx24) (fun e => ⟨gv_f e, rfl⟩) ?_
    obtain ⟨x25, hx25, h⟩ := h.lt
    refine Ro_v (v := (Value.bool x25)) rfl (o_pick rfl rfl (by intro e; subst e; subst hx25; rfl) (by intro e; subst e; subst hx25; rfl)) ?_
    refine Ro_v (v := (Value.bool x25)) rfl (o_move rfl rfl) ?_
    refine Ro_set (t := x25) (v := bif x25 then (Value.int .i64 x4) else undef) rfl (w_T rfl rfl rfl) (by intro e; have e0 := e; subst e0; exact o_move rfl rfl) (fun e => ⟨gv_f e, rfl⟩) ?_
    obtain ⟨x26, hx26, h⟩ := h.bd
    refine Ro_set (t := x25) (v := bif x25 then (Value.int .i64 x26) else undef) rfl (w_T rfl rfl rfl) (by intro e; have e0 := e; subst e0; exact o_call (vs := [(Value.int .i64 x4)]) rfl rfl (w14 _ _ _ hx26)) (fun e => ⟨gv_f e, rfl⟩) ?_
    refine Ro_set (t := x25) (v := bif x25 then (Value.int .i64 site_2) else undef) rfl (w_T rfl rfl rfl) (by intro e; have e0 := e; subst e0; exact o_move rfl rfl) (fun e => ⟨gv_f e, rfl⟩) ?_
    obtain ⟨x27, hx27, h⟩ := h.lt
    refine Ro_set (t := x25) (v := bif x25 then (Value.bool x27) else undef) rfl (w_T rfl rfl rfl) (by intro e; have e0 := e; subst e0; exact o_eql rfl rfl rfl hx27) (fun e => ⟨gv_f e, rfl⟩) ?_
    obtain ⟨x28, hx28, h⟩ := h.lt
    refine Ro_v (v := (Value.bool x28)) rfl (o_pick rfl rfl (by intro e; subst e; subst hx28; rfl) (by intro e; subst e; subst hx28; rfl)) ?_
    refine Ro_v (v := (Value.bool x28)) rfl (o_move rfl rfl) ?_
    refine Ro_set (t := x28) (v := bif x28 then (Value.int .i64 x4) else undef) rfl (w_T rfl rfl rfl) (by intro e; have e0 := e; subst e0; exact o_move rfl rfl) (fun e => ⟨gv_f e, rfl⟩) ?_
    obtain ⟨x29, hx29, h⟩ := h.bd
    refine Ro_set (t := x28) (v := bif x28 then (Value.int .i64 x29) else undef) rfl (w_T rfl rfl rfl) (by intro e; have e0 := e; subst e0; exact o_call (vs := [(Value.int .i64 x4)]) rfl rfl (w16 _ _ _ hx29)) (fun e => ⟨gv_f e, rfl⟩) ?_
    refine Ro_set (t := x28) (v := bif x28 then (Value.int .i64 n_3) else undef) rfl (w_T rfl rfl rfl) (by intro e; have e0 := e; subst e0; exact o_move rfl rfl) (fun e => ⟨gv_f e, rfl⟩) ?_
    obtain ⟨x30, hx30, h⟩ := h.lt
    refine Ro_set (t := x28) (v := bif x28 then (Value.bool x30) else undef) rfl (w_T rfl rfl rfl) (by intro e; have e0 := e; subst e0; exact o_eql rfl rfl rfl hx30) (fun e => ⟨gv_f e, rfl⟩) ?_
    obtain ⟨x31, hx31, h⟩ := h.lt
    refine Ro_v (v := (Value.bool x31)) rfl (o_pick rfl rfl (by intro e; subst e; subst hx31; rfl) (by intro e; subst e; subst hx31; rfl)) ?_
    refine Ro_v (v := (Value.bool x31)) rfl (o_move rfl rfl) ?_
    refine Ro_set (t := x31) (v := bif x31 then (Value.int .i64 x4) else undef) rfl (w_T rfl rfl rfl) (by intro e; have e0 := e; subst e0; exact o_move rfl rfl) (fun e => ⟨gv_f e, rfl⟩) ?_
    obtain ⟨x32, hx32, h⟩ := h.bd
    refine Ro_set (t := x31) (v := bif x31 then (Value.bool x32) else undef) rfl (w_T rfl rfl rfl) (by intro e; have e0 := e; subst e0; exact o_call (vs := [(Value.int .i64 x4)]) rfl rfl (w12 _ _ _ hx32)) (fun e => ⟨gv_f e, rfl⟩) ?_
    obtain ⟨x33, hx33, h⟩ := h.lt
    refine Ro_v (v := (Value.bool x33)) rfl (o_pick rfl rfl (by intro e; subst e; subst hx33; rfl) (by intro e; subst e; subst hx33; rfl)) ?_
    refine Ro_v (v := (Value.bool x33)) rfl (o_assign rfl rfl) ?_
    refine Ro_nil ?_
    exact Fx_ret rfl rfl (congrArg some h.sm)
noncomputable def c6_0 : Code := bodyOf Tryd.f6
noncomputable def c6_1 : Code := cl c6_0
noncomputable def c6_2 : Code := cr c6_0
noncomputable def c6_3 : Code := cl c6_2
noncomputable def c6_4 : Code := cl c6_3
noncomputable def c6_5 : Code := cr c6_3
noncomputable def c6_6 : Code := cl c6_5
noncomputable def c6_7 : Code := cl c6_6
noncomputable def c6_8 : Code := cr c6_6
noncomputable def c6_9 : Code := cr c6_5
noncomputable def c6_10 : Code := cr c6_2
noncomputable def c6_11 : Code := cl c6_10
noncomputable def c6_12 : Code := cr c6_10
noncomputable def c6_13 : Code := cl c6_12
noncomputable def c6_14 : Code := cr c6_12
theorem ok6 : funcOk Tryd.f6 = true := by kernel_rfl
noncomputable def rs6 : List ResultVar := resultsOf Tryd.f6
theorem w6 (a_2 : Int) (b_3 : Int) (σ : AHeap) (r : Bool) (h : G_semvcslaw10_IdentOrder a_2 b_3 σ = some r) : callL Tryd.prog 6 [(Value.int .i64 a_2), (Value.int .i64 b_3)] σ = some ((Value.bool r), σ) := by
  refine callL_walk (fn := Tryd.f6) (c := c6_0) (rs := rs6) Tryd.func6 rfl ok6 rfl rfl ?_
  obtain ⟨out, ho⟩ : ∃ out, out = ((Value.bool r), σ) := ⟨_, rfl⟩
  rw [← ho]
  replace h : OptW (G_semvcslaw10_IdentOrder a_2 b_3 σ) (fun r => ((Value.bool r), σ) = out) := ⟨r, h, ho.symm⟩
  unfold G_semvcslaw10_IdentOrder at h
  refine Fx_seq (a := c6_1) (b := c6_2) rfl ?_
  refine Fx_text rfl (by kernel_rfl) ?_
  refine Ro_v (v := (Value.bool false)) rfl (o_assign rfl rfl) ?_
  refine Ro_nil ?_
  refine Fx_seq (a := c6_3) (b := c6_10) rfl ?_
  refine Fx_seq (a := c6_4) (b := c6_5) rfl ?_
  refine Fx_text rfl (by kernel_rfl) ?_
  refine Ro_v (v := (Value.int .i64 a_2)) rfl (o_move rfl rfl) ?_
  obtain ⟨x4, hx4, h⟩ := h.bd
  refine Ro_v (v := (Value.bool x4)) rfl (o_call (vs := [(Value.int .i64 a_2)]) rfl rfl (w12 _ _ _ hx4)) ?_
  obtain ⟨x5, hx5, h⟩ := h.lt
  refine Ro_v (v := (Value.bool x5)) rfl (o_not rfl rfl hx5) ?_
  refine Ro_v (v := (Value.bool x5)) rfl (o_move rfl rfl) ?_
  refine Ro_set (t := !x5) (v := bif !x5 then (Value.int .i64 b_3) else undef) rfl (w_F rfl rfl rfl) (by intro e; have e0 := not_t (e); subst e0; exact o_move rfl rfl) (fun e => ⟨gv_f e, rfl⟩) ?_
  obtain ⟨x6, hx6, h⟩ := h.bd
  refine Ro_set (t := !x5) (v := bif !x5 then (Value.bool x6) else undef) rfl (w_F rfl rfl rfl) (by intro e; have e0 := not_t (e); subst e0; exact o_call (vs := [(Value.int .i64 b_3)]) rfl rfl (w12 _ _ _ hx6)) (fun e => ⟨gv_f e, rfl⟩) ?_
  obtain ⟨x7, hx7, h⟩ := h.lt
  refine Ro_set (t := !x5) (v := bif !x5 then (Value.bool x7) else undef) rfl (w_F rfl rfl rfl) (by intro e; have e0 := not_t (e); subst e0; exact o_not rfl rfl hx7) (fun e => ⟨gv_f e, rfl⟩) ?_
  obtain ⟨x8, hx8, h⟩ := h.lt
  refine Ro_v (v := (Value.bool x8)) rfl (o_pick rfl rfl (by intro e; subst e; subst hx8; rfl) (by intro e; subst e; subst hx8; rfl)) ?_
  refine Ro_nil ?_
  refine Fx_cond (a := c6_6) (b := c6_9) rfl rfl (fun ex8 => ?_) (fun ex8 => ?_)
  · replace h := h.ifT ex8
    refine Fx_seq (a := c6_7) (b := c6_8) rfl ?_
    refine Fx_text rfl (by kernel_rfl) ?_
    obtain ⟨x9, hx9, h⟩ := h.bd
    refine Ro_v (v := (Value.bool x9)) rfl (o_call (vs := []) rfl rfl (w11 _ _ hx9)) ?_
    refine Ro_v (v := (Value.bool x9)) rfl (o_assign rfl rfl) ?_
    refine Ro_nil ?_
    exact Fx_ret rfl rfl (congrArg some h.sm)
  · replace h := h.ifF ex8
    refine Fx_skip (c := c6_9) rfl ?_
    refine Fx_seq (a := c6_11) (b := c6_12) rfl ?_
    refine Fx_text rfl (by kernel_rfl) ?_
    refine Ro_v (v := (Value.int .i64 a_2)) rfl (o_move rfl rfl) ?_
    obtain ⟨x10, hx10, h⟩ := h.bd
    refine Ro_v (v := (Value.int .i64 x10)) rfl (o_call (vs := [(Value.int .i64 a_2)]) rfl rfl (w14 _ _ _ hx10)) ?_
    refine Ro_v (v := (Value.int .i64 b_3)) rfl (o_move rfl rfl) ?_
    obtain ⟨x11, hx11, h⟩ := h.bd
    refine Ro_v (v := (Value.int .i64 x11)) rfl (o_call (vs := [(Value.int .i64 b_3)]) rfl rfl (w14 _ _ _ hx11)) ?_
    obtain ⟨x12, hx12, h⟩ := h.lt
    refine Ro_v (v := (Value.bool x12)) rfl (o_lss rfl rfl rfl hx12) ?_
    refine Ro_v (v := (Value.bool x12)) rfl (o_move rfl rfl) ?_
    refine Ro_set (t := !x12) (v := bif !x12 then (Value.int .i64 a_2) else undef) rfl (w_F rfl rfl rfl) (by intro e; have e0 := not_t (e); subst e0; exact o_move rfl rfl) (fun e => ⟨gv_f e, rfl⟩) ?_
    obtain ⟨x13, hx13, h⟩ := h.bd
    refine Ro_set (t := !x12) (v := bif !x12 then (Value.int .i64 x13) else undef) rfl (w_F rfl rfl rfl) (by intro e; have e0 := not_t (e); subst e0; exact o_call (vs := [(Value.int .i64 a_2)]) rfl rfl (w14 _ _ _ hx13)) (fun e => ⟨gv_f e, rfl⟩) ?_
    refine Ro_set (t := !x12) (v := bif !x12 then (Value.int .i64 b_3) else undef) rfl (w_F rfl rfl rfl) (by intro e; have e0 := not_t (e); subst e0; exact o_move rfl rfl) (fun e => ⟨gv_f e, rfl⟩) ?_
    obtain ⟨x14, hx14, h⟩ := h.bd
    refine Ro_set (t := !x12) (v := bif !x12 then (Value.int .i64 x14) else undef) rfl (w_F rfl rfl rfl) (by intro e; have e0 := not_t (e); subst e0; exact o_call (vs := [(Value.int .i64 b_3)]) rfl rfl (w14 _ _ _ hx14)) (fun e => ⟨gv_f e, rfl⟩) ?_
    obtain ⟨x15, hx15, h⟩ := h.lt
    refine Ro_set (t := !x12) (v := bif !x12 then (Value.bool x15) else undef) rfl (w_F rfl rfl rfl) (by intro e; have e0 := not_t (e); subst e0; exact o_eql rfl rfl rfl hx15) (fun e => ⟨gv_f e, rfl⟩) ?_
    refine Ro_set (t := !x12) (v := bif !x12 then (Value.bool x15) else undef) rfl (w_F rfl rfl rfl) (by intro e; have e0 := not_t (e); subst e0; exact o_move rfl rfl) (fun e => ⟨gv_f e, rfl⟩) ?_
    refine Ro_set (t := (!x12 && x15)) (v := bif (!x12 && x15) then (Value.int .i64 a_2) else undef) rfl (w_gT rfl rfl rfl) (by intro e; have e1 := (and_t e).2; have e0 := not_t (and_t e).1; subst e1; subst e0; exact o_move rfl rfl) (fun e => ⟨gv_f e, rfl⟩) ?_
    obtain ⟨x16, hx16, h⟩ := h.bd
    refine Ro_set (t := (!x12 && x15)) (v := bif (!x12 && x15) then (Value.int .i64 x16) else undef) rfl (w_gT rfl rfl rfl) (by intro e; have e1 := (and_t e).2; have e0 := not_t (and_t e).1; subst e1; subst e0; exact o_call (vs := [(Value.int .i64 a_2)]) rfl rfl (w16 _ _ _ hx16)) (fun e => ⟨gv_f e, rfl⟩) ?_
    refine Ro_set (t := (!x12 && x15)) (v := bif (!x12 && x15) then (Value.int .i64 b_3) else undef) rfl (w_gT rfl rfl rfl) (by intro e; have e1 := (and_t e).2; have e0 := not_t (and_t e).1; subst e1; subst e0; exact o_move rfl rfl) (fun e => ⟨gv_f e, rfl⟩) ?_
    obtain ⟨x17, hx17, h⟩ := h.bd
    refine Ro_set (t := (!x12 && x15)) (v := bif (!x12 && x15) then (Value.int .i64 x17) else undef) rfl (w_gT rfl rfl rfl) (by intro e; have e1 := (and_t e).2; have e0 := not_t (and_t e).1; subst e1; subst e0; exact o_call (vs := [(Value.int .i64 b_3)]) rfl rfl (w16 _ _ _ hx17)) (fun e => ⟨gv_f e, rfl⟩) ?_
    obtain ⟨x18, hx18, h⟩ := h.lt
    refine Ro_set (t := (!x12 && x15)) (v := bif (!x12 && x15) then (Value.bool x18) else undef) rfl (w_gT rfl rfl rfl) (by intro e; have e1 := (and_t e).2; have e0 := not_t (and_t e).1; subst e1; subst e0; exact o_lss rfl rfl rfl hx18) (fun e => ⟨gv_f e, rfl⟩) ?_
    obtain ⟨x19, hx19, h⟩ := h.lt
    refine Ro_set (t := !x12) (v := bif !x12 then (Value.bool x19) else undef) rfl (w_F rfl rfl rfl) (by intro e; have e0 := not_t (e); subst e0; exact o_pick rfl rfl (by intro e; subst e; subst hx19; rfl) (by intro e; subst e; subst hx19; rfl)) (fun e => ⟨gv_f e, rfl⟩) ?_
    obtain ⟨x20, hx20, h⟩ := h.lt
    refine Ro_v (v := (Value.bool x20)) rfl (o_pick rfl rfl (by intro e; subst e; subst hx20; rfl) (by intro e; subst e; subst hx20; rfl)) ?_
    refine Ro_v (v := (Value.bool x20)) rfl (o_assign rfl rfl) ?_
    refine Ro_nil ?_
    refine Fx_seq (a := c6_13) (b := c6_14) rfl ?_
    refine Fx_text rfl (by kernel_rfl) ?_
    obtain ⟨x21, hx21, h⟩ := h.bd
    refine Ro_v (v := (Value.bool x21)) rfl (o_call (vs := []) rfl rfl (w11 _ _ hx21)) ?_
    refine Ro_v (v := (Value.bool x21)) rfl (o_move rfl rfl) ?_
    refine Ro_set (t := x21) (v := bif x21 then (Value.int .i64 a_2) else undef) rfl (w_T rfl rfl rfl) (by intro e; have e0 := e; subst e0; exact o_move rfl rfl) (fun e => ⟨gv_f e, rfl⟩) ?_
    refine Ro_set (t := x21) (v := bif x21 then (Value.int .i64 b_3) else undef) rfl (w_T rfl rfl rfl) (by intro e; have e0 := e; subst e0; exact o_move rfl rfl) (fun e => ⟨gv_f e, rfl⟩) ?_
    obtain ⟨x22, hx22, h⟩ := h.lt
    refine Ro_set (t := x21) (v := bif x21 then (Value.bool x22) else undef) rfl (w_T rfl rfl rfl) (by intro e; have e0 := e; subst e0; exact o_lss rfl rfl rfl hx22) (fun e => ⟨gv_f e, rfl⟩) ?_
    refine Ro_set (t := x21) (v := bif x21 then (Value.bool x20) else undef) rfl (w_T rfl rfl rfl) (by intro e; have e0 := e; subst e0; exact o_move rfl rfl) (fun e => ⟨gv_f e, rfl⟩) ?_
    obtain ⟨x23, hx23, h⟩ := h.lt
    refine Ro_set (t := x21) (v := bif x21 then (Value.bool x23) else undef) rfl (w_T rfl rfl rfl) (by intro e; have e0 := e; subst e0; exact o_beql rfl tu4 rfl rfl hx23) (fun e => ⟨gv_f e, rfl⟩) ?_
    obtain ⟨x24, hx24, h⟩ := h.lt
    refine Ro_v (v := (Value.bool x24)) rfl (o_pick rfl rfl (by intro e; subst e; subst hx24; rfl) (by intro e; subst e; subst hx24; rfl)) ?_
    refine Ro_v (v := (Value.bool x24)) rfl (o_assign rfl rfl) ?_
    refine Ro_nil ?_
    exact Fx_ret rfl rfl (congrArg some h.sm)
noncomputable def c22_0 : Code := bodyOf Tryd.f22
noncomputable def c22_1 : Code := cl c22_0
noncomputable def c22_2 : Code := cr c22_0
noncomputable def c22_3 : Code := cl c22_2
noncomputable def c22_4 : Code := cl c22_3
noncomputable def c22_5 : Code := cl c22_4
noncomputable def c22_6 : Code := cr c22_4
noncomputable def c22_7 : Code := cl c22_6
noncomputable def c22_8 : Code := cl c22_7
noncomputable def c22_9 : Code := cr c22_7
noncomputable def c22_10 : Code := cr c22_6
noncomputable def c22_11 : Code := cl c22_10
noncomputable def c22_12 : Code := cr c22_10
noncomputable def c22_13 : Code := cl c22_12
noncomputable def c22_14 : Code := cl c22_13
noncomputable def c22_15 : Code := cr c22_13
noncomputable def c22_16 : Code := cr c22_12
noncomputable def c22_17 : Code := cl c22_16
noncomputable def c22_18 : Code := cr c22_16
noncomputable def c22_19 : Code := cl c22_18
noncomputable def c22_20 : Code := cl c22_19
noncomputable def c22_21 : Code := cr c22_19
noncomputable def c22_22 : Code := cr c22_18
noncomputable def c22_23 : Code := cr c22_2
noncomputable def c22_24 : Code := cl c22_23
noncomputable def c22_25 : Code := cr c22_23
theorem ok22 : funcOk Tryd.f22 = true := by kernel_rfl
noncomputable def rs22 : List ResultVar := resultsOf Tryd.f22
theorem w22 (id_3 : Int) (n_4 : Int) (σ : AHeap) (r : (Int × Int)) (h : G_ident_Next id_3 n_4 = some r) : callL Tryd.prog 22 [(Value.int .i64 id_3), (Value.int .i64 n_4)] σ = some ((Value.tuple #[(Value.int .i64 r.1), (Value.int .i64 r.2)]), σ) := by
  refine callL_walk (fn := Tryd.f22) (c := c22_0) (rs := rs22) Tryd.func22 rfl ok22 rfl rfl ?_
  obtain ⟨out, ho⟩ : ∃ out, out = ((Value.tuple #[(Value.int .i64 r.1), (Value.int .i64 r.2)]), σ) := ⟨_, rfl⟩
  rw [← ho]
  replace h : OptW (G_ident_Next id_3 n_4) (fun r => ((Value.tuple #[(Value.int .i64 r.1), (Value.int .i64 r.2)]), σ) = out) := ⟨r, h, ho.symm⟩
  unfold G_ident_Next at h
  refine Fx_seq (a := c22_1) (b := c22_2) rfl ?_
  refine Fx_text rfl (by kernel_rfl) ?_
  refine Ro_v (v := (Value.int .i64 (0))) rfl (o_assign rfl rfl) ?_
  refine Ro_v (v := (Value.int .i64 (0))) rfl (o_assign rfl rfl) ?_
  refine Ro_nil ?_
  refine Fx_seq (a := c22_3) (b := c22_23) rfl ?_
  refine Fx_block (b := c22_4) rfl ?_
  refine Fx_seq (a := c22_5) (b := c22_6) rfl ?_
  refine Fx_text rfl (by kernel_rfl) ?_
  refine Ro_v (v := (Value.int .i64 id_3)) rfl (o_move rfl rfl) ?_
  obtain ⟨x5, hx5, h⟩ := h.bd
  refine Ro_v (v := (Value.bool x5)) rfl (o_call (vs := [(Value.int .i64 id_3)]) rfl rfl (w24 _ _ _ hx5)) ?_
  obtain ⟨x6, hx6, h⟩ := h.lt
  refine Ro_v (v := (Value.bool x6)) rfl (o_not rfl rfl hx6) ?_
  refine Ro_v (v := (Value.bool x6)) rfl (o_move rfl rfl) ?_
  refine Ro_set (t := !x6) (v := bif !x6 then (Value.int .i64 n_4) else undef) rfl (w_F rfl rfl rfl) (by intro e; have e0 := not_t (e); subst e0; exact o_move rfl rfl) (fun e => ⟨gv_f e, rfl⟩) ?_
  obtain ⟨x7, hx7, h⟩ := h.lt
  refine Ro_set (t := !x6) (v := bif !x6 then (Value.bool x7) else undef) rfl (w_F rfl rfl rfl) (by intro e; have e0 := not_t (e); subst e0; exact o_lss rfl rfl rfl hx7) (fun e => ⟨gv_f e, rfl⟩) ?_
  obtain ⟨x8, hx8, h⟩ := h.lt
  refine Ro_v (v := (Value.bool x8)) rfl (o_pick rfl rfl (by intro e; subst e; subst hx8; rfl) (by intro e; subst e; subst hx8; rfl)) ?_
  refine Ro_v (v := (Value.bool x8)) rfl (o_assign rfl rfl) ?_
  refine Ro_nil ?_
  refine Fx_cond (a := c22_7) (b := c22_10) rfl rfl (fun ex8 => ?_) (fun ex8 => ?_)
  · replace h := h.ifT ex8
    refine Fx_seq (a := c22_8) (b := c22_9) rfl ?_
    refine Fx_text rfl (by kernel_rfl) ?_
    refine Ro_v (v := (Value.int .i64 (0))) rfl (o_assign rfl rfl) ?_
    refine Ro_v (v := (Value.int .i64 (5))) rfl (o_assign rfl rfl) ?_
    refine Ro_nil ?_
    exact Fx_ret rfl rfl (congrArg some h.sm)
  · replace h := h.ifF ex8
    refine Fx_seq (a := c22_11) (b := c22_12) rfl ?_
    refine Fx_text rfl (by kernel_rfl) ?_
    refine Ro_v (v := (Value.int .i64 n_4)) rfl (o_move rfl rfl) ?_
    refine Ro_v (v := (Value.int .i64 id_3)) rfl (o_move rfl rfl) ?_
    obtain ⟨x9, hx9, h⟩ := h.lt
    refine Ro_v (v := (Value.int .i64 x9)) rfl (o_and rfl rfl rfl hx9) ?_
    obtain ⟨x10, hx10, h⟩ := h.lt
    refine Ro_v (v := (Value.int .i64 x10)) rfl (o_sub rfl rfl rfl hx10) ?_
    obtain ⟨x11, hx11, h⟩ := h.lt
    refine Ro_v (v := (Value.bool x11)) rfl (o_gtr rfl rfl rfl hx11) ?_
    refine Ro_v (v := (Value.bool x11)) rfl (o_assign rfl rfl) ?_
    refine Ro_nil ?_
    refine Fx_cond (a := c22_13) (b := c22_16) rfl rfl (fun ex11 => ?_) (fun ex11 => ?_)
    · replace h := h.ifT ex11
      refine Fx_seq (a := c22_14) (b := c22_15) rfl ?_
      refine Fx_text rfl (by kernel_rfl) ?_
      refine Ro_v (v := (Value.int .i64 (0))) rfl (o_assign rfl rfl) ?_
      refine Ro_v (v := (Value.int .i64 (17))) rfl (o_assign rfl rfl) ?_
      refine Ro_nil ?_
      exact Fx_ret rfl rfl (congrArg some h.sm)
    · replace h := h.ifF ex11
      refine Fx_seq (a := c22_17) (b := c22_18) rfl ?_
      refine Fx_text rfl (by kernel_rfl) ?_
      refine Ro_v (v := (Value.int .i64 id_3)) rfl (o_move rfl rfl) ?_
      obtain ⟨x12, hx12, h⟩ := h.lt
      refine Ro_v (v := (Value.int .i64 x12)) rfl (o_and rfl rfl rfl hx12) ?_
      refine Ro_v (v := (Value.int .i64 n_4)) rfl (o_move rfl rfl) ?_
      obtain ⟨x13, hx13, h⟩ := h.lt
      refine Ro_v (v := (Value.int .i64 x13)) rfl (o_add rfl rfl rfl hx13) ?_
      obtain ⟨x14, hx14, h⟩ := h.lt
      refine Ro_v (v := (Value.bool x14)) rfl (o_eql rfl rfl rfl hx14) ?_
      refine Ro_v (v := (Value.bool x14)) rfl (o_assign rfl rfl) ?_
      refine Ro_nil ?_
      refine Fx_cond (a := c22_19) (b := c22_22) rfl rfl (fun ex14 => ?_) (fun ex14 => ?_)
      · replace h := h.ifT ex14
        refine Fx_seq (a := c22_20) (b := c22_21) rfl ?_
        refine Fx_text rfl (by kernel_rfl) ?_
        refine Ro_v (v := (Value.int .i64 (0))) rfl (o_assign rfl rfl) ?_
        refine Ro_v (v := (Value.int .i64 (5))) rfl (o_assign rfl rfl) ?_
        refine Ro_nil ?_
        exact Fx_ret rfl rfl (congrArg some h.sm)
      · replace h := h.ifF ex14
        refine Fx_skip (c := c22_22) rfl ?_
        refine Fx_blk ?_
        refine Fx_seq (a := c22_24) (b := c22_25) rfl ?_
        refine Fx_text rfl (by kernel_rfl) ?_
        refine Ro_v (v := (Value.int .i64 id_3)) rfl (o_move rfl rfl) ?_
        refine Ro_v (v := (Value.int .i64 n_4)) rfl (o_move rfl rfl) ?_
        obtain ⟨x15, hx15, h⟩ := h.lt
        refine Ro_v (v := (Value.int .i64 x15)) rfl (o_add rfl rfl rfl hx15) ?_
        refine Ro_v (v := (Value.int .i64 x15)) rfl (o_assign rfl rfl) ?_
        refine Ro_v (v := (Value.int .i64 (0))) rfl (o_assign rfl rfl) ?_
        refine Ro_nil ?_
        exact Fx_ret rfl rfl (congrArg some h.sm)
noncomputable def c29_0 : Code := bodyOf Tryd.f29
noncomputable def c29_1 : Code := cl c29_0
noncomputable def c29_2 : Code := cr c29_0
noncomputable def c29_3 : Code := cl c29_2
noncomputable def c29_4 : Code := cr c29_2
theorem ok29 : funcOk Tryd.f29 = true := by kernel_rfl
noncomputable def rs29 : List ResultVar := resultsOf Tryd.f29
theorem w29 (id_2 : Int) (σ : AHeap) (r : Bool) (h : G_semvcsref10_Start id_2 = some r) : callL Tryd.prog 29 [(Value.int .i64 id_2)] σ = some ((Value.bool r), σ) := by
  refine callL_walk (fn := Tryd.f29) (c := c29_0) (rs := rs29) Tryd.func29 rfl ok29 rfl rfl ?_
  obtain ⟨out, ho⟩ : ∃ out, out = ((Value.bool r), σ) := ⟨_, rfl⟩
  rw [← ho]
  replace h : OptW (G_semvcsref10_Start id_2) (fun r => ((Value.bool r), σ) = out) := ⟨r, h, ho.symm⟩
  unfold G_semvcsref10_Start at h
  refine Fx_seq (a := c29_1) (b := c29_2) rfl ?_
  refine Fx_text rfl (by kernel_rfl) ?_
  refine Ro_v (v := (Value.bool false)) rfl (o_assign rfl rfl) ?_
  refine Ro_nil ?_
  refine Fx_seq (a := c29_3) (b := c29_4) rfl ?_
  refine Fx_text rfl (by kernel_rfl) ?_
  refine Ro_v (v := (Value.int .i64 id_2)) rfl (o_move rfl rfl) ?_
  obtain ⟨x3, hx3, h⟩ := h.lt
  refine Ro_v (v := (Value.bool x3)) rfl (o_geq rfl rfl rfl hx3) ?_
  refine Ro_v (v := (Value.bool x3)) rfl (o_move rfl rfl) ?_
  refine Ro_set (t := x3) (v := bif x3 then (Value.int .i64 id_2) else undef) rfl (w_T rfl rfl rfl) (by intro e; have e0 := e; subst e0; exact o_move rfl rfl) (fun e => ⟨gv_f e, rfl⟩) ?_
  obtain ⟨x4, hx4, h⟩ := h.lt
  refine Ro_set (t := x3) (v := bif x3 then (Value.bool x4) else undef) rfl (w_T rfl rfl rfl) (by intro e; have e0 := e; subst e0; exact o_lss rfl rfl rfl hx4) (fun e => ⟨gv_f e, rfl⟩) ?_
  obtain ⟨x5, hx5, h⟩ := h.lt
  refine Ro_v (v := (Value.bool x5)) rfl (o_pick rfl rfl (by intro e; subst e; subst hx5; rfl) (by intro e; subst e; subst hx5; rfl)) ?_
  refine Ro_v (v := (Value.bool x5)) rfl (o_assign rfl rfl) ?_
  refine Ro_nil ?_
  exact Fx_ret rfl rfl (congrArg some h.sm)
noncomputable def c23_0 : Code := bodyOf Tryd.f23
noncomputable def c23_1 : Code := cl c23_0
noncomputable def c23_2 : Code := cr c23_0
noncomputable def c23_3 : Code := cl c23_2
noncomputable def c23_4 : Code := cl c23_3
noncomputable def c23_5 : Code := cl c23_4
noncomputable def c23_6 : Code := cr c23_4
noncomputable def c23_7 : Code := cl c23_6
noncomputable def c23_8 : Code := cl c23_7
noncomputable def c23_9 : Code := cr c23_7
noncomputable def c23_10 : Code := cr c23_6
noncomputable def c23_11 : Code := cl c23_10
noncomputable def c23_12 : Code := cr c23_10
noncomputable def c23_13 : Code := cl c23_12
noncomputable def c23_14 : Code := cl c23_13
noncomputable def c23_15 : Code := cr c23_13
noncomputable def c23_16 : Code := cr c23_12
noncomputable def c23_17 : Code := cl c23_16
noncomputable def c23_18 : Code := cr c23_16
noncomputable def c23_19 : Code := cl c23_18
noncomputable def c23_20 : Code := cl c23_19
noncomputable def c23_21 : Code := cr c23_19
noncomputable def c23_22 : Code := cr c23_18
noncomputable def c23_23 : Code := cr c23_2
noncomputable def c23_24 : Code := cl c23_23
noncomputable def c23_25 : Code := cr c23_23
theorem ok23 : funcOk Tryd.f23 = true := by kernel_rfl
noncomputable def rs23 : List ResultVar := resultsOf Tryd.f23
theorem w23 (id_3 : Int) (n_4 : Int) (σ : AHeap) (r : (Int × Int)) (h : G_semvcsref10_Next id_3 n_4 = some r) : callL Tryd.prog 23 [(Value.int .i64 id_3), (Value.int .i64 n_4)] σ = some ((Value.tuple #[(Value.int .i64 r.1), (Value.int .i64 r.2)]), σ) := by
  refine callL_walk (fn := Tryd.f23) (c := c23_0) (rs := rs23) Tryd.func23 rfl ok23 rfl rfl ?_
  obtain ⟨out, ho⟩ : ∃ out, out = ((Value.tuple #[(Value.int .i64 r.1), (Value.int .i64 r.2)]), σ) := ⟨_, rfl⟩
  rw [← ho]
  replace h : OptW (G_semvcsref10_Next id_3 n_4) (fun r => ((Value.tuple #[(Value.int .i64 r.1), (Value.int .i64 r.2)]), σ) = out) := ⟨r, h, ho.symm⟩
  unfold G_semvcsref10_Next at h
  refine Fx_seq (a := c23_1) (b := c23_2) rfl ?_
  refine Fx_text rfl (by kernel_rfl) ?_
  refine Ro_v (v := (Value.int .i64 (0))) rfl (o_assign rfl rfl) ?_
  refine Ro_v (v := (Value.int .i64 (0))) rfl (o_assign rfl rfl) ?_
  refine Ro_nil ?_
  refine Fx_seq (a := c23_3) (b := c23_23) rfl ?_
  refine Fx_block (b := c23_4) rfl ?_
  refine Fx_seq (a := c23_5) (b := c23_6) rfl ?_
  refine Fx_text rfl (by kernel_rfl) ?_
  refine Ro_v (v := (Value.int .i64 id_3)) rfl (o_move rfl rfl) ?_
  obtain ⟨x5, hx5, h⟩ := h.bd
  refine Ro_v (v := (Value.bool x5)) rfl (o_call (vs := [(Value.int .i64 id_3)]) rfl rfl (w29 _ _ _ hx5)) ?_
  obtain ⟨x6, hx6, h⟩ := h.lt
  refine Ro_v (v := (Value.bool x6)) rfl (o_not rfl rfl hx6) ?_
  refine Ro_v (v := (Value.bool x6)) rfl (o_move rfl rfl) ?_
  refine Ro_set (t := !x6) (v := bif !x6 then (Value.int .i64 n_4) else undef) rfl (w_F rfl rfl rfl) (by intro e; have e0 := not_t (e); subst e0; exact o_move rfl rfl) (fun e => ⟨gv_f e, rfl⟩) ?_
  obtain ⟨x7, hx7, h⟩ := h.lt
  refine Ro_set (t := !x6) (v := bif !x6 then (Value.bool x7) else undef) rfl (w_F rfl rfl rfl) (by intro e; have e0 := not_t (e); subst e0; exact o_lss rfl rfl rfl hx7) (fun e => ⟨gv_f e, rfl⟩) ?_
  obtain ⟨x8, hx8, h⟩ := h.lt
  refine Ro_v (v := (Value.bool x8)) rfl (o_pick rfl rfl (by intro e; subst e; subst hx8; rfl) (by intro e; subst e; subst hx8; rfl)) ?_
  refine Ro_v (v := (Value.bool x8)) rfl (o_assign rfl rfl) ?_
  refine Ro_nil ?_
  refine Fx_cond (a := c23_7) (b := c23_10) rfl rfl (fun ex8 => ?_) (fun ex8 => ?_)
  · replace h := h.ifT ex8
    refine Fx_seq (a := c23_8) (b := c23_9) rfl ?_
    refine Fx_text rfl (by kernel_rfl) ?_
    refine Ro_v (v := (Value.int .i64 (0))) rfl (o_assign rfl rfl) ?_
    refine Ro_v (v := (Value.int .i64 (5))) rfl (o_assign rfl rfl) ?_
    refine Ro_nil ?_
    exact Fx_ret rfl rfl (congrArg some h.sm)
  · replace h := h.ifF ex8
    refine Fx_seq (a := c23_11) (b := c23_12) rfl ?_
    refine Fx_text rfl (by kernel_rfl) ?_
    refine Ro_v (v := (Value.int .i64 n_4)) rfl (o_move rfl rfl) ?_
    refine Ro_v (v := (Value.int .i64 id_3)) rfl (o_move rfl rfl) ?_
    obtain ⟨x9, hx9, h⟩ := h.lt
    refine Ro_v (v := (Value.int .i64 x9)) rfl (o_rem rfl rfl rfl (by decide) hx9) ?_
    obtain ⟨x10, hx10, h⟩ := h.lt
    refine Ro_v (v := (Value.int .i64 x10)) rfl (o_sub rfl rfl rfl hx10) ?_
    obtain ⟨x11, hx11, h⟩ := h.lt
    refine Ro_v (v := (Value.bool x11)) rfl (o_gtr rfl rfl rfl hx11) ?_
    refine Ro_v (v := (Value.bool x11)) rfl (o_assign rfl rfl) ?_
    refine Ro_nil ?_
    refine Fx_cond (a := c23_13) (b := c23_16) rfl rfl (fun ex11 => ?_) (fun ex11 => ?_)
    · replace h := h.ifT ex11
      refine Fx_seq (a := c23_14) (b := c23_15) rfl ?_
      refine Fx_text rfl (by kernel_rfl) ?_
      refine Ro_v (v := (Value.int .i64 (0))) rfl (o_assign rfl rfl) ?_
      refine Ro_v (v := (Value.int .i64 (17))) rfl (o_assign rfl rfl) ?_
      refine Ro_nil ?_
      exact Fx_ret rfl rfl (congrArg some h.sm)
    · replace h := h.ifF ex11
      refine Fx_seq (a := c23_17) (b := c23_18) rfl ?_
      refine Fx_text rfl (by kernel_rfl) ?_
      refine Ro_v (v := (Value.int .i64 id_3)) rfl (o_move rfl rfl) ?_
      obtain ⟨x12, hx12, h⟩ := h.lt
      refine Ro_v (v := (Value.int .i64 x12)) rfl (o_rem rfl rfl rfl (by decide) hx12) ?_
      refine Ro_v (v := (Value.int .i64 n_4)) rfl (o_move rfl rfl) ?_
      obtain ⟨x13, hx13, h⟩ := h.lt
      refine Ro_v (v := (Value.int .i64 x13)) rfl (o_add rfl rfl rfl hx13) ?_
      obtain ⟨x14, hx14, h⟩ := h.lt
      refine Ro_v (v := (Value.bool x14)) rfl (o_eql rfl rfl rfl hx14) ?_
      refine Ro_v (v := (Value.bool x14)) rfl (o_assign rfl rfl) ?_
      refine Ro_nil ?_
      refine Fx_cond (a := c23_19) (b := c23_22) rfl rfl (fun ex14 => ?_) (fun ex14 => ?_)
      · replace h := h.ifT ex14
        refine Fx_seq (a := c23_20) (b := c23_21) rfl ?_
        refine Fx_text rfl (by kernel_rfl) ?_
        refine Ro_v (v := (Value.int .i64 (0))) rfl (o_assign rfl rfl) ?_
        refine Ro_v (v := (Value.int .i64 (5))) rfl (o_assign rfl rfl) ?_
        refine Ro_nil ?_
        exact Fx_ret rfl rfl (congrArg some h.sm)
      · replace h := h.ifF ex14
        refine Fx_skip (c := c23_22) rfl ?_
        refine Fx_blk ?_
        refine Fx_seq (a := c23_24) (b := c23_25) rfl ?_
        refine Fx_text rfl (by kernel_rfl) ?_
        refine Ro_v (v := (Value.int .i64 id_3)) rfl (o_move rfl rfl) ?_
        refine Ro_v (v := (Value.int .i64 n_4)) rfl (o_move rfl rfl) ?_
        obtain ⟨x15, hx15, h⟩ := h.lt
        refine Ro_v (v := (Value.int .i64 x15)) rfl (o_add rfl rfl rfl hx15) ?_
        refine Ro_v (v := (Value.int .i64 x15)) rfl (o_assign rfl rfl) ?_
        refine Ro_v (v := (Value.int .i64 (0))) rfl (o_assign rfl rfl) ?_
        refine Ro_nil ?_
        exact Fx_ret rfl rfl (congrArg some h.sm)
noncomputable def c7_0 : Code := bodyOf Tryd.f7
noncomputable def c7_1 : Code := cl c7_0
noncomputable def c7_2 : Code := cr c7_0
noncomputable def c7_3 : Code := cl c7_2
noncomputable def c7_4 : Code := cr c7_2
noncomputable def c7_5 : Code := cl c7_4
noncomputable def c7_6 : Code := cr c7_4
noncomputable def c7_7 : Code := cl c7_6
noncomputable def c7_8 : Code := cr c7_6
theorem ok7 : funcOk Tryd.f7 = true := by kernel_rfl
noncomputable def rs7 : List ResultVar := resultsOf Tryd.f7
theorem w7 (id_2 : Int) (n_3 : Int) (σ : AHeap) (r : Bool) (h : G_semvcslaw10_IdentNext id_2 n_3 σ = some r) : callL Tryd.prog 7 [(Value.int .i64 id_2), (Value.int .i64 n_3)] σ = some ((Value.bool r), σ) := by
  refine callL_walk (fn := Tryd.f7) (c := c7_0) (rs := rs7) Tryd.func7 rfl ok7 rfl rfl ?_
  obtain ⟨out, ho⟩ : ∃ out, out = ((Value.bool r), σ) := ⟨_, rfl⟩
  rw [← ho]
  replace h : OptW (G_semvcslaw10_IdentNext id_2 n_3 σ) (fun r => ((Value.bool r), σ) = out) := ⟨r, h, ho.symm⟩
  unfold G_semvcslaw10_IdentNext at h
  refine Fx_seq (a := c7_1) (b := c7_2) rfl ?_
  refine Fx_text rfl (by kernel_rfl) ?_
  refine Ro_v (v := (Value.bool false)) rfl (o_assign rfl rfl) ?_
  refine Ro_nil ?_
  refine Fx_seq (a := c7_3) (b := c7_4) rfl ?_
  refine Fx_text rfl (by kernel_rfl) ?_
  refine Ro_v (v := (Value.int .i64 id_2)) rfl (o_move rfl rfl) ?_
  refine Ro_v (v := (Value.int .i64 n_3)) rfl (o_move rfl rfl) ?_
  obtain ⟨⟨x4, x5⟩, hx4, h⟩ := h.bd
  refine Ro_v (v := (Value.tuple #[(Value.int .i64 x4), (Value.int .i64 x5)])) rfl (o_call (vs := [(Value.int .i64 id_2), (Value.int .i64 n_3)]) rfl rfl (w22 _ _ _ _ hx4)) ?_
  refine Ro_v (v := (Value.tuple #[(Value.int .i64 x4), (Value.int .i64 x5)])) rfl (o_move rfl rfl) ?_
  refine Ro_v (v := (Value.int .i64 x4)) rfl (o_ext rfl rfl rfl) ?_
  refine Ro_v (v := (Value.int .i64 x5)) rfl (o_ext rfl rfl rfl) ?_
  refine Ro_v (v := (Value.int .i64 x4)) rfl (o_assign rfl rfl) ?_
  refine Ro_v (v := (Value.int .i64 x5)) rfl (o_assign rfl rfl) ?_
  refine Ro_nil ?_
  refine Fx_seq (a := c7_5) (b := c7_6) rfl ?_
  refine Fx_text rfl (by kernel_rfl) ?_
  refine Ro_v (v := (Value.int .i64 id_2)) rfl (o_move rfl rfl) ?_
  refine Ro_v (v := (Value.int .i64 n_3)) rfl (o_move rfl rfl) ?_
  obtain ⟨⟨x6, x7⟩, hx6, h⟩ := h.bd
  refine Ro_v (v := (Value.tuple #[(Value.int .i64 x6), (Value.int .i64 x7)])) rfl (o_call (vs := [(Value.int .i64 id_2), (Value.int .i64 n_3)]) rfl rfl (w23 _ _ _ _ hx6)) ?_
  refine Ro_v (v := (Value.tuple #[(Value.int .i64 x6), (Value.int .i64 x7)])) rfl (o_move rfl rfl) ?_
  refine Ro_v (v := (Value.int .i64 x6)) rfl (o_ext rfl rfl rfl) ?_
  refine Ro_v (v := (Value.int .i64 x7)) rfl (o_ext rfl rfl rfl) ?_
  refine Ro_v (v := (Value.int .i64 x6)) rfl (o_assign rfl rfl) ?_
  refine Ro_v (v := (Value.int .i64 x7)) rfl (o_assign rfl rfl) ?_
  refine Ro_nil ?_
  refine Fx_seq (a := c7_7) (b := c7_8) rfl ?_
  refine Fx_text rfl (by kernel_rfl) ?_
  obtain ⟨x8, hx8, h⟩ := h.bd
  refine Ro_v (v := (Value.bool x8)) rfl (o_call (vs := []) rfl rfl (w11 _ _ hx8)) ?_
  refine Ro_v (v := (Value.bool x8)) rfl (o_move rfl rfl) ?_
  refine Ro_set (t := x8) (v := bif x8 then (Value.int .i64 x4) else undef) rfl (w_T rfl rfl rfl) (by intro e; have e0 := e; subst e0; exact o_move rfl rfl) (fun e => ⟨gv_f e, rfl⟩) ?_
  refine Ro_set (t := x8) (v := bif x8 then (Value.int .i64 x6) else undef) rfl (w_T rfl rfl rfl) (by intro e; have e0 := e; subst e0; exact o_move rfl rfl) (fun e => ⟨gv_f e, rfl⟩) ?_
  obtain ⟨x9, hx9, h⟩ := h.lt
  refine Ro_set (t := x8) (v := bif x8 then (Value.bool x9) else undef) rfl (w_T rfl rfl rfl) (by intro e; have e0 := e; subst e0; exact o_eql rfl rfl rfl hx9) (fun e => ⟨gv_f e, rfl⟩) ?_
  obtain ⟨x10, hx10, h⟩ := h.lt
  refine Ro_v (v := (Value.bool x10)) rfl (o_pick rfl rfl (by intro e; subst e; subst hx10; rfl) (by intro e; subst e; subst hx10; rfl)) ?_
  refine Ro_v (v := (Value.bool x10)) rfl (o_move rfl rfl) ?_
  refine Ro_set (t := x10) (v := bif x10 then (Value.int .i64 x5) else undef) rfl (w_T rfl rfl rfl) (by intro e; have e0 := e; subst e0; exact o_move rfl rfl) (fun e => ⟨gv_f e, rfl⟩) ?_
  refine Ro_set (t := x10) (v := bif x10 then (Value.int .i64 x7) else undef) rfl (w_T rfl rfl rfl) (by intro e; have e0 := e; subst e0; exact o_move rfl rfl) (fun e => ⟨gv_f e, rfl⟩) ?_
  obtain ⟨x11, hx11, h⟩ := h.lt
  refine Ro_set (t := x10) (v := bif x10 then (Value.bool x11) else undef) rfl (w_T rfl rfl rfl) (by intro e; have e0 := e; subst e0; exact o_eql rfl rfl rfl hx11) (fun e => ⟨gv_f e, rfl⟩) ?_
  obtain ⟨x12, hx12, h⟩ := h.lt
  refine Ro_v (v := (Value.bool x12)) rfl (o_pick rfl rfl (by intro e; subst e; subst hx12; rfl) (by intro e; subst e; subst hx12; rfl)) ?_
  refine Ro_v (v := (Value.bool x12)) rfl (o_assign rfl rfl) ?_
  refine Ro_nil ?_
  exact Fx_ret rfl rfl (congrArg some h.sm)
noncomputable def c8_0 : Code := bodyOf Tryd.f8
noncomputable def c8_1 : Code := cl c8_0
noncomputable def c8_2 : Code := cr c8_0
noncomputable def c8_3 : Code := cl c8_2
noncomputable def c8_4 : Code := cl c8_3
noncomputable def c8_5 : Code := cr c8_3
noncomputable def c8_6 : Code := cl c8_5
noncomputable def c8_7 : Code := cl c8_6
noncomputable def c8_8 : Code := cr c8_6
noncomputable def c8_9 : Code := cr c8_5
noncomputable def c8_10 : Code := cr c8_2
noncomputable def c8_11 : Code := cl c8_10
noncomputable def c8_12 : Code := cr c8_10
noncomputable def c8_13 : Code := cl c8_12
noncomputable def c8_14 : Code := cr c8_12
noncomputable def c8_15 : Code := cl c8_14
noncomputable def c8_16 : Code := cr c8_14
noncomputable def c8_17 : Code := cl c8_16
noncomputable def c8_18 : Code := cl c8_17
noncomputable def c8_19 : Code := cr c8_17
noncomputable def c8_20 : Code := cl c8_19
noncomputable def c8_21 : Code := cl c8_20
noncomputable def c8_22 : Code := cr c8_20
noncomputable def c8_23 : Code := cr c8_19
noncomputable def c8_24 : Code := cr c8_16
noncomputable def c8_25 : Code := cl c8_24
noncomputable def c8_26 : Code := cr c8_24
theorem ok8 : funcOk Tryd.f8 = true := by kernel_rfl
noncomputable def rs8 : List ResultVar := resultsOf Tryd.f8
theorem w8 (id_2 : Int) (n_3 : Int) (m_4 : Int) (σ : AHeap) (r : Bool) (h : G_semvcslaw10_IdentSteps id_2 n_3 m_4 σ = some r) : callL Tryd.prog 8 [(Value.int .i64 id_2), (Value.int .i64 n_3), (Value.int .i64 m_4)] σ = some ((Value.bool r), σ) := by
  refine callL_walk (fn := Tryd.f8) (c := c8_0) (rs := rs8) Tryd.func8 rfl ok8 rfl rfl ?_
  obtain ⟨out, ho⟩ : ∃ out, out = ((Value.bool r), σ) := ⟨_, rfl⟩
  rw [← ho]
  replace h : OptW (G_semvcslaw10_IdentSteps id_2 n_3 m_4 σ) (fun r => ((Value.bool r), σ) = out) := ⟨r, h, ho.symm⟩
  unfold G_semvcslaw10_IdentSteps at h
  refine Fx_seq (a := c8_1) (b := c8_2) rfl ?_
  refine Fx_text rfl (by kernel_rfl) ?_
  refine Ro_v (v := (Value.bool false)) rfl (o_assign rfl rfl) ?_
  refine Ro_nil ?_
  refine Fx_seq (a := c8_3) (b := c8_10) rfl ?_
  refine Fx_seq (a := c8_4) (b := c8_5) rfl ?_
  refine Fx_text rfl (by kernel_rfl) ?_
  refine Ro_v (v := (Value.int .i64 n_3)) rfl (o_move rfl rfl) ?_
  obtain ⟨x5, hx5, h⟩ := h.lt
  refine Ro_v (v := (Value.bool x5)) rfl (o_lss rfl rfl rfl hx5) ?_
  refine Ro_v (v := (Value.bool x5)) rfl (o_move rfl rfl) ?_
  refine Ro_set (t := !x5) (v := bif !x5 then (Value.int .i64 m_4) else undef) rfl (w_F rfl rfl rfl) (by intro e; have e0 := not_t (e); subst e0; exact o_move rfl rfl) (fun e => ⟨gv_f e, rfl⟩) ?_
  obtain ⟨x6, hx6, h⟩ := h.lt
  refine Ro_set (t := !x5) (v := bif !x5 then (Value.bool x6) else undef) rfl (w_F rfl rfl rfl) (by intro e; have e0 := not_t (e); subst e0; exact o_lss rfl rfl rfl hx6) (fun e => ⟨gv_f e, rfl⟩) ?_
  obtain ⟨x7, hx7, h⟩ := h.lt
  refine Ro_v (v := (Value.bool x7)) rfl (o_pick rfl rfl (by intro e; subst e; subst hx7; rfl) (by intro e; subst e; subst hx7; rfl)) ?_
  refine Ro_v (v := (Value.bool x7)) rfl (o_move rfl rfl) ?_
  refine Ro_set (t := !x7) (v := bif !x7 then (Value.int .i64 n_3) else undef) rfl (w_F rfl rfl rfl) (by intro e; have e0 := not_t (e); subst e0; exact o_move rfl rfl) (fun e => ⟨gv_f e, rfl⟩) ?_
  obtain ⟨x8, hx8, h⟩ := h.lt
  refine Ro_set (t := !x7) (v := bif !x7 then (Value.bool x8) else undef) rfl (w_F rfl rfl rfl) (by intro e; have e0 := not_t (e); subst e0; exact o_gtr rfl rfl rfl hx8) (fun e => ⟨gv_f e, rfl⟩) ?_
  obtain ⟨x9, hx9, h⟩ := h.lt
  refine Ro_v (v := (Value.bool x9)) rfl (o_pick rfl rfl (by intro e; subst e; subst hx9; rfl) (by intro e; subst e; subst hx9; rfl)) ?_
  refine Ro_v (v := (Value.bool x9)) rfl (o_move rfl rfl) ?_
  refine Ro_set (t := !x9) (v := bif !x9 then (Value.int .i64 m_4) else undef) rfl (w_F rfl rfl rfl) (by intro e; have e0 := not_t (e); subst e0; exact o_move rfl rfl) (fun e => ⟨gv_f e, rfl⟩) ?_
  obtain ⟨x10, hx10, h⟩ := h.lt
  refine Ro_set (t := !x9) (v := bif !x9 then (Value.bool x10) else undef) rfl (w_F rfl rfl rfl) (by intro e; have e0 := not_t (e); subst e0; exact o_gtr rfl rfl rfl hx10) (fun e => ⟨gv_f e, rfl⟩) ?_
  obtain ⟨x11, hx11, h⟩ := h.lt
  refine Ro_v (v := (Value.bool x11)) rfl (o_pick rfl rfl (by intro e; subst e; subst hx11; rfl) (by intro e; subst e; subst hx11; rfl)) ?_
  refine Ro_nil ?_
  refine Fx_cond (a := c8_6) (b := c8_9) rfl rfl (fun ex11 => ?_) (fun ex11 => ?_)
  · replace h := h.ifT ex11
    refine Fx_seq (a := c8_7) (b := c8_8) rfl ?_
    refine Fx_text rfl (by kernel_rfl) ?_
    obtain ⟨x12, hx12, h⟩ := h.bd
    refine Ro_v (v := (Value.bool x12)) rfl (o_call (vs := []) rfl rfl (w11 _ _ hx12)) ?_
    refine Ro_v (v := (Value.bool x12)) rfl (o_assign rfl rfl) ?_
    refine Ro_nil ?_
    exact Fx_ret rfl rfl (congrArg some h.sm)
  · replace h := h.ifF ex11
    refine Fx_skip (c := c8_9) rfl ?_
    refine Fx_seq (a := c8_11) (b := c8_12) rfl ?_
    refine Fx_text rfl (by kernel_rfl) ?_
    refine Ro_v (v := (Value.int .i64 id_2)) rfl (o_move rfl rfl) ?_
    refine Ro_v (v := (Value.int .i64 n_3)) rfl (o_move rfl rfl) ?_
    obtain ⟨⟨x13, x14⟩, hx13, h⟩ := h.bd
    refine Ro_v (v := (Value.tuple #[(Value.int .i64 x13), (Value.int .i64 x14)])) rfl (o_call (vs := [(Value.int .i64 id_2), (Value.int .i64 n_3)]) rfl rfl (w22 _ _ _ _ hx13)) ?_
    refine Ro_v (v := (Value.tuple #[(Value.int .i64 x13), (Value.int .i64 x14)])) rfl (o_move rfl rfl) ?_
    refine Ro_v (v := (Value.int .i64 x13)) rfl (o_ext rfl rfl rfl) ?_
    refine Ro_v (v := (Value.int .i64 x14)) rfl (o_ext rfl rfl rfl) ?_
    refine Ro_v (v := (Value.int .i64 x13)) rfl (o_assign rfl rfl) ?_
    refine Ro_v (v := (Value.int .i64 x14)) rfl (o_assign rfl rfl) ?_
    refine Ro_nil ?_
    refine Fx_seq (a := c8_13) (b := c8_14) rfl ?_
    refine Fx_text rfl (by kernel_rfl) ?_
    refine Ro_v (v := (Value.int .i64 x13)) rfl (o_move rfl rfl) ?_
    refine Ro_v (v := (Value.int .i64 m_4)) rfl (o_move rfl rfl) ?_
    obtain ⟨⟨x15, x16⟩, hx15, h⟩ := h.bd
    refine Ro_v (v := (Value.tuple #[(Value.int .i64 x15), (Value.int .i64 x16)])) rfl (o_call (vs := [(Value.int .i64 x13), (Value.int .i64 m_4)]) rfl rfl (w22 _ _ _ _ hx15)) ?_
    refine Ro_v (v := (Value.tuple #[(Value.int .i64 x15), (Value.int .i64 x16)])) rfl (o_move rfl rfl) ?_
    refine Ro_v (v := (Value.int .i64 x15)) rfl (o_ext rfl rfl rfl) ?_
    refine Ro_v (v := (Value.int .i64 x16)) rfl (o_ext rfl rfl rfl) ?_
    refine Ro_v (v := (Value.int .i64 x15)) rfl (o_assign rfl rfl) ?_
    refine Ro_v (v := (Value.int .i64 x16)) rfl (o_assign rfl rfl) ?_
    refine Ro_nil ?_
    refine Fx_seq (a := c8_15) (b := c8_16) rfl ?_
    refine Fx_text rfl (by kernel_rfl) ?_
    refine Ro_v (v := (Value.int .i64 id_2)) rfl (o_move rfl rfl) ?_
    refine Ro_v (v := (Value.int .i64 n_3)) rfl (o_move rfl rfl) ?_
    refine Ro_v (v := (Value.int .i64 m_4)) rfl (o_move rfl rfl) ?_
    obtain ⟨x17, hx17, h⟩ := h.lt
    refine Ro_v (v := (Value.int .i64 x17)) rfl (o_add rfl rfl rfl hx17) ?_
    obtain ⟨⟨x18, x19⟩, hx18, h⟩ := h.bd
    refine Ro_v (v := (Value.tuple #[(Value.int .i64 x18), (Value.int .i64 x19)])) rfl (o_call (vs := [(Value.int .i64 id_2), (Value.int .i64 x17)]) rfl rfl (w22 _ _ _ _ hx18)) ?_
    refine Ro_v (v := (Value.tuple #[(Value.int .i64 x18), (Value.int .i64 x19)])) rfl (o_move rfl rfl) ?_
    refine Ro_v (v := (Value.int .i64 x18)) rfl (o_ext rfl rfl rfl) ?_
    refine Ro_v (v := (Value.int .i64 x19)) rfl (o_ext rfl rfl rfl) ?_
    refine Ro_v (v := (Value.int .i64 x18)) rfl (o_assign rfl rfl) ?_
    refine Ro_v (v := (Value.int .i64 x19)) rfl (o_assign rfl rfl) ?_
    refine Ro_nil ?_
    refine Fx_seq (a := c8_17) (b := c8_24) rfl ?_
    refine Fx_seq (a := c8_18) (b := c8_19) rfl ?_
    refine Fx_text rfl (by kernel_rfl) ?_
    refine Ro_v (v := (Value.int .i64 x14)) rfl (o_move rfl rfl) ?_
    obtain ⟨x20, hx20, h⟩ := h.lt
    refine Ro_v (v := (Value.bool x20)) rfl (o_neq rfl rfl rfl hx20) ?_
    refine Ro_nil ?_
    refine Fx_cond (a := c8_20) (b := c8_23) rfl rfl (fun ex20 => ?_) (fun ex20 => ?_)
    · replace h := h.ifT ex20
      refine Fx_seq (a := c8_21) (b := c8_22) rfl ?_
      refine Fx_text rfl (by kernel_rfl) ?_
      obtain ⟨x21, hx21, h⟩ := h.bd
      refine Ro_v (v := (Value.bool x21)) rfl (o_call (vs := []) rfl rfl (w11 _ _ hx21)) ?_
      refine Ro_v (v := (Value.bool x21)) rfl (o_assign rfl rfl) ?_
      refine Ro_nil ?_
      exact Fx_ret rfl rfl (congrArg some h.sm)
    · replace h := h.ifF ex20
      refine Fx_skip (c := c8_23) rfl ?_
      refine Fx_seq (a := c8_25) (b := c8_26) rfl ?_
      refine Fx_text rfl (by kernel_rfl) ?_
      obtain ⟨x22, hx22, h⟩ := h.bd
      refine Ro_v (v := (Value.bool x22)) rfl (o_call (vs := []) rfl rfl (w11 _ _ hx22)) ?_
      refine Ro_v (v := (Value.bool x22)) rfl (o_move rfl rfl) ?_
      refine Ro_set (t := x22) (v := bif x22 then (Value.int .i64 x16) else undef) rfl (w_T rfl rfl rfl) (by intro e; have e0 := e; subst e0; exact o_move rfl rfl) (fun e => ⟨gv_f e, rfl⟩) ?_
      refine Ro_set (t := x22) (v := bif x22 then (Value.int .i64 x19) else undef) rfl (w_T rfl rfl rfl) (by intro e; have e0 := e; subst e0; exact o_move rfl rfl) (fun e => ⟨gv_f e, rfl⟩) ?_
      obtain ⟨x23, hx23, h⟩ := h.lt
      refine Ro_set (t := x22) (v := bif x22 then (Value.bool x23) else undef) rfl (w_T rfl rfl rfl) (by intro e; have e0 := e; subst e0; exact o_eql rfl rfl rfl hx23) (fun e => ⟨gv_f e, rfl⟩) ?_
      obtain ⟨x24, hx24, h⟩ := h.lt
      refine Ro_v (v := (Value.bool x24)) rfl (o_pick rfl rfl (by intro e; subst e; subst hx24; rfl) (by intro e; subst e; subst hx24; rfl)) ?_
      refine Ro_v (v := (Value.bool x24)) rfl (o_move rfl rfl) ?_
      refine Ro_set (t := x24) (v := bif x24 then (Value.int .i64 x15) else undef) rfl (w_T rfl rfl rfl) (by intro e; have e0 := e; subst e0; exact o_move rfl rfl) (fun e => ⟨gv_f e, rfl⟩) ?_
      refine Ro_set (t := x24) (v := bif x24 then (Value.int .i64 x18) else undef) rfl (w_T rfl rfl rfl) (by intro e; have e0 := e; subst e0; exact o_move rfl rfl) (fun e => ⟨gv_f e, rfl⟩) ?_
      obtain ⟨x25, hx25, h⟩ := h.lt
      refine Ro_set (t := x24) (v := bif x24 then (Value.bool x25) else undef) rfl (w_T rfl rfl rfl) (by intro e; have e0 := e; subst e0; exact o_eql rfl rfl rfl hx25) (fun e => ⟨gv_f e, rfl⟩) ?_
      obtain ⟨x26, hx26, h⟩ := h.lt
      refine Ro_v (v := (Value.bool x26)) rfl (o_pick rfl rfl (by intro e; subst e; subst hx26; rfl) (by intro e; subst e; subst hx26; rfl)) ?_
      refine Ro_v (v := (Value.bool x26)) rfl (o_move rfl rfl) ?_
      refine Ro_set (t := x26) (v := bif x26 then (Value.int .i64 x16) else undef) rfl (w_T rfl rfl rfl) (by intro e; have e0 := e; subst e0; exact o_move rfl rfl) (fun e => ⟨gv_f e, rfl⟩) ?_
      obtain ⟨x27, hx27, h⟩ := h.lt
      refine Ro_set (t := x26) (v := bif x26 then (Value.bool x27) else undef) rfl (w_T rfl rfl rfl) (by intro e; have e0 := e; subst e0; exact o_neq rfl rfl rfl hx27) (fun e => ⟨gv_f e, rfl⟩) ?_
      refine Ro_set (t := x26) (v := bif x26 then (Value.bool x27) else undef) rfl (w_T rfl rfl rfl) (by intro e; have e0 := e; subst e0; exact o_move rfl rfl) (fun e => ⟨gv_f e, rfl⟩) ?_
      refine Ro_set (t := (x26 && !x27)) (v := bif (x26 && !x27) then (Value.int .i64 x15) else undef) rfl (w_gF rfl rfl rfl) (by intro e; have e1 := not_t (and_t e).2; have e0 := (and_t e).1; subst e1; subst e0; exact o_move rfl rfl) (fun e => ⟨gv_f e, rfl⟩) ?_
      obtain ⟨x28, hx28, h⟩ := h.bd
      refine Ro_set (t := (x26 && !x27)) (v := bif (x26 && !x27) then (Value.int .i64 x28) else undef) rfl (w_gF rfl rfl rfl) (by intro e; have e1 := not_t (and_t e).2; have e0 := (and_t e).1; subst e1; subst e0; exact o_call (vs := [(Value.int .i64 x15)]) rfl rfl (w16 _ _ _ hx28)) (fun e => ⟨gv_f e, rfl⟩) ?_
      refine Ro_set (t := (x26 && !x27)) (v := bif (x26 && !x27) then (Value.int .i64 x13) else undef) rfl (w_gF rfl rfl rfl) (by intro e; have e1 := not_t (and_t e).2; have e0 := (and_t e).1; subst e1; subst e0; exact o_move rfl rfl) (fun e => ⟨gv_f e, rfl⟩) ?_
      obtain ⟨x29, hx29, h⟩ := h.bd
      refine Ro_set (t := (x26 && !x27)) (v := bif (x26 && !x27) then (Value.int .i64 x29) else undef) rfl (w_gF rfl rfl rfl) (by intro e; have e1 := not_t (and_t e).2; have e0 := (and_t e).1; subst e1; subst e0; exact o_call (vs := [(Value.int .i64 x13)]) rfl rfl (w16 _ _ _ hx29)) (fun e => ⟨gv_f e, rfl⟩) ?_
      refine Ro_set (t := (x26 && !x27)) (v := bif (x26 && !x27) then (Value.int .i64 m_4) else undef) rfl (w_gF rfl rfl rfl) (by intro e; have e1 := not_t (and_t e).2; have e0 := (and_t e).1; subst e1; subst e0; exact o_move rfl rfl) (fun e => ⟨gv_f e, rfl⟩) ?_
      obtain ⟨x30, hx30, h⟩ := h.lt
      refine Ro_set (t := (x26 && !x27)) (v := bif (x26 && !x27) then (Value.int .i64 x30) else undef) rfl (w_gF rfl rfl rfl) (by intro e; have e1 := not_t (and_t e).2; have e0 := (and_t e).1; subst e1; subst e0; exact o_add rfl rfl rfl hx30) (fun e => ⟨gv_f e, rfl⟩) ?_
      obtain ⟨x31, hx31, h⟩ := h.lt
      refine Ro_set (t := (x26 && !x27)) (v := bif (x26 && !x27) then (Value.bool x31) else undef) rfl (w_gF rfl rfl rfl) (by intro e; have e1 := not_t (and_t e).2; have e0 := (and_t e).1; subst e1; subst e0; exact o_eql rfl rfl rfl hx31) (fun e => ⟨gv_f e, rfl⟩) ?_
      obtain ⟨x32, hx32, h⟩ := h.lt
      refine Ro_set (t := x26) (v := bif x26 then (Value.bool x32) else undef) rfl (w_T rfl rfl rfl) (by intro e; have e0 := e; subst e0; exact o_pick rfl rfl (by intro e; subst e; subst hx32; rfl) (by intro e; subst e; subst hx32; rfl)) (fun e => ⟨gv_f e, rfl⟩) ?_
      obtain ⟨x33, hx33, h⟩ := h.lt
      refine Ro_v (v := (Value.bool x33)) rfl (o_pick rfl rfl (by intro e; subst e; subst hx33; rfl) (by intro e; subst e; subst hx33; rfl)) ?_
      refine Ro_v (v := (Value.bool x33)) rfl (o_assign rfl rfl) ?_
      refine Ro_nil ?_
      exact Fx_ret rfl rfl (congrArg some h.sm)
end Go.Am
