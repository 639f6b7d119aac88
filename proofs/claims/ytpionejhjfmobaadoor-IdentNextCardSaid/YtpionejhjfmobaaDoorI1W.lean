/- I1W -/
import Derived.Test.YtpionejhjfmobaaDoorI1G
import Derived.Test.YtpionejhjfmobaaDoorProg
set_option linter.unusedVariables false
namespace Go.Am
open Go.Proofs
theorem tu9 : Tryd.prog.underlying 9 = some .string := by kernel_rfl
theorem tu5 : Tryd.prog.underlying 5 = some (.int .u8) := by kernel_rfl
theorem tu48 : Tryd.prog.underlying 48 = some (.int .u32) := by kernel_rfl
theorem tu3 : Tryd.prog.underlying 3 = some (.int .i64) := by kernel_rfl
theorem tu43 : Tryd.prog.underlying 43 = some (.int .u64) := by kernel_rfl
theorem tu38 : Tryd.prog.underlying 38 = some (.slice 5) := by kernel_rfl
theorem ts5 : szOf Tryd.prog 5 = some 1 := by kernel_rfl
theorem tz53 : zeroOf Tryd.prog 53 = some (Value.agg #[(Value.int .u8 0), (Value.int .u8 0), (Value.int .u8 0), (Value.int .u8 0), (Value.int .u8 0), (Value.int .u8 0), (Value.int .u8 0), (Value.int .u8 0), (Value.int .u8 0), (Value.int .u8 0), (Value.int .u8 0), (Value.int .u8 0), (Value.int .u8 0), (Value.int .u8 0), (Value.int .u8 0), (Value.int .u8 0), (Value.int .u8 0), (Value.int .u8 0), (Value.int .u8 0), (Value.int .u8 0), (Value.int .u8 0), (Value.int .u8 0), (Value.int .u8 0), (Value.int .u8 0), (Value.int .u8 0), (Value.int .u8 0), (Value.int .u8 0), (Value.int .u8 0), (Value.int .u8 0), (Value.int .u8 0), (Value.int .u8 0), (Value.int .u8 0), (Value.int .u8 0), (Value.int .u8 0), (Value.int .u8 0), (Value.int .u8 0), (Value.int .u8 0), (Value.int .u8 0), (Value.int .u8 0), (Value.int .u8 0), (Value.int .u8 0), (Value.int .u8 0), (Value.int .u8 0), (Value.int .u8 0), (Value.int .u8 0), (Value.int .u8 0), (Value.int .u8 0), (Value.int .u8 0), (Value.int .u8 0), (Value.int .u8 0), (Value.int .u8 0), (Value.int .u8 0), (Value.int .u8 0), (Value.int .u8 0), (Value.int .u8 0), (Value.int .u8 0), (Value.int .u8 0), (Value.int .u8 0), (Value.int .u8 0), (Value.int .u8 0), (Value.int .u8 0), (Value.int .u8 0), (Value.int .u8 0), (Value.int .u8 0), (Value.int .u8 0)]) := by kernel_rfl
theorem tu33 : Tryd.prog.underlying 33 = some (.int .u64) := by kernel_rfl
theorem tz42 : zeroOf Tryd.prog 42 = some (Value.agg #[(Value.int .u8 0), (Value.int .u8 0), (Value.int .u8 0), (Value.int .u8 0), (Value.int .u8 0), (Value.int .u8 0), (Value.int .u8 0), (Value.int .u8 0), (Value.int .u8 0), (Value.int .u8 0), (Value.int .u8 0), (Value.int .u8 0), (Value.int .u8 0), (Value.int .u8 0), (Value.int .u8 0), (Value.int .u8 0), (Value.int .u8 0), (Value.int .u8 0), (Value.int .u8 0), (Value.int .u8 0), (Value.int .u8 0), (Value.int .u8 0), (Value.int .u8 0), (Value.int .u8 0)]) := by kernel_rfl
theorem tu2 : Tryd.prog.underlying 2 = some (.int .i64) := by kernel_rfl
theorem tu4 : Tryd.prog.underlying 4 = some .bool := by kernel_rfl
theorem tz5 : zeroOf Tryd.prog 5 = some (Value.int .u8 0) := by kernel_rfl
noncomputable def c9_0 : Code := bodyOf Tryd.f9
noncomputable def c9_1 : Code := cl c9_0
noncomputable def c9_2 : Code := cr c9_0
noncomputable def c9_3 : Code := cl c9_2
noncomputable def c9_4 : Code := cl c9_3
noncomputable def c9_5 : Code := cr c9_3
noncomputable def c9_6 : Code := cl c9_5
noncomputable def c9_7 : Code := cl c9_6
noncomputable def c9_8 : Code := cr c9_6
noncomputable def c9_9 : Code := cr c9_5
noncomputable def c9_10 : Code := cr c9_2
noncomputable def c9_11 : Code := cl c9_10
noncomputable def c9_12 : Code := cr c9_10
theorem ok9 : funcOk Tryd.f9 = true := by kernel_rfl
noncomputable def rs9 : List ResultVar := resultsOf Tryd.f9
theorem w9 (site_3 : Int) (n_4 : Int) (σ : AHeap) (r : (Int × Int)) (h : G_ident_Make site_3 n_4 = some r) : callL Tryd.prog 9 [(Value.int .i64 site_3), (Value.int .i64 n_4)] σ = some ((Value.tuple #[(Value.int .i64 r.1), (Value.int .i64 r.2)]), σ) := by
  refine callL_walk (fn := Tryd.f9) (c := c9_0) (rs := rs9) Tryd.func9 rfl ok9 rfl rfl ?_
  obtain ⟨out, ho⟩ : ∃ out, out = ((Value.tuple #[(Value.int .i64 r.1), (Value.int .i64 r.2)]), σ) := ⟨_, rfl⟩
  rw [← ho]
  replace h : OptW (G_ident_Make site_3 n_4) (fun r => ((Value.tuple #[(Value.int .i64 r.1), (Value.int .i64 r.2)]), σ) = out) := ⟨r, h, ho.symm⟩
  unfold G_ident_Make at h
  refine Fx_seq (a := c9_1) (b := c9_2) rfl ?_
  refine Fx_text rfl (by kernel_rfl) ?_
  refine Ro_v (v := (Value.int .i64 (0))) rfl (o_assign rfl rfl) ?_
  refine Ro_v (v := (Value.int .i64 (0))) rfl (o_assign rfl rfl) ?_
  refine Ro_nil ?_
  refine Fx_seq (a := c9_3) (b := c9_10) rfl ?_
  refine Fx_seq (a := c9_4) (b := c9_5) rfl ?_
  refine Fx_text rfl (by kernel_rfl) ?_
  refine Ro_v (v := (Value.int .i64 site_3)) rfl (o_move rfl rfl) ?_
  obtain ⟨x5, hx5, h⟩ := h.lt
  refine Ro_v (v := (Value.bool x5)) rfl (o_lss rfl rfl rfl hx5) ?_
  refine Ro_v (v := (Value.bool x5)) rfl (o_move rfl rfl) ?_
  refine Ro_set (t := !x5) (v := bif !x5 then (Value.int .i64 site_3) else undef) rfl (w_F rfl rfl rfl) (by intro e; have e0 := not_t (e); subst e0; exact o_move rfl rfl) (fun e => ⟨gv_f e, rfl⟩) ?_
  obtain ⟨x6, hx6, h⟩ := h.lt
  refine Ro_set (t := !x5) (v := bif !x5 then (Value.bool x6) else undef) rfl (w_F rfl rfl rfl) (by intro e; have e0 := not_t (e); subst e0; exact o_gtr rfl rfl rfl hx6) (fun e => ⟨gv_f e, rfl⟩) ?_
  obtain ⟨x7, hx7, h⟩ := h.lt
  refine Ro_v (v := (Value.bool x7)) rfl (o_pick rfl rfl (by intro e; subst e; subst hx7; rfl) (by intro e; subst e; subst hx7; rfl)) ?_
  refine Ro_v (v := (Value.bool x7)) rfl (o_move rfl rfl) ?_
  refine Ro_set (t := !x7) (v := bif !x7 then (Value.int .i64 n_4) else undef) rfl (w_F rfl rfl rfl) (by intro e; have e0 := not_t (e); subst e0; exact o_move rfl rfl) (fun e => ⟨gv_f e, rfl⟩) ?_
  obtain ⟨x8, hx8, h⟩ := h.lt
  refine Ro_set (t := !x7) (v := bif !x7 then (Value.bool x8) else undef) rfl (w_F rfl rfl rfl) (by intro e; have e0 := not_t (e); subst e0; exact o_lss rfl rfl rfl hx8) (fun e => ⟨gv_f e, rfl⟩) ?_
  obtain ⟨x9, hx9, h⟩ := h.lt
  refine Ro_v (v := (Value.bool x9)) rfl (o_pick rfl rfl (by intro e; subst e; subst hx9; rfl) (by intro e; subst e; subst hx9; rfl)) ?_
  refine Ro_v (v := (Value.bool x9)) rfl (o_move rfl rfl) ?_
  refine Ro_set (t := !x9) (v := bif !x9 then (Value.int .i64 n_4) else undef) rfl (w_F rfl rfl rfl) (by intro e; have e0 := not_t (e); subst e0; exact o_move rfl rfl) (fun e => ⟨gv_f e, rfl⟩) ?_
  obtain ⟨x10, hx10, h⟩ := h.lt
  refine Ro_set (t := !x9) (v := bif !x9 then (Value.bool x10) else undef) rfl (w_F rfl rfl rfl) (by intro e; have e0 := not_t (e); subst e0; exact o_gtr rfl rfl rfl hx10) (fun e => ⟨gv_f e, rfl⟩) ?_
  obtain ⟨x11, hx11, h⟩ := h.lt
  refine Ro_v (v := (Value.bool x11)) rfl (o_pick rfl rfl (by intro e; subst e; subst hx11; rfl) (by intro e; subst e; subst hx11; rfl)) ?_
  refine Ro_nil ?_
  refine Fx_cond (a := c9_6) (b := c9_9) rfl rfl (fun ex11 => ?_) (fun ex11 => ?_)
  · replace h := h.ifT ex11
    refine Fx_seq (a := c9_7) (b := c9_8) rfl ?_
    refine Fx_text rfl (by kernel_rfl) ?_
    refine Ro_v (v := (Value.int .i64 (0))) rfl (o_assign rfl rfl) ?_
    refine Ro_v (v := (Value.int .i64 (5))) rfl (o_assign rfl rfl) ?_
    refine Ro_nil ?_
    exact Fx_ret rfl rfl (congrArg some h.sm)
  · replace h := h.ifF ex11
    refine Fx_skip (c := c9_9) rfl ?_
    refine Fx_seq (a := c9_11) (b := c9_12) rfl ?_
    refine Fx_text rfl (by kernel_rfl) ?_
    refine Ro_v (v := (Value.int .i64 site_3)) rfl (o_move rfl rfl) ?_
    obtain ⟨x12, hx12, h⟩ := h.bd
    refine Ro_v (v := (Value.int .i64 x12)) rfl (o_shl rfl rfl rfl hx12) ?_
    refine Ro_v (v := (Value.int .i64 n_4)) rfl (o_move rfl rfl) ?_
    obtain ⟨x13, hx13, h⟩ := h.lt
    refine Ro_v (v := (Value.int .i64 x13)) rfl (o_add rfl rfl rfl hx13) ?_
    refine Ro_v (v := (Value.int .i64 x13)) rfl (o_assign rfl rfl) ?_
    refine Ro_v (v := (Value.int .i64 (0))) rfl (o_assign rfl rfl) ?_
    refine Ro_nil ?_
    exact Fx_ret rfl rfl (congrArg some h.sm)
noncomputable def c10_0 : Code := bodyOf Tryd.f10
noncomputable def c10_1 : Code := cl c10_0
noncomputable def c10_2 : Code := cr c10_0
noncomputable def c10_3 : Code := cl c10_2
noncomputable def c10_4 : Code := cl c10_3
noncomputable def c10_5 : Code := cr c10_3
noncomputable def c10_6 : Code := cl c10_5
noncomputable def c10_7 : Code := cl c10_6
noncomputable def c10_8 : Code := cr c10_6
noncomputable def c10_9 : Code := cr c10_5
noncomputable def c10_10 : Code := cr c10_2
noncomputable def c10_11 : Code := cl c10_10
noncomputable def c10_12 : Code := cr c10_10
theorem ok10 : funcOk Tryd.f10 = true := by kernel_rfl
noncomputable def rs10 : List ResultVar := resultsOf Tryd.f10
theorem w10 (site_3 : Int) (n_4 : Int) (σ : AHeap) (r : (Int × Int)) (h : G_semvcsref10_Make site_3 n_4 = some r) : callL Tryd.prog 10 [(Value.int .i64 site_3), (Value.int .i64 n_4)] σ = some ((Value.tuple #[(Value.int .i64 r.1), (Value.int .i64 r.2)]), σ) := by
  refine callL_walk (fn := Tryd.f10) (c := c10_0) (rs := rs10) Tryd.func10 rfl ok10 rfl rfl ?_
  obtain ⟨out, ho⟩ : ∃ out, out = ((Value.tuple #[(Value.int .i64 r.1), (Value.int .i64 r.2)]), σ) := ⟨_, rfl⟩
  rw [← ho]
  replace h : OptW (G_semvcsref10_Make site_3 n_4) (fun r => ((Value.tuple #[(Value.int .i64 r.1), (Value.int .i64 r.2)]), σ) = out) := ⟨r, h, ho.symm⟩
  unfold G_semvcsref10_Make at h
  refine Fx_seq (a := c10_1) (b := c10_2) rfl ?_
  refine Fx_text rfl (by kernel_rfl) ?_
  refine Ro_v (v := (Value.int .i64 (0))) rfl (o_assign rfl rfl) ?_
  refine Ro_v (v := (Value.int .i64 (0))) rfl (o_assign rfl rfl) ?_
  refine Ro_nil ?_
  refine Fx_seq (a := c10_3) (b := c10_10) rfl ?_
  refine Fx_seq (a := c10_4) (b := c10_5) rfl ?_
  refine Fx_text rfl (by kernel_rfl) ?_
  refine Ro_v (v := (Value.int .i64 site_3)) rfl (o_move rfl rfl) ?_
  obtain ⟨x5, hx5, h⟩ := h.lt
  refine Ro_v (v := (Value.bool x5)) rfl (o_lss rfl rfl rfl hx5) ?_
  refine Ro_v (v := (Value.bool x5)) rfl (o_move rfl rfl) ?_
  refine Ro_set (t := !x5) (v := bif !x5 then (Value.int .i64 site_3) else undef) rfl (w_F rfl rfl rfl) (by intro e; have e0 := not_t (e); subst e0; exact o_move rfl rfl) (fun e => ⟨gv_f e, rfl⟩) ?_
  obtain ⟨x6, hx6, h⟩ := h.lt
  refine Ro_set (t := !x5) (v := bif !x5 then (Value.bool x6) else undef) rfl (w_F rfl rfl rfl) (by intro e; have e0 := not_t (e); subst e0; exact o_gtr rfl rfl rfl hx6) (fun e => ⟨gv_f e, rfl⟩) ?_
  obtain ⟨x7, hx7, h⟩ := h.lt
  refine Ro_v (v := (Value.bool x7)) rfl (o_pick rfl rfl (by intro e; subst e; subst hx7; rfl) (by intro e; subst e; subst hx7; rfl)) ?_
  refine Ro_v (v := (Value.bool x7)) rfl (o_move rfl rfl) ?_
  refine Ro_set (t := !x7) (v := bif !x7 then (Value.int .i64 n_4) else undef) rfl (w_F rfl rfl rfl) (by intro e; have e0 := not_t (e); subst e0; exact o_move rfl rfl) (fun e => ⟨gv_f e, rfl⟩) ?_
  obtain ⟨x8, hx8, h⟩ := h.lt
  refine Ro_set (t := !x7) (v := bif !x7 then (Value.bool x8) else undef) rfl (w_F rfl rfl rfl) (by intro e; have e0 := not_t (e); subst e0; exact o_lss rfl rfl rfl hx8) (fun e => ⟨gv_f e, rfl⟩) ?_
  obtain ⟨x9, hx9, h⟩ := h.lt
  refine Ro_v (v := (Value.bool x9)) rfl (o_pick rfl rfl (by intro e; subst e; subst hx9; rfl) (by intro e; subst e; subst hx9; rfl)) ?_
  refine Ro_v (v := (Value.bool x9)) rfl (o_move rfl rfl) ?_
  refine Ro_set (t := !x9) (v := bif !x9 then (Value.int .i64 n_4) else undef) rfl (w_F rfl rfl rfl) (by intro e; have e0 := not_t (e); subst e0; exact o_move rfl rfl) (fun e => ⟨gv_f e, rfl⟩) ?_
  obtain ⟨x10, hx10, h⟩ := h.lt
  refine Ro_set (t := !x9) (v := bif !x9 then (Value.bool x10) else undef) rfl (w_F rfl rfl rfl) (by intro e; have e0 := not_t (e); subst e0; exact o_gtr rfl rfl rfl hx10) (fun e => ⟨gv_f e, rfl⟩) ?_
  obtain ⟨x11, hx11, h⟩ := h.lt
  refine Ro_v (v := (Value.bool x11)) rfl (o_pick rfl rfl (by intro e; subst e; subst hx11; rfl) (by intro e; subst e; subst hx11; rfl)) ?_
  refine Ro_nil ?_
  refine Fx_cond (a := c10_6) (b := c10_9) rfl rfl (fun ex11 => ?_) (fun ex11 => ?_)
  · replace h := h.ifT ex11
    refine Fx_seq (a := c10_7) (b := c10_8) rfl ?_
    refine Fx_text rfl (by kernel_rfl) ?_
    refine Ro_v (v := (Value.int .i64 (0))) rfl (o_assign rfl rfl) ?_
    refine Ro_v (v := (Value.int .i64 (5))) rfl (o_assign rfl rfl) ?_
    refine Ro_nil ?_
    exact Fx_ret rfl rfl (congrArg some h.sm)
  · replace h := h.ifF ex11
    refine Fx_skip (c := c10_9) rfl ?_
    refine Fx_seq (a := c10_11) (b := c10_12) rfl ?_
    refine Fx_text rfl (by kernel_rfl) ?_
    refine Ro_v (v := (Value.int .i64 site_3)) rfl (o_move rfl rfl) ?_
    obtain ⟨x12, hx12, h⟩ := h.lt
    refine Ro_v (v := (Value.int .i64 x12)) rfl (o_mul rfl rfl rfl hx12) ?_
    refine Ro_v (v := (Value.int .i64 n_4)) rfl (o_move rfl rfl) ?_
    obtain ⟨x13, hx13, h⟩ := h.lt
    refine Ro_v (v := (Value.int .i64 x13)) rfl (o_add rfl rfl rfl hx13) ?_
    refine Ro_v (v := (Value.int .i64 x13)) rfl (o_assign rfl rfl) ?_
    refine Ro_v (v := (Value.int .i64 (0))) rfl (o_assign rfl rfl) ?_
    refine Ro_nil ?_
    exact Fx_ret rfl rfl (congrArg some h.sm)
noncomputable def c24_0 : Code := bodyOf Tryd.f24
noncomputable def c24_1 : Code := cl c24_0
noncomputable def c24_2 : Code := cr c24_0
noncomputable def c24_3 : Code := cl c24_2
noncomputable def c24_4 : Code := cr c24_2
theorem ok24 : funcOk Tryd.f24 = true := by kernel_rfl
noncomputable def rs24 : List ResultVar := resultsOf Tryd.f24
theorem w24 (id_2 : Int) (σ : AHeap) (r : Bool) (h : G_ident_begun id_2 = some r) : callL Tryd.prog 24 [(Value.int .i64 id_2)] σ = some ((Value.bool r), σ) := by
  refine callL_walk (fn := Tryd.f24) (c := c24_0) (rs := rs24) Tryd.func24 rfl ok24 rfl rfl ?_
  obtain ⟨out, ho⟩ : ∃ out, out = ((Value.bool r), σ) := ⟨_, rfl⟩
  rw [← ho]
  replace h : OptW (G_ident_begun id_2) (fun r => ((Value.bool r), σ) = out) := ⟨r, h, ho.symm⟩
  unfold G_ident_begun at h
  refine Fx_seq (a := c24_1) (b := c24_2) rfl ?_
  refine Fx_text rfl (by kernel_rfl) ?_
  refine Ro_v (v := (Value.bool false)) rfl (o_assign rfl rfl) ?_
  refine Ro_nil ?_
  refine Fx_seq (a := c24_3) (b := c24_4) rfl ?_
  refine Fx_text rfl (by kernel_rfl) ?_
  refine Ro_v (v := (Value.int .i64 id_2)) rfl (o_move rfl rfl) ?_
  obtain ⟨x3, hx3, h⟩ := h.bd
  refine Ro_v (v := (Value.int .i64 x3)) rfl (o_shr rfl rfl rfl hx3) ?_
  obtain ⟨x4, hx4, h⟩ := h.lt
  refine Ro_v (v := (Value.bool x4)) rfl (o_geq rfl rfl rfl hx4) ?_
  refine Ro_v (v := (Value.bool x4)) rfl (o_move rfl rfl) ?_
  refine Ro_set (t := x4) (v := bif x4 then (Value.int .i64 id_2) else undef) rfl (w_T rfl rfl rfl) (by intro e; have e0 := e; subst e0; exact o_move rfl rfl) (fun e => ⟨gv_f e, rfl⟩) ?_
  obtain ⟨x5, hx5, h⟩ := h.bd
  refine Ro_set (t := x4) (v := bif x4 then (Value.int .i64 x5) else undef) rfl (w_T rfl rfl rfl) (by intro e; have e0 := e; subst e0; exact o_shr rfl rfl rfl hx5) (fun e => ⟨gv_f e, rfl⟩) ?_
  obtain ⟨x6, hx6, h⟩ := h.lt
  refine Ro_set (t := x4) (v := bif x4 then (Value.bool x6) else undef) rfl (w_T rfl rfl rfl) (by intro e; have e0 := e; subst e0; exact o_leq rfl rfl rfl hx6) (fun e => ⟨gv_f e, rfl⟩) ?_
  obtain ⟨x7, hx7, h⟩ := h.lt
  refine Ro_v (v := (Value.bool x7)) rfl (o_pick rfl rfl (by intro e; subst e; subst hx7; rfl) (by intro e; subst e; subst hx7; rfl)) ?_
  refine Ro_v (v := (Value.bool x7)) rfl (o_assign rfl rfl) ?_
  refine Ro_nil ?_
  exact Fx_ret rfl rfl (congrArg some h.sm)
noncomputable def c12_0 : Code := bodyOf Tryd.f12
noncomputable def c12_1 : Code := cl c12_0
noncomputable def c12_2 : Code := cr c12_0
noncomputable def c12_3 : Code := cl c12_2
noncomputable def c12_4 : Code := cr c12_2
theorem ok12 : funcOk Tryd.f12 = true := by kernel_rfl
noncomputable def rs12 : List ResultVar := resultsOf Tryd.f12
theorem w12 (id_2 : Int) (σ : AHeap) (r : Bool) (h : G_ident_Valid id_2 = some r) : callL Tryd.prog 12 [(Value.int .i64 id_2)] σ = some ((Value.bool r), σ) := by
  refine callL_walk (fn := Tryd.f12) (c := c12_0) (rs := rs12) Tryd.func12 rfl ok12 rfl rfl ?_
  obtain ⟨out, ho⟩ : ∃ out, out = ((Value.bool r), σ) := ⟨_, rfl⟩
  rw [← ho]
  replace h : OptW (G_ident_Valid id_2) (fun r => ((Value.bool r), σ) = out) := ⟨r, h, ho.symm⟩
  unfold G_ident_Valid at h
  refine Fx_seq (a := c12_1) (b := c12_2) rfl ?_
  refine Fx_text rfl (by kernel_rfl) ?_
  refine Ro_v (v := (Value.bool false)) rfl (o_assign rfl rfl) ?_
  refine Ro_nil ?_
  refine Fx_seq (a := c12_3) (b := c12_4) rfl ?_
  refine Fx_text rfl (by kernel_rfl) ?_
  refine Ro_v (v := (Value.int .i64 id_2)) rfl (o_move rfl rfl) ?_
  obtain ⟨x3, hx3, h⟩ := h.bd
  refine Ro_v (v := (Value.bool x3)) rfl (o_call (vs := [(Value.int .i64 id_2)]) rfl rfl (w24 _ _ _ hx3)) ?_
  refine Ro_v (v := (Value.bool x3)) rfl (o_move rfl rfl) ?_
  refine Ro_set (t := x3) (v := bif x3 then (Value.int .i64 id_2) else undef) rfl (w_T rfl rfl rfl) (by intro e; have e0 := e; subst e0; exact o_move rfl rfl) (fun e => ⟨gv_f e, rfl⟩) ?_
  obtain ⟨x4, hx4, h⟩ := h.lt
  refine Ro_set (t := x3) (v := bif x3 then (Value.int .i64 x4) else undef) rfl (w_T rfl rfl rfl) (by intro e; have e0 := e; subst e0; exact o_and rfl rfl rfl hx4) (fun e => ⟨gv_f e, rfl⟩) ?_
  obtain ⟨x5, hx5, h⟩ := h.lt
  refine Ro_set (t := x3) (v := bif x3 then (Value.bool x5) else undef) rfl (w_T rfl rfl rfl) (by intro e; have e0 := e; subst e0; exact o_neq rfl rfl rfl hx5) (fun e => ⟨gv_f e, rfl⟩) ?_
  obtain ⟨x6, hx6, h⟩ := h.lt
  refine Ro_v (v := (Value.bool x6)) rfl (o_pick rfl rfl (by intro e; subst e; subst hx6; rfl) (by intro e; subst e; subst hx6; rfl)) ?_
  refine Ro_v (v := (Value.bool x6)) rfl (o_assign rfl rfl) ?_
  refine Ro_nil ?_
  exact Fx_ret rfl rfl (congrArg some h.sm)
noncomputable def c14_0 : Code := bodyOf Tryd.f14
noncomputable def c14_1 : Code := cl c14_0
noncomputable def c14_2 : Code := cr c14_0
noncomputable def c14_3 : Code := cl c14_2
noncomputable def c14_4 : Code := cl c14_3
noncomputable def c14_5 : Code := cr c14_3
noncomputable def c14_6 : Code := cl c14_5
noncomputable def c14_7 : Code := cl c14_6
noncomputable def c14_8 : Code := cr c14_6
noncomputable def c14_9 : Code := cr c14_5
noncomputable def c14_10 : Code := cr c14_2
noncomputable def c14_11 : Code := cl c14_10
noncomputable def c14_12 : Code := cr c14_10
theorem ok14 : funcOk Tryd.f14 = true := by kernel_rfl
noncomputable def rs14 : List ResultVar := resultsOf Tryd.f14
theorem w14 (id_2 : Int) (σ : AHeap) (r : Int) (h : G_ident_Site id_2 = some r) : callL Tryd.prog 14 [(Value.int .i64 id_2)] σ = some ((Value.int .i64 r), σ) := by
  refine callL_walk (fn := Tryd.f14) (c := c14_0) (rs := rs14) Tryd.func14 rfl ok14 rfl rfl ?_
  obtain ⟨out, ho⟩ : ∃ out, out = ((Value.int .i64 r), σ) := ⟨_, rfl⟩
  rw [← ho]
  replace h : OptW (G_ident_Site id_2) (fun r => ((Value.int .i64 r), σ) = out) := ⟨r, h, ho.symm⟩
  unfold G_ident_Site at h
  refine Fx_seq (a := c14_1) (b := c14_2) rfl ?_
  refine Fx_text rfl (by kernel_rfl) ?_
  refine Ro_v (v := (Value.int .i64 (0))) rfl (o_assign rfl rfl) ?_
  refine Ro_nil ?_
  refine Fx_seq (a := c14_3) (b := c14_10) rfl ?_
  refine Fx_seq (a := c14_4) (b := c14_5) rfl ?_
  refine Fx_text rfl (by kernel_rfl) ?_
  refine Ro_v (v := (Value.int .i64 id_2)) rfl (o_move rfl rfl) ?_
  obtain ⟨x3, hx3, h⟩ := h.bd
  refine Ro_v (v := (Value.bool x3)) rfl (o_call (vs := [(Value.int .i64 id_2)]) rfl rfl (w12 _ _ _ hx3)) ?_
  obtain ⟨x4, hx4, h⟩ := h.lt
  refine Ro_v (v := (Value.bool x4)) rfl (o_not rfl rfl hx4) ?_
  refine Ro_nil ?_
  refine Fx_cond (a := c14_6) (b := c14_9) rfl rfl (fun ex4 => ?_) (fun ex4 => ?_)
  · replace h := h.ifT ex4
    refine Fx_seq (a := c14_7) (b := c14_8) rfl ?_
    refine Fx_text rfl (by kernel_rfl) ?_
    refine Ro_v (v := (Value.int .i64 (0))) rfl (o_assign rfl rfl) ?_
    refine Ro_nil ?_
    exact Fx_ret rfl rfl (congrArg some h.sm)
  · replace h := h.ifF ex4
    refine Fx_skip (c := c14_9) rfl ?_
    refine Fx_seq (a := c14_11) (b := c14_12) rfl ?_
    refine Fx_text rfl (by kernel_rfl) ?_
    refine Ro_v (v := (Value.int .i64 id_2)) rfl (o_move rfl rfl) ?_
    obtain ⟨x5, hx5, h⟩ := h.bd
    refine Ro_v (v := (Value.int .i64 x5)) rfl (o_shr rfl rfl rfl hx5) ?_
    refine Ro_v (v := (Value.int .i64 x5)) rfl (o_assign rfl rfl) ?_
    refine Ro_nil ?_
    exact Fx_ret rfl rfl (congrArg some h.sm)
noncomputable def c16_0 : Code := bodyOf Tryd.f16
noncomputable def c16_1 : Code := cl c16_0
noncomputable def c16_2 : Code := cr c16_0
noncomputable def c16_3 : Code := cl c16_2
noncomputable def c16_4 : Code := cl c16_3
noncomputable def c16_5 : Code := cr c16_3
noncomputable def c16_6 : Code := cl c16_5
noncomputable def c16_7 : Code := cl c16_6
noncomputable def c16_8 : Code := cr c16_6
noncomputable def c16_9 : Code := cr c16_5
noncomputable def c16_10 : Code := cr c16_2
noncomputable def c16_11 : Code := cl c16_10
noncomputable def c16_12 : Code := cr c16_10
theorem ok16 : funcOk Tryd.f16 = true := by kernel_rfl
noncomputable def rs16 : List ResultVar := resultsOf Tryd.f16
theorem w16 (id_2 : Int) (σ : AHeap) (r : Int) (h : G_ident_Serial id_2 = some r) : callL Tryd.prog 16 [(Value.int .i64 id_2)] σ = some ((Value.int .i64 r), σ) := by
  refine callL_walk (fn := Tryd.f16) (c := c16_0) (rs := rs16) Tryd.func16 rfl ok16 rfl rfl ?_
  obtain ⟨out, ho⟩ : ∃ out, out = ((Value.int .i64 r), σ) := ⟨_, rfl⟩
  rw [← ho]
  replace h : OptW (G_ident_Serial id_2) (fun r => ((Value.int .i64 r), σ) = out) := ⟨r, h, ho.symm⟩
  unfold G_ident_Serial at h
  refine Fx_seq (a := c16_1) (b := c16_2) rfl ?_
  refine Fx_text rfl (by kernel_rfl) ?_
  refine Ro_v (v := (Value.int .i64 (0))) rfl (o_assign rfl rfl) ?_
  refine Ro_nil ?_
  refine Fx_seq (a := c16_3) (b := c16_10) rfl ?_
  refine Fx_seq (a := c16_4) (b := c16_5) rfl ?_
  refine Fx_text rfl (by kernel_rfl) ?_
  refine Ro_v (v := (Value.int .i64 id_2)) rfl (o_move rfl rfl) ?_
  obtain ⟨x3, hx3, h⟩ := h.bd
  refine Ro_v (v := (Value.bool x3)) rfl (o_call (vs := [(Value.int .i64 id_2)]) rfl rfl (w12 _ _ _ hx3)) ?_
  obtain ⟨x4, hx4, h⟩ := h.lt
  refine Ro_v (v := (Value.bool x4)) rfl (o_not rfl rfl hx4) ?_
  refine Ro_nil ?_
  refine Fx_cond (a := c16_6) (b := c16_9) rfl rfl (fun ex4 => ?_) (fun ex4 => ?_)
  · replace h := h.ifT ex4
    refine Fx_seq (a := c16_7) (b := c16_8) rfl ?_
    refine Fx_text rfl (by kernel_rfl) ?_
    refine Ro_v (v := (Value.int .i64 (0))) rfl (o_assign rfl rfl) ?_
    refine Ro_nil ?_
    exact Fx_ret rfl rfl (congrArg some h.sm)
  · replace h := h.ifF ex4
    refine Fx_skip (c := c16_9) rfl ?_
    refine Fx_seq (a := c16_11) (b := c16_12) rfl ?_
    refine Fx_text rfl (by kernel_rfl) ?_
    refine Ro_v (v := (Value.int .i64 id_2)) rfl (o_move rfl rfl) ?_
    obtain ⟨x5, hx5, h⟩ := h.lt
    refine Ro_v (v := (Value.int .i64 x5)) rfl (o_and rfl rfl rfl hx5) ?_
    refine Ro_v (v := (Value.int .i64 x5)) rfl (o_assign rfl rfl) ?_
    refine Ro_nil ?_
    exact Fx_ret rfl rfl (congrArg some h.sm)
theorem w42 (s : ByteArray) (c : Int) (σ : AHeap) (r : Int) (h : G_bytealg_IndexByteString s c = some r) : callL Tryd.prog 42 [.string s, .int .u8 c] σ = some (.int .i64 r, σ) := callL_indexByte Tryd.func42 rfl rfl h
noncomputable def c34_0 : Code := bodyOf Tryd.f34
noncomputable def c34_1 : Code := cl c34_0
noncomputable def c34_2 : Code := cr c34_0
noncomputable def c34_3 : Code := cl c34_2
noncomputable def c34_4 : Code := cr c34_2
theorem ok34 : funcOk Tryd.f34 = true := by kernel_rfl
noncomputable def rs34 : List ResultVar := resultsOf Tryd.f34
theorem w34 (s_2 : ByteArray) (c_3 : Int) (σ : AHeap) (r : Int) (h : G_stringslite_IndexByte s_2 c_3 = some r) : callL Tryd.prog 34 [(Value.string s_2), (Value.int .u8 c_3)] σ = some ((Value.int .i64 r), σ) := by
  refine callL_walk (fn := Tryd.f34) (c := c34_0) (rs := rs34) Tryd.func34 rfl ok34 rfl rfl ?_
  obtain ⟨out, ho⟩ : ∃ out, out = ((Value.int .i64 r), σ) := ⟨_, rfl⟩
  rw [← ho]
  replace h : OptW (G_stringslite_IndexByte s_2 c_3) (fun r => ((Value.int .i64 r), σ) = out) := ⟨r, h, ho.symm⟩
  unfold G_stringslite_IndexByte at h
  refine Fx_seq (a := c34_1) (b := c34_2) rfl ?_
  refine Fx_text rfl (by kernel_rfl) ?_
  refine Ro_v (v := (Value.int .i64 (0))) rfl (o_assign rfl rfl) ?_
  refine Ro_nil ?_
  refine Fx_seq (a := c34_3) (b := c34_4) rfl ?_
  refine Fx_text rfl (by kernel_rfl) ?_
  refine Ro_v (v := (Value.string s_2)) rfl (o_move rfl rfl) ?_
  refine Ro_v (v := (Value.int .u8 c_3)) rfl (o_move rfl rfl) ?_
  obtain ⟨x4, hx4, h⟩ := h.bd
  refine Ro_v (v := (Value.int .i64 x4)) rfl (o_call (vs := [(Value.string s_2), (Value.int .u8 c_3)]) rfl rfl (w42 _ _ _ _ hx4)) ?_
  refine Ro_v (v := (Value.int .i64 x4)) rfl (o_assign rfl rfl) ?_
  refine Ro_nil ?_
  exact Fx_ret rfl rfl (congrArg some h.sm)

noncomputable def c36_0 : Code := bodyOf Tryd.f36
noncomputable def c36_1 : Code := cl c36_0
noncomputable def c36_2 : Code := cr c36_0
noncomputable def c36_3 : Code := cl c36_2
noncomputable def c36_4 : Code := cr c36_2
theorem ok36 : funcOk Tryd.f36 = true := by kernel_rfl
noncomputable def rs36 : List ResultVar := resultsOf Tryd.f36
theorem w36 (n_2 : Int) (σ : AHeap) (r : Int) (h : G_bytealg_Cutover n_2 = some r) : callL Tryd.prog 36 [(Value.int .i64 n_2)] σ = some ((Value.int .i64 r), σ) := by
  refine callL_walk (fn := Tryd.f36) (c := c36_0) (rs := rs36) Tryd.func36 rfl ok36 rfl rfl ?_
  obtain ⟨out, ho⟩ : ∃ out, out = ((Value.int .i64 r), σ) := ⟨_, rfl⟩
  rw [← ho]
  replace h : OptW (G_bytealg_Cutover n_2) (fun r => ((Value.int .i64 r), σ) = out) := ⟨r, h, ho.symm⟩
  unfold G_bytealg_Cutover at h
  refine Fx_seq (a := c36_1) (b := c36_2) rfl ?_
  refine Fx_text rfl (by kernel_rfl) ?_
  refine Ro_v (v := (Value.int .i64 (0))) rfl (o_assign rfl rfl) ?_
  refine Ro_nil ?_
  refine Fx_seq (a := c36_3) (b := c36_4) rfl ?_
  refine Fx_text rfl (by kernel_rfl) ?_
  refine Ro_v (v := (Value.int .i64 n_2)) rfl (o_move rfl rfl) ?_
  obtain ⟨x3, hx3, h⟩ := h.lt
  refine Ro_v (v := (Value.int .i64 x3)) rfl (o_add rfl rfl rfl hx3) ?_
  obtain ⟨x4, hx4, h⟩ := h.lt
  refine Ro_v (v := (Value.int .i64 x4)) rfl (o_quo rfl rfl rfl (by decide) hx4) ?_
  refine Ro_v (v := (Value.int .i64 x4)) rfl (o_assign rfl rfl) ?_
  refine Ro_nil ?_
  exact Fx_ret rfl rfl (congrArg some h.sm)
noncomputable def c43_0 : Code := bodyOf Tryd.f43
noncomputable def c43_1 : Code := cl c43_0
noncomputable def c43_2 : Code := cr c43_0
noncomputable def c43_3 : Code := cl c43_2
noncomputable def c43_4 : Code := cr c43_2
noncomputable def c43_5 : Code := cl c43_4
noncomputable def c43_6 : Code := cl c43_5
noncomputable def c43_7 : Code := cr c43_5
noncomputable def c43_8 : Code := cl c43_7
noncomputable def c43_9 : Code := cl c43_8
noncomputable def c43_10 : Code := cl c43_9
noncomputable def c43_11 : Code := cl c43_10
noncomputable def c43_12 : Code := cr c43_10
noncomputable def c43_13 : Code := cl c43_12
noncomputable def c43_14 : Code := cr c43_12
noncomputable def c43_15 : Code := cr c43_9
noncomputable def c43_16 : Code := cl c43_15
noncomputable def c43_17 : Code := cl c43_16
noncomputable def c43_18 : Code := cr c43_15
noncomputable def c43_19 : Code := cr c43_4
noncomputable def c43_20 : Code := cl c43_19
noncomputable def c43_21 : Code := cr c43_19
noncomputable def c43_22 : Code := cl c43_21
noncomputable def c43_23 : Code := cl c43_22
noncomputable def c43_24 : Code := cr c43_22
noncomputable def c43_25 : Code := cl c43_24
noncomputable def c43_26 : Code := cl c43_25
noncomputable def c43_27 : Code := cl c43_26
noncomputable def c43_28 : Code := cl c43_27
noncomputable def c43_29 : Code := cr c43_27
noncomputable def c43_30 : Code := cl c43_29
noncomputable def c43_31 : Code := cr c43_29
noncomputable def c43_32 : Code := cr c43_26
noncomputable def c43_33 : Code := cl c43_32
noncomputable def c43_34 : Code := cl c43_33
noncomputable def c43_35 : Code := cl c43_34
noncomputable def c43_36 : Code := cl c43_35
noncomputable def c43_37 : Code := cr c43_35
noncomputable def c43_38 : Code := cl c43_37
noncomputable def c43_39 : Code := cr c43_37
noncomputable def c43_40 : Code := cr c43_34
noncomputable def c43_41 : Code := cr c43_32
noncomputable def c43_42 : Code := cr c43_21
noncomputable def c43_43 : Code := cl c43_42
noncomputable def c43_44 : Code := cr c43_42
theorem ok43 : funcOk Tryd.f43 = true := by kernel_rfl
noncomputable def rs43 : List ResultVar := resultsOf Tryd.f43
noncomputable def C43_l1 (sep_4 : ByteArray) (σ : AHeap) (out : Value × AHeap) : (Int × Int) ⊕ Int → Prop
  | .inl (hash_5, i_6) => ∀ f, Fx Tryd.prog rs43 [.code c43_8, .blk 0, .code c43_19] .normal (Fr.set (Fr.set (Fr.set f 0 (Value.string sep_4)) 4 (Value.int .u32 hash_5)) 5 (Value.int .i64 i_6)) σ = some out
  | .inr hash_7 => ∀ f, Fx Tryd.prog rs43 [.code c43_19] .normal (Fr.set (Fr.set f 0 (Value.string sep_4)) 4 (Value.int .u32 hash_7)) σ = some out
theorem q43_l1 (sep_4 : ByteArray) (hash_5 : Int) (i_6 : Int) (σ : AHeap) (out : Value × AHeap) (f : Fr) (h : OptW (G_bytealg_hashStr_string_l1 sep_4 (hash_5, i_6)) (C43_l1 sep_4 σ out)) :
    Fx Tryd.prog rs43 [.code c43_8, .blk 0, .code c43_19] .normal (Fr.set (Fr.set (Fr.set f 0 (Value.string sep_4)) 4 (Value.int .u32 hash_5)) 5 (Value.int .i64 i_6)) σ = some out := by
  unfold G_bytealg_hashStr_string_l1 at h
  refine Fx_loop (b := c43_9) rfl ?_
  refine Fx_seq (a := c43_10) (b := c43_15) rfl ?_
  refine Fx_seq (a := c43_11) (b := c43_12) rfl ?_
  refine Fx_text rfl (by kernel_rfl) ?_
  refine Ro_v (v := (Value.int .i64 i_6)) rfl (o_move rfl rfl) ?_
  refine Ro_v (v := (Value.string sep_4)) rfl (o_move rfl rfl) ?_
  obtain ⟨x8, hx8, h⟩ := h.lt
  refine Ro_v (v := (Value.int .i64 x8)) rfl (o_lenS rfl tu9 rfl hx8) ?_
  obtain ⟨x9, hx9, h⟩ := h.lt
  refine Ro_v (v := (Value.bool x9)) rfl (o_lss rfl rfl rfl hx9) ?_
  refine Ro_nil ?_
  refine Fx_cond (a := c43_13) (b := c43_14) rfl rfl (fun ex9 => ?_) (fun ex9 => ?_)
  · replace h := h.ifT ex9
    refine Fx_skip (c := c43_13) rfl ?_
    refine Fx_seq (a := c43_16) (b := c43_18) rfl ?_
    refine Fx_block (b := c43_17) rfl ?_
    refine Fx_text rfl (by kernel_rfl) ?_
    refine Ro_v (v := (Value.int .u32 hash_5)) rfl (o_move rfl rfl) ?_
    obtain ⟨x10, hx10, h⟩ := h.lt
    refine Ro_v (v := (Value.int .u32 x10)) rfl (o_mul rfl rfl rfl hx10) ?_
    refine Ro_v (v := (Value.string sep_4)) rfl (o_move rfl rfl) ?_
    refine Ro_v (v := (Value.int .i64 i_6)) rfl (o_move rfl rfl) ?_
    obtain ⟨x11, hx11, h⟩ := h.bd
    refine Ro_v (v := (Value.int .u8 x11)) rfl (o_idxS rfl tu9 rfl rfl hx11) ?_
    obtain ⟨x12, hx12, h⟩ := h.lt
    refine Ro_v (v := (Value.int .u32 x12)) rfl (o_convI rfl tu5 tu48 rfl hx12) ?_
    obtain ⟨x13, hx13, h⟩ := h.lt
    refine Ro_v (v := (Value.int .u32 x13)) rfl (o_add rfl rfl rfl hx13) ?_
    refine Ro_v (v := (Value.int .u32 x13)) rfl (o_assign rfl rfl) ?_
    refine Ro_nil ?_
    refine Fx_blk ?_
    refine Fx_text rfl (by kernel_rfl) ?_
    refine Ro_v (v := (Value.int .i64 i_6)) rfl (o_move rfl rfl) ?_
    obtain ⟨x14, hx14, h⟩ := h.lt
    refine Ro_v (v := (Value.int .i64 x14)) rfl (o_add rfl rfl rfl hx14) ?_
    refine Ro_v (v := (Value.int .i64 x14)) rfl (o_assign rfl rfl) ?_
    refine Ro_nil ?_
    exact Fx_forget (Fr.set_of (Fr.set_of (Fr.set_of rfl rfl) rfl) rfl) (h.sm _)
  · replace h := h.ifF ex9
    refine Fx_exit rfl ?_
    refine Fx_out_code ?_
    refine Fx_out_code ?_
    refine Fx_out_eq ?_
    exact Fx_forget (Fr.set_of (Fr.set_of rfl rfl) rfl) (h.sm _)
noncomputable def C43_l2 (hash_17 : Int) (σ : AHeap) (out : Value × AHeap) : (Int × Int × Int) ⊕ Int → Prop
  | .inl (pow_18, sq_19, i_20) => ∀ f, Fx Tryd.prog rs43 [.code c43_25, .blk 2, .code c43_42] .normal (Fr.set (Fr.set (Fr.set (Fr.set f 4 (Value.int .u32 hash_17)) 6 (Value.int .u32 pow_18)) 7 (Value.int .u32 sq_19)) 8 (Value.int .i64 i_20)) σ = some out
  | .inr pow_21 => ∀ f, Fx Tryd.prog rs43 [.code c43_42] .normal (Fr.set (Fr.set f 4 (Value.int .u32 hash_17)) 6 (Value.int .u32 pow_21)) σ = some out
theorem p43_j1 (hash_17 : Int) (pow_26 : Int) (sq_27 : Int) (i_28 : Int) (σ : AHeap) (out : Value × AHeap) (f : Fr) (h : OptW (G_bytealg_hashStr_string_j1 hash_17 pow_26 sq_27 i_28) (C43_l2 hash_17 σ out)) :
    Fx Tryd.prog rs43 [.code c43_40, .blk 3, .code c43_41, .code c43_25, .blk 2, .code c43_42] .normal (Fr.set (Fr.set (Fr.set (Fr.set f 4 (Value.int .u32 hash_17)) 6 (Value.int .u32 pow_26)) 7 (Value.int .u32 sq_27)) 8 (Value.int .i64 i_28)) σ = some out := by
  unfold G_bytealg_hashStr_string_j1 at h
  refine Fx_text rfl (by kernel_rfl) ?_
  refine Ro_v (v := (Value.int .u32 sq_27)) rfl (o_move rfl rfl) ?_
  refine Ro_v (v := (Value.int .u32 sq_27)) rfl (o_move rfl rfl) ?_
  obtain ⟨x29, hx29, h⟩ := h.lt
  refine Ro_v (v := (Value.int .u32 x29)) rfl (o_mul rfl rfl rfl hx29) ?_
  refine Ro_v (v := (Value.int .u32 x29)) rfl (o_assign rfl rfl) ?_
  refine Ro_nil ?_
  refine Fx_blk ?_
  refine Fx_text rfl (by kernel_rfl) ?_
  refine Ro_v (v := (Value.int .i64 i_28)) rfl (o_move rfl rfl) ?_
  obtain ⟨x30, hx30, h⟩ := h.bd
  refine Ro_v (v := (Value.int .i64 x30)) rfl (o_shr rfl rfl rfl hx30) ?_
  refine Ro_v (v := (Value.int .i64 x30)) rfl (o_assign rfl rfl) ?_
  refine Ro_nil ?_
  exact Fx_forget (Fr.set_of (Fr.set_of (Fr.set_of (Fr.set_of rfl rfl) rfl) rfl) rfl) (h.sm _)
theorem q43_l2 (hash_17 : Int) (pow_18 : Int) (sq_19 : Int) (i_20 : Int) (σ : AHeap) (out : Value × AHeap) (f : Fr) (h : OptW (G_bytealg_hashStr_string_l2 hash_17 (pow_18, sq_19, i_20)) (C43_l2 hash_17 σ out)) :
    Fx Tryd.prog rs43 [.code c43_25, .blk 2, .code c43_42] .normal (Fr.set (Fr.set (Fr.set (Fr.set f 4 (Value.int .u32 hash_17)) 6 (Value.int .u32 pow_18)) 7 (Value.int .u32 sq_19)) 8 (Value.int .i64 i_20)) σ = some out := by
  unfold G_bytealg_hashStr_string_l2 at h
  refine Fx_loop (b := c43_26) rfl ?_
  refine Fx_seq (a := c43_27) (b := c43_32) rfl ?_
  refine Fx_seq (a := c43_28) (b := c43_29) rfl ?_
  refine Fx_text rfl (by kernel_rfl) ?_
  refine Ro_v (v := (Value.int .i64 i_20)) rfl (o_move rfl rfl) ?_
  obtain ⟨x22, hx22, h⟩ := h.lt
  refine Ro_v (v := (Value.bool x22)) rfl (o_gtr rfl rfl rfl hx22) ?_
  refine Ro_nil ?_
  refine Fx_cond (a := c43_30) (b := c43_31) rfl rfl (fun ex22 => ?_) (fun ex22 => ?_)
  · replace h := h.ifT ex22
    refine Fx_skip (c := c43_30) rfl ?_
    refine Fx_seq (a := c43_33) (b := c43_41) rfl ?_
    refine Fx_block (b := c43_34) rfl ?_
    refine Fx_seq (a := c43_35) (b := c43_40) rfl ?_
    refine Fx_seq (a := c43_36) (b := c43_37) rfl ?_
    refine Fx_text rfl (by kernel_rfl) ?_
    refine Ro_v (v := (Value.int .i64 i_20)) rfl (o_move rfl rfl) ?_
    obtain ⟨x23, hx23, h⟩ := h.lt
    refine Ro_v (v := (Value.int .i64 x23)) rfl (o_and rfl rfl rfl hx23) ?_
    obtain ⟨x24, hx24, h⟩ := h.lt
    refine Ro_v (v := (Value.bool x24)) rfl (o_neq rfl rfl rfl hx24) ?_
    refine Ro_nil ?_
    refine Fx_cond (a := c43_38) (b := c43_39) rfl rfl (fun ex24 => ?_) (fun ex24 => ?_)
    · replace h := h.ifT ex24
      refine Fx_text rfl (by kernel_rfl) ?_
      refine Ro_v (v := (Value.int .u32 pow_18)) rfl (o_move rfl rfl) ?_
      refine Ro_v (v := (Value.int .u32 sq_19)) rfl (o_move rfl rfl) ?_
      obtain ⟨x25, hx25, h⟩ := h.lt
      refine Ro_v (v := (Value.int .u32 x25)) rfl (o_mul rfl rfl rfl hx25) ?_
      refine Ro_v (v := (Value.int .u32 x25)) rfl (o_assign rfl rfl) ?_
      refine Ro_nil ?_
      exact Fx_forget (Fr.set_of (Fr.set_of (Fr.set_of (Fr.set_of rfl rfl) rfl) rfl) rfl) (p43_j1 _ _ _ _ _ _ _ h)
    · replace h := h.ifF ex24
      refine Fx_skip (c := c43_39) rfl ?_
      refine Fx_text rfl (by kernel_rfl) ?_
      refine Ro_v (v := (Value.int .u32 sq_19)) rfl (o_move rfl rfl) ?_
      refine Ro_v (v := (Value.int .u32 sq_19)) rfl (o_move rfl rfl) ?_
      obtain ⟨x31, hx31, h⟩ := h.lt
      refine Ro_v (v := (Value.int .u32 x31)) rfl (o_mul rfl rfl rfl hx31) ?_
      refine Ro_v (v := (Value.int .u32 x31)) rfl (o_assign rfl rfl) ?_
      refine Ro_nil ?_
      refine Fx_blk ?_
      refine Fx_text rfl (by kernel_rfl) ?_
      refine Ro_v (v := (Value.int .i64 i_20)) rfl (o_move rfl rfl) ?_
      obtain ⟨x32, hx32, h⟩ := h.bd
      refine Ro_v (v := (Value.int .i64 x32)) rfl (o_shr rfl rfl rfl hx32) ?_
      refine Ro_v (v := (Value.int .i64 x32)) rfl (o_assign rfl rfl) ?_
      refine Ro_nil ?_
      exact Fx_forget (Fr.set_of (Fr.set_of (Fr.set_of (Fr.set_of rfl rfl) rfl) rfl) rfl) (h.sm _)
  · replace h := h.ifF ex22
    refine Fx_exit rfl ?_
    refine Fx_out_code ?_
    refine Fx_out_code ?_
    refine Fx_out_eq ?_
    exact Fx_forget (Fr.set_of (Fr.set_of rfl rfl) rfl) (h.sm _)
theorem w43 (sep_3 : ByteArray) (σ : AHeap) (r : (Int × Int)) (h : G_bytealg_hashStr_string sep_3 = some r) : callL Tryd.prog 43 [(Value.string sep_3)] σ = some ((Value.tuple #[(Value.int .u32 r.1), (Value.int .u32 r.2)]), σ) := by
  refine callL_walk (fn := Tryd.f43) (c := c43_0) (rs := rs43) Tryd.func43 rfl ok43 rfl rfl ?_
  obtain ⟨out, ho⟩ : ∃ out, out = ((Value.tuple #[(Value.int .u32 r.1), (Value.int .u32 r.2)]), σ) := ⟨_, rfl⟩
  rw [← ho]
  replace h : OptW (G_bytealg_hashStr_string sep_3) (fun r => ((Value.tuple #[(Value.int .u32 r.1), (Value.int .u32 r.2)]), σ) = out) := ⟨r, h, ho.symm⟩
  unfold G_bytealg_hashStr_string at h
  refine Fx_seq (a := c43_1) (b := c43_2) rfl ?_
  refine Fx_text rfl (by kernel_rfl) ?_
  refine Ro_v (v := (Value.int .u32 (0))) rfl (o_assign rfl rfl) ?_
  refine Ro_v (v := (Value.int .u32 (0))) rfl (o_assign rfl rfl) ?_
  refine Ro_nil ?_
  refine Fx_seq (a := c43_3) (b := c43_4) rfl ?_
  refine Fx_text rfl (by kernel_rfl) ?_
  refine Ro_v (v := (Value.int .u32 (0))) rfl (o_assign rfl rfl) ?_
  refine Ro_nil ?_
  refine Fx_seq (a := c43_5) (b := c43_19) rfl ?_
  refine Fx_seq (a := c43_6) (b := c43_7) rfl ?_
  refine Fx_text rfl (by kernel_rfl) ?_
  refine Ro_v (v := (Value.int .i64 (0))) rfl (o_assign rfl rfl) ?_
  refine Ro_nil ?_
  refine Fx_block (b := c43_8) rfl ?_
  refine Fx_forget (Fr.set_of (Fr.set_of (Fr.set_of rfl rfl) rfl) rfl) ((OptW.loop h (fun s => C43_l1 sep_3 σ out (.inl s)) ?_ : C43_l1 sep_3 σ out (.inl ((0), (0)))) _)
  intro s hs f
  obtain ⟨hash_5, i_6⟩ := s
  refine q43_l1 sep_3 hash_5 i_6 σ out f (hs.imp ?_)
  intro r hr
  rcases r with y | b
  · exact hr
  · obtain ⟨hash_15, rfl⟩ : ∃ x, x = b := ⟨_, rfl⟩
    have h := hr
    intro f
    refine Fx_seq (a := c43_20) (b := c43_21) rfl ?_
    refine Fx_text rfl (by kernel_rfl) ?_
    refine Ro_v (v := (Value.int .u32 (1))) rfl (o_assign rfl rfl) ?_
    refine Ro_v (v := (Value.int .u32 (16777619))) rfl (o_assign rfl rfl) ?_
    refine Ro_nil ?_
    refine Fx_seq (a := c43_22) (b := c43_42) rfl ?_
    refine Fx_seq (a := c43_23) (b := c43_24) rfl ?_
    refine Fx_text rfl (by kernel_rfl) ?_
    refine Ro_v (v := (Value.string sep_3)) rfl (o_move rfl rfl) ?_
    obtain ⟨x16, hx16, h⟩ := h.lt
    refine Ro_v (v := (Value.int .i64 x16)) rfl (o_lenS rfl tu9 rfl hx16) ?_
    refine Ro_v (v := (Value.int .i64 x16)) rfl (o_assign rfl rfl) ?_
    refine Ro_nil ?_
    refine Fx_block (b := c43_25) rfl ?_
    refine Fx_forget (Fr.set_of (Fr.set_of (Fr.set_of (Fr.set_of rfl rfl) rfl) rfl) rfl) ((OptW.loop h (fun s => C43_l2 hash_15 σ out (.inl s)) ?_ : C43_l2 hash_15 σ out (.inl ((1), (16777619), x16))) _)
    intro s hs f
    obtain ⟨pow_18, sq_19, i_20⟩ := s
    refine q43_l2 hash_15 pow_18 sq_19 i_20 σ out f (hs.imp ?_)
    intro r hr
    rcases r with y | b
    · exact hr
    · obtain ⟨pow_33, rfl⟩ : ∃ x, x = b := ⟨_, rfl⟩
      have h := hr
      intro f
      refine Fx_seq (a := c43_43) (b := c43_44) rfl ?_
      refine Fx_text rfl (by kernel_rfl) ?_
      refine Ro_v (v := (Value.int .u32 hash_15)) rfl (o_move rfl rfl) ?_
      refine Ro_v (v := (Value.int .u32 pow_33)) rfl (o_move rfl rfl) ?_
      refine Ro_v (v := (Value.int .u32 hash_15)) rfl (o_assign rfl rfl) ?_
      refine Ro_v (v := (Value.int .u32 pow_33)) rfl (o_assign rfl rfl) ?_
      refine Ro_nil ?_
      exact Fx_ret rfl rfl (congrArg some h.sm)
noncomputable def c37_0 : Code := bodyOf Tryd.f37
noncomputable def c37_1 : Code := cl c37_0
noncomputable def c37_2 : Code := cr c37_0
noncomputable def c37_3 : Code := cl c37_2
noncomputable def c37_4 : Code := cr c37_2
noncomputable def c37_5 : Code := cl c37_4
noncomputable def c37_6 : Code := cr c37_4
noncomputable def c37_7 : Code := cl c37_6
noncomputable def c37_8 : Code := cr c37_6
noncomputable def c37_9 : Code := cl c37_8
noncomputable def c37_10 : Code := cl c37_9
noncomputable def c37_11 : Code := cr c37_9
noncomputable def c37_12 : Code := cl c37_11
noncomputable def c37_13 : Code := cl c37_12
noncomputable def c37_14 : Code := cl c37_13
noncomputable def c37_15 : Code := cl c37_14
noncomputable def c37_16 : Code := cr c37_14
noncomputable def c37_17 : Code := cl c37_16
noncomputable def c37_18 : Code := cr c37_16
noncomputable def c37_19 : Code := cr c37_13
noncomputable def c37_20 : Code := cl c37_19
noncomputable def c37_21 : Code := cl c37_20
noncomputable def c37_22 : Code := cr c37_19
noncomputable def c37_23 : Code := cr c37_8
noncomputable def c37_24 : Code := cl c37_23
noncomputable def c37_25 : Code := cl c37_24
noncomputable def c37_26 : Code := cr c37_24
noncomputable def c37_27 : Code := cl c37_26
noncomputable def c37_28 : Code := cl c37_27
noncomputable def c37_29 : Code := cr c37_27
noncomputable def c37_30 : Code := cr c37_26
noncomputable def c37_31 : Code := cr c37_23
noncomputable def c37_32 : Code := cl c37_31
noncomputable def c37_33 : Code := cl c37_32
noncomputable def c37_34 : Code := cr c37_32
noncomputable def c37_35 : Code := cl c37_34
noncomputable def c37_36 : Code := cl c37_35
noncomputable def c37_37 : Code := cl c37_36
noncomputable def c37_38 : Code := cl c37_37
noncomputable def c37_39 : Code := cr c37_37
noncomputable def c37_40 : Code := cl c37_39
noncomputable def c37_41 : Code := cr c37_39
noncomputable def c37_42 : Code := cr c37_36
noncomputable def c37_43 : Code := cl c37_42
noncomputable def c37_44 : Code := cl c37_43
noncomputable def c37_45 : Code := cr c37_43
noncomputable def c37_46 : Code := cl c37_45
noncomputable def c37_47 : Code := cr c37_45
noncomputable def c37_48 : Code := cl c37_47
noncomputable def c37_49 : Code := cr c37_47
noncomputable def c37_50 : Code := cl c37_49
noncomputable def c37_51 : Code := cr c37_49
noncomputable def c37_52 : Code := cl c37_51
noncomputable def c37_53 : Code := cr c37_51
noncomputable def c37_54 : Code := cl c37_53
noncomputable def c37_55 : Code := cl c37_54
noncomputable def c37_56 : Code := cr c37_54
noncomputable def c37_57 : Code := cr c37_53
noncomputable def c37_58 : Code := cr c37_31
noncomputable def c37_59 : Code := cl c37_58
noncomputable def c37_60 : Code := cr c37_58
theorem ok37 : funcOk Tryd.f37 = true := by kernel_rfl
noncomputable def rs37 : List ResultVar := resultsOf Tryd.f37
noncomputable def C37_l1 (s_7 : ByteArray) (sep_8 : ByteArray) (hashss_9 : Int) (pow_10 : Int) (n_11 : Int) (σ : AHeap) (out : Value × AHeap) : (Int × Int) ⊕ Int → Prop
  | .inl (h_12, i_13) => ∀ f, Fx Tryd.prog rs37 [.code c37_12, .blk 0, .code c37_23] .normal (Fr.set (Fr.set (Fr.set (Fr.set (Fr.set (Fr.set (Fr.set f 0 (Value.string s_7)) 1 (Value.string sep_8)) 5 (Value.int .u32 hashss_9)) 6 (Value.int .u32 pow_10)) 7 (Value.int .i64 n_11)) 8 (Value.int .u32 h_12)) 9 (Value.int .i64 i_13)) σ = some out
  | .inr h_14 => ∀ f, Fx Tryd.prog rs37 [.code c37_23] .normal (Fr.set (Fr.set (Fr.set (Fr.set (Fr.set (Fr.set f 0 (Value.string s_7)) 1 (Value.string sep_8)) 5 (Value.int .u32 hashss_9)) 6 (Value.int .u32 pow_10)) 7 (Value.int .i64 n_11)) 8 (Value.int .u32 h_14)) σ = some out
theorem q37_l1 (s_7 : ByteArray) (sep_8 : ByteArray) (hashss_9 : Int) (pow_10 : Int) (n_11 : Int) (h_12 : Int) (i_13 : Int) (σ : AHeap) (out : Value × AHeap) (f : Fr) (h : OptW (G_bytealg_IndexRabinKarp_string_l1 s_7 sep_8 hashss_9 pow_10 n_11 (h_12, i_13)) (C37_l1 s_7 sep_8 hashss_9 pow_10 n_11 σ out)) :
    Fx Tryd.prog rs37 [.code c37_12, .blk 0, .code c37_23] .normal (Fr.set (Fr.set (Fr.set (Fr.set (Fr.set (Fr.set (Fr.set f 0 (Value.string s_7)) 1 (Value.string sep_8)) 5 (Value.int .u32 hashss_9)) 6 (Value.int .u32 pow_10)) 7 (Value.int .i64 n_11)) 8 (Value.int .u32 h_12)) 9 (Value.int .i64 i_13)) σ = some out := by
  unfold G_bytealg_IndexRabinKarp_string_l1 at h
  refine Fx_loop (b := c37_13) rfl ?_
  refine Fx_seq (a := c37_14) (b := c37_19) rfl ?_
  refine Fx_seq (a := c37_15) (b := c37_16) rfl ?_
  refine Fx_text rfl (by kernel_rfl) ?_
  refine Ro_v (v := (Value.int .i64 i_13)) rfl (o_move rfl rfl) ?_
  refine Ro_v (v := (Value.int .i64 n_11)) rfl (o_move rfl rfl) ?_
  obtain ⟨x15, hx15, h⟩ := h.lt
  refine Ro_v (v := (Value.bool x15)) rfl (o_lss rfl rfl rfl hx15) ?_
  refine Ro_nil ?_
  refine Fx_cond (a := c37_17) (b := c37_18) rfl rfl (fun ex15 => ?_) (fun ex15 => ?_)
  · replace h := h.ifT ex15
    refine Fx_skip (c := c37_17) rfl ?_
    refine Fx_seq (a := c37_20) (b := c37_22) rfl ?_
    refine Fx_block (b := c37_21) rfl ?_
    refine Fx_text rfl (by kernel_rfl) ?_
    refine Ro_v (v := (Value.int .u32 h_12)) rfl (o_move rfl rfl) ?_
    obtain ⟨x16, hx16, h⟩ := h.lt
    refine Ro_v (v := (Value.int .u32 x16)) rfl (o_mul rfl rfl rfl hx16) ?_
    refine Ro_v (v := (Value.string s_7)) rfl (o_move rfl rfl) ?_
    refine Ro_v (v := (Value.int .i64 i_13)) rfl (o_move rfl rfl) ?_
    obtain ⟨x17, hx17, h⟩ := h.bd
    refine Ro_v (v := (Value.int .u8 x17)) rfl (o_idxS rfl tu9 rfl rfl hx17) ?_
    obtain ⟨x18, hx18, h⟩ := h.lt
    refine Ro_v (v := (Value.int .u32 x18)) rfl (o_convI rfl tu5 tu48 rfl hx18) ?_
    obtain ⟨x19, hx19, h⟩ := h.lt
    refine Ro_v (v := (Value.int .u32 x19)) rfl (o_add rfl rfl rfl hx19) ?_
    refine Ro_v (v := (Value.int .u32 x19)) rfl (o_assign rfl rfl) ?_
    refine Ro_nil ?_
    refine Fx_blk ?_
    refine Fx_text rfl (by kernel_rfl) ?_
    refine Ro_v (v := (Value.int .i64 i_13)) rfl (o_move rfl rfl) ?_
    obtain ⟨x20, hx20, h⟩ := h.lt
    refine Ro_v (v := (Value.int .i64 x20)) rfl (o_add rfl rfl rfl hx20) ?_
    refine Ro_v (v := (Value.int .i64 x20)) rfl (o_assign rfl rfl) ?_
    refine Ro_nil ?_
    exact Fx_forget (Fr.set_of (Fr.set_of (Fr.set_of (Fr.set_of (Fr.set_of (Fr.set_of (Fr.set_of rfl rfl) rfl) rfl) rfl) rfl) rfl) rfl) (h.sm _)
  · replace h := h.ifF ex15
    refine Fx_exit rfl ?_
    refine Fx_out_code ?_
    refine Fx_out_code ?_
    refine Fx_out_eq ?_
    exact Fx_forget (Fr.set_of (Fr.set_of (Fr.set_of (Fr.set_of (Fr.set_of (Fr.set_of rfl rfl) rfl) rfl) rfl) rfl) rfl) (h.sm _)
noncomputable def C37_l2 (s_26 : ByteArray) (sep_27 : ByteArray) (hashss_28 : Int) (pow_29 : Int) (n_30 : Int) (σ : AHeap) (out : Value × AHeap) : (Int × Int) ⊕ (Unit ⊕ Int) → Prop
  | .inl (h_31, i_32) => ∀ f, Fx Tryd.prog rs37 [.code c37_35, .blk 2, .code c37_58] .normal (Fr.set (Fr.set (Fr.set (Fr.set (Fr.set (Fr.set (Fr.set f 0 (Value.string s_26)) 1 (Value.string sep_27)) 5 (Value.int .u32 hashss_28)) 6 (Value.int .u32 pow_29)) 7 (Value.int .i64 n_30)) 8 (Value.int .u32 h_31)) 10 (Value.int .i64 i_32)) σ = some out
  | .inr (.inl _) => ∀ f, Fx Tryd.prog rs37 [.code c37_58] .normal f σ = some out
  | .inr (.inr x33) => ((Value.int .i64 x33), σ) = out
theorem q37_l2 (s_26 : ByteArray) (sep_27 : ByteArray) (hashss_28 : Int) (pow_29 : Int) (n_30 : Int) (h_31 : Int) (i_32 : Int) (σ : AHeap) (out : Value × AHeap) (f : Fr) (h : OptW (G_bytealg_IndexRabinKarp_string_l2 s_26 sep_27 hashss_28 pow_29 n_30 (h_31, i_32)) (C37_l2 s_26 sep_27 hashss_28 pow_29 n_30 σ out)) :
    Fx Tryd.prog rs37 [.code c37_35, .blk 2, .code c37_58] .normal (Fr.set (Fr.set (Fr.set (Fr.set (Fr.set (Fr.set (Fr.set f 0 (Value.string s_26)) 1 (Value.string sep_27)) 5 (Value.int .u32 hashss_28)) 6 (Value.int .u32 pow_29)) 7 (Value.int .i64 n_30)) 8 (Value.int .u32 h_31)) 10 (Value.int .i64 i_32)) σ = some out := by
  unfold G_bytealg_IndexRabinKarp_string_l2 at h
  refine Fx_loop (b := c37_36) rfl ?_
  refine Fx_seq (a := c37_37) (b := c37_42) rfl ?_
  refine Fx_seq (a := c37_38) (b := c37_39) rfl ?_
  refine Fx_text rfl (by kernel_rfl) ?_
  refine Ro_v (v := (Value.int .i64 i_32)) rfl (o_move rfl rfl) ?_
  refine Ro_v (v := (Value.string s_26)) rfl (o_move rfl rfl) ?_
  obtain ⟨x34, hx34, h⟩ := h.lt
  refine Ro_v (v := (Value.int .i64 x34)) rfl (o_lenS rfl tu9 rfl hx34) ?_
  obtain ⟨x35, hx35, h⟩ := h.lt
  refine Ro_v (v := (Value.bool x35)) rfl (o_lss rfl rfl rfl hx35) ?_
  refine Ro_nil ?_
  refine Fx_cond (a := c37_40) (b := c37_41) rfl rfl (fun ex35 => ?_) (fun ex35 => ?_)
  · replace h := h.ifT ex35
    refine Fx_skip (c := c37_40) rfl ?_
    refine Fx_block (b := c37_43) rfl ?_
    refine Fx_seq (a := c37_44) (b := c37_45) rfl ?_
    refine Fx_text rfl (by kernel_rfl) ?_
    refine Ro_v (v := (Value.int .u32 h_31)) rfl (o_move rfl rfl) ?_
    obtain ⟨x36, hx36, h⟩ := h.lt
    refine Ro_v (v := (Value.int .u32 x36)) rfl (o_mul rfl rfl rfl hx36) ?_
    refine Ro_v (v := (Value.int .u32 x36)) rfl (o_assign rfl rfl) ?_
    refine Ro_nil ?_
    refine Fx_seq (a := c37_46) (b := c37_47) rfl ?_
    refine Fx_text rfl (by kernel_rfl) ?_
    refine Ro_v (v := (Value.int .u32 x36)) rfl (o_move rfl rfl) ?_
    refine Ro_v (v := (Value.string s_26)) rfl (o_move rfl rfl) ?_
    refine Ro_v (v := (Value.int .i64 i_32)) rfl (o_move rfl rfl) ?_
    obtain ⟨x37, hx37, h⟩ := h.bd
    refine Ro_v (v := (Value.int .u8 x37)) rfl (o_idxS rfl tu9 rfl rfl hx37) ?_
    obtain ⟨x38, hx38, h⟩ := h.lt
    refine Ro_v (v := (Value.int .u32 x38)) rfl (o_convI rfl tu5 tu48 rfl hx38) ?_
    obtain ⟨x39, hx39, h⟩ := h.lt
    refine Ro_v (v := (Value.int .u32 x39)) rfl (o_add rfl rfl rfl hx39) ?_
    refine Ro_v (v := (Value.int .u32 x39)) rfl (o_assign rfl rfl) ?_
    refine Ro_nil ?_
    refine Fx_seq (a := c37_48) (b := c37_49) rfl ?_
    refine Fx_text rfl (by kernel_rfl) ?_
    refine Ro_v (v := (Value.int .u32 x39)) rfl (o_move rfl rfl) ?_
    refine Ro_v (v := (Value.int .u32 pow_29)) rfl (o_move rfl rfl) ?_
    refine Ro_v (v := (Value.string s_26)) rfl (o_move rfl rfl) ?_
    refine Ro_v (v := (Value.int .i64 i_32)) rfl (o_move rfl rfl) ?_
    refine Ro_v (v := (Value.int .i64 n_30)) rfl (o_move rfl rfl) ?_
    obtain ⟨x40, hx40, h⟩ := h.lt
    refine Ro_v (v := (Value.int .i64 x40)) rfl (o_sub rfl rfl rfl hx40) ?_
    obtain ⟨x41, hx41, h⟩ := h.bd
    refine Ro_v (v := (Value.int .u8 x41)) rfl (o_idxS rfl tu9 rfl rfl hx41) ?_
    obtain ⟨x42, hx42, h⟩ := h.lt
    refine Ro_v (v := (Value.int .u32 x42)) rfl (o_convI rfl tu5 tu48 rfl hx42) ?_
    obtain ⟨x43, hx43, h⟩ := h.lt
    refine Ro_v (v := (Value.int .u32 x43)) rfl (o_mul rfl rfl rfl hx43) ?_
    obtain ⟨x44, hx44, h⟩ := h.lt
    refine Ro_v (v := (Value.int .u32 x44)) rfl (o_sub rfl rfl rfl hx44) ?_
    refine Ro_v (v := (Value.int .u32 x44)) rfl (o_assign rfl rfl) ?_
    refine Ro_nil ?_
    refine Fx_seq (a := c37_50) (b := c37_51) rfl ?_
    refine Fx_text rfl (by kernel_rfl) ?_
    refine Ro_v (v := (Value.int .i64 i_32)) rfl (o_move rfl rfl) ?_
    obtain ⟨x45, hx45, h⟩ := h.lt
    refine Ro_v (v := (Value.int .i64 x45)) rfl (o_add rfl rfl rfl hx45) ?_
    refine Ro_v (v := (Value.int .i64 x45)) rfl (o_assign rfl rfl) ?_
    refine Ro_nil ?_
    refine Fx_seq (a := c37_52) (b := c37_53) rfl ?_
    refine Fx_text rfl (by kernel_rfl) ?_
    refine Ro_v (v := (Value.int .u32 x44)) rfl (o_move rfl rfl) ?_
    refine Ro_v (v := (Value.int .u32 hashss_28)) rfl (o_move rfl rfl) ?_
    obtain ⟨x46, hx46, h⟩ := h.lt
    refine Ro_v (v := (Value.bool x46)) rfl (o_eql rfl rfl rfl hx46) ?_
    refine Ro_v (v := (Value.bool x46)) rfl (o_move rfl rfl) ?_
    refine Ro_set (t := x46) (v := bif x46 then (Value.string s_26) else undef) rfl (w_T rfl rfl rfl) (by intro e; have e0 := e; subst e0; exact o_move rfl rfl) (fun e => ⟨gv_f e, rfl⟩) ?_
    refine Ro_set (t := x46) (v := bif x46 then (Value.int .i64 x45) else undef) rfl (w_T rfl rfl rfl) (by intro e; have e0 := e; subst e0; exact o_move rfl rfl) (fun e => ⟨gv_f e, rfl⟩) ?_
    refine Ro_set (t := x46) (v := bif x46 then (Value.int .i64 n_30) else undef) rfl (w_T rfl rfl rfl) (by intro e; have e0 := e; subst e0; exact o_move rfl rfl) (fun e => ⟨gv_f e, rfl⟩) ?_
    obtain ⟨x47, hx47, h⟩ := h.lt
    refine Ro_set (t := x46) (v := bif x46 then (Value.int .i64 x47) else undef) rfl (w_T rfl rfl rfl) (by intro e; have e0 := e; subst e0; exact o_sub rfl rfl rfl hx47) (fun e => ⟨gv_f e, rfl⟩) ?_
    refine Ro_set (t := x46) (v := bif x46 then (Value.int .i64 x45) else undef) rfl (w_T rfl rfl rfl) (by intro e; have e0 := e; subst e0; exact o_move rfl rfl) (fun e => ⟨gv_f e, rfl⟩) ?_
    obtain ⟨x48, hx48, h⟩ := h.bd
    refine Ro_set (t := x46) (v := bif x46 then (Value.string x48) else undef) rfl (w_T rfl rfl rfl) (by intro e; have e0 := e; subst e0; exact o_slS (some x47) (some x45) rfl tu9 rfl rfl rfl hx48) (fun e => ⟨gv_f e, rfl⟩) ?_
    refine Ro_set (t := x46) (v := bif x46 then (Value.string sep_27) else undef) rfl (w_T rfl rfl rfl) (by intro e; have e0 := e; subst e0; exact o_move rfl rfl) (fun e => ⟨gv_f e, rfl⟩) ?_
    obtain ⟨x49, hx49, h⟩ := h.lt
    refine Ro_set (t := x46) (v := bif x46 then (Value.bool x49) else undef) rfl (w_T rfl rfl rfl) (by intro e; have e0 := e; subst e0; exact o_seql rfl rfl rfl hx49) (fun e => ⟨gv_f e, rfl⟩) ?_
    obtain ⟨x50, hx50, h⟩ := h.lt
    refine Ro_v (v := (Value.bool x50)) rfl (o_pick rfl rfl (by intro e; subst e; subst hx50; rfl) (by intro e; subst e; subst hx50; rfl)) ?_
    refine Ro_nil ?_
    refine Fx_cond (a := c37_54) (b := c37_57) rfl rfl (fun ex50 => ?_) (fun ex50 => ?_)
    · replace h := h.ifT ex50
      refine Fx_seq (a := c37_55) (b := c37_56) rfl ?_
      refine Fx_text rfl (by kernel_rfl) ?_
      refine Ro_v (v := (Value.int .i64 x45)) rfl (o_move rfl rfl) ?_
      refine Ro_v (v := (Value.int .i64 n_30)) rfl (o_move rfl rfl) ?_
      obtain ⟨x51, hx51, h⟩ := h.lt
      refine Ro_v (v := (Value.int .i64 x51)) rfl (o_sub rfl rfl rfl hx51) ?_
      refine Ro_v (v := (Value.int .i64 x51)) rfl (o_assign rfl rfl) ?_
      refine Ro_nil ?_
      exact Fx_ret rfl rfl (congrArg some h.sm)
    · replace h := h.ifF ex50
      refine Fx_skip (c := c37_57) rfl ?_
      refine Fx_blk ?_
      exact Fx_forget (Fr.set_of (Fr.set_of (Fr.set_of (Fr.set_of (Fr.set_of (Fr.set_of (Fr.set_of rfl rfl) rfl) rfl) rfl) rfl) rfl) rfl) (h.sm _)
  · replace h := h.ifF ex35
    refine Fx_exit rfl ?_
    refine Fx_out_code ?_
    refine Fx_out_code ?_
    refine Fx_out_eq ?_
    exact Fx_forget rfl (h.sm _)
theorem w37 (s_2 : ByteArray) (sep_3 : ByteArray) (σ : AHeap) (r : Int) (h : G_bytealg_IndexRabinKarp_string s_2 sep_3 = some r) : callL Tryd.prog 37 [(Value.string s_2), (Value.string sep_3)] σ = some ((Value.int .i64 r), σ) := by
  refine callL_walk (fn := Tryd.f37) (c := c37_0) (rs := rs37) Tryd.func37 rfl ok37 rfl rfl ?_
  obtain ⟨out, ho⟩ : ∃ out, out = ((Value.int .i64 r), σ) := ⟨_, rfl⟩
  rw [← ho]
  replace h : OptW (G_bytealg_IndexRabinKarp_string s_2 sep_3) (fun r => ((Value.int .i64 r), σ) = out) := ⟨r, h, ho.symm⟩
  unfold G_bytealg_IndexRabinKarp_string at h
  refine Fx_seq (a := c37_1) (b := c37_2) rfl ?_
  refine Fx_text rfl (by kernel_rfl) ?_
  refine Ro_v (v := (Value.int .i64 (0))) rfl (o_assign rfl rfl) ?_
  refine Ro_nil ?_
  refine Fx_seq (a := c37_3) (b := c37_4) rfl ?_
  refine Fx_text rfl (by kernel_rfl) ?_
  refine Ro_v (v := (Value.string sep_3)) rfl (o_move rfl rfl) ?_
  obtain ⟨⟨x4, x5⟩, hx4, h⟩ := h.bd
  refine Ro_v (v := (Value.tuple #[(Value.int .u32 x4), (Value.int .u32 x5)])) rfl (o_call (vs := [(Value.string sep_3)]) rfl rfl (w43 _ _ _ hx4)) ?_
  refine Ro_v (v := (Value.tuple #[(Value.int .u32 x4), (Value.int .u32 x5)])) rfl (o_move rfl rfl) ?_
  refine Ro_v (v := (Value.int .u32 x4)) rfl (o_ext rfl rfl rfl) ?_
  refine Ro_v (v := (Value.int .u32 x5)) rfl (o_ext rfl rfl rfl) ?_
  refine Ro_v (v := (Value.int .u32 x4)) rfl (o_assign rfl rfl) ?_
  refine Ro_v (v := (Value.int .u32 x5)) rfl (o_assign rfl rfl) ?_
  refine Ro_nil ?_
  refine Fx_seq (a := c37_5) (b := c37_6) rfl ?_
  refine Fx_text rfl (by kernel_rfl) ?_
  refine Ro_v (v := (Value.string sep_3)) rfl (o_move rfl rfl) ?_
  obtain ⟨x6, hx6, h⟩ := h.lt
  refine Ro_v (v := (Value.int .i64 x6)) rfl (o_lenS rfl tu9 rfl hx6) ?_
  refine Ro_v (v := (Value.int .i64 x6)) rfl (o_assign rfl rfl) ?_
  refine Ro_nil ?_
  refine Fx_seq (a := c37_7) (b := c37_8) rfl ?_
  refine Fx_text rfl (by kernel_rfl) ?_
  refine Ro_v (v := (Value.int .u32 (0))) rfl (o_assign rfl rfl) ?_
  refine Ro_nil ?_
  refine Fx_seq (a := c37_9) (b := c37_23) rfl ?_
  refine Fx_seq (a := c37_10) (b := c37_11) rfl ?_
  refine Fx_text rfl (by kernel_rfl) ?_
  refine Ro_v (v := (Value.int .i64 (0))) rfl (o_assign rfl rfl) ?_
  refine Ro_nil ?_
  refine Fx_block (b := c37_12) rfl ?_
  refine Fx_forget (Fr.set_of (Fr.set_of (Fr.set_of (Fr.set_of (Fr.set_of (Fr.set_of (Fr.set_of rfl rfl) rfl) rfl) rfl) rfl) rfl) rfl) ((OptW.loop h (fun s => C37_l1 s_2 sep_3 x4 x5 x6 σ out (.inl s)) ?_ : C37_l1 s_2 sep_3 x4 x5 x6 σ out (.inl ((0), (0)))) _)
  intro s hs f
  obtain ⟨h_12, i_13⟩ := s
  refine q37_l1 s_2 sep_3 x4 x5 x6 h_12 i_13 σ out f (hs.imp ?_)
  intro r hr
  rcases r with y | b
  · exact hr
  · obtain ⟨h_21, rfl⟩ : ∃ x, x = b := ⟨_, rfl⟩
    have h := hr
    intro f
    refine Fx_seq (a := c37_24) (b := c37_31) rfl ?_
    refine Fx_seq (a := c37_25) (b := c37_26) rfl ?_
    refine Fx_text rfl (by kernel_rfl) ?_
    refine Ro_v (v := (Value.int .u32 h_21)) rfl (o_move rfl rfl) ?_
    refine Ro_v (v := (Value.int .u32 x4)) rfl (o_move rfl rfl) ?_
    obtain ⟨x22, hx22, h⟩ := h.lt
    refine Ro_v (v := (Value.bool x22)) rfl (o_eql rfl rfl rfl hx22) ?_
    refine Ro_v (v := (Value.bool x22)) rfl (o_move rfl rfl) ?_
    refine Ro_set (t := x22) (v := bif x22 then (Value.string s_2) else undef) rfl (w_T rfl rfl rfl) (by intro e; have e0 := e; subst e0; exact o_move rfl rfl) (fun e => ⟨gv_f e, rfl⟩) ?_
    refine Ro_set (t := x22) (v := bif x22 then (Value.int .i64 x6) else undef) rfl (w_T rfl rfl rfl) (by intro e; have e0 := e; subst e0; exact o_move rfl rfl) (fun e => ⟨gv_f e, rfl⟩) ?_
    obtain ⟨x23, hx23, h⟩ := h.bd
    refine Ro_set (t := x22) (v := bif x22 then (Value.string x23) else undef) rfl (w_T rfl rfl rfl) (by intro e; have e0 := e; subst e0; exact o_slS none (some x6) rfl tu9 rfl rfl rfl hx23) (fun e => ⟨gv_f e, rfl⟩) ?_
    refine Ro_set (t := x22) (v := bif x22 then (Value.string sep_3) else undef) rfl (w_T rfl rfl rfl) (by intro e; have e0 := e; subst e0; exact o_move rfl rfl) (fun e => ⟨gv_f e, rfl⟩) ?_
    obtain ⟨x24, hx24, h⟩ := h.lt
    refine Ro_set (t := x22) (v := bif x22 then (Value.bool x24) else undef) rfl (w_T rfl rfl rfl) (by intro e; have e0 := e; subst e0; exact o_seql rfl rfl rfl hx24) (fun e => ⟨gv_f e, rfl⟩) ?_
    obtain ⟨x25, hx25, h⟩ := h.lt
    refine Ro_v (v := (Value.bool x25)) rfl (o_pick rfl rfl (by intro e; subst e; subst hx25; rfl) (by intro e; subst e; subst hx25; rfl)) ?_
    refine Ro_nil ?_
    refine Fx_cond (a := c37_27) (b := c37_30) rfl rfl (fun ex25 => ?_) (fun ex25 => ?_)
    · replace h := h.ifT ex25
      refine Fx_seq (a := c37_28) (b := c37_29) rfl ?_
      refine Fx_text rfl (by kernel_rfl) ?_
      refine Ro_v (v := (Value.int .i64 (0))) rfl (o_assign rfl rfl) ?_
      refine Ro_nil ?_
      exact Fx_ret rfl rfl (congrArg some h.sm)
    · replace h := h.ifF ex25
      refine Fx_skip (c := c37_30) rfl ?_
      refine Fx_seq (a := c37_32) (b := c37_58) rfl ?_
      refine Fx_seq (a := c37_33) (b := c37_34) rfl ?_
      refine Fx_text rfl (by kernel_rfl) ?_
      refine Ro_v (v := (Value.int .i64 x6)) rfl (o_move rfl rfl) ?_
      refine Ro_v (v := (Value.int .i64 x6)) rfl (o_assign rfl rfl) ?_
      refine Ro_nil ?_
      refine Fx_block (b := c37_35) rfl ?_
      refine Fx_forget (Fr.set_of (Fr.set_of (Fr.set_of (Fr.set_of (Fr.set_of (Fr.set_of (Fr.set_of rfl rfl) rfl) rfl) rfl) rfl) rfl) rfl) ((OptW.loop h (fun s => C37_l2 s_2 sep_3 x4 x5 x6 σ out (.inl s)) ?_ : C37_l2 s_2 sep_3 x4 x5 x6 σ out (.inl (h_21, x6))) _)
      intro s hs f
      obtain ⟨h_31, i_32⟩ := s
      refine q37_l2 s_2 sep_3 x4 x5 x6 h_31 i_32 σ out f (hs.imp ?_)
      intro r hr
      rcases r with y | b
      · exact hr
      · rcases b with b | b
        · have h := hr
          intro f
          refine Fx_seq (a := c37_59) (b := c37_60) rfl ?_
          refine Fx_text rfl (by kernel_rfl) ?_
          refine Ro_v (v := (Value.int .i64 (-1))) rfl (o_assign rfl rfl) ?_
          refine Ro_nil ?_
          exact Fx_ret rfl rfl (congrArg some h.sm)
        · obtain ⟨x52, rfl⟩ : ∃ x, x = b := ⟨_, rfl⟩
          have h := hr
          exact h.sm
noncomputable def c32_0 : Code := bodyOf Tryd.f32
noncomputable def c32_1 : Code := cl c32_0
noncomputable def c32_2 : Code := cr c32_0
noncomputable def c32_3 : Code := cl c32_2
noncomputable def c32_4 : Code := cr c32_2
noncomputable def c32_5 : Code := cl c32_4
noncomputable def c32_6 : Code := cl c32_5
noncomputable def c32_7 : Code := cl c32_6
noncomputable def c32_8 : Code := cr c32_6
noncomputable def c32_9 : Code := cl c32_8
noncomputable def c32_10 : Code := cl c32_9
noncomputable def c32_11 : Code := cr c32_9
noncomputable def c32_12 : Code := cr c32_8
noncomputable def c32_13 : Code := cl c32_12
noncomputable def c32_14 : Code := cr c32_12
noncomputable def c32_15 : Code := cl c32_14
noncomputable def c32_16 : Code := cl c32_15
noncomputable def c32_17 : Code := cr c32_15
noncomputable def c32_18 : Code := cr c32_14
noncomputable def c32_19 : Code := cl c32_18
noncomputable def c32_20 : Code := cr c32_18
noncomputable def c32_21 : Code := cl c32_20
noncomputable def c32_22 : Code := cl c32_21
noncomputable def c32_23 : Code := cr c32_21
noncomputable def c32_24 : Code := cr c32_20
noncomputable def c32_25 : Code := cl c32_24
noncomputable def c32_26 : Code := cr c32_24
noncomputable def c32_27 : Code := cl c32_26
noncomputable def c32_28 : Code := cl c32_27
noncomputable def c32_29 : Code := cr c32_27
noncomputable def c32_30 : Code := cr c32_26
noncomputable def c32_31 : Code := cr c32_4
noncomputable def c32_32 : Code := cl c32_31
noncomputable def c32_33 : Code := cr c32_31
noncomputable def c32_34 : Code := cl c32_33
noncomputable def c32_35 : Code := cr c32_33
noncomputable def c32_36 : Code := cl c32_35
noncomputable def c32_37 : Code := cr c32_35
noncomputable def c32_38 : Code := cl c32_37
noncomputable def c32_39 : Code := cr c32_37
noncomputable def c32_40 : Code := cl c32_39
noncomputable def c32_41 : Code := cr c32_39
noncomputable def c32_42 : Code := cl c32_41
noncomputable def c32_43 : Code := cl c32_42
noncomputable def c32_44 : Code := cl c32_43
noncomputable def c32_45 : Code := cl c32_44
noncomputable def c32_46 : Code := cl c32_45
noncomputable def c32_47 : Code := cr c32_45
noncomputable def c32_48 : Code := cl c32_47
noncomputable def c32_49 : Code := cr c32_47
noncomputable def c32_50 : Code := cr c32_44
noncomputable def c32_51 : Code := cl c32_50
noncomputable def c32_52 : Code := cl c32_51
noncomputable def c32_53 : Code := cl c32_52
noncomputable def c32_54 : Code := cr c32_52
noncomputable def c32_55 : Code := cl c32_54
noncomputable def c32_56 : Code := cl c32_55
noncomputable def c32_57 : Code := cr c32_55
noncomputable def c32_58 : Code := cl c32_57
noncomputable def c32_59 : Code := cl c32_58
noncomputable def c32_60 : Code := cr c32_58
noncomputable def c32_61 : Code := cl c32_60
noncomputable def c32_62 : Code := cl c32_61
noncomputable def c32_63 : Code := cr c32_61
noncomputable def c32_64 : Code := cr c32_60
noncomputable def c32_65 : Code := cr c32_57
noncomputable def c32_66 : Code := cr c32_54
noncomputable def c32_67 : Code := cr c32_51
noncomputable def c32_68 : Code := cl c32_67
noncomputable def c32_69 : Code := cl c32_68
noncomputable def c32_70 : Code := cr c32_68
noncomputable def c32_71 : Code := cl c32_70
noncomputable def c32_72 : Code := cl c32_71
noncomputable def c32_73 : Code := cr c32_71
noncomputable def c32_74 : Code := cr c32_70
noncomputable def c32_75 : Code := cr c32_67
noncomputable def c32_76 : Code := cl c32_75
noncomputable def c32_77 : Code := cr c32_75
noncomputable def c32_78 : Code := cl c32_77
noncomputable def c32_79 : Code := cr c32_77
noncomputable def c32_80 : Code := cl c32_79
noncomputable def c32_81 : Code := cr c32_79
noncomputable def c32_82 : Code := cl c32_81
noncomputable def c32_83 : Code := cl c32_82
noncomputable def c32_84 : Code := cr c32_82
noncomputable def c32_85 : Code := cl c32_84
noncomputable def c32_86 : Code := cl c32_85
noncomputable def c32_87 : Code := cr c32_85
noncomputable def c32_88 : Code := cl c32_87
noncomputable def c32_89 : Code := cl c32_88
noncomputable def c32_90 : Code := cr c32_88
noncomputable def c32_91 : Code := cr c32_87
noncomputable def c32_92 : Code := cr c32_84
noncomputable def c32_93 : Code := cl c32_92
noncomputable def c32_94 : Code := cr c32_92
noncomputable def c32_95 : Code := cr c32_81
noncomputable def c32_96 : Code := cl c32_95
noncomputable def c32_97 : Code := cr c32_95
noncomputable def c32_98 : Code := cl c32_97
noncomputable def c32_99 : Code := cl c32_98
noncomputable def c32_100 : Code := cr c32_98
noncomputable def c32_101 : Code := cl c32_100
noncomputable def c32_102 : Code := cl c32_101
noncomputable def c32_103 : Code := cr c32_101
noncomputable def c32_104 : Code := cl c32_103
noncomputable def c32_105 : Code := cl c32_104
noncomputable def c32_106 : Code := cr c32_104
noncomputable def c32_107 : Code := cr c32_103
noncomputable def c32_108 : Code := cr c32_100
noncomputable def c32_109 : Code := cl c32_108
noncomputable def c32_110 : Code := cr c32_108
noncomputable def c32_111 : Code := cr c32_97
noncomputable def c32_112 : Code := cr c32_41
noncomputable def c32_113 : Code := cl c32_112
noncomputable def c32_114 : Code := cr c32_112
theorem ok32 : funcOk Tryd.f32 = true := by kernel_rfl
noncomputable def rs32 : List ResultVar := resultsOf Tryd.f32
theorem w32 (s_2 : ByteArray) (substr_3 : ByteArray) (σ : AHeap) (r : Int) (h : G_stringslite_Index s_2 substr_3 σ = some r) : callL Tryd.prog 32 [(Value.string s_2), (Value.string substr_3)] σ = some ((Value.int .i64 r), σ) := by
  refine callL_walk (fn := Tryd.f32) (c := c32_0) (rs := rs32) Tryd.func32 rfl ok32 rfl rfl ?_
  obtain ⟨out, ho⟩ : ∃ out, out = ((Value.int .i64 r), σ) := ⟨_, rfl⟩
  rw [← ho]
  replace h : OptW (G_stringslite_Index s_2 substr_3 σ) (fun r => ((Value.int .i64 r), σ) = out) := ⟨r, h, ho.symm⟩
  unfold G_stringslite_Index at h
  refine Fx_seq (a := c32_1) (b := c32_2) rfl ?_
  refine Fx_text rfl (by kernel_rfl) ?_
  refine Ro_v (v := (Value.int .i64 (0))) rfl (o_assign rfl rfl) ?_
  refine Ro_nil ?_
  refine Fx_seq (a := c32_3) (b := c32_4) rfl ?_
  refine Fx_text rfl (by kernel_rfl) ?_
  refine Ro_v (v := (Value.string substr_3)) rfl (o_move rfl rfl) ?_
  obtain ⟨x4, hx4, h⟩ := h.lt
  refine Ro_v (v := (Value.int .i64 x4)) rfl (o_lenS rfl tu9 rfl hx4) ?_
  refine Ro_v (v := (Value.int .i64 x4)) rfl (o_assign rfl rfl) ?_
  refine Ro_nil ?_
  refine Fx_seq (a := c32_5) (b := c32_31) rfl ?_
  refine Fx_block (b := c32_6) rfl ?_
  refine Fx_seq (a := c32_7) (b := c32_8) rfl ?_
  refine Fx_text rfl (by kernel_rfl) ?_
  refine Ro_v (v := (Value.int .i64 x4)) rfl (o_move rfl rfl) ?_
  obtain ⟨x5, hx5, h⟩ := h.lt
  refine Ro_v (v := (Value.bool x5)) rfl (o_eql rfl rfl rfl hx5) ?_
  refine Ro_v (v := (Value.bool x5)) rfl (o_move rfl rfl) ?_
  refine Ro_set (t := !x5) (v := bif !x5 then (Value.string substr_3) else undef) rfl (w_F rfl rfl rfl) (by intro e; have e0 := not_t (e); subst e0; exact o_move rfl rfl) (fun e => ⟨gv_f e, rfl⟩) ?_
  refine Ro_set (t := !x5) (v := bif !x5 then (Value.string s_2) else undef) rfl (w_F rfl rfl rfl) (by intro e; have e0 := not_t (e); subst e0; exact o_move rfl rfl) (fun e => ⟨gv_f e, rfl⟩) ?_
  obtain ⟨x6, hx6, h⟩ := h.lt
  refine Ro_set (t := !x5) (v := bif !x5 then (Value.bool x6) else undef) rfl (w_F rfl rfl rfl) (by intro e; have e0 := not_t (e); subst e0; exact o_seql rfl rfl rfl hx6) (fun e => ⟨gv_f e, rfl⟩) ?_
  obtain ⟨x7, hx7, h⟩ := h.lt
  refine Ro_v (v := (Value.bool x7)) rfl (o_pick rfl rfl (by intro e; subst e; subst hx7; rfl) (by intro e; subst e; subst hx7; rfl)) ?_
  refine Ro_v (v := (Value.bool x7)) rfl (o_assign rfl rfl) ?_
  refine Ro_nil ?_
  refine Fx_cond (a := c32_9) (b := c32_12) rfl rfl (fun ex7 => ?_) (fun ex7 => ?_)
  · replace h := h.ifT ex7
    refine Fx_seq (a := c32_10) (b := c32_11) rfl ?_
    refine Fx_text rfl (by kernel_rfl) ?_
    refine Ro_v (v := (Value.int .i64 (0))) rfl (o_assign rfl rfl) ?_
    refine Ro_nil ?_
    exact Fx_ret rfl rfl (congrArg some h.sm)
  · replace h := h.ifF ex7
    refine Fx_seq (a := c32_13) (b := c32_14) rfl ?_
    refine Fx_text rfl (by kernel_rfl) ?_
    refine Ro_v (v := (Value.int .i64 x4)) rfl (o_move rfl rfl) ?_
    obtain ⟨x8, hx8, h⟩ := h.lt
    refine Ro_v (v := (Value.bool x8)) rfl (o_eql rfl rfl rfl hx8) ?_
    refine Ro_v (v := (Value.bool x8)) rfl (o_assign rfl rfl) ?_
    refine Ro_nil ?_
    refine Fx_cond (a := c32_15) (b := c32_18) rfl rfl (fun ex8 => ?_) (fun ex8 => ?_)
    · replace h := h.ifT ex8
      refine Fx_seq (a := c32_16) (b := c32_17) rfl ?_
      refine Fx_text rfl (by kernel_rfl) ?_
      refine Ro_v (v := (Value.string s_2)) rfl (o_move rfl rfl) ?_
      refine Ro_v (v := (Value.string substr_3)) rfl (o_move rfl rfl) ?_
      obtain ⟨x9, hx9, h⟩ := h.bd
      refine Ro_v (v := (Value.int .u8 x9)) rfl (o_idxS rfl tu9 rfl rfl hx9) ?_
      obtain ⟨x10, hx10, h⟩ := h.bd
      refine Ro_v (v := (Value.int .i64 x10)) rfl (o_call (vs := [(Value.string s_2), (Value.int .u8 x9)]) rfl rfl (w34 _ _ _ _ hx10)) ?_
      refine Ro_v (v := (Value.int .i64 x10)) rfl (o_assign rfl rfl) ?_
      refine Ro_nil ?_
      exact Fx_ret rfl rfl (congrArg some h.sm)
    · replace h := h.ifF ex8
      refine Fx_seq (a := c32_19) (b := c32_20) rfl ?_
      refine Fx_text rfl (by kernel_rfl) ?_
      refine Ro_v (v := (Value.int .i64 x4)) rfl (o_move rfl rfl) ?_
      refine Ro_v (v := (Value.string s_2)) rfl (o_move rfl rfl) ?_
      obtain ⟨x11, hx11, h⟩ := h.lt
      refine Ro_v (v := (Value.int .i64 x11)) rfl (o_lenS rfl tu9 rfl hx11) ?_
      obtain ⟨x12, hx12, h⟩ := h.lt
      refine Ro_v (v := (Value.bool x12)) rfl (o_geq rfl rfl rfl hx12) ?_
      refine Ro_v (v := (Value.bool x12)) rfl (o_assign rfl rfl) ?_
      refine Ro_nil ?_
      refine Fx_cond (a := c32_21) (b := c32_24) rfl rfl (fun ex12 => ?_) (fun ex12 => ?_)
      · replace h := h.ifT ex12
        refine Fx_seq (a := c32_22) (b := c32_23) rfl ?_
        refine Fx_text rfl (by kernel_rfl) ?_
        refine Ro_v (v := (Value.int .i64 (-1))) rfl (o_assign rfl rfl) ?_
        refine Ro_nil ?_
        exact Fx_ret rfl rfl (congrArg some h.sm)
      · replace h := h.ifF ex12
        exact h.nn.elim
noncomputable def c30_0 : Code := bodyOf Tryd.f30
noncomputable def c30_1 : Code := cl c30_0
noncomputable def c30_2 : Code := cr c30_0
noncomputable def c30_3 : Code := cl c30_2
noncomputable def c30_4 : Code := cl c30_3
noncomputable def c30_5 : Code := cr c30_3
noncomputable def c30_6 : Code := cl c30_5
noncomputable def c30_7 : Code := cr c30_5
noncomputable def c30_8 : Code := cl c30_7
noncomputable def c30_9 : Code := cl c30_8
noncomputable def c30_10 : Code := cr c30_8
noncomputable def c30_11 : Code := cr c30_7
noncomputable def c30_12 : Code := cr c30_2
noncomputable def c30_13 : Code := cl c30_12
noncomputable def c30_14 : Code := cr c30_12
theorem ok30 : funcOk Tryd.f30 = true := by kernel_rfl
noncomputable def rs30 : List ResultVar := resultsOf Tryd.f30
theorem w30 (s_4 : ByteArray) (sep_5 : ByteArray) (σ : AHeap) (r : (ByteArray × ByteArray × Bool)) (h : G_stringslite_Cut s_4 sep_5 σ = some r) : callL Tryd.prog 30 [(Value.string s_4), (Value.string sep_5)] σ = some ((Value.tuple #[(Value.string r.1), (Value.string r.2.1), (Value.bool r.2.2)]), σ) := by
  refine callL_walk (fn := Tryd.f30) (c := c30_0) (rs := rs30) Tryd.func30 rfl ok30 rfl rfl ?_
  obtain ⟨out, ho⟩ : ∃ out, out = ((Value.tuple #[(Value.string r.1), (Value.string r.2.1), (Value.bool r.2.2)]), σ) := ⟨_, rfl⟩
  rw [← ho]
  replace h : OptW (G_stringslite_Cut s_4 sep_5 σ) (fun r => ((Value.tuple #[(Value.string r.1), (Value.string r.2.1), (Value.bool r.2.2)]), σ) = out) := ⟨r, h, ho.symm⟩
  unfold G_stringslite_Cut at h
  refine Fx_seq (a := c30_1) (b := c30_2) rfl ?_
  refine Fx_text rfl (by kernel_rfl) ?_
  refine Ro_v (v := (Value.string (⟨#[]⟩ : ByteArray))) rfl (o_assign rfl rfl) ?_
  refine Ro_v (v := (Value.string (⟨#[]⟩ : ByteArray))) rfl (o_assign rfl rfl) ?_
  refine Ro_v (v := (Value.bool false)) rfl (o_assign rfl rfl) ?_
  refine Ro_nil ?_
  refine Fx_seq (a := c30_3) (b := c30_12) rfl ?_
  refine Fx_seq (a := c30_4) (b := c30_5) rfl ?_
  refine Fx_text rfl (by kernel_rfl) ?_
  refine Ro_v (v := (Value.string s_4)) rfl (o_move rfl rfl) ?_
  refine Ro_v (v := (Value.string sep_5)) rfl (o_move rfl rfl) ?_
  obtain ⟨x6, hx6, h⟩ := h.bd
  refine Ro_v (v := (Value.int .i64 x6)) rfl (o_call (vs := [(Value.string s_4), (Value.string sep_5)]) rfl rfl (w32 _ _ _ _ hx6)) ?_
  refine Ro_v (v := (Value.int .i64 x6)) rfl (o_assign rfl rfl) ?_
  refine Ro_nil ?_
  refine Fx_seq (a := c30_6) (b := c30_7) rfl ?_
  refine Fx_text rfl (by kernel_rfl) ?_
  refine Ro_v (v := (Value.int .i64 x6)) rfl (o_move rfl rfl) ?_
  obtain ⟨x7, hx7, h⟩ := h.lt
  refine Ro_v (v := (Value.bool x7)) rfl (o_geq rfl rfl rfl hx7) ?_
  refine Ro_nil ?_
  refine Fx_cond (a := c30_8) (b := c30_11) rfl rfl (fun ex7 => ?_) (fun ex7 => ?_)
  · replace h := h.ifT ex7
    refine Fx_seq (a := c30_9) (b := c30_10) rfl ?_
    refine Fx_draw (ops := opsIn c30_9) (l := [(opA (opsIn c30_9) 0, 0), (opA (opsIn c30_9) 1, 1), (opA (opsIn c30_9) 2, 2), (opA (opsIn c30_9) 3, 3), (opA (opsIn c30_9) 4, 4), (opA (opsIn c30_9) 5, 5), (opA (opsIn c30_9) 6, 6), (opA (opsIn c30_9) 7, 7), (opA (opsIn c30_9) 8, 8), (opA (opsIn c30_9) 9, 9), (opA (opsIn c30_9) 10, 10), (opA (opsIn c30_9) 11, 11)]) rfl (by kernel_rfl) (by kernel_rfl) (by kernel_rfl) ?_
    refine Rd_v (v := (Value.string s_4)) (ps' := []) rfl (o_move rfl rfl) (reads_no rfl) rfl ?_
    refine Rd_v (v := (Value.int .i64 x6)) (ps' := []) rfl (o_move rfl rfl) (reads_no rfl) rfl ?_
    obtain ⟨x8, hx8, h⟩ := h.bd
    refine Rd_v (v := (Value.string x8)) (ps' := []) rfl (o_slS none (some x6) rfl tu9 rfl rfl rfl hx8) reads_nil rfl ?_
    refine Rd_v (v := (Value.string s_4)) (ps' := []) rfl (o_move rfl rfl) (reads_no rfl) rfl ?_
    refine Rd_v (v := (Value.int .i64 x6)) (ps' := []) rfl (o_move rfl rfl) (reads_no rfl) rfl ?_
    refine Rd_v (v := (Value.string sep_5)) (ps' := []) rfl (o_move rfl rfl) (reads_no rfl) rfl ?_
    obtain ⟨x9, hx9, h⟩ := h.lt
    refine Rd_v (v := (Value.int .i64 x9)) (ps' := []) rfl (o_lenS rfl tu9 rfl hx9) reads_nil rfl ?_
    obtain ⟨x10, hx10, h⟩ := h.lt
    refine Rd_v (v := (Value.int .i64 x10)) (ps' := []) rfl (o_add rfl rfl rfl hx10) (reads_no rfl) rfl ?_
    obtain ⟨x11, hx11, h⟩ := h.bd
    refine Rd_v (v := (Value.string x11)) (ps' := []) rfl (o_slS (some x10) none rfl tu9 rfl rfl rfl hx11) reads_nil rfl ?_
    refine Rd_v (v := (Value.string x8)) (ps' := []) rfl (o_assign rfl rfl) (reads_no rfl) rfl ?_
    refine Rd_v (v := (Value.string x11)) (ps' := []) rfl (o_assign rfl rfl) (reads_no rfl) rfl ?_
    refine Rd_v (v := (Value.bool true)) (ps' := []) rfl (o_assign rfl rfl) (reads_no rfl) rfl ?_
    refine Rd_nil ?_
    exact Fx_ret rfl rfl (congrArg some h.sm)
  · replace h := h.ifF ex7
    refine Fx_skip (c := c30_11) rfl ?_
    refine Fx_seq (a := c30_13) (b := c30_14) rfl ?_
    refine Fx_text rfl (by kernel_rfl) ?_
    refine Ro_v (v := (Value.string s_4)) rfl (o_move rfl rfl) ?_
    refine Ro_v (v := (Value.string s_4)) rfl (o_assign rfl rfl) ?_
    refine Ro_v (v := (Value.string (⟨#[]⟩ : ByteArray))) rfl (o_assign rfl rfl) ?_
    refine Ro_v (v := (Value.bool false)) rfl (o_assign rfl rfl) ?_
    refine Ro_nil ?_
    exact Fx_ret rfl rfl (congrArg some h.sm)
noncomputable def c25_0 : Code := bodyOf Tryd.f25
noncomputable def c25_1 : Code := cl c25_0
noncomputable def c25_2 : Code := cr c25_0
noncomputable def c25_3 : Code := cl c25_2
noncomputable def c25_4 : Code := cr c25_2
theorem ok25 : funcOk Tryd.f25 = true := by kernel_rfl
noncomputable def rs25 : List ResultVar := resultsOf Tryd.f25
theorem w25 (s_4 : ByteArray) (sep_5 : ByteArray) (σ : AHeap) (r : (ByteArray × ByteArray × Bool)) (h : G_strings_Cut s_4 sep_5 σ = some r) : callL Tryd.prog 25 [(Value.string s_4), (Value.string sep_5)] σ = some ((Value.tuple #[(Value.string r.1), (Value.string r.2.1), (Value.bool r.2.2)]), σ) := by
  refine callL_walk (fn := Tryd.f25) (c := c25_0) (rs := rs25) Tryd.func25 rfl ok25 rfl rfl ?_
  obtain ⟨out, ho⟩ : ∃ out, out = ((Value.tuple #[(Value.string r.1), (Value.string r.2.1), (Value.bool r.2.2)]), σ) := ⟨_, rfl⟩
  rw [← ho]
  replace h : OptW (G_strings_Cut s_4 sep_5 σ) (fun r => ((Value.tuple #[(Value.string r.1), (Value.string r.2.1), (Value.bool r.2.2)]), σ) = out) := ⟨r, h, ho.symm⟩
  unfold G_strings_Cut at h
  refine Fx_seq (a := c25_1) (b := c25_2) rfl ?_
  refine Fx_text rfl (by kernel_rfl) ?_
  refine Ro_v (v := (Value.string (⟨#[]⟩ : ByteArray))) rfl (o_assign rfl rfl) ?_
  refine Ro_v (v := (Value.string (⟨#[]⟩ : ByteArray))) rfl (o_assign rfl rfl) ?_
  refine Ro_v (v := (Value.bool false)) rfl (o_assign rfl rfl) ?_
  refine Ro_nil ?_
  refine Fx_seq (a := c25_3) (b := c25_4) rfl ?_
  refine Fx_text rfl (by kernel_rfl) ?_
  refine Ro_v (v := (Value.string s_4)) rfl (o_move rfl rfl) ?_
  refine Ro_v (v := (Value.string sep_5)) rfl (o_move rfl rfl) ?_
  obtain ⟨⟨x6, x7, x8⟩, hx6, h⟩ := h.bd
  refine Ro_v (v := (Value.tuple #[(Value.string x6), (Value.string x7), (Value.bool x8)])) rfl (o_call (vs := [(Value.string s_4), (Value.string sep_5)]) rfl rfl (w30 _ _ _ _ hx6)) ?_
  refine Ro_v (v := (Value.string x6)) rfl (o_ext rfl rfl rfl) ?_
  refine Ro_v (v := (Value.string x7)) rfl (o_ext rfl rfl rfl) ?_
  refine Ro_v (v := (Value.bool x8)) rfl (o_ext rfl rfl rfl) ?_
  refine Ro_v (v := (Value.string x6)) rfl (o_assign rfl rfl) ?_
  refine Ro_v (v := (Value.string x7)) rfl (o_assign rfl rfl) ?_
  refine Ro_v (v := (Value.bool x8)) rfl (o_assign rfl rfl) ?_
  refine Ro_nil ?_
  exact Fx_ret rfl rfl (congrArg some h.sm)
noncomputable def c26_0 : Code := bodyOf Tryd.f26
noncomputable def c26_1 : Code := cl c26_0
noncomputable def c26_2 : Code := cr c26_0
noncomputable def c26_3 : Code := cl c26_2
noncomputable def c26_4 : Code := cl c26_3
noncomputable def c26_5 : Code := cr c26_3
noncomputable def c26_6 : Code := cl c26_5
noncomputable def c26_7 : Code := cl c26_6
noncomputable def c26_8 : Code := cr c26_6
noncomputable def c26_9 : Code := cr c26_5
noncomputable def c26_10 : Code := cr c26_2
noncomputable def c26_11 : Code := cl c26_10
noncomputable def c26_12 : Code := cr c26_10
noncomputable def c26_13 : Code := cl c26_12
noncomputable def c26_14 : Code := cl c26_13
noncomputable def c26_15 : Code := cr c26_13
noncomputable def c26_16 : Code := cl c26_15
noncomputable def c26_17 : Code := cl c26_16
noncomputable def c26_18 : Code := cl c26_17
noncomputable def c26_19 : Code := cl c26_18
noncomputable def c26_20 : Code := cr c26_18
noncomputable def c26_21 : Code := cl c26_20
noncomputable def c26_22 : Code := cr c26_20
noncomputable def c26_23 : Code := cr c26_17
noncomputable def c26_24 : Code := cl c26_23
noncomputable def c26_25 : Code := cl c26_24
noncomputable def c26_26 : Code := cl c26_25
noncomputable def c26_27 : Code := cl c26_26
noncomputable def c26_28 : Code := cr c26_26
noncomputable def c26_29 : Code := cl c26_28
noncomputable def c26_30 : Code := cl c26_29
noncomputable def c26_31 : Code := cr c26_29
noncomputable def c26_32 : Code := cr c26_28
noncomputable def c26_33 : Code := cr c26_25
noncomputable def c26_34 : Code := cr c26_23
noncomputable def c26_35 : Code := cr c26_12
noncomputable def c26_36 : Code := cl c26_35
noncomputable def c26_37 : Code := cr c26_35
theorem ok26 : funcOk Tryd.f26 = true := by kernel_rfl
noncomputable def rs26 : List ResultVar := resultsOf Tryd.f26
noncomputable def C26_l1 (s_11 : ByteArray) (σ : AHeap) (out : Value × AHeap) : (Int × Int) ⊕ (Int ⊕ (Int × Bool)) → Prop
  | .inl (n_12, i_13) => ∀ f, Fx Tryd.prog rs26 [.code c26_16, .blk 0, .code c26_35] .normal (Fr.set (Fr.set (Fr.set f 0 (Value.string s_11)) 4 (Value.int .i64 n_12)) 5 (Value.int .i64 i_13)) σ = some out
  | .inr (.inl n_14) => ∀ f, Fx Tryd.prog rs26 [.code c26_35] .normal (Fr.set f 4 (Value.int .i64 n_14)) σ = some out
  | .inr (.inr (x15, x16)) => ((Value.tuple #[(Value.int .i64 x15), (Value.bool x16)]), σ) = out
theorem q26_l1 (s_11 : ByteArray) (n_12 : Int) (i_13 : Int) (σ : AHeap) (out : Value × AHeap) (f : Fr) (h : OptW (G_ident_number_l1 s_11 (n_12, i_13)) (C26_l1 s_11 σ out)) :
    Fx Tryd.prog rs26 [.code c26_16, .blk 0, .code c26_35] .normal (Fr.set (Fr.set (Fr.set f 0 (Value.string s_11)) 4 (Value.int .i64 n_12)) 5 (Value.int .i64 i_13)) σ = some out := by
  unfold G_ident_number_l1 at h
  refine Fx_loop (b := c26_17) rfl ?_
  refine Fx_seq (a := c26_18) (b := c26_23) rfl ?_
  refine Fx_seq (a := c26_19) (b := c26_20) rfl ?_
  refine Fx_text rfl (by kernel_rfl) ?_
  refine Ro_v (v := (Value.int .i64 i_13)) rfl (o_move rfl rfl) ?_
  refine Ro_v (v := (Value.string s_11)) rfl (o_move rfl rfl) ?_
  obtain ⟨x17, hx17, h⟩ := h.lt
  refine Ro_v (v := (Value.int .i64 x17)) rfl (o_lenS rfl tu9 rfl hx17) ?_
  obtain ⟨x18, hx18, h⟩ := h.lt
  refine Ro_v (v := (Value.bool x18)) rfl (o_lss rfl rfl rfl hx18) ?_
  refine Ro_nil ?_
  refine Fx_cond (a := c26_21) (b := c26_22) rfl rfl (fun ex18 => ?_) (fun ex18 => ?_)
  · replace h := h.ifT ex18
    refine Fx_skip (c := c26_21) rfl ?_
    refine Fx_seq (a := c26_24) (b := c26_34) rfl ?_
    refine Fx_block (b := c26_25) rfl ?_
    refine Fx_seq (a := c26_26) (b := c26_33) rfl ?_
    refine Fx_seq (a := c26_27) (b := c26_28) rfl ?_
    refine Fx_text rfl (by kernel_rfl) ?_
    refine Ro_v (v := (Value.string s_11)) rfl (o_move rfl rfl) ?_
    refine Ro_v (v := (Value.int .i64 i_13)) rfl (o_move rfl rfl) ?_
    obtain ⟨x19, hx19, h⟩ := h.bd
    refine Ro_v (v := (Value.int .u8 x19)) rfl (o_idxS rfl tu9 rfl rfl hx19) ?_
    obtain ⟨x20, hx20, h⟩ := h.lt
    refine Ro_v (v := (Value.bool x20)) rfl (o_lss rfl rfl rfl hx20) ?_
    refine Ro_v (v := (Value.bool x20)) rfl (o_move rfl rfl) ?_
    refine Ro_set (t := !x20) (v := bif !x20 then (Value.string s_11) else undef) rfl (w_F rfl rfl rfl) (by intro e; have e0 := not_t (e); subst e0; exact o_move rfl rfl) (fun e => ⟨gv_f e, rfl⟩) ?_
    refine Ro_set (t := !x20) (v := bif !x20 then (Value.int .i64 i_13) else undef) rfl (w_F rfl rfl rfl) (by intro e; have e0 := not_t (e); subst e0; exact o_move rfl rfl) (fun e => ⟨gv_f e, rfl⟩) ?_
    obtain ⟨x21, hx21, h⟩ := h.bd
    refine Ro_set (t := !x20) (v := bif !x20 then (Value.int .u8 x21) else undef) rfl (w_F rfl rfl rfl) (by intro e; have e0 := not_t (e); subst e0; exact o_idxS rfl tu9 rfl rfl hx21) (fun e => ⟨gv_f e, rfl⟩) ?_
    obtain ⟨x22, hx22, h⟩ := h.lt
    refine Ro_set (t := !x20) (v := bif !x20 then (Value.bool x22) else undef) rfl (w_F rfl rfl rfl) (by intro e; have e0 := not_t (e); subst e0; exact o_gtr rfl rfl rfl hx22) (fun e => ⟨gv_f e, rfl⟩) ?_
    obtain ⟨x23, hx23, h⟩ := h.lt
    refine Ro_v (v := (Value.bool x23)) rfl (o_pick rfl rfl (by intro e; subst e; subst hx23; rfl) (by intro e; subst e; subst hx23; rfl)) ?_
    refine Ro_nil ?_
    refine Fx_cond (a := c26_29) (b := c26_32) rfl rfl (fun ex23 => ?_) (fun ex23 => ?_)
    · replace h := h.ifT ex23
      refine Fx_seq (a := c26_30) (b := c26_31) rfl ?_
      refine Fx_text rfl (by kernel_rfl) ?_
      refine Ro_v (v := (Value.int .i64 (0))) rfl (o_assign rfl rfl) ?_
      refine Ro_v (v := (Value.bool false)) rfl (o_assign rfl rfl) ?_
      refine Ro_nil ?_
      exact Fx_ret rfl rfl (congrArg some h.sm)
    · replace h := h.ifF ex23
      refine Fx_skip (c := c26_32) rfl ?_
      refine Fx_text rfl (by kernel_rfl) ?_
      refine Ro_v (v := (Value.int .i64 n_12)) rfl (o_move rfl rfl) ?_
      obtain ⟨x24, hx24, h⟩ := h.lt
      refine Ro_v (v := (Value.int .i64 x24)) rfl (o_mul rfl rfl rfl hx24) ?_
      refine Ro_v (v := (Value.string s_11)) rfl (o_move rfl rfl) ?_
      refine Ro_v (v := (Value.int .i64 i_13)) rfl (o_move rfl rfl) ?_
      obtain ⟨x25, hx25, h⟩ := h.bd
      refine Ro_v (v := (Value.int .u8 x25)) rfl (o_idxS rfl tu9 rfl rfl hx25) ?_
      obtain ⟨x26, hx26, h⟩ := h.lt
      refine Ro_v (v := (Value.int .u8 x26)) rfl (o_sub rfl rfl rfl hx26) ?_
      obtain ⟨x27, hx27, h⟩ := h.lt
      refine Ro_v (v := (Value.int .i64 x27)) rfl (o_convI rfl tu5 tu3 rfl hx27) ?_
      obtain ⟨x28, hx28, h⟩ := h.lt
      refine Ro_v (v := (Value.int .i64 x28)) rfl (o_add rfl rfl rfl hx28) ?_
      refine Ro_v (v := (Value.int .i64 x28)) rfl (o_assign rfl rfl) ?_
      refine Ro_nil ?_
      refine Fx_blk ?_
      refine Fx_text rfl (by kernel_rfl) ?_
      refine Ro_v (v := (Value.int .i64 i_13)) rfl (o_move rfl rfl) ?_
      obtain ⟨x29, hx29, h⟩ := h.lt
      refine Ro_v (v := (Value.int .i64 x29)) rfl (o_add rfl rfl rfl hx29) ?_
      refine Ro_v (v := (Value.int .i64 x29)) rfl (o_assign rfl rfl) ?_
      refine Ro_nil ?_
      exact Fx_forget (Fr.set_of (Fr.set_of (Fr.set_of rfl rfl) rfl) rfl) (h.sm _)
  · replace h := h.ifF ex18
    refine Fx_exit rfl ?_
    refine Fx_out_code ?_
    refine Fx_out_code ?_
    refine Fx_out_eq ?_
    exact Fx_forget (Fr.set_of rfl rfl) (h.sm _)
theorem w26 (s_3 : ByteArray) (σ : AHeap) (r : (Int × Bool)) (h : G_ident_number s_3 = some r) : callL Tryd.prog 26 [(Value.string s_3)] σ = some ((Value.tuple #[(Value.int .i64 r.1), (Value.bool r.2)]), σ) := by
  refine callL_walk (fn := Tryd.f26) (c := c26_0) (rs := rs26) Tryd.func26 rfl ok26 rfl rfl ?_
  obtain ⟨out, ho⟩ : ∃ out, out = ((Value.tuple #[(Value.int .i64 r.1), (Value.bool r.2)]), σ) := ⟨_, rfl⟩
  rw [← ho]
  replace h : OptW (G_ident_number s_3) (fun r => ((Value.tuple #[(Value.int .i64 r.1), (Value.bool r.2)]), σ) = out) := ⟨r, h, ho.symm⟩
  unfold G_ident_number at h
  refine Fx_seq (a := c26_1) (b := c26_2) rfl ?_
  refine Fx_text rfl (by kernel_rfl) ?_
  refine Ro_v (v := (Value.int .i64 (0))) rfl (o_assign rfl rfl) ?_
  refine Ro_v (v := (Value.bool false)) rfl (o_assign rfl rfl) ?_
  refine Ro_nil ?_
  refine Fx_seq (a := c26_3) (b := c26_10) rfl ?_
  refine Fx_seq (a := c26_4) (b := c26_5) rfl ?_
  refine Fx_text rfl (by kernel_rfl) ?_
  refine Ro_v (v := (Value.string s_3)) rfl (o_move rfl rfl) ?_
  obtain ⟨x4, hx4, h⟩ := h.lt
  refine Ro_v (v := (Value.bool x4)) rfl (o_seql rfl rfl rfl hx4) ?_
  refine Ro_v (v := (Value.bool x4)) rfl (o_move rfl rfl) ?_
  refine Ro_set (t := !x4) (v := bif !x4 then (Value.string s_3) else undef) rfl (w_F rfl rfl rfl) (by intro e; have e0 := not_t (e); subst e0; exact o_move rfl rfl) (fun e => ⟨gv_f e, rfl⟩) ?_
  obtain ⟨x5, hx5, h⟩ := h.lt
  refine Ro_set (t := !x4) (v := bif !x4 then (Value.int .i64 x5) else undef) rfl (w_F rfl rfl rfl) (by intro e; have e0 := not_t (e); subst e0; exact o_lenS rfl tu9 rfl hx5) (fun e => ⟨gv_f e, rfl⟩) ?_
  obtain ⟨x6, hx6, h⟩ := h.lt
  refine Ro_set (t := !x4) (v := bif !x4 then (Value.bool x6) else undef) rfl (w_F rfl rfl rfl) (by intro e; have e0 := not_t (e); subst e0; exact o_gtr rfl rfl rfl hx6) (fun e => ⟨gv_f e, rfl⟩) ?_
  obtain ⟨x7, hx7, h⟩ := h.lt
  refine Ro_v (v := (Value.bool x7)) rfl (o_pick rfl rfl (by intro e; subst e; subst hx7; rfl) (by intro e; subst e; subst hx7; rfl)) ?_
  refine Ro_v (v := (Value.bool x7)) rfl (o_move rfl rfl) ?_
  refine Ro_set (t := !x7) (v := bif !x7 then (Value.string s_3) else undef) rfl (w_F rfl rfl rfl) (by intro e; have e0 := not_t (e); subst e0; exact o_move rfl rfl) (fun e => ⟨gv_f e, rfl⟩) ?_
  obtain ⟨x8, hx8, h⟩ := h.bd
  refine Ro_set (t := !x7) (v := bif !x7 then (Value.int .u8 x8) else undef) rfl (w_F rfl rfl rfl) (by intro e; have e0 := not_t (e); subst e0; exact o_idxS rfl tu9 rfl rfl hx8) (fun e => ⟨gv_f e, rfl⟩) ?_
  obtain ⟨x9, hx9, h⟩ := h.lt
  refine Ro_set (t := !x7) (v := bif !x7 then (Value.bool x9) else undef) rfl (w_F rfl rfl rfl) (by intro e; have e0 := not_t (e); subst e0; exact o_eql rfl rfl rfl hx9) (fun e => ⟨gv_f e, rfl⟩) ?_
  obtain ⟨x10, hx10, h⟩ := h.lt
  refine Ro_v (v := (Value.bool x10)) rfl (o_pick rfl rfl (by intro e; subst e; subst hx10; rfl) (by intro e; subst e; subst hx10; rfl)) ?_
  refine Ro_nil ?_
  refine Fx_cond (a := c26_6) (b := c26_9) rfl rfl (fun ex10 => ?_) (fun ex10 => ?_)
  · replace h := h.ifT ex10
    refine Fx_seq (a := c26_7) (b := c26_8) rfl ?_
    refine Fx_text rfl (by kernel_rfl) ?_
    refine Ro_v (v := (Value.int .i64 (0))) rfl (o_assign rfl rfl) ?_
    refine Ro_v (v := (Value.bool false)) rfl (o_assign rfl rfl) ?_
    refine Ro_nil ?_
    exact Fx_ret rfl rfl (congrArg some h.sm)
  · replace h := h.ifF ex10
    refine Fx_skip (c := c26_9) rfl ?_
    refine Fx_seq (a := c26_11) (b := c26_12) rfl ?_
    refine Fx_text rfl (by kernel_rfl) ?_
    refine Ro_v (v := (Value.int .i64 (0))) rfl (o_assign rfl rfl) ?_
    refine Ro_nil ?_
    refine Fx_seq (a := c26_13) (b := c26_35) rfl ?_
    refine Fx_seq (a := c26_14) (b := c26_15) rfl ?_
    refine Fx_text rfl (by kernel_rfl) ?_
    refine Ro_v (v := (Value.int .i64 (0))) rfl (o_assign rfl rfl) ?_
    refine Ro_nil ?_
    refine Fx_block (b := c26_16) rfl ?_
    refine Fx_forget (Fr.set_of (Fr.set_of (Fr.set_of rfl rfl) rfl) rfl) ((OptW.loop h (fun s => C26_l1 s_3 σ out (.inl s)) ?_ : C26_l1 s_3 σ out (.inl ((0), (0)))) _)
    intro s hs f
    obtain ⟨n_12, i_13⟩ := s
    refine q26_l1 s_3 n_12 i_13 σ out f (hs.imp ?_)
    intro r hr
    rcases r with y | b
    · exact hr
    · rcases b with b | b
      · obtain ⟨n_30, rfl⟩ : ∃ x, x = b := ⟨_, rfl⟩
        have h := hr
        intro f
        refine Fx_seq (a := c26_36) (b := c26_37) rfl ?_
        refine Fx_text rfl (by kernel_rfl) ?_
        refine Ro_v (v := (Value.int .i64 n_30)) rfl (o_move rfl rfl) ?_
        refine Ro_v (v := (Value.int .i64 n_30)) rfl (o_assign rfl rfl) ?_
        refine Ro_v (v := (Value.bool true)) rfl (o_assign rfl rfl) ?_
        refine Ro_nil ?_
        exact Fx_ret rfl rfl (congrArg some h.sm)
      · obtain ⟨x31, x32⟩ := b
        have h := hr
        exact h.sm
noncomputable def c18_0 : Code := bodyOf Tryd.f18
noncomputable def c18_1 : Code := cl c18_0
noncomputable def c18_2 : Code := cr c18_0
noncomputable def c18_3 : Code := cl c18_2
noncomputable def c18_4 : Code := cr c18_2
noncomputable def c18_5 : Code := cl c18_4
noncomputable def c18_6 : Code := cl c18_5
noncomputable def c18_7 : Code := cr c18_5
noncomputable def c18_8 : Code := cl c18_7
noncomputable def c18_9 : Code := cl c18_8
noncomputable def c18_10 : Code := cr c18_8
noncomputable def c18_11 : Code := cr c18_7
noncomputable def c18_12 : Code := cr c18_4
noncomputable def c18_13 : Code := cl c18_12
noncomputable def c18_14 : Code := cr c18_12
noncomputable def c18_15 : Code := cl c18_14
noncomputable def c18_16 : Code := cr c18_14
noncomputable def c18_17 : Code := cl c18_16
noncomputable def c18_18 : Code := cl c18_17
noncomputable def c18_19 : Code := cr c18_17
noncomputable def c18_20 : Code := cl c18_19
noncomputable def c18_21 : Code := cl c18_20
noncomputable def c18_22 : Code := cr c18_20
noncomputable def c18_23 : Code := cr c18_19
noncomputable def c18_24 : Code := cr c18_16
noncomputable def c18_25 : Code := cl c18_24
noncomputable def c18_26 : Code := cr c18_24
noncomputable def c18_27 : Code := cl c18_26
noncomputable def c18_28 : Code := cl c18_27
noncomputable def c18_29 : Code := cr c18_27
noncomputable def c18_30 : Code := cl c18_29
noncomputable def c18_31 : Code := cl c18_30
noncomputable def c18_32 : Code := cr c18_30
noncomputable def c18_33 : Code := cr c18_29
noncomputable def c18_34 : Code := cr c18_26
noncomputable def c18_35 : Code := cl c18_34
noncomputable def c18_36 : Code := cr c18_34
theorem ok18 : funcOk Tryd.f18 = true := by kernel_rfl
noncomputable def rs18 : List ResultVar := resultsOf Tryd.f18
theorem w18 (s_3 : ByteArray) (σ : AHeap) (r : (Int × Int)) (h : G_ident_Parse s_3 σ = some r) : callL Tryd.prog 18 [(Value.string s_3)] σ = some ((Value.tuple #[(Value.int .i64 r.1), (Value.int .i64 r.2)]), σ) := by
  refine callL_walk (fn := Tryd.f18) (c := c18_0) (rs := rs18) Tryd.func18 rfl ok18 rfl rfl ?_
  obtain ⟨out, ho⟩ : ∃ out, out = ((Value.tuple #[(Value.int .i64 r.1), (Value.int .i64 r.2)]), σ) := ⟨_, rfl⟩
  rw [← ho]
  replace h : OptW (G_ident_Parse s_3 σ) (fun r => ((Value.tuple #[(Value.int .i64 r.1), (Value.int .i64 r.2)]), σ) = out) := ⟨r, h, ho.symm⟩
  unfold G_ident_Parse at h
  refine Fx_seq (a := c18_1) (b := c18_2) rfl ?_
  refine Fx_text rfl (by kernel_rfl) ?_
  refine Ro_v (v := (Value.int .i64 (0))) rfl (o_assign rfl rfl) ?_
  refine Ro_v (v := (Value.int .i64 (0))) rfl (o_assign rfl rfl) ?_
  refine Ro_nil ?_
  refine Fx_seq (a := c18_3) (b := c18_4) rfl ?_
  refine Fx_text rfl (by kernel_rfl) ?_
  refine Ro_v (v := (Value.string s_3)) rfl (o_move rfl rfl) ?_
  obtain ⟨⟨x4, x5, x6⟩, hx4, h⟩ := h.bd
  refine Ro_v (v := (Value.tuple #[(Value.string x4), (Value.string x5), (Value.bool x6)])) rfl (o_call (vs := [(Value.string s_3), (Value.string (⟨#[46]⟩ : ByteArray))]) rfl rfl (w25 _ _ _ _ hx4)) ?_
  refine Ro_v (v := (Value.tuple #[(Value.string x4), (Value.string x5), (Value.bool x6)])) rfl (o_move rfl rfl) ?_
  refine Ro_v (v := (Value.string x4)) rfl (o_ext rfl rfl rfl) ?_
  refine Ro_v (v := (Value.string x5)) rfl (o_ext rfl rfl rfl) ?_
  refine Ro_v (v := (Value.bool x6)) rfl (o_ext rfl rfl rfl) ?_
  refine Ro_v (v := (Value.string x4)) rfl (o_assign rfl rfl) ?_
  refine Ro_v (v := (Value.string x5)) rfl (o_assign rfl rfl) ?_
  refine Ro_v (v := (Value.bool x6)) rfl (o_assign rfl rfl) ?_
  refine Ro_nil ?_
  refine Fx_seq (a := c18_5) (b := c18_12) rfl ?_
  refine Fx_seq (a := c18_6) (b := c18_7) rfl ?_
  refine Fx_text rfl (by kernel_rfl) ?_
  refine Ro_v (v := (Value.bool x6)) rfl (o_move rfl rfl) ?_
  obtain ⟨x7, hx7, h⟩ := h.lt
  refine Ro_v (v := (Value.bool x7)) rfl (o_not rfl rfl hx7) ?_
  refine Ro_nil ?_
  refine Fx_cond (a := c18_8) (b := c18_11) rfl rfl (fun ex7 => ?_) (fun ex7 => ?_)
  · replace h := h.ifT ex7
    refine Fx_seq (a := c18_9) (b := c18_10) rfl ?_
    refine Fx_text rfl (by kernel_rfl) ?_
    refine Ro_v (v := (Value.int .i64 (0))) rfl (o_assign rfl rfl) ?_
    refine Ro_v (v := (Value.int .i64 (13))) rfl (o_assign rfl rfl) ?_
    refine Ro_nil ?_
    exact Fx_ret rfl rfl (congrArg some h.sm)
  · replace h := h.ifF ex7
    refine Fx_skip (c := c18_11) rfl ?_
    refine Fx_seq (a := c18_13) (b := c18_14) rfl ?_
    refine Fx_text rfl (by kernel_rfl) ?_
    refine Ro_v (v := (Value.string x4)) rfl (o_move rfl rfl) ?_
    obtain ⟨⟨x8, x9⟩, hx8, h⟩ := h.bd
    refine Ro_v (v := (Value.tuple #[(Value.int .i64 x8), (Value.bool x9)])) rfl (o_call (vs := [(Value.string x4)]) rfl rfl (w26 _ _ _ hx8)) ?_
    refine Ro_v (v := (Value.tuple #[(Value.int .i64 x8), (Value.bool x9)])) rfl (o_move rfl rfl) ?_
    refine Ro_v (v := (Value.int .i64 x8)) rfl (o_ext rfl rfl rfl) ?_
    refine Ro_v (v := (Value.bool x9)) rfl (o_ext rfl rfl rfl) ?_
    refine Ro_v (v := (Value.int .i64 x8)) rfl (o_assign rfl rfl) ?_
    refine Ro_v (v := (Value.bool x9)) rfl (o_assign rfl rfl) ?_
    refine Ro_nil ?_
    refine Fx_seq (a := c18_15) (b := c18_16) rfl ?_
    refine Fx_text rfl (by kernel_rfl) ?_
    refine Ro_v (v := (Value.string x5)) rfl (o_move rfl rfl) ?_
    obtain ⟨⟨x10, x11⟩, hx10, h⟩ := h.bd
    refine Ro_v (v := (Value.tuple #[(Value.int .i64 x10), (Value.bool x11)])) rfl (o_call (vs := [(Value.string x5)]) rfl rfl (w26 _ _ _ hx10)) ?_
    refine Ro_v (v := (Value.tuple #[(Value.int .i64 x10), (Value.bool x11)])) rfl (o_move rfl rfl) ?_
    refine Ro_v (v := (Value.int .i64 x10)) rfl (o_ext rfl rfl rfl) ?_
    refine Ro_v (v := (Value.bool x11)) rfl (o_ext rfl rfl rfl) ?_
    refine Ro_v (v := (Value.int .i64 x10)) rfl (o_assign rfl rfl) ?_
    refine Ro_v (v := (Value.bool x11)) rfl (o_assign rfl rfl) ?_
    refine Ro_nil ?_
    refine Fx_seq (a := c18_17) (b := c18_24) rfl ?_
    refine Fx_seq (a := c18_18) (b := c18_19) rfl ?_
    refine Fx_text rfl (by kernel_rfl) ?_
    refine Ro_v (v := (Value.bool x9)) rfl (o_move rfl rfl) ?_
    obtain ⟨x12, hx12, h⟩ := h.lt
    refine Ro_v (v := (Value.bool x12)) rfl (o_not rfl rfl hx12) ?_
    refine Ro_v (v := (Value.bool x12)) rfl (o_move rfl rfl) ?_
    refine Ro_set (t := !x12) (v := bif !x12 then (Value.bool x11) else undef) rfl (w_F rfl rfl rfl) (by intro e; have e0 := not_t (e); subst e0; exact o_move rfl rfl) (fun e => ⟨gv_f e, rfl⟩) ?_
    obtain ⟨x13, hx13, h⟩ := h.lt
    refine Ro_set (t := !x12) (v := bif !x12 then (Value.bool x13) else undef) rfl (w_F rfl rfl rfl) (by intro e; have e0 := not_t (e); subst e0; exact o_not rfl rfl hx13) (fun e => ⟨gv_f e, rfl⟩) ?_
    obtain ⟨x14, hx14, h⟩ := h.lt
    refine Ro_v (v := (Value.bool x14)) rfl (o_pick rfl rfl (by intro e; subst e; subst hx14; rfl) (by intro e; subst e; subst hx14; rfl)) ?_
    refine Ro_nil ?_
    refine Fx_cond (a := c18_20) (b := c18_23) rfl rfl (fun ex14 => ?_) (fun ex14 => ?_)
    · replace h := h.ifT ex14
      refine Fx_seq (a := c18_21) (b := c18_22) rfl ?_
      refine Fx_text rfl (by kernel_rfl) ?_
      refine Ro_v (v := (Value.int .i64 (0))) rfl (o_assign rfl rfl) ?_
      refine Ro_v (v := (Value.int .i64 (13))) rfl (o_assign rfl rfl) ?_
      refine Ro_nil ?_
      exact Fx_ret rfl rfl (congrArg some h.sm)
    · replace h := h.ifF ex14
      refine Fx_skip (c := c18_23) rfl ?_
      refine Fx_seq (a := c18_25) (b := c18_26) rfl ?_
      refine Fx_text rfl (by kernel_rfl) ?_
      refine Ro_v (v := (Value.int .i64 x8)) rfl (o_move rfl rfl) ?_
      refine Ro_v (v := (Value.int .i64 x10)) rfl (o_move rfl rfl) ?_
      obtain ⟨⟨x15, x16⟩, hx15, h⟩ := h.bd
      refine Ro_v (v := (Value.tuple #[(Value.int .i64 x15), (Value.int .i64 x16)])) rfl (o_call (vs := [(Value.int .i64 x8), (Value.int .i64 x10)]) rfl rfl (w9 _ _ _ _ hx15)) ?_
      refine Ro_v (v := (Value.tuple #[(Value.int .i64 x15), (Value.int .i64 x16)])) rfl (o_move rfl rfl) ?_
      refine Ro_v (v := (Value.int .i64 x15)) rfl (o_ext rfl rfl rfl) ?_
      refine Ro_v (v := (Value.int .i64 x16)) rfl (o_ext rfl rfl rfl) ?_
      refine Ro_v (v := (Value.int .i64 x15)) rfl (o_assign rfl rfl) ?_
      refine Ro_v (v := (Value.int .i64 x16)) rfl (o_assign rfl rfl) ?_
      refine Ro_nil ?_
      refine Fx_seq (a := c18_27) (b := c18_34) rfl ?_
      refine Fx_seq (a := c18_28) (b := c18_29) rfl ?_
      refine Fx_text rfl (by kernel_rfl) ?_
      refine Ro_v (v := (Value.int .i64 x16)) rfl (o_move rfl rfl) ?_
      obtain ⟨x17, hx17, h⟩ := h.lt
      refine Ro_v (v := (Value.bool x17)) rfl (o_neq rfl rfl rfl hx17) ?_
      refine Ro_nil ?_
      refine Fx_cond (a := c18_30) (b := c18_33) rfl rfl (fun ex17 => ?_) (fun ex17 => ?_)
      · replace h := h.ifT ex17
        refine Fx_seq (a := c18_31) (b := c18_32) rfl ?_
        refine Fx_text rfl (by kernel_rfl) ?_
        refine Ro_v (v := (Value.int .i64 (0))) rfl (o_assign rfl rfl) ?_
        refine Ro_v (v := (Value.int .i64 (13))) rfl (o_assign rfl rfl) ?_
        refine Ro_nil ?_
        exact Fx_ret rfl rfl (congrArg some h.sm)
      · replace h := h.ifF ex17
        refine Fx_skip (c := c18_33) rfl ?_
        refine Fx_seq (a := c18_35) (b := c18_36) rfl ?_
        refine Fx_text rfl (by kernel_rfl) ?_
        refine Ro_v (v := (Value.int .i64 x15)) rfl (o_move rfl rfl) ?_
        refine Ro_v (v := (Value.int .i64 x15)) rfl (o_assign rfl rfl) ?_
        refine Ro_v (v := (Value.int .i64 (0))) rfl (o_assign rfl rfl) ?_
        refine Ro_nil ?_
        exact Fx_ret rfl rfl (congrArg some h.sm)
noncomputable def c38_0 : Code := bodyOf Tryd.f38
noncomputable def c38_1 : Code := cl c38_0
noncomputable def c38_2 : Code := cr c38_0
noncomputable def c38_3 : Code := cl c38_2
noncomputable def c38_4 : Code := cl c38_3
noncomputable def c38_5 : Code := cr c38_3
noncomputable def c38_6 : Code := cl c38_5
noncomputable def c38_7 : Code := cl c38_6
noncomputable def c38_8 : Code := cr c38_6
noncomputable def c38_9 : Code := cr c38_5
noncomputable def c38_10 : Code := cr c38_2
noncomputable def c38_11 : Code := cl c38_10
noncomputable def c38_12 : Code := cr c38_10
theorem ok38 : funcOk Tryd.f38 = true := by kernel_rfl
noncomputable def rs38 : List ResultVar := resultsOf Tryd.f38
theorem w38 (i_2 : Int) (σ : AHeap) (r : ByteArray) (h : G_strconv_small i_2 = some r) : callL Tryd.prog 38 [(Value.int .i64 i_2)] σ = some ((Value.string r), σ) := by
  refine callL_walk (fn := Tryd.f38) (c := c38_0) (rs := rs38) Tryd.func38 rfl ok38 rfl rfl ?_
  obtain ⟨out, ho⟩ : ∃ out, out = ((Value.string r), σ) := ⟨_, rfl⟩
  rw [← ho]
  replace h : OptW (G_strconv_small i_2) (fun r => ((Value.string r), σ) = out) := ⟨r, h, ho.symm⟩
  unfold G_strconv_small at h
  refine Fx_seq (a := c38_1) (b := c38_2) rfl ?_
  refine Fx_text rfl (by kernel_rfl) ?_
  refine Ro_v (v := (Value.string (⟨#[]⟩ : ByteArray))) rfl (o_assign rfl rfl) ?_
  refine Ro_nil ?_
  refine Fx_seq (a := c38_3) (b := c38_10) rfl ?_
  refine Fx_seq (a := c38_4) (b := c38_5) rfl ?_
  refine Fx_text rfl (by kernel_rfl) ?_
  refine Ro_v (v := (Value.int .i64 i_2)) rfl (o_move rfl rfl) ?_
  obtain ⟨x3, hx3, h⟩ := h.lt
  refine Ro_v (v := (Value.bool x3)) rfl (o_lss rfl rfl rfl hx3) ?_
  refine Ro_nil ?_
  refine Fx_cond (a := c38_6) (b := c38_9) rfl rfl (fun ex3 => ?_) (fun ex3 => ?_)
  · replace h := h.ifT ex3
    refine Fx_seq (a := c38_7) (b := c38_8) rfl ?_
    refine Fx_text rfl (by kernel_rfl) ?_
    refine Ro_v (v := (Value.int .i64 i_2)) rfl (o_move rfl rfl) ?_
    refine Ro_v (v := (Value.int .i64 i_2)) rfl (o_move rfl rfl) ?_
    obtain ⟨x4, hx4, h⟩ := h.lt
    refine Ro_v (v := (Value.int .i64 x4)) rfl (o_add rfl rfl rfl hx4) ?_
    obtain ⟨x5, hx5, h⟩ := h.bd
    refine Ro_v (v := (Value.string x5)) rfl (o_slS (some i_2) (some x4) rfl tu9 rfl rfl rfl hx5) ?_
    refine Ro_v (v := (Value.string x5)) rfl (o_assign rfl rfl) ?_
    refine Ro_nil ?_
    exact Fx_ret rfl rfl (congrArg some h.sm)
  · replace h := h.ifF ex3
    refine Fx_skip (c := c38_9) rfl ?_
    refine Fx_seq (a := c38_11) (b := c38_12) rfl ?_
    refine Fx_text rfl (by kernel_rfl) ?_
    refine Ro_v (v := (Value.int .i64 i_2)) rfl (o_move rfl rfl) ?_
    obtain ⟨x6, hx6, h⟩ := h.lt
    refine Ro_v (v := (Value.int .i64 x6)) rfl (o_mul rfl rfl rfl hx6) ?_
    refine Ro_v (v := (Value.int .i64 i_2)) rfl (o_move rfl rfl) ?_
    obtain ⟨x7, hx7, h⟩ := h.lt
    refine Ro_v (v := (Value.int .i64 x7)) rfl (o_mul rfl rfl rfl hx7) ?_
    obtain ⟨x8, hx8, h⟩ := h.lt
    refine Ro_v (v := (Value.int .i64 x8)) rfl (o_add rfl rfl rfl hx8) ?_
    obtain ⟨x9, hx9, h⟩ := h.bd
    refine Ro_v (v := (Value.string x9)) rfl (o_slS (some x6) (some x8) rfl tu9 rfl rfl rfl hx9) ?_
    refine Ro_v (v := (Value.string x9)) rfl (o_assign rfl rfl) ?_
    refine Ro_nil ?_
    exact Fx_ret rfl rfl (congrArg some h.sm)
noncomputable def c44_0 : Code := bodyOf Tryd.f44
noncomputable def c44_1 : Code := cl c44_0
noncomputable def c44_2 : Code := cr c44_0
noncomputable def c44_3 : Code := cl c44_2
noncomputable def c44_4 : Code := cr c44_2
theorem ok44 : funcOk Tryd.f44 = true := by kernel_rfl
noncomputable def rs44 : List ResultVar := resultsOf Tryd.f44
theorem w44 (x_2 : Int) (σ : AHeap) (r : Int) (h : G_strconv_log10Pow2 x_2 = some r) : callL Tryd.prog 44 [(Value.int .i64 x_2)] σ = some ((Value.int .i64 r), σ) := by
  refine callL_walk (fn := Tryd.f44) (c := c44_0) (rs := rs44) Tryd.func44 rfl ok44 rfl rfl ?_
  obtain ⟨out, ho⟩ : ∃ out, out = ((Value.int .i64 r), σ) := ⟨_, rfl⟩
  rw [← ho]
  replace h : OptW (G_strconv_log10Pow2 x_2) (fun r => ((Value.int .i64 r), σ) = out) := ⟨r, h, ho.symm⟩
  unfold G_strconv_log10Pow2 at h
  refine Fx_seq (a := c44_1) (b := c44_2) rfl ?_
  refine Fx_text rfl (by kernel_rfl) ?_
  refine Ro_v (v := (Value.int .i64 (0))) rfl (o_assign rfl rfl) ?_
  refine Ro_nil ?_
  refine Fx_seq (a := c44_3) (b := c44_4) rfl ?_
  refine Fx_text rfl (by kernel_rfl) ?_
  refine Ro_v (v := (Value.int .i64 x_2)) rfl (o_move rfl rfl) ?_
  obtain ⟨x3, hx3, h⟩ := h.lt
  refine Ro_v (v := (Value.int .i64 x3)) rfl (o_mul rfl rfl rfl hx3) ?_
  obtain ⟨x4, hx4, h⟩ := h.bd
  refine Ro_v (v := (Value.int .i64 x4)) rfl (o_shr rfl rfl rfl hx4) ?_
  refine Ro_v (v := (Value.int .i64 x4)) rfl (o_assign rfl rfl) ?_
  refine Ro_nil ?_
  exact Fx_ret rfl rfl (congrArg some h.sm)
noncomputable def c45_0 : Code := bodyOf Tryd.f45
noncomputable def c45_1 : Code := cl c45_0
noncomputable def c45_2 : Code := cr c45_0
noncomputable def c45_3 : Code := cl c45_2
noncomputable def c45_4 : Code := cl c45_3
noncomputable def c45_5 : Code := cr c45_3
noncomputable def c45_6 : Code := cl c45_5
noncomputable def c45_7 : Code := cl c45_6
noncomputable def c45_8 : Code := cr c45_6
noncomputable def c45_9 : Code := cr c45_5
noncomputable def c45_10 : Code := cr c45_2
noncomputable def c45_11 : Code := cl c45_10
noncomputable def c45_12 : Code := cl c45_11
noncomputable def c45_13 : Code := cr c45_11
noncomputable def c45_14 : Code := cl c45_13
noncomputable def c45_15 : Code := cl c45_14
noncomputable def c45_16 : Code := cr c45_14
noncomputable def c45_17 : Code := cr c45_13
noncomputable def c45_18 : Code := cr c45_10
noncomputable def c45_19 : Code := cl c45_18
noncomputable def c45_20 : Code := cl c45_19
noncomputable def c45_21 : Code := cr c45_19
noncomputable def c45_22 : Code := cl c45_21
noncomputable def c45_23 : Code := cl c45_22
noncomputable def c45_24 : Code := cr c45_22
noncomputable def c45_25 : Code := cr c45_21
noncomputable def c45_26 : Code := cr c45_18
noncomputable def c45_27 : Code := cl c45_26
noncomputable def c45_28 : Code := cr c45_26
theorem ok45 : funcOk Tryd.f45 = true := by kernel_rfl
noncomputable def rs45 : List ResultVar := resultsOf Tryd.f45
theorem p45_j3 (x_15 : Int) (n_16 : Int) (σ : AHeap) (out : Value × AHeap) (f : Fr) (h : OptW (G_bits_Len64_j3 x_15 n_16) (fun r => ((Value.int .i64 r), σ) = out)) :
    Fx Tryd.prog rs45 [.code c45_26] .normal (Fr.set (Fr.set f 0 (Value.int .u64 x_15)) 2 (Value.int .i64 n_16)) σ = some out := by
  unfold G_bits_Len64_j3 at h
  refine Fx_seq (a := c45_27) (b := c45_28) rfl ?_
  refine Fx_text rfl (by kernel_rfl) ?_
  refine Ro_v (v := (Value.int .i64 n_16)) rfl (o_move rfl rfl) ?_
  refine Ro_v (v := (Value.int .u64 x_15)) rfl (o_move rfl rfl) ?_
  obtain ⟨x17, hx17, h⟩ := h.lt
  refine Ro_v (v := (Value.int .u8 x17)) rfl (o_convI rfl tu43 tu5 rfl hx17) ?_
  obtain ⟨x18, hx18, h⟩ := h.bd
  refine Ro_v (v := (Value.int .u8 x18)) rfl (o_idxS rfl tu9 rfl rfl hx18) ?_
  obtain ⟨x19, hx19, h⟩ := h.lt
  refine Ro_v (v := (Value.int .i64 x19)) rfl (o_convI rfl tu5 tu3 rfl hx19) ?_
  obtain ⟨x20, hx20, h⟩ := h.lt
  refine Ro_v (v := (Value.int .i64 x20)) rfl (o_add rfl rfl rfl hx20) ?_
  refine Ro_v (v := (Value.int .i64 x20)) rfl (o_assign rfl rfl) ?_
  refine Ro_nil ?_
  exact Fx_ret rfl rfl (congrArg some h.sm)
theorem p45_j2 (x_10 : Int) (n_11 : Int) (σ : AHeap) (out : Value × AHeap) (f : Fr) (h : OptW (G_bits_Len64_j2 x_10 n_11) (fun r => ((Value.int .i64 r), σ) = out)) :
    Fx Tryd.prog rs45 [.code c45_18] .normal (Fr.set (Fr.set f 0 (Value.int .u64 x_10)) 2 (Value.int .i64 n_11)) σ = some out := by
  unfold G_bits_Len64_j2 at h
  refine Fx_seq (a := c45_19) (b := c45_26) rfl ?_
  refine Fx_seq (a := c45_20) (b := c45_21) rfl ?_
  refine Fx_text rfl (by kernel_rfl) ?_
  refine Ro_v (v := (Value.int .u64 x_10)) rfl (o_move rfl rfl) ?_
  obtain ⟨x12, hx12, h⟩ := h.lt
  refine Ro_v (v := (Value.bool x12)) rfl (o_geq rfl rfl rfl hx12) ?_
  refine Ro_nil ?_
  refine Fx_cond (a := c45_22) (b := c45_25) rfl rfl (fun ex12 => ?_) (fun ex12 => ?_)
  · replace h := h.ifT ex12
    refine Fx_seq (a := c45_23) (b := c45_24) rfl ?_
    refine Fx_text rfl (by kernel_rfl) ?_
    refine Ro_v (v := (Value.int .u64 x_10)) rfl (o_move rfl rfl) ?_
    obtain ⟨x13, hx13, h⟩ := h.bd
    refine Ro_v (v := (Value.int .u64 x13)) rfl (o_shr rfl rfl rfl hx13) ?_
    refine Ro_v (v := (Value.int .u64 x13)) rfl (o_assign rfl rfl) ?_
    refine Ro_nil ?_
    refine Fx_text rfl (by kernel_rfl) ?_
    refine Ro_v (v := (Value.int .i64 n_11)) rfl (o_move rfl rfl) ?_
    obtain ⟨x14, hx14, h⟩ := h.lt
    refine Ro_v (v := (Value.int .i64 x14)) rfl (o_add rfl rfl rfl hx14) ?_
    refine Ro_v (v := (Value.int .i64 x14)) rfl (o_assign rfl rfl) ?_
    refine Ro_nil ?_
    exact Fx_forget (Fr.set_of (Fr.set_of rfl rfl) rfl) (p45_j3 _ _ _ _ _ h)
  · replace h := h.ifF ex12
    refine Fx_skip (c := c45_25) rfl ?_
    refine Fx_seq (a := c45_27) (b := c45_28) rfl ?_
    refine Fx_text rfl (by kernel_rfl) ?_
    refine Ro_v (v := (Value.int .i64 n_11)) rfl (o_move rfl rfl) ?_
    refine Ro_v (v := (Value.int .u64 x_10)) rfl (o_move rfl rfl) ?_
    obtain ⟨x21, hx21, h⟩ := h.lt
    refine Ro_v (v := (Value.int .u8 x21)) rfl (o_convI rfl tu43 tu5 rfl hx21) ?_
    obtain ⟨x22, hx22, h⟩ := h.bd
    refine Ro_v (v := (Value.int .u8 x22)) rfl (o_idxS rfl tu9 rfl rfl hx22) ?_
    obtain ⟨x23, hx23, h⟩ := h.lt
    refine Ro_v (v := (Value.int .i64 x23)) rfl (o_convI rfl tu5 tu3 rfl hx23) ?_
    obtain ⟨x24, hx24, h⟩ := h.lt
    refine Ro_v (v := (Value.int .i64 x24)) rfl (o_add rfl rfl rfl hx24) ?_
    refine Ro_v (v := (Value.int .i64 x24)) rfl (o_assign rfl rfl) ?_
    refine Ro_nil ?_
    exact Fx_ret rfl rfl (congrArg some h.sm)
theorem p45_j1 (x_5 : Int) (n_6 : Int) (σ : AHeap) (out : Value × AHeap) (f : Fr) (h : OptW (G_bits_Len64_j1 x_5 n_6) (fun r => ((Value.int .i64 r), σ) = out)) :
    Fx Tryd.prog rs45 [.code c45_10] .normal (Fr.set (Fr.set f 0 (Value.int .u64 x_5)) 2 (Value.int .i64 n_6)) σ = some out := by
  unfold G_bits_Len64_j1 at h
  refine Fx_seq (a := c45_11) (b := c45_18) rfl ?_
  refine Fx_seq (a := c45_12) (b := c45_13) rfl ?_
  refine Fx_text rfl (by kernel_rfl) ?_
  refine Ro_v (v := (Value.int .u64 x_5)) rfl (o_move rfl rfl) ?_
  obtain ⟨x7, hx7, h⟩ := h.lt
  refine Ro_v (v := (Value.bool x7)) rfl (o_geq rfl rfl rfl hx7) ?_
  refine Ro_nil ?_
  refine Fx_cond (a := c45_14) (b := c45_17) rfl rfl (fun ex7 => ?_) (fun ex7 => ?_)
  · replace h := h.ifT ex7
    refine Fx_seq (a := c45_15) (b := c45_16) rfl ?_
    refine Fx_text rfl (by kernel_rfl) ?_
    refine Ro_v (v := (Value.int .u64 x_5)) rfl (o_move rfl rfl) ?_
    obtain ⟨x8, hx8, h⟩ := h.bd
    refine Ro_v (v := (Value.int .u64 x8)) rfl (o_shr rfl rfl rfl hx8) ?_
    refine Ro_v (v := (Value.int .u64 x8)) rfl (o_assign rfl rfl) ?_
    refine Ro_nil ?_
    refine Fx_text rfl (by kernel_rfl) ?_
    refine Ro_v (v := (Value.int .i64 n_6)) rfl (o_move rfl rfl) ?_
    obtain ⟨x9, hx9, h⟩ := h.lt
    refine Ro_v (v := (Value.int .i64 x9)) rfl (o_add rfl rfl rfl hx9) ?_
    refine Ro_v (v := (Value.int .i64 x9)) rfl (o_assign rfl rfl) ?_
    refine Ro_nil ?_
    exact Fx_forget (Fr.set_of (Fr.set_of rfl rfl) rfl) (p45_j2 _ _ _ _ _ h)
  · replace h := h.ifF ex7
    refine Fx_skip (c := c45_17) rfl ?_
    refine Fx_seq (a := c45_19) (b := c45_26) rfl ?_
    refine Fx_seq (a := c45_20) (b := c45_21) rfl ?_
    refine Fx_text rfl (by kernel_rfl) ?_
    refine Ro_v (v := (Value.int .u64 x_5)) rfl (o_move rfl rfl) ?_
    obtain ⟨x25, hx25, h⟩ := h.lt
    refine Ro_v (v := (Value.bool x25)) rfl (o_geq rfl rfl rfl hx25) ?_
    refine Ro_nil ?_
    refine Fx_cond (a := c45_22) (b := c45_25) rfl rfl (fun ex25 => ?_) (fun ex25 => ?_)
    · replace h := h.ifT ex25
      refine Fx_seq (a := c45_23) (b := c45_24) rfl ?_
      refine Fx_text rfl (by kernel_rfl) ?_
      refine Ro_v (v := (Value.int .u64 x_5)) rfl (o_move rfl rfl) ?_
      obtain ⟨x26, hx26, h⟩ := h.bd
      refine Ro_v (v := (Value.int .u64 x26)) rfl (o_shr rfl rfl rfl hx26) ?_
      refine Ro_v (v := (Value.int .u64 x26)) rfl (o_assign rfl rfl) ?_
      refine Ro_nil ?_
      refine Fx_text rfl (by kernel_rfl) ?_
      refine Ro_v (v := (Value.int .i64 n_6)) rfl (o_move rfl rfl) ?_
      obtain ⟨x27, hx27, h⟩ := h.lt
      refine Ro_v (v := (Value.int .i64 x27)) rfl (o_add rfl rfl rfl hx27) ?_
      refine Ro_v (v := (Value.int .i64 x27)) rfl (o_assign rfl rfl) ?_
      refine Ro_nil ?_
      exact Fx_forget (Fr.set_of (Fr.set_of rfl rfl) rfl) (p45_j3 _ _ _ _ _ h)
    · replace h := h.ifF ex25
      refine Fx_skip (c := c45_25) rfl ?_
      refine Fx_seq (a := c45_27) (b := c45_28) rfl ?_
      refine Fx_text rfl (by kernel_rfl) ?_
      refine Ro_v (v := (Value.int .i64 n_6)) rfl (o_move rfl rfl) ?_
      refine Ro_v (v := (Value.int .u64 x_5)) rfl (o_move rfl rfl) ?_
      obtain ⟨x28, hx28, h⟩ := h.lt
      refine Ro_v (v := (Value.int .u8 x28)) rfl (o_convI rfl tu43 tu5 rfl hx28) ?_
      obtain ⟨x29, hx29, h⟩ := h.bd
      refine Ro_v (v := (Value.int .u8 x29)) rfl (o_idxS rfl tu9 rfl rfl hx29) ?_
      obtain ⟨x30, hx30, h⟩ := h.lt
      refine Ro_v (v := (Value.int .i64 x30)) rfl (o_convI rfl tu5 tu3 rfl hx30) ?_
      obtain ⟨x31, hx31, h⟩ := h.lt
      refine Ro_v (v := (Value.int .i64 x31)) rfl (o_add rfl rfl rfl hx31) ?_
      refine Ro_v (v := (Value.int .i64 x31)) rfl (o_assign rfl rfl) ?_
      refine Ro_nil ?_
      exact Fx_ret rfl rfl (congrArg some h.sm)
theorem w45 (x_2 : Int) (σ : AHeap) (r : Int) (h : G_bits_Len64 x_2 = some r) : callL Tryd.prog 45 [(Value.int .u64 x_2)] σ = some ((Value.int .i64 r), σ) := by
  refine callL_walk (fn := Tryd.f45) (c := c45_0) (rs := rs45) Tryd.func45 rfl ok45 rfl rfl ?_
  obtain ⟨out, ho⟩ : ∃ out, out = ((Value.int .i64 r), σ) := ⟨_, rfl⟩
  rw [← ho]
  replace h : OptW (G_bits_Len64 x_2) (fun r => ((Value.int .i64 r), σ) = out) := ⟨r, h, ho.symm⟩
  unfold G_bits_Len64 at h
  refine Fx_seq (a := c45_1) (b := c45_2) rfl ?_
  refine Fx_text rfl (by kernel_rfl) ?_
  refine Ro_v (v := (Value.int .i64 (0))) rfl (o_assign rfl rfl) ?_
  refine Ro_nil ?_
  refine Fx_seq (a := c45_3) (b := c45_10) rfl ?_
  refine Fx_seq (a := c45_4) (b := c45_5) rfl ?_
  refine Fx_text rfl (by kernel_rfl) ?_
  refine Ro_v (v := (Value.int .u64 x_2)) rfl (o_move rfl rfl) ?_
  obtain ⟨x3, hx3, h⟩ := h.lt
  refine Ro_v (v := (Value.bool x3)) rfl (o_geq rfl rfl rfl hx3) ?_
  refine Ro_nil ?_
  refine Fx_cond (a := c45_6) (b := c45_9) rfl rfl (fun ex3 => ?_) (fun ex3 => ?_)
  · replace h := h.ifT ex3
    refine Fx_seq (a := c45_7) (b := c45_8) rfl ?_
    refine Fx_text rfl (by kernel_rfl) ?_
    refine Ro_v (v := (Value.int .u64 x_2)) rfl (o_move rfl rfl) ?_
    obtain ⟨x4, hx4, h⟩ := h.bd
    refine Ro_v (v := (Value.int .u64 x4)) rfl (o_shr rfl rfl rfl hx4) ?_
    refine Ro_v (v := (Value.int .u64 x4)) rfl (o_assign rfl rfl) ?_
    refine Ro_nil ?_
    refine Fx_text rfl (by kernel_rfl) ?_
    refine Ro_v (v := (Value.int .i64 (32))) rfl (o_assign rfl rfl) ?_
    refine Ro_nil ?_
    exact Fx_forget (Fr.set_of (Fr.set_of rfl rfl) rfl) (p45_j1 _ _ _ _ _ h)
  · replace h := h.ifF ex3
    refine Fx_skip (c := c45_9) rfl ?_
    refine Fx_seq (a := c45_11) (b := c45_18) rfl ?_
    refine Fx_seq (a := c45_12) (b := c45_13) rfl ?_
    refine Fx_text rfl (by kernel_rfl) ?_
    refine Ro_v (v := (Value.int .u64 x_2)) rfl (o_move rfl rfl) ?_
    obtain ⟨x32, hx32, h⟩ := h.lt
    refine Ro_v (v := (Value.bool x32)) rfl (o_geq rfl rfl rfl hx32) ?_
    refine Ro_nil ?_
    refine Fx_cond (a := c45_14) (b := c45_17) rfl rfl (fun ex32 => ?_) (fun ex32 => ?_)
    · replace h := h.ifT ex32
      refine Fx_seq (a := c45_15) (b := c45_16) rfl ?_
      refine Fx_text rfl (by kernel_rfl) ?_
      refine Ro_v (v := (Value.int .u64 x_2)) rfl (o_move rfl rfl) ?_
      obtain ⟨x33, hx33, h⟩ := h.bd
      refine Ro_v (v := (Value.int .u64 x33)) rfl (o_shr rfl rfl rfl hx33) ?_
      refine Ro_v (v := (Value.int .u64 x33)) rfl (o_assign rfl rfl) ?_
      refine Ro_nil ?_
      refine Fx_text rfl (by kernel_rfl) ?_
      refine Ro_v (v := (Value.int .i64 (0))) rfl (o_move rfl rfl) ?_
      obtain ⟨x34, hx34, h⟩ := h.lt
      refine Ro_v (v := (Value.int .i64 x34)) rfl (o_add rfl rfl rfl hx34) ?_
      refine Ro_v (v := (Value.int .i64 x34)) rfl (o_assign rfl rfl) ?_
      refine Ro_nil ?_
      exact Fx_forget (Fr.set_of (Fr.set_of rfl rfl) rfl) (p45_j2 _ _ _ _ _ h)
    · replace h := h.ifF ex32
      refine Fx_skip (c := c45_17) rfl ?_
      refine Fx_seq (a := c45_19) (b := c45_26) rfl ?_
      refine Fx_seq (a := c45_20) (b := c45_21) rfl ?_
      refine Fx_text rfl (by kernel_rfl) ?_
      refine Ro_v (v := (Value.int .u64 x_2)) rfl (o_move rfl rfl) ?_
      obtain ⟨x35, hx35, h⟩ := h.lt
      refine Ro_v (v := (Value.bool x35)) rfl (o_geq rfl rfl rfl hx35) ?_
      refine Ro_nil ?_
      refine Fx_cond (a := c45_22) (b := c45_25) rfl rfl (fun ex35 => ?_) (fun ex35 => ?_)
      · replace h := h.ifT ex35
        refine Fx_seq (a := c45_23) (b := c45_24) rfl ?_
        refine Fx_text rfl (by kernel_rfl) ?_
        refine Ro_v (v := (Value.int .u64 x_2)) rfl (o_move rfl rfl) ?_
        obtain ⟨x36, hx36, h⟩ := h.bd
        refine Ro_v (v := (Value.int .u64 x36)) rfl (o_shr rfl rfl rfl hx36) ?_
        refine Ro_v (v := (Value.int .u64 x36)) rfl (o_assign rfl rfl) ?_
        refine Ro_nil ?_
        refine Fx_text rfl (by kernel_rfl) ?_
        refine Ro_v (v := (Value.int .i64 (0))) rfl (o_move rfl rfl) ?_
        obtain ⟨x37, hx37, h⟩ := h.lt
        refine Ro_v (v := (Value.int .i64 x37)) rfl (o_add rfl rfl rfl hx37) ?_
        refine Ro_v (v := (Value.int .i64 x37)) rfl (o_assign rfl rfl) ?_
        refine Ro_nil ?_
        exact Fx_forget (Fr.set_of (Fr.set_of rfl rfl) rfl) (p45_j3 _ _ _ _ _ h)
      · replace h := h.ifF ex35
        refine Fx_skip (c := c45_25) rfl ?_
        refine Fx_seq (a := c45_27) (b := c45_28) rfl ?_
        refine Fx_text rfl (by kernel_rfl) ?_
        refine Ro_v (v := (Value.int .i64 (0))) rfl (o_move rfl rfl) ?_
        refine Ro_v (v := (Value.int .u64 x_2)) rfl (o_move rfl rfl) ?_
        obtain ⟨x38, hx38, h⟩ := h.lt
        refine Ro_v (v := (Value.int .u8 x38)) rfl (o_convI rfl tu43 tu5 rfl hx38) ?_
        obtain ⟨x39, hx39, h⟩ := h.bd
        refine Ro_v (v := (Value.int .u8 x39)) rfl (o_idxS rfl tu9 rfl rfl hx39) ?_
        obtain ⟨x40, hx40, h⟩ := h.lt
        refine Ro_v (v := (Value.int .i64 x40)) rfl (o_convI rfl tu5 tu3 rfl hx40) ?_
        obtain ⟨x41, hx41, h⟩ := h.lt
        refine Ro_v (v := (Value.int .i64 x41)) rfl (o_add rfl rfl rfl hx41) ?_
        refine Ro_v (v := (Value.int .i64 x41)) rfl (o_assign rfl rfl) ?_
        refine Ro_nil ?_
        exact Fx_ret rfl rfl (congrArg some h.sm)
noncomputable def c46_0 : Code := bodyOf Tryd.f46
noncomputable def c46_1 : Code := cl c46_0
noncomputable def c46_2 : Code := cr c46_0
noncomputable def c46_3 : Code := cl c46_2
noncomputable def c46_4 : Code := cl c46_3
noncomputable def c46_5 : Code := cr c46_3
noncomputable def c46_6 : Code := cl c46_5
noncomputable def c46_7 : Code := cl c46_6
noncomputable def c46_8 : Code := cr c46_6
noncomputable def c46_9 : Code := cr c46_5
noncomputable def c46_10 : Code := cr c46_2
noncomputable def c46_11 : Code := cl c46_10
noncomputable def c46_12 : Code := cr c46_10
theorem ok46 : funcOk Tryd.f46 = true := by kernel_rfl
noncomputable def rs46 : List ResultVar := resultsOf Tryd.f46
theorem w46 (b_2 : Bool) (σ : AHeap) (r : Int) (h : G_strconv_bool2_int b_2 = some r) : callL Tryd.prog 46 [(Value.bool b_2)] σ = some ((Value.int .i64 r), σ) := by
  refine callL_walk (fn := Tryd.f46) (c := c46_0) (rs := rs46) Tryd.func46 rfl ok46 rfl rfl ?_
  obtain ⟨out, ho⟩ : ∃ out, out = ((Value.int .i64 r), σ) := ⟨_, rfl⟩
  rw [← ho]
  replace h : OptW (G_strconv_bool2_int b_2) (fun r => ((Value.int .i64 r), σ) = out) := ⟨r, h, ho.symm⟩
  unfold G_strconv_bool2_int at h
  refine Fx_seq (a := c46_1) (b := c46_2) rfl ?_
  refine Fx_text rfl (by kernel_rfl) ?_
  refine Ro_v (v := (Value.int .i64 (0))) rfl (o_assign rfl rfl) ?_
  refine Ro_nil ?_
  refine Fx_seq (a := c46_3) (b := c46_10) rfl ?_
  refine Fx_seq (a := c46_4) (b := c46_5) rfl ?_
  refine Fx_text rfl (by kernel_rfl) ?_
  refine Ro_v (v := (Value.bool b_2)) rfl (o_move rfl rfl) ?_
  refine Ro_nil ?_
  refine Fx_cond (a := c46_6) (b := c46_9) rfl rfl (fun eb_2 => ?_) (fun eb_2 => ?_)
  · replace h := h.ifT eb_2
    refine Fx_seq (a := c46_7) (b := c46_8) rfl ?_
    refine Fx_text rfl (by kernel_rfl) ?_
    refine Ro_v (v := (Value.int .i64 (1))) rfl (o_assign rfl rfl) ?_
    refine Ro_nil ?_
    exact Fx_ret rfl rfl (congrArg some h.sm)
  · replace h := h.ifF eb_2
    refine Fx_skip (c := c46_9) rfl ?_
    refine Fx_seq (a := c46_11) (b := c46_12) rfl ?_
    refine Fx_text rfl (by kernel_rfl) ?_
    refine Ro_v (v := (Value.int .i64 (0))) rfl (o_assign rfl rfl) ?_
    refine Ro_nil ?_
    exact Fx_ret rfl rfl (congrArg some h.sm)

noncomputable def c40_0 : Code := bodyOf Tryd.f40
noncomputable def c40_1 : Code := cl c40_0
noncomputable def c40_2 : Code := cr c40_0
noncomputable def c40_3 : Code := cl c40_2
noncomputable def c40_4 : Code := cl c40_3
noncomputable def c40_5 : Code := cl c40_4
noncomputable def c40_6 : Code := cl c40_5
noncomputable def c40_7 : Code := cl c40_6
noncomputable def c40_8 : Code := cr c40_6
noncomputable def c40_9 : Code := cl c40_8
noncomputable def c40_10 : Code := cr c40_8
noncomputable def c40_11 : Code := cr c40_5
noncomputable def c40_12 : Code := cl c40_11
noncomputable def c40_13 : Code := cl c40_12
noncomputable def c40_14 : Code := cr c40_12
noncomputable def c40_15 : Code := cl c40_14
noncomputable def c40_16 : Code := cr c40_14
noncomputable def c40_17 : Code := cl c40_16
noncomputable def c40_18 : Code := cr c40_16
noncomputable def c40_19 : Code := cl c40_18
noncomputable def c40_20 : Code := cr c40_18
noncomputable def c40_21 : Code := cl c40_20
noncomputable def c40_22 : Code := cr c40_20
noncomputable def c40_23 : Code := cl c40_22
noncomputable def c40_24 : Code := cr c40_22
noncomputable def c40_25 : Code := cl c40_24
noncomputable def c40_26 : Code := cr c40_24
noncomputable def c40_27 : Code := cl c40_26
noncomputable def c40_28 : Code := cr c40_26
noncomputable def c40_29 : Code := cl c40_28
noncomputable def c40_30 : Code := cr c40_28
noncomputable def c40_31 : Code := cr c40_2
noncomputable def c40_32 : Code := cl c40_31
noncomputable def c40_33 : Code := cr c40_31
noncomputable def c40_34 : Code := cl c40_33
noncomputable def c40_35 : Code := cl c40_34
noncomputable def c40_36 : Code := cr c40_34
noncomputable def c40_37 : Code := cl c40_36
noncomputable def c40_38 : Code := cl c40_37
noncomputable def c40_39 : Code := cr c40_37
noncomputable def c40_40 : Code := cl c40_39
noncomputable def c40_41 : Code := cr c40_39
noncomputable def c40_42 : Code := cl c40_41
noncomputable def c40_43 : Code := cr c40_41
noncomputable def c40_44 : Code := cl c40_43
noncomputable def c40_45 : Code := cr c40_43
noncomputable def c40_46 : Code := cl c40_45
noncomputable def c40_47 : Code := cr c40_45
noncomputable def c40_48 : Code := cr c40_36
noncomputable def c40_49 : Code := cr c40_33
noncomputable def c40_50 : Code := cl c40_49
noncomputable def c40_51 : Code := cl c40_50
noncomputable def c40_52 : Code := cr c40_50
noncomputable def c40_53 : Code := cl c40_52
noncomputable def c40_54 : Code := cl c40_53
noncomputable def c40_55 : Code := cr c40_53
noncomputable def c40_56 : Code := cl c40_55
noncomputable def c40_57 : Code := cr c40_55
noncomputable def c40_58 : Code := cl c40_57
noncomputable def c40_59 : Code := cr c40_57
noncomputable def c40_60 : Code := cr c40_52
noncomputable def c40_61 : Code := cr c40_49
noncomputable def c40_62 : Code := cl c40_61
noncomputable def c40_63 : Code := cr c40_61
noncomputable def c40_64 : Code := cl c40_63
noncomputable def c40_65 : Code := cr c40_63
theorem ok40 : funcOk Tryd.f40 = true := by kernel_rfl
noncomputable def rs40 : List ResultVar := resultsOf Tryd.f40
noncomputable def C40_l1 (a_4 : Sl)  (out : Value × AHeap) : (Int × Int × AHeap) ⊕ (Int × Int × AHeap) → Prop
  | .inl (u_5, nd_6, σ) => ∀ f, Fx Tryd.prog rs40 [.code c40_4, .blk 0, .code c40_31] .normal (Fr.set (Fr.set (Fr.set f 0 (Sl.v a_4)) 1 (Value.int .u64 u_5)) 4 (Value.int .i64 nd_6)) σ = some out
  | .inr (u_7, nd_8, σ) => ∀ f, Fx Tryd.prog rs40 [.code c40_31] .normal (Fr.set (Fr.set (Fr.set f 0 (Sl.v a_4)) 1 (Value.int .u64 u_7)) 4 (Value.int .i64 nd_8)) σ = some out
theorem q40_l1 (a_4 : Sl) (u_5 : Int) (nd_6 : Int) (σ : AHeap)  (out : Value × AHeap) (f : Fr) (h : OptW (G_strconv_formatBase10_l1 a_4 (u_5, nd_6, σ)) (C40_l1 a_4 out)) :
    Fx Tryd.prog rs40 [.code c40_4, .blk 0, .code c40_31] .normal (Fr.set (Fr.set (Fr.set f 0 (Sl.v a_4)) 1 (Value.int .u64 u_5)) 4 (Value.int .i64 nd_6)) σ = some out := by
  unfold G_strconv_formatBase10_l1 at h
  refine Fx_loop (b := c40_5) rfl ?_
  refine Fx_seq (a := c40_6) (b := c40_11) rfl ?_
  refine Fx_seq (a := c40_7) (b := c40_8) rfl ?_
  refine Fx_text rfl (by kernel_rfl) ?_
  refine Ro_v (v := (Value.int .i64 nd_6)) rfl (o_move rfl rfl) ?_
  obtain ⟨x9, hx9, h⟩ := h.lt
  refine Ro_v (v := (Value.bool x9)) rfl (o_geq rfl rfl rfl hx9) ?_
  refine Ro_nil ?_
  refine Fx_cond (a := c40_9) (b := c40_10) rfl rfl (fun ex9 => ?_) (fun ex9 => ?_)
  · replace h := h.ifT ex9
    refine Fx_skip (c := c40_9) rfl ?_
    refine Fx_block (b := c40_12) rfl ?_
    refine Fx_seq (a := c40_13) (b := c40_14) rfl ?_
    refine Fx_text rfl (by kernel_rfl) ?_
    refine Ro_v (v := (Value.int .u64 u_5)) rfl (o_move rfl rfl) ?_
    obtain ⟨x10, hx10, h⟩ := h.lt
    refine Ro_v (v := (Value.int .u64 x10)) rfl (o_rem rfl rfl rfl (by decide) hx10) ?_
    obtain ⟨x11, hx11, h⟩ := h.lt
    refine Ro_v (v := (Value.int .u32 x11)) rfl (o_convI rfl tu43 tu48 rfl hx11) ?_
    refine Ro_v (v := (Value.int .u32 x11)) rfl (o_assign rfl rfl) ?_
    refine Ro_nil ?_
    refine Fx_seq (a := c40_15) (b := c40_16) rfl ?_
    refine Fx_text rfl (by kernel_rfl) ?_
    refine Ro_v (v := (Value.int .u64 u_5)) rfl (o_move rfl rfl) ?_
    obtain ⟨x12, hx12, h⟩ := h.lt
    refine Ro_v (v := (Value.int .u64 x12)) rfl (o_quo rfl rfl rfl (by decide) hx12) ?_
    refine Ro_v (v := (Value.int .u64 x12)) rfl (o_assign rfl rfl) ?_
    refine Ro_nil ?_
    refine Fx_seq (a := c40_17) (b := c40_18) rfl ?_
    refine Fx_text rfl (by kernel_rfl) ?_
    refine Ro_v (v := (Value.int .u32 x11)) rfl (o_move rfl rfl) ?_
    obtain ⟨x13, hx13, h⟩ := h.lt
    refine Ro_v (v := (Value.int .u32 x13)) rfl (o_quo rfl rfl rfl (by decide) hx13) ?_
    refine Ro_v (v := (Value.int .u32 x11)) rfl (o_move rfl rfl) ?_
    obtain ⟨x14, hx14, h⟩ := h.lt
    refine Ro_v (v := (Value.int .u32 x14)) rfl (o_rem rfl rfl rfl (by decide) hx14) ?_
    refine Ro_v (v := (Value.int .u32 x13)) rfl (o_assign rfl rfl) ?_
    refine Ro_v (v := (Value.int .u32 x14)) rfl (o_assign rfl rfl) ?_
    refine Ro_nil ?_
    refine Fx_seq (a := c40_19) (b := c40_20) rfl ?_
    refine Fx_text rfl (by kernel_rfl) ?_
    refine Ro_v (v := (Value.int .u32 x14)) rfl (o_move rfl rfl) ?_
    obtain ⟨x15, hx15, h⟩ := h.lt
    refine Ro_v (v := (Value.int .u32 x15)) rfl (o_quo rfl rfl rfl (by decide) hx15) ?_
    obtain ⟨x16, hx16, h⟩ := h.lt
    refine Ro_v (v := (Value.int .u32 x16)) rfl (o_mul rfl rfl rfl hx16) ?_
    refine Ro_v (v := (Value.int .u32 x14)) rfl (o_move rfl rfl) ?_
    obtain ⟨x17, hx17, h⟩ := h.lt
    refine Ro_v (v := (Value.int .u32 x17)) rfl (o_rem rfl rfl rfl (by decide) hx17) ?_
    obtain ⟨x18, hx18, h⟩ := h.lt
    refine Ro_v (v := (Value.int .u32 x18)) rfl (o_mul rfl rfl rfl hx18) ?_
    refine Ro_v (v := (Value.int .u32 x16)) rfl (o_assign rfl rfl) ?_
    refine Ro_v (v := (Value.int .u32 x18)) rfl (o_assign rfl rfl) ?_
    refine Ro_nil ?_
    refine Fx_seq (a := c40_21) (b := c40_22) rfl ?_
    refine Fx_text rfl (by kernel_rfl) ?_
    refine Ro_v (v := (Value.int .u32 x13)) rfl (o_move rfl rfl) ?_
    obtain ⟨x19, hx19, h⟩ := h.lt
    refine Ro_v (v := (Value.int .u32 x19)) rfl (o_quo rfl rfl rfl (by decide) hx19) ?_
    obtain ⟨x20, hx20, h⟩ := h.lt
    refine Ro_v (v := (Value.int .u32 x20)) rfl (o_mul rfl rfl rfl hx20) ?_
    refine Ro_v (v := (Value.int .u32 x13)) rfl (o_move rfl rfl) ?_
    obtain ⟨x21, hx21, h⟩ := h.lt
    refine Ro_v (v := (Value.int .u32 x21)) rfl (o_rem rfl rfl rfl (by decide) hx21) ?_
    obtain ⟨x22, hx22, h⟩ := h.lt
    refine Ro_v (v := (Value.int .u32 x22)) rfl (o_mul rfl rfl rfl hx22) ?_
    refine Ro_v (v := (Value.int .u32 x20)) rfl (o_assign rfl rfl) ?_
    refine Ro_v (v := (Value.int .u32 x22)) rfl (o_assign rfl rfl) ?_
    refine Ro_nil ?_
    refine Fx_seq (a := c40_23) (b := c40_24) rfl ?_
    refine Fx_draw (ops := opsIn c40_23) (l := [(opA (opsIn c40_23) 0, 0), (opA (opsIn c40_23) 1, 1), (opA (opsIn c40_23) 2, 2), (opA (opsIn c40_23) 6, 6), (opA (opsIn c40_23) 7, 7), (opA (opsIn c40_23) 8, 8), (opA (opsIn c40_23) 11, 11), (opA (opsIn c40_23) 12, 12), (opA (opsIn c40_23) 3, 3), (opA (opsIn c40_23) 4, 4), (opA (opsIn c40_23) 5, 5), (opA (opsIn c40_23) 9, 9), (opA (opsIn c40_23) 10, 10), (opA (opsIn c40_23) 13, 13), (opA (opsIn c40_23) 14, 14)]) rfl (by kernel_rfl) (by kernel_rfl) (by kernel_rfl) ?_
    refine Rd_v (v := (Sl.v a_4)) (ps' := []) rfl (o_move rfl rfl) (reads_no rfl) rfl ?_
    refine Rd_v (v := (Value.int .i64 nd_6)) (ps' := []) rfl (o_move rfl rfl) (reads_no rfl) rfl ?_
    obtain ⟨x23, hx23, h⟩ := h.lt
    refine Rd_v (v := (Value.int .i64 x23)) (ps' := []) rfl (o_sub rfl rfl rfl hx23) (reads_no rfl) rfl ?_
    refine Rd_v (v := (Value.int .u32 x18)) (ps' := []) rfl (o_move rfl rfl) (reads_no rfl) rfl ?_
    obtain ⟨x24, hx24, h⟩ := h.lt
    refine Rd_v (v := (Value.int .u32 x24)) (ps' := []) rfl (o_add rfl rfl rfl hx24) (reads_no rfl) rfl ?_
    obtain ⟨x25, hx25, h⟩ := h.bd
    refine Rd_v (v := (Value.int .u8 x25)) (ps' := []) rfl (o_idxS rfl tu9 rfl rfl hx25) (reads_no rfl) rfl ?_
    obtain ⟨x26, hx26, h⟩ := h.bd
    refine Rd_v (v := (Value.pointer x26)) (ps' := []) rfl (o_iaSl rfl tu38 ts5 rfl rfl hx26) (reads_no rfl) rfl ?_
    obtain ⟨σ27, hσ27, h⟩ := h.bd
    refine Rd_d (ps' := [(12, σ)]) rfl (o_store (v := (Value.int .u8 x25)) (vs := [(Value.int .u8 x25)]) rfl ts5 rfl rfl rfl rfl hσ27) (reads_no rfl) rfl ?_
    refine Rd_v (v := (Sl.v a_4)) (ps' := [(12, σ)]) rfl (o_move rfl rfl) (reads_no rfl) rfl ?_
    refine Rd_v (v := (Value.int .i64 nd_6)) (ps' := [(12, σ)]) rfl (o_move rfl rfl) (reads_no rfl) rfl ?_
    obtain ⟨x28, hx28, h⟩ := h.lt
    refine Rd_v (v := (Value.int .i64 x28)) (ps' := [(12, σ)]) rfl (o_sub rfl rfl rfl hx28) (reads_no rfl) rfl ?_
    refine Rd_v (v := (Value.int .u32 x18)) (ps' := [(12, σ)]) rfl (o_move rfl rfl) (reads_no rfl) rfl ?_
    obtain ⟨x29, hx29, h⟩ := h.bd
    refine Rd_v (v := (Value.int .u8 x29)) (ps' := [(12, σ)]) rfl (o_idxS rfl tu9 rfl rfl hx29) (reads_no rfl) rfl ?_
    obtain ⟨x30, hx30, h⟩ := h.bd
    refine Rd_v (v := (Value.pointer x30)) (ps' := [(12, σ)]) rfl (o_iaSl rfl tu38 ts5 rfl rfl hx30) (reads_no rfl) rfl ?_
    obtain ⟨σ31, hσ31, h⟩ := h.bd
    refine Rd_d (ps' := [(14, σ27), (12, σ)]) rfl (o_store (v := (Value.int .u8 x29)) (vs := [(Value.int .u8 x29)]) rfl ts5 rfl rfl rfl rfl hσ31) (reads_no rfl) rfl ?_
    refine Rd_nil ?_
    refine Fx_seq (a := c40_25) (b := c40_26) rfl ?_
    refine Fx_draw (ops := opsIn c40_25) (l := [(opA (opsIn c40_25) 0, 0), (opA (opsIn c40_25) 1, 1), (opA (opsIn c40_25) 2, 2), (opA (opsIn c40_25) 6, 6), (opA (opsIn c40_25) 7, 7), (opA (opsIn c40_25) 8, 8), (opA (opsIn c40_25) 11, 11), (opA (opsIn c40_25) 12, 12), (opA (opsIn c40_25) 3, 3), (opA (opsIn c40_25) 4, 4), (opA (opsIn c40_25) 5, 5), (opA (opsIn c40_25) 9, 9), (opA (opsIn c40_25) 10, 10), (opA (opsIn c40_25) 13, 13), (opA (opsIn c40_25) 14, 14)]) rfl (by kernel_rfl) (by kernel_rfl) (by kernel_rfl) ?_
    refine Rd_v (v := (Sl.v a_4)) (ps' := []) rfl (o_move rfl rfl) (reads_no rfl) rfl ?_
    refine Rd_v (v := (Value.int .i64 nd_6)) (ps' := []) rfl (o_move rfl rfl) (reads_no rfl) rfl ?_
    obtain ⟨x32, hx32, h⟩ := h.lt
    refine Rd_v (v := (Value.int .i64 x32)) (ps' := []) rfl (o_sub rfl rfl rfl hx32) (reads_no rfl) rfl ?_
    refine Rd_v (v := (Value.int .u32 x16)) (ps' := []) rfl (o_move rfl rfl) (reads_no rfl) rfl ?_
    obtain ⟨x33, hx33, h⟩ := h.lt
    refine Rd_v (v := (Value.int .u32 x33)) (ps' := []) rfl (o_add rfl rfl rfl hx33) (reads_no rfl) rfl ?_
    obtain ⟨x34, hx34, h⟩ := h.bd
    refine Rd_v (v := (Value.int .u8 x34)) (ps' := []) rfl (o_idxS rfl tu9 rfl rfl hx34) (reads_no rfl) rfl ?_
    obtain ⟨x35, hx35, h⟩ := h.bd
    refine Rd_v (v := (Value.pointer x35)) (ps' := []) rfl (o_iaSl rfl tu38 ts5 rfl rfl hx35) (reads_no rfl) rfl ?_
    obtain ⟨σ36, hσ36, h⟩ := h.bd
    refine Rd_d (ps' := [(12, σ31)]) rfl (o_store (v := (Value.int .u8 x34)) (vs := [(Value.int .u8 x34)]) rfl ts5 rfl rfl rfl rfl hσ36) (reads_no rfl) rfl ?_
    refine Rd_v (v := (Sl.v a_4)) (ps' := [(12, σ31)]) rfl (o_move rfl rfl) (reads_no rfl) rfl ?_
    refine Rd_v (v := (Value.int .i64 nd_6)) (ps' := [(12, σ31)]) rfl (o_move rfl rfl) (reads_no rfl) rfl ?_
    obtain ⟨x37, hx37, h⟩ := h.lt
    refine Rd_v (v := (Value.int .i64 x37)) (ps' := [(12, σ31)]) rfl (o_sub rfl rfl rfl hx37) (reads_no rfl) rfl ?_
    refine Rd_v (v := (Value.int .u32 x16)) (ps' := [(12, σ31)]) rfl (o_move rfl rfl) (reads_no rfl) rfl ?_
    obtain ⟨x38, hx38, h⟩ := h.bd
    refine Rd_v (v := (Value.int .u8 x38)) (ps' := [(12, σ31)]) rfl (o_idxS rfl tu9 rfl rfl hx38) (reads_no rfl) rfl ?_
    obtain ⟨x39, hx39, h⟩ := h.bd
    refine Rd_v (v := (Value.pointer x39)) (ps' := [(12, σ31)]) rfl (o_iaSl rfl tu38 ts5 rfl rfl hx39) (reads_no rfl) rfl ?_
    obtain ⟨σ40, hσ40, h⟩ := h.bd
    refine Rd_d (ps' := [(14, σ36), (12, σ31)]) rfl (o_store (v := (Value.int .u8 x38)) (vs := [(Value.int .u8 x38)]) rfl ts5 rfl rfl rfl rfl hσ40) (reads_no rfl) rfl ?_
    refine Rd_nil ?_
    refine Fx_seq (a := c40_27) (b := c40_28) rfl ?_
    refine Fx_draw (ops := opsIn c40_27) (l := [(opA (opsIn c40_27) 0, 0), (opA (opsIn c40_27) 1, 1), (opA (opsIn c40_27) 2, 2), (opA (opsIn c40_27) 6, 6), (opA (opsIn c40_27) 7, 7), (opA (opsIn c40_27) 8, 8), (opA (opsIn c40_27) 11, 11), (opA (opsIn c40_27) 12, 12), (opA (opsIn c40_27) 3, 3), (opA (opsIn c40_27) 4, 4), (opA (opsIn c40_27) 5, 5), (opA (opsIn c40_27) 9, 9), (opA (opsIn c40_27) 10, 10), (opA (opsIn c40_27) 13, 13), (opA (opsIn c40_27) 14, 14)]) rfl (by kernel_rfl) (by kernel_rfl) (by kernel_rfl) ?_
    refine Rd_v (v := (Sl.v a_4)) (ps' := []) rfl (o_move rfl rfl) (reads_no rfl) rfl ?_
    refine Rd_v (v := (Value.int .i64 nd_6)) (ps' := []) rfl (o_move rfl rfl) (reads_no rfl) rfl ?_
    obtain ⟨x41, hx41, h⟩ := h.lt
    refine Rd_v (v := (Value.int .i64 x41)) (ps' := []) rfl (o_sub rfl rfl rfl hx41) (reads_no rfl) rfl ?_
    refine Rd_v (v := (Value.int .u32 x22)) (ps' := []) rfl (o_move rfl rfl) (reads_no rfl) rfl ?_
    obtain ⟨x42, hx42, h⟩ := h.lt
    refine Rd_v (v := (Value.int .u32 x42)) (ps' := []) rfl (o_add rfl rfl rfl hx42) (reads_no rfl) rfl ?_
    obtain ⟨x43, hx43, h⟩ := h.bd
    refine Rd_v (v := (Value.int .u8 x43)) (ps' := []) rfl (o_idxS rfl tu9 rfl rfl hx43) (reads_no rfl) rfl ?_
    obtain ⟨x44, hx44, h⟩ := h.bd
    refine Rd_v (v := (Value.pointer x44)) (ps' := []) rfl (o_iaSl rfl tu38 ts5 rfl rfl hx44) (reads_no rfl) rfl ?_
    obtain ⟨σ45, hσ45, h⟩ := h.bd
    refine Rd_d (ps' := [(12, σ40)]) rfl (o_store (v := (Value.int .u8 x43)) (vs := [(Value.int .u8 x43)]) rfl ts5 rfl rfl rfl rfl hσ45) (reads_no rfl) rfl ?_
    refine Rd_v (v := (Sl.v a_4)) (ps' := [(12, σ40)]) rfl (o_move rfl rfl) (reads_no rfl) rfl ?_
    refine Rd_v (v := (Value.int .i64 nd_6)) (ps' := [(12, σ40)]) rfl (o_move rfl rfl) (reads_no rfl) rfl ?_
    obtain ⟨x46, hx46, h⟩ := h.lt
    refine Rd_v (v := (Value.int .i64 x46)) (ps' := [(12, σ40)]) rfl (o_sub rfl rfl rfl hx46) (reads_no rfl) rfl ?_
    refine Rd_v (v := (Value.int .u32 x22)) (ps' := [(12, σ40)]) rfl (o_move rfl rfl) (reads_no rfl) rfl ?_
    obtain ⟨x47, hx47, h⟩ := h.bd
    refine Rd_v (v := (Value.int .u8 x47)) (ps' := [(12, σ40)]) rfl (o_idxS rfl tu9 rfl rfl hx47) (reads_no rfl) rfl ?_
    obtain ⟨x48, hx48, h⟩ := h.bd
    refine Rd_v (v := (Value.pointer x48)) (ps' := [(12, σ40)]) rfl (o_iaSl rfl tu38 ts5 rfl rfl hx48) (reads_no rfl) rfl ?_
    obtain ⟨σ49, hσ49, h⟩ := h.bd
    refine Rd_d (ps' := [(14, σ45), (12, σ40)]) rfl (o_store (v := (Value.int .u8 x47)) (vs := [(Value.int .u8 x47)]) rfl ts5 rfl rfl rfl rfl hσ49) (reads_no rfl) rfl ?_
    refine Rd_nil ?_
    refine Fx_seq (a := c40_29) (b := c40_30) rfl ?_
    refine Fx_draw (ops := opsIn c40_29) (l := [(opA (opsIn c40_29) 0, 0), (opA (opsIn c40_29) 1, 1), (opA (opsIn c40_29) 2, 2), (opA (opsIn c40_29) 6, 6), (opA (opsIn c40_29) 7, 7), (opA (opsIn c40_29) 8, 8), (opA (opsIn c40_29) 11, 11), (opA (opsIn c40_29) 12, 12), (opA (opsIn c40_29) 3, 3), (opA (opsIn c40_29) 4, 4), (opA (opsIn c40_29) 5, 5), (opA (opsIn c40_29) 9, 9), (opA (opsIn c40_29) 10, 10), (opA (opsIn c40_29) 13, 13), (opA (opsIn c40_29) 14, 14)]) rfl (by kernel_rfl) (by kernel_rfl) (by kernel_rfl) ?_
    refine Rd_v (v := (Sl.v a_4)) (ps' := []) rfl (o_move rfl rfl) (reads_no rfl) rfl ?_
    refine Rd_v (v := (Value.int .i64 nd_6)) (ps' := []) rfl (o_move rfl rfl) (reads_no rfl) rfl ?_
    obtain ⟨x50, hx50, h⟩ := h.lt
    refine Rd_v (v := (Value.int .i64 x50)) (ps' := []) rfl (o_sub rfl rfl rfl hx50) (reads_no rfl) rfl ?_
    refine Rd_v (v := (Value.int .u32 x20)) (ps' := []) rfl (o_move rfl rfl) (reads_no rfl) rfl ?_
    obtain ⟨x51, hx51, h⟩ := h.lt
    refine Rd_v (v := (Value.int .u32 x51)) (ps' := []) rfl (o_add rfl rfl rfl hx51) (reads_no rfl) rfl ?_
    obtain ⟨x52, hx52, h⟩ := h.bd
    refine Rd_v (v := (Value.int .u8 x52)) (ps' := []) rfl (o_idxS rfl tu9 rfl rfl hx52) (reads_no rfl) rfl ?_
    obtain ⟨x53, hx53, h⟩ := h.bd
    refine Rd_v (v := (Value.pointer x53)) (ps' := []) rfl (o_iaSl rfl tu38 ts5 rfl rfl hx53) (reads_no rfl) rfl ?_
    obtain ⟨σ54, hσ54, h⟩ := h.bd
    refine Rd_d (ps' := [(12, σ49)]) rfl (o_store (v := (Value.int .u8 x52)) (vs := [(Value.int .u8 x52)]) rfl ts5 rfl rfl rfl rfl hσ54) (reads_no rfl) rfl ?_
    refine Rd_v (v := (Sl.v a_4)) (ps' := [(12, σ49)]) rfl (o_move rfl rfl) (reads_no rfl) rfl ?_
    refine Rd_v (v := (Value.int .i64 nd_6)) (ps' := [(12, σ49)]) rfl (o_move rfl rfl) (reads_no rfl) rfl ?_
    obtain ⟨x55, hx55, h⟩ := h.lt
    refine Rd_v (v := (Value.int .i64 x55)) (ps' := [(12, σ49)]) rfl (o_sub rfl rfl rfl hx55) (reads_no rfl) rfl ?_
    refine Rd_v (v := (Value.int .u32 x20)) (ps' := [(12, σ49)]) rfl (o_move rfl rfl) (reads_no rfl) rfl ?_
    obtain ⟨x56, hx56, h⟩ := h.bd
    refine Rd_v (v := (Value.int .u8 x56)) (ps' := [(12, σ49)]) rfl (o_idxS rfl tu9 rfl rfl hx56) (reads_no rfl) rfl ?_
    obtain ⟨x57, hx57, h⟩ := h.bd
    refine Rd_v (v := (Value.pointer x57)) (ps' := [(12, σ49)]) rfl (o_iaSl rfl tu38 ts5 rfl rfl hx57) (reads_no rfl) rfl ?_
    obtain ⟨σ58, hσ58, h⟩ := h.bd
    refine Rd_d (ps' := [(14, σ54), (12, σ49)]) rfl (o_store (v := (Value.int .u8 x56)) (vs := [(Value.int .u8 x56)]) rfl ts5 rfl rfl rfl rfl hσ58) (reads_no rfl) rfl ?_
    refine Rd_nil ?_
    refine Fx_text rfl (by kernel_rfl) ?_
    refine Ro_v (v := (Value.int .i64 nd_6)) rfl (o_move rfl rfl) ?_
    obtain ⟨x59, hx59, h⟩ := h.lt
    refine Ro_v (v := (Value.int .i64 x59)) rfl (o_sub rfl rfl rfl hx59) ?_
    refine Ro_v (v := (Value.int .i64 x59)) rfl (o_assign rfl rfl) ?_
    refine Ro_nil ?_
    refine Fx_blk ?_
    exact Fx_forget (Fr.set_of (Fr.set_of (Fr.set_of rfl rfl) rfl) rfl) (h.sm _)
  · replace h := h.ifF ex9
    refine Fx_exit rfl ?_
    refine Fx_out_code ?_
    refine Fx_out_code ?_
    refine Fx_out_eq ?_
    exact Fx_forget (Fr.set_of (Fr.set_of (Fr.set_of rfl rfl) rfl) rfl) (h.sm _)
theorem p40_j2 (a_107 : Sl) (nd_108 : Int) (x_109 : Int) (σ : AHeap) (out : Value × AHeap) (f : Fr) (h : OptW (G_strconv_formatBase10_j2 a_107 nd_108 x_109 σ) (fun r => ((Value.tuple #[]), r) = out)) :
    Fx Tryd.prog rs40 [.code c40_61] .normal (Fr.set (Fr.set (Fr.set f 0 (Sl.v a_107)) 4 (Value.int .i64 nd_108)) 12 (Value.int .u32 x_109)) σ = some out := by
  unfold G_strconv_formatBase10_j2 at h
  refine Fx_seq (a := c40_62) (b := c40_63) rfl ?_
  refine Fx_text rfl (by kernel_rfl) ?_
  refine Ro_v (v := (Value.int .i64 nd_108)) rfl (o_move rfl rfl) ?_
  obtain ⟨x110, hx110, h⟩ := h.lt
  refine Ro_v (v := (Value.bool x110)) rfl (o_gtr rfl rfl rfl hx110) ?_
  refine Ro_nil ?_
  refine Fx_cond (a := c40_64) (b := c40_65) rfl rfl (fun ex110 => ?_) (fun ex110 => ?_)
  · replace h := h.ifT ex110
    refine Fx_text rfl (by kernel_rfl) ?_
    refine Ro_v (v := (Sl.v a_107)) rfl (o_move rfl rfl) ?_
    refine Ro_v (v := (Value.int .u32 x_109)) rfl (o_move rfl rfl) ?_
    obtain ⟨x111, hx111, h⟩ := h.lt
    refine Ro_v (v := (Value.int .u32 x111)) rfl (o_add rfl rfl rfl hx111) ?_
    obtain ⟨x112, hx112, h⟩ := h.lt
    refine Ro_v (v := (Value.int .u8 x112)) rfl (o_convI rfl tu48 tu5 rfl hx112) ?_
    obtain ⟨x113, hx113, h⟩ := h.bd
    refine Ro_v (v := (Value.pointer x113)) rfl (o_iaSl rfl tu38 ts5 rfl rfl hx113) ?_
    obtain ⟨σ114, hσ114, h⟩ := h.bd
    refine Ro_d rfl (o_store (v := (Value.int .u8 x112)) (vs := [(Value.int .u8 x112)]) rfl ts5 rfl rfl rfl rfl hσ114) ?_
    refine Ro_nil ?_
    exact Fx_end rfl (congrArg some h.sm)
  · replace h := h.ifF ex110
    refine Fx_skip (c := c40_65) rfl ?_
    exact Fx_end rfl (congrArg some h.sm)
theorem p40_j1 (a_90 : Sl) (nd_91 : Int) (x_92 : Int) (σ : AHeap) (out : Value × AHeap) (f : Fr) (h : OptW (G_strconv_formatBase10_j1 a_90 nd_91 x_92 σ) (fun r => ((Value.tuple #[]), r) = out)) :
    Fx Tryd.prog rs40 [.code c40_49] .normal (Fr.set (Fr.set (Fr.set f 0 (Sl.v a_90)) 4 (Value.int .i64 nd_91)) 12 (Value.int .u32 x_92)) σ = some out := by
  unfold G_strconv_formatBase10_j1 at h
  refine Fx_seq (a := c40_50) (b := c40_61) rfl ?_
  refine Fx_seq (a := c40_51) (b := c40_52) rfl ?_
  refine Fx_text rfl (by kernel_rfl) ?_
  refine Ro_v (v := (Value.int .i64 nd_91)) rfl (o_move rfl rfl) ?_
  obtain ⟨x93, hx93, h⟩ := h.lt
  refine Ro_v (v := (Value.bool x93)) rfl (o_geq rfl rfl rfl hx93) ?_
  refine Ro_nil ?_
  refine Fx_cond (a := c40_53) (b := c40_60) rfl rfl (fun ex93 => ?_) (fun ex93 => ?_)
  · replace h := h.ifT ex93
    refine Fx_seq (a := c40_54) (b := c40_55) rfl ?_
    refine Fx_text rfl (by kernel_rfl) ?_
    refine Ro_v (v := (Value.int .u32 x_92)) rfl (o_move rfl rfl) ?_
    obtain ⟨x94, hx94, h⟩ := h.lt
    refine Ro_v (v := (Value.int .u32 x94)) rfl (o_rem rfl rfl rfl (by decide) hx94) ?_
    obtain ⟨x95, hx95, h⟩ := h.lt
    refine Ro_v (v := (Value.int .u32 x95)) rfl (o_mul rfl rfl rfl hx95) ?_
    refine Ro_v (v := (Value.int .u32 x95)) rfl (o_assign rfl rfl) ?_
    refine Ro_nil ?_
    refine Fx_seq (a := c40_56) (b := c40_57) rfl ?_
    refine Fx_text rfl (by kernel_rfl) ?_
    refine Ro_v (v := (Value.int .u32 x_92)) rfl (o_move rfl rfl) ?_
    obtain ⟨x96, hx96, h⟩ := h.lt
    refine Ro_v (v := (Value.int .u32 x96)) rfl (o_quo rfl rfl rfl (by decide) hx96) ?_
    refine Ro_v (v := (Value.int .u32 x96)) rfl (o_assign rfl rfl) ?_
    refine Ro_nil ?_
    refine Fx_seq (a := c40_58) (b := c40_59) rfl ?_
    refine Fx_draw (ops := opsIn c40_58) (l := [(opA (opsIn c40_58) 0, 0), (opA (opsIn c40_58) 1, 1), (opA (opsIn c40_58) 2, 2), (opA (opsIn c40_58) 6, 6), (opA (opsIn c40_58) 7, 7), (opA (opsIn c40_58) 8, 8), (opA (opsIn c40_58) 11, 11), (opA (opsIn c40_58) 12, 12), (opA (opsIn c40_58) 3, 3), (opA (opsIn c40_58) 4, 4), (opA (opsIn c40_58) 5, 5), (opA (opsIn c40_58) 9, 9), (opA (opsIn c40_58) 10, 10), (opA (opsIn c40_58) 13, 13), (opA (opsIn c40_58) 14, 14)]) rfl (by kernel_rfl) (by kernel_rfl) (by kernel_rfl) ?_
    refine Rd_v (v := (Sl.v a_90)) (ps' := []) rfl (o_move rfl rfl) (reads_no rfl) rfl ?_
    refine Rd_v (v := (Value.int .i64 nd_91)) (ps' := []) rfl (o_move rfl rfl) (reads_no rfl) rfl ?_
    obtain ⟨x97, hx97, h⟩ := h.lt
    refine Rd_v (v := (Value.int .i64 x97)) (ps' := []) rfl (o_sub rfl rfl rfl hx97) (reads_no rfl) rfl ?_
    refine Rd_v (v := (Value.int .u32 x95)) (ps' := []) rfl (o_move rfl rfl) (reads_no rfl) rfl ?_
    obtain ⟨x98, hx98, h⟩ := h.lt
    refine Rd_v (v := (Value.int .u32 x98)) (ps' := []) rfl (o_add rfl rfl rfl hx98) (reads_no rfl) rfl ?_
    obtain ⟨x99, hx99, h⟩ := h.bd
    refine Rd_v (v := (Value.int .u8 x99)) (ps' := []) rfl (o_idxS rfl tu9 rfl rfl hx99) (reads_no rfl) rfl ?_
    obtain ⟨x100, hx100, h⟩ := h.bd
    refine Rd_v (v := (Value.pointer x100)) (ps' := []) rfl (o_iaSl rfl tu38 ts5 rfl rfl hx100) (reads_no rfl) rfl ?_
    obtain ⟨σ101, hσ101, h⟩ := h.bd
    refine Rd_d (ps' := [(12, σ)]) rfl (o_store (v := (Value.int .u8 x99)) (vs := [(Value.int .u8 x99)]) rfl ts5 rfl rfl rfl rfl hσ101) (reads_no rfl) rfl ?_
    refine Rd_v (v := (Sl.v a_90)) (ps' := [(12, σ)]) rfl (o_move rfl rfl) (reads_no rfl) rfl ?_
    refine Rd_v (v := (Value.int .i64 nd_91)) (ps' := [(12, σ)]) rfl (o_move rfl rfl) (reads_no rfl) rfl ?_
    obtain ⟨x102, hx102, h⟩ := h.lt
    refine Rd_v (v := (Value.int .i64 x102)) (ps' := [(12, σ)]) rfl (o_sub rfl rfl rfl hx102) (reads_no rfl) rfl ?_
    refine Rd_v (v := (Value.int .u32 x95)) (ps' := [(12, σ)]) rfl (o_move rfl rfl) (reads_no rfl) rfl ?_
    obtain ⟨x103, hx103, h⟩ := h.bd
    refine Rd_v (v := (Value.int .u8 x103)) (ps' := [(12, σ)]) rfl (o_idxS rfl tu9 rfl rfl hx103) (reads_no rfl) rfl ?_
    obtain ⟨x104, hx104, h⟩ := h.bd
    refine Rd_v (v := (Value.pointer x104)) (ps' := [(12, σ)]) rfl (o_iaSl rfl tu38 ts5 rfl rfl hx104) (reads_no rfl) rfl ?_
    obtain ⟨σ105, hσ105, h⟩ := h.bd
    refine Rd_d (ps' := [(14, σ101), (12, σ)]) rfl (o_store (v := (Value.int .u8 x103)) (vs := [(Value.int .u8 x103)]) rfl ts5 rfl rfl rfl rfl hσ105) (reads_no rfl) rfl ?_
    refine Rd_nil ?_
    refine Fx_text rfl (by kernel_rfl) ?_
    refine Ro_v (v := (Value.int .i64 nd_91)) rfl (o_move rfl rfl) ?_
    obtain ⟨x106, hx106, h⟩ := h.lt
    refine Ro_v (v := (Value.int .i64 x106)) rfl (o_sub rfl rfl rfl hx106) ?_
    refine Ro_v (v := (Value.int .i64 x106)) rfl (o_assign rfl rfl) ?_
    refine Ro_nil ?_
    exact Fx_forget (Fr.set_of (Fr.set_of (Fr.set_of rfl rfl) rfl) rfl) (p40_j2 _ _ _ _ _ _ h)
  · replace h := h.ifF ex93
    refine Fx_skip (c := c40_60) rfl ?_
    refine Fx_seq (a := c40_62) (b := c40_63) rfl ?_
    refine Fx_text rfl (by kernel_rfl) ?_
    refine Ro_v (v := (Value.int .i64 nd_91)) rfl (o_move rfl rfl) ?_
    obtain ⟨x115, hx115, h⟩ := h.lt
    refine Ro_v (v := (Value.bool x115)) rfl (o_gtr rfl rfl rfl hx115) ?_
    refine Ro_nil ?_
    refine Fx_cond (a := c40_64) (b := c40_65) rfl rfl (fun ex115 => ?_) (fun ex115 => ?_)
    · replace h := h.ifT ex115
      refine Fx_text rfl (by kernel_rfl) ?_
      refine Ro_v (v := (Sl.v a_90)) rfl (o_move rfl rfl) ?_
      refine Ro_v (v := (Value.int .u32 x_92)) rfl (o_move rfl rfl) ?_
      obtain ⟨x116, hx116, h⟩ := h.lt
      refine Ro_v (v := (Value.int .u32 x116)) rfl (o_add rfl rfl rfl hx116) ?_
      obtain ⟨x117, hx117, h⟩ := h.lt
      refine Ro_v (v := (Value.int .u8 x117)) rfl (o_convI rfl tu48 tu5 rfl hx117) ?_
      obtain ⟨x118, hx118, h⟩ := h.bd
      refine Ro_v (v := (Value.pointer x118)) rfl (o_iaSl rfl tu38 ts5 rfl rfl hx118) ?_
      obtain ⟨σ119, hσ119, h⟩ := h.bd
      refine Ro_d rfl (o_store (v := (Value.int .u8 x117)) (vs := [(Value.int .u8 x117)]) rfl ts5 rfl rfl rfl rfl hσ119) ?_
      refine Ro_nil ?_
      exact Fx_end rfl (congrArg some h.sm)
    · replace h := h.ifF ex115
      refine Fx_skip (c := c40_65) rfl ?_
      exact Fx_end rfl (congrArg some h.sm)
theorem w40 (a_1 : Sl) (u_2 : Int) (σ : AHeap) (r : AHeap) (h : G_strconv_formatBase10 a_1 u_2 σ = some r) : callL Tryd.prog 40 [(Sl.v a_1), (Value.int .u64 u_2)] σ = some ((Value.tuple #[]), r) := by
  refine callL_walk (fn := Tryd.f40) (c := c40_0) (rs := rs40) Tryd.func40 rfl ok40 rfl rfl ?_
  obtain ⟨out, ho⟩ : ∃ out, out = ((Value.tuple #[]), r) := ⟨_, rfl⟩
  rw [← ho]
  replace h : OptW (G_strconv_formatBase10 a_1 u_2 σ) (fun r => ((Value.tuple #[]), r) = out) := ⟨r, h, ho.symm⟩
  unfold G_strconv_formatBase10 at h
  refine Fx_seq (a := c40_1) (b := c40_2) rfl ?_
  refine Fx_text rfl (by kernel_rfl) ?_
  refine Ro_v (v := (Sl.v a_1)) rfl (o_move rfl rfl) ?_
  obtain ⟨x3, hx3, h⟩ := h.lt
  refine Ro_v (v := (Value.int .i64 x3)) rfl (o_lenSl rfl tu38 rfl hx3) ?_
  refine Ro_v (v := (Value.int .i64 x3)) rfl (o_assign rfl rfl) ?_
  refine Ro_nil ?_
  refine Fx_seq (a := c40_3) (b := c40_31) rfl ?_
  refine Fx_block (b := c40_4) rfl ?_
  refine Fx_forget (Fr.set_of (Fr.set_of (Fr.set_of rfl rfl) rfl) rfl) ((OptW.loop h (fun s => C40_l1 a_1 out (.inl s)) ?_ : C40_l1 a_1 out (.inl (u_2, x3, σ))) _)
  intro s hs f
  obtain ⟨u_5, nd_6, σ⟩ := s
  refine q40_l1 a_1 u_5 nd_6 σ out f (hs.imp ?_)
  intro r hr
  rcases r with y | b
  · exact hr
  · obtain ⟨u_60, nd_61, σ62⟩ := b
    have h := hr
    intro f
    refine Fx_seq (a := c40_32) (b := c40_33) rfl ?_
    refine Fx_text rfl (by kernel_rfl) ?_
    refine Ro_v (v := (Value.int .u64 u_60)) rfl (o_move rfl rfl) ?_
    obtain ⟨x63, hx63, h⟩ := h.lt
    refine Ro_v (v := (Value.int .u32 x63)) rfl (o_convI rfl tu43 tu48 rfl hx63) ?_
    refine Ro_v (v := (Value.int .u32 x63)) rfl (o_assign rfl rfl) ?_
    refine Ro_nil ?_
    refine Fx_seq (a := c40_34) (b := c40_49) rfl ?_
    refine Fx_seq (a := c40_35) (b := c40_36) rfl ?_
    refine Fx_text rfl (by kernel_rfl) ?_
    refine Ro_v (v := (Value.int .i64 nd_61)) rfl (o_move rfl rfl) ?_
    obtain ⟨x64, hx64, h⟩ := h.lt
    refine Ro_v (v := (Value.bool x64)) rfl (o_geq rfl rfl rfl hx64) ?_
    refine Ro_nil ?_
    refine Fx_cond (a := c40_37) (b := c40_48) rfl rfl (fun ex64 => ?_) (fun ex64 => ?_)
    · replace h := h.ifT ex64
      refine Fx_seq (a := c40_38) (b := c40_39) rfl ?_
      refine Fx_text rfl (by kernel_rfl) ?_
      refine Ro_v (v := (Value.int .u32 x63)) rfl (o_move rfl rfl) ?_
      obtain ⟨x65, hx65, h⟩ := h.lt
      refine Ro_v (v := (Value.int .u32 x65)) rfl (o_rem rfl rfl rfl (by decide) hx65) ?_
      refine Ro_v (v := (Value.int .u32 x65)) rfl (o_assign rfl rfl) ?_
      refine Ro_nil ?_
      refine Fx_seq (a := c40_40) (b := c40_41) rfl ?_
      refine Fx_text rfl (by kernel_rfl) ?_
      refine Ro_v (v := (Value.int .u32 x63)) rfl (o_move rfl rfl) ?_
      obtain ⟨x66, hx66, h⟩ := h.lt
      refine Ro_v (v := (Value.int .u32 x66)) rfl (o_quo rfl rfl rfl (by decide) hx66) ?_
      refine Ro_v (v := (Value.int .u32 x66)) rfl (o_assign rfl rfl) ?_
      refine Ro_nil ?_
      refine Fx_seq (a := c40_42) (b := c40_43) rfl ?_
      refine Fx_text rfl (by kernel_rfl) ?_
      refine Ro_v (v := (Value.int .u32 x65)) rfl (o_move rfl rfl) ?_
      obtain ⟨x67, hx67, h⟩ := h.lt
      refine Ro_v (v := (Value.int .u32 x67)) rfl (o_quo rfl rfl rfl (by decide) hx67) ?_
      obtain ⟨x68, hx68, h⟩ := h.lt
      refine Ro_v (v := (Value.int .u32 x68)) rfl (o_mul rfl rfl rfl hx68) ?_
      refine Ro_v (v := (Value.int .u32 x65)) rfl (o_move rfl rfl) ?_
      obtain ⟨x69, hx69, h⟩ := h.lt
      refine Ro_v (v := (Value.int .u32 x69)) rfl (o_rem rfl rfl rfl (by decide) hx69) ?_
      obtain ⟨x70, hx70, h⟩ := h.lt
      refine Ro_v (v := (Value.int .u32 x70)) rfl (o_mul rfl rfl rfl hx70) ?_
      refine Ro_v (v := (Value.int .u32 x68)) rfl (o_assign rfl rfl) ?_
      refine Ro_v (v := (Value.int .u32 x70)) rfl (o_assign rfl rfl) ?_
      refine Ro_nil ?_
      refine Fx_seq (a := c40_44) (b := c40_45) rfl ?_
      refine Fx_draw (ops := opsIn c40_44) (l := [(opA (opsIn c40_44) 0, 0), (opA (opsIn c40_44) 1, 1), (opA (opsIn c40_44) 2, 2), (opA (opsIn c40_44) 6, 6), (opA (opsIn c40_44) 7, 7), (opA (opsIn c40_44) 8, 8), (opA (opsIn c40_44) 11, 11), (opA (opsIn c40_44) 12, 12), (opA (opsIn c40_44) 3, 3), (opA (opsIn c40_44) 4, 4), (opA (opsIn c40_44) 5, 5), (opA (opsIn c40_44) 9, 9), (opA (opsIn c40_44) 10, 10), (opA (opsIn c40_44) 13, 13), (opA (opsIn c40_44) 14, 14)]) rfl (by kernel_rfl) (by kernel_rfl) (by kernel_rfl) ?_
      refine Rd_v (v := (Sl.v a_1)) (ps' := []) rfl (o_move rfl rfl) (reads_no rfl) rfl ?_
      refine Rd_v (v := (Value.int .i64 nd_61)) (ps' := []) rfl (o_move rfl rfl) (reads_no rfl) rfl ?_
      obtain ⟨x71, hx71, h⟩ := h.lt
      refine Rd_v (v := (Value.int .i64 x71)) (ps' := []) rfl (o_sub rfl rfl rfl hx71) (reads_no rfl) rfl ?_
      refine Rd_v (v := (Value.int .u32 x70)) (ps' := []) rfl (o_move rfl rfl) (reads_no rfl) rfl ?_
      obtain ⟨x72, hx72, h⟩ := h.lt
      refine Rd_v (v := (Value.int .u32 x72)) (ps' := []) rfl (o_add rfl rfl rfl hx72) (reads_no rfl) rfl ?_
      obtain ⟨x73, hx73, h⟩ := h.bd
      refine Rd_v (v := (Value.int .u8 x73)) (ps' := []) rfl (o_idxS rfl tu9 rfl rfl hx73) (reads_no rfl) rfl ?_
      obtain ⟨x74, hx74, h⟩ := h.bd
      refine Rd_v (v := (Value.pointer x74)) (ps' := []) rfl (o_iaSl rfl tu38 ts5 rfl rfl hx74) (reads_no rfl) rfl ?_
      obtain ⟨σ75, hσ75, h⟩ := h.bd
      refine Rd_d (ps' := [(12, σ62)]) rfl (o_store (v := (Value.int .u8 x73)) (vs := [(Value.int .u8 x73)]) rfl ts5 rfl rfl rfl rfl hσ75) (reads_no rfl) rfl ?_
      refine Rd_v (v := (Sl.v a_1)) (ps' := [(12, σ62)]) rfl (o_move rfl rfl) (reads_no rfl) rfl ?_
      refine Rd_v (v := (Value.int .i64 nd_61)) (ps' := [(12, σ62)]) rfl (o_move rfl rfl) (reads_no rfl) rfl ?_
      obtain ⟨x76, hx76, h⟩ := h.lt
      refine Rd_v (v := (Value.int .i64 x76)) (ps' := [(12, σ62)]) rfl (o_sub rfl rfl rfl hx76) (reads_no rfl) rfl ?_
      refine Rd_v (v := (Value.int .u32 x70)) (ps' := [(12, σ62)]) rfl (o_move rfl rfl) (reads_no rfl) rfl ?_
      obtain ⟨x77, hx77, h⟩ := h.bd
      refine Rd_v (v := (Value.int .u8 x77)) (ps' := [(12, σ62)]) rfl (o_idxS rfl tu9 rfl rfl hx77) (reads_no rfl) rfl ?_
      obtain ⟨x78, hx78, h⟩ := h.bd
      refine Rd_v (v := (Value.pointer x78)) (ps' := [(12, σ62)]) rfl (o_iaSl rfl tu38 ts5 rfl rfl hx78) (reads_no rfl) rfl ?_
      obtain ⟨σ79, hσ79, h⟩ := h.bd
      refine Rd_d (ps' := [(14, σ75), (12, σ62)]) rfl (o_store (v := (Value.int .u8 x77)) (vs := [(Value.int .u8 x77)]) rfl ts5 rfl rfl rfl rfl hσ79) (reads_no rfl) rfl ?_
      refine Rd_nil ?_
      refine Fx_seq (a := c40_46) (b := c40_47) rfl ?_
      refine Fx_draw (ops := opsIn c40_46) (l := [(opA (opsIn c40_46) 0, 0), (opA (opsIn c40_46) 1, 1), (opA (opsIn c40_46) 2, 2), (opA (opsIn c40_46) 6, 6), (opA (opsIn c40_46) 7, 7), (opA (opsIn c40_46) 8, 8), (opA (opsIn c40_46) 11, 11), (opA (opsIn c40_46) 12, 12), (opA (opsIn c40_46) 3, 3), (opA (opsIn c40_46) 4, 4), (opA (opsIn c40_46) 5, 5), (opA (opsIn c40_46) 9, 9), (opA (opsIn c40_46) 10, 10), (opA (opsIn c40_46) 13, 13), (opA (opsIn c40_46) 14, 14)]) rfl (by kernel_rfl) (by kernel_rfl) (by kernel_rfl) ?_
      refine Rd_v (v := (Sl.v a_1)) (ps' := []) rfl (o_move rfl rfl) (reads_no rfl) rfl ?_
      refine Rd_v (v := (Value.int .i64 nd_61)) (ps' := []) rfl (o_move rfl rfl) (reads_no rfl) rfl ?_
      obtain ⟨x80, hx80, h⟩ := h.lt
      refine Rd_v (v := (Value.int .i64 x80)) (ps' := []) rfl (o_sub rfl rfl rfl hx80) (reads_no rfl) rfl ?_
      refine Rd_v (v := (Value.int .u32 x68)) (ps' := []) rfl (o_move rfl rfl) (reads_no rfl) rfl ?_
      obtain ⟨x81, hx81, h⟩ := h.lt
      refine Rd_v (v := (Value.int .u32 x81)) (ps' := []) rfl (o_add rfl rfl rfl hx81) (reads_no rfl) rfl ?_
      obtain ⟨x82, hx82, h⟩ := h.bd
      refine Rd_v (v := (Value.int .u8 x82)) (ps' := []) rfl (o_idxS rfl tu9 rfl rfl hx82) (reads_no rfl) rfl ?_
      obtain ⟨x83, hx83, h⟩ := h.bd
      refine Rd_v (v := (Value.pointer x83)) (ps' := []) rfl (o_iaSl rfl tu38 ts5 rfl rfl hx83) (reads_no rfl) rfl ?_
      obtain ⟨σ84, hσ84, h⟩ := h.bd
      refine Rd_d (ps' := [(12, σ79)]) rfl (o_store (v := (Value.int .u8 x82)) (vs := [(Value.int .u8 x82)]) rfl ts5 rfl rfl rfl rfl hσ84) (reads_no rfl) rfl ?_
      refine Rd_v (v := (Sl.v a_1)) (ps' := [(12, σ79)]) rfl (o_move rfl rfl) (reads_no rfl) rfl ?_
      refine Rd_v (v := (Value.int .i64 nd_61)) (ps' := [(12, σ79)]) rfl (o_move rfl rfl) (reads_no rfl) rfl ?_
      obtain ⟨x85, hx85, h⟩ := h.lt
      refine Rd_v (v := (Value.int .i64 x85)) (ps' := [(12, σ79)]) rfl (o_sub rfl rfl rfl hx85) (reads_no rfl) rfl ?_
      refine Rd_v (v := (Value.int .u32 x68)) (ps' := [(12, σ79)]) rfl (o_move rfl rfl) (reads_no rfl) rfl ?_
      obtain ⟨x86, hx86, h⟩ := h.bd
      refine Rd_v (v := (Value.int .u8 x86)) (ps' := [(12, σ79)]) rfl (o_idxS rfl tu9 rfl rfl hx86) (reads_no rfl) rfl ?_
      obtain ⟨x87, hx87, h⟩ := h.bd
      refine Rd_v (v := (Value.pointer x87)) (ps' := [(12, σ79)]) rfl (o_iaSl rfl tu38 ts5 rfl rfl hx87) (reads_no rfl) rfl ?_
      obtain ⟨σ88, hσ88, h⟩ := h.bd
      refine Rd_d (ps' := [(14, σ84), (12, σ79)]) rfl (o_store (v := (Value.int .u8 x86)) (vs := [(Value.int .u8 x86)]) rfl ts5 rfl rfl rfl rfl hσ88) (reads_no rfl) rfl ?_
      refine Rd_nil ?_
      refine Fx_text rfl (by kernel_rfl) ?_
      refine Ro_v (v := (Value.int .i64 nd_61)) rfl (o_move rfl rfl) ?_
      obtain ⟨x89, hx89, h⟩ := h.lt
      refine Ro_v (v := (Value.int .i64 x89)) rfl (o_sub rfl rfl rfl hx89) ?_
      refine Ro_v (v := (Value.int .i64 x89)) rfl (o_assign rfl rfl) ?_
      refine Ro_nil ?_
      exact Fx_forget (Fr.set_of (Fr.set_of (Fr.set_of rfl rfl) rfl) rfl) (p40_j1 _ _ _ _ _ _ h)
    · replace h := h.ifF ex64
      refine Fx_skip (c := c40_48) rfl ?_
      refine Fx_seq (a := c40_50) (b := c40_61) rfl ?_
      refine Fx_seq (a := c40_51) (b := c40_52) rfl ?_
      refine Fx_text rfl (by kernel_rfl) ?_
      refine Ro_v (v := (Value.int .i64 nd_61)) rfl (o_move rfl rfl) ?_
      obtain ⟨x120, hx120, h⟩ := h.lt
      refine Ro_v (v := (Value.bool x120)) rfl (o_geq rfl rfl rfl hx120) ?_
      refine Ro_nil ?_
      refine Fx_cond (a := c40_53) (b := c40_60) rfl rfl (fun ex120 => ?_) (fun ex120 => ?_)
      · replace h := h.ifT ex120
        refine Fx_seq (a := c40_54) (b := c40_55) rfl ?_
        refine Fx_text rfl (by kernel_rfl) ?_
        refine Ro_v (v := (Value.int .u32 x63)) rfl (o_move rfl rfl) ?_
        obtain ⟨x121, hx121, h⟩ := h.lt
        refine Ro_v (v := (Value.int .u32 x121)) rfl (o_rem rfl rfl rfl (by decide) hx121) ?_
        obtain ⟨x122, hx122, h⟩ := h.lt
        refine Ro_v (v := (Value.int .u32 x122)) rfl (o_mul rfl rfl rfl hx122) ?_
        refine Ro_v (v := (Value.int .u32 x122)) rfl (o_assign rfl rfl) ?_
        refine Ro_nil ?_
        refine Fx_seq (a := c40_56) (b := c40_57) rfl ?_
        refine Fx_text rfl (by kernel_rfl) ?_
        refine Ro_v (v := (Value.int .u32 x63)) rfl (o_move rfl rfl) ?_
        obtain ⟨x123, hx123, h⟩ := h.lt
        refine Ro_v (v := (Value.int .u32 x123)) rfl (o_quo rfl rfl rfl (by decide) hx123) ?_
        refine Ro_v (v := (Value.int .u32 x123)) rfl (o_assign rfl rfl) ?_
        refine Ro_nil ?_
        refine Fx_seq (a := c40_58) (b := c40_59) rfl ?_
        refine Fx_draw (ops := opsIn c40_58) (l := [(opA (opsIn c40_58) 0, 0), (opA (opsIn c40_58) 1, 1), (opA (opsIn c40_58) 2, 2), (opA (opsIn c40_58) 6, 6), (opA (opsIn c40_58) 7, 7), (opA (opsIn c40_58) 8, 8), (opA (opsIn c40_58) 11, 11), (opA (opsIn c40_58) 12, 12), (opA (opsIn c40_58) 3, 3), (opA (opsIn c40_58) 4, 4), (opA (opsIn c40_58) 5, 5), (opA (opsIn c40_58) 9, 9), (opA (opsIn c40_58) 10, 10), (opA (opsIn c40_58) 13, 13), (opA (opsIn c40_58) 14, 14)]) rfl (by kernel_rfl) (by kernel_rfl) (by kernel_rfl) ?_
        refine Rd_v (v := (Sl.v a_1)) (ps' := []) rfl (o_move rfl rfl) (reads_no rfl) rfl ?_
        refine Rd_v (v := (Value.int .i64 nd_61)) (ps' := []) rfl (o_move rfl rfl) (reads_no rfl) rfl ?_
        obtain ⟨x124, hx124, h⟩ := h.lt
        refine Rd_v (v := (Value.int .i64 x124)) (ps' := []) rfl (o_sub rfl rfl rfl hx124) (reads_no rfl) rfl ?_
        refine Rd_v (v := (Value.int .u32 x122)) (ps' := []) rfl (o_move rfl rfl) (reads_no rfl) rfl ?_
        obtain ⟨x125, hx125, h⟩ := h.lt
        refine Rd_v (v := (Value.int .u32 x125)) (ps' := []) rfl (o_add rfl rfl rfl hx125) (reads_no rfl) rfl ?_
        obtain ⟨x126, hx126, h⟩ := h.bd
        refine Rd_v (v := (Value.int .u8 x126)) (ps' := []) rfl (o_idxS rfl tu9 rfl rfl hx126) (reads_no rfl) rfl ?_
        obtain ⟨x127, hx127, h⟩ := h.bd
        refine Rd_v (v := (Value.pointer x127)) (ps' := []) rfl (o_iaSl rfl tu38 ts5 rfl rfl hx127) (reads_no rfl) rfl ?_
        obtain ⟨σ128, hσ128, h⟩ := h.bd
        refine Rd_d (ps' := [(12, σ62)]) rfl (o_store (v := (Value.int .u8 x126)) (vs := [(Value.int .u8 x126)]) rfl ts5 rfl rfl rfl rfl hσ128) (reads_no rfl) rfl ?_
        refine Rd_v (v := (Sl.v a_1)) (ps' := [(12, σ62)]) rfl (o_move rfl rfl) (reads_no rfl) rfl ?_
        refine Rd_v (v := (Value.int .i64 nd_61)) (ps' := [(12, σ62)]) rfl (o_move rfl rfl) (reads_no rfl) rfl ?_
        obtain ⟨x129, hx129, h⟩ := h.lt
        refine Rd_v (v := (Value.int .i64 x129)) (ps' := [(12, σ62)]) rfl (o_sub rfl rfl rfl hx129) (reads_no rfl) rfl ?_
        refine Rd_v (v := (Value.int .u32 x122)) (ps' := [(12, σ62)]) rfl (o_move rfl rfl) (reads_no rfl) rfl ?_
        obtain ⟨x130, hx130, h⟩ := h.bd
        refine Rd_v (v := (Value.int .u8 x130)) (ps' := [(12, σ62)]) rfl (o_idxS rfl tu9 rfl rfl hx130) (reads_no rfl) rfl ?_
        obtain ⟨x131, hx131, h⟩ := h.bd
        refine Rd_v (v := (Value.pointer x131)) (ps' := [(12, σ62)]) rfl (o_iaSl rfl tu38 ts5 rfl rfl hx131) (reads_no rfl) rfl ?_
        obtain ⟨σ132, hσ132, h⟩ := h.bd
        refine Rd_d (ps' := [(14, σ128), (12, σ62)]) rfl (o_store (v := (Value.int .u8 x130)) (vs := [(Value.int .u8 x130)]) rfl ts5 rfl rfl rfl rfl hσ132) (reads_no rfl) rfl ?_
        refine Rd_nil ?_
        refine Fx_text rfl (by kernel_rfl) ?_
        refine Ro_v (v := (Value.int .i64 nd_61)) rfl (o_move rfl rfl) ?_
        obtain ⟨x133, hx133, h⟩ := h.lt
        refine Ro_v (v := (Value.int .i64 x133)) rfl (o_sub rfl rfl rfl hx133) ?_
        refine Ro_v (v := (Value.int .i64 x133)) rfl (o_assign rfl rfl) ?_
        refine Ro_nil ?_
        exact Fx_forget (Fr.set_of (Fr.set_of (Fr.set_of rfl rfl) rfl) rfl) (p40_j2 _ _ _ _ _ _ h)
      · replace h := h.ifF ex120
        refine Fx_skip (c := c40_60) rfl ?_
        refine Fx_seq (a := c40_62) (b := c40_63) rfl ?_
        refine Fx_text rfl (by kernel_rfl) ?_
        refine Ro_v (v := (Value.int .i64 nd_61)) rfl (o_move rfl rfl) ?_
        obtain ⟨x134, hx134, h⟩ := h.lt
        refine Ro_v (v := (Value.bool x134)) rfl (o_gtr rfl rfl rfl hx134) ?_
        refine Ro_nil ?_
        refine Fx_cond (a := c40_64) (b := c40_65) rfl rfl (fun ex134 => ?_) (fun ex134 => ?_)
        · replace h := h.ifT ex134
          refine Fx_text rfl (by kernel_rfl) ?_
          refine Ro_v (v := (Sl.v a_1)) rfl (o_move rfl rfl) ?_
          refine Ro_v (v := (Value.int .u32 x63)) rfl (o_move rfl rfl) ?_
          obtain ⟨x135, hx135, h⟩ := h.lt
          refine Ro_v (v := (Value.int .u32 x135)) rfl (o_add rfl rfl rfl hx135) ?_
          obtain ⟨x136, hx136, h⟩ := h.lt
          refine Ro_v (v := (Value.int .u8 x136)) rfl (o_convI rfl tu48 tu5 rfl hx136) ?_
          obtain ⟨x137, hx137, h⟩ := h.bd
          refine Ro_v (v := (Value.pointer x137)) rfl (o_iaSl rfl tu38 ts5 rfl rfl hx137) ?_
          obtain ⟨σ138, hσ138, h⟩ := h.bd
          refine Ro_d rfl (o_store (v := (Value.int .u8 x136)) (vs := [(Value.int .u8 x136)]) rfl ts5 rfl rfl rfl rfl hσ138) ?_
          refine Ro_nil ?_
          exact Fx_end rfl (congrArg some h.sm)
        · replace h := h.ifF ex134
          refine Fx_skip (c := c40_65) rfl ?_
          exact Fx_end rfl (congrArg some h.sm)
noncomputable def c47_0 : Code := bodyOf Tryd.f47
noncomputable def c47_1 : Code := cl c47_0
noncomputable def c47_2 : Code := cr c47_0
noncomputable def c47_3 : Code := cl c47_2
noncomputable def c47_4 : Code := cr c47_2
theorem ok47 : funcOk Tryd.f47 = true := by kernel_rfl
noncomputable def rs47 : List ResultVar := resultsOf Tryd.f47
theorem w47 (x_2 : Int) (σ : AHeap) (r : Bool) (h : G_strconv_isPowerOfTwo x_2 = some r) : callL Tryd.prog 47 [(Value.int .i64 x_2)] σ = some ((Value.bool r), σ) := by
  refine callL_walk (fn := Tryd.f47) (c := c47_0) (rs := rs47) Tryd.func47 rfl ok47 rfl rfl ?_
  obtain ⟨out, ho⟩ : ∃ out, out = ((Value.bool r), σ) := ⟨_, rfl⟩
  rw [← ho]
  replace h : OptW (G_strconv_isPowerOfTwo x_2) (fun r => ((Value.bool r), σ) = out) := ⟨r, h, ho.symm⟩
  unfold G_strconv_isPowerOfTwo at h
  refine Fx_seq (a := c47_1) (b := c47_2) rfl ?_
  refine Fx_text rfl (by kernel_rfl) ?_
  refine Ro_v (v := (Value.bool false)) rfl (o_assign rfl rfl) ?_
  refine Ro_nil ?_
  refine Fx_seq (a := c47_3) (b := c47_4) rfl ?_
  refine Fx_text rfl (by kernel_rfl) ?_
  refine Ro_v (v := (Value.int .i64 x_2)) rfl (o_move rfl rfl) ?_
  refine Ro_v (v := (Value.int .i64 x_2)) rfl (o_move rfl rfl) ?_
  obtain ⟨x3, hx3, h⟩ := h.lt
  refine Ro_v (v := (Value.int .i64 x3)) rfl (o_sub rfl rfl rfl hx3) ?_
  obtain ⟨x4, hx4, h⟩ := h.lt
  refine Ro_v (v := (Value.int .i64 x4)) rfl (o_and rfl rfl rfl hx4) ?_
  obtain ⟨x5, hx5, h⟩ := h.lt
  refine Ro_v (v := (Value.bool x5)) rfl (o_eql rfl rfl rfl hx5) ?_
  refine Ro_v (v := (Value.bool x5)) rfl (o_assign rfl rfl) ?_
  refine Ro_nil ?_
  exact Fx_ret rfl rfl (congrArg some h.sm)
noncomputable def c49_0 : Code := bodyOf Tryd.f49
noncomputable def c49_1 : Code := cl c49_0
noncomputable def c49_2 : Code := cr c49_0
noncomputable def c49_3 : Code := cl c49_2
noncomputable def c49_4 : Code := cl c49_3
noncomputable def c49_5 : Code := cr c49_3
noncomputable def c49_6 : Code := cl c49_5
noncomputable def c49_7 : Code := cl c49_6
noncomputable def c49_8 : Code := cr c49_6
noncomputable def c49_9 : Code := cr c49_5
noncomputable def c49_10 : Code := cr c49_2
noncomputable def c49_11 : Code := cl c49_10
noncomputable def c49_12 : Code := cr c49_10
theorem ok49 : funcOk Tryd.f49 = true := by kernel_rfl
noncomputable def rs49 : List ResultVar := resultsOf Tryd.f49
theorem w49 (x_2 : Int) (σ : AHeap) (r : Int) (h : G_bits_TrailingZeros32 x_2 σ = some r) : callL Tryd.prog 49 [(Value.int .u32 x_2)] σ = some ((Value.int .i64 r), σ) := by
  refine callL_walk (fn := Tryd.f49) (c := c49_0) (rs := rs49) Tryd.func49 rfl ok49 rfl rfl ?_
  obtain ⟨out, ho⟩ : ∃ out, out = ((Value.int .i64 r), σ) := ⟨_, rfl⟩
  rw [← ho]
  replace h : OptW (G_bits_TrailingZeros32 x_2 σ) (fun r => ((Value.int .i64 r), σ) = out) := ⟨r, h, ho.symm⟩
  unfold G_bits_TrailingZeros32 at h
  refine Fx_seq (a := c49_1) (b := c49_2) rfl ?_
  refine Fx_text rfl (by kernel_rfl) ?_
  refine Ro_v (v := (Value.int .i64 (0))) rfl (o_assign rfl rfl) ?_
  refine Ro_nil ?_
  refine Fx_seq (a := c49_3) (b := c49_10) rfl ?_
  refine Fx_seq (a := c49_4) (b := c49_5) rfl ?_
  refine Fx_text rfl (by kernel_rfl) ?_
  refine Ro_v (v := (Value.int .u32 x_2)) rfl (o_move rfl rfl) ?_
  obtain ⟨x3, hx3, h⟩ := h.lt
  refine Ro_v (v := (Value.bool x3)) rfl (o_eql rfl rfl rfl hx3) ?_
  refine Ro_nil ?_
  refine Fx_cond (a := c49_6) (b := c49_9) rfl rfl (fun ex3 => ?_) (fun ex3 => ?_)
  · replace h := h.ifT ex3
    refine Fx_seq (a := c49_7) (b := c49_8) rfl ?_
    refine Fx_text rfl (by kernel_rfl) ?_
    refine Ro_v (v := (Value.int .i64 (32))) rfl (o_assign rfl rfl) ?_
    refine Ro_nil ?_
    exact Fx_ret rfl rfl (congrArg some h.sm)
  · replace h := h.ifF ex3
    exact h.nn.elim
noncomputable def c50_0 : Code := bodyOf Tryd.f50
noncomputable def c50_1 : Code := cl c50_0
noncomputable def c50_2 : Code := cr c50_0
noncomputable def c50_3 : Code := cl c50_2
noncomputable def c50_4 : Code := cl c50_3
noncomputable def c50_5 : Code := cr c50_3
noncomputable def c50_6 : Code := cl c50_5
noncomputable def c50_7 : Code := cl c50_6
noncomputable def c50_8 : Code := cr c50_6
noncomputable def c50_9 : Code := cr c50_5
noncomputable def c50_10 : Code := cr c50_2
noncomputable def c50_11 : Code := cl c50_10
noncomputable def c50_12 : Code := cr c50_10
theorem ok50 : funcOk Tryd.f50 = true := by kernel_rfl
noncomputable def rs50 : List ResultVar := resultsOf Tryd.f50
theorem w50 (x_2 : Int) (σ : AHeap) (r : Int) (h : G_bits_TrailingZeros64 x_2 σ = some r) : callL Tryd.prog 50 [(Value.int .u64 x_2)] σ = some ((Value.int .i64 r), σ) := by
  refine callL_walk (fn := Tryd.f50) (c := c50_0) (rs := rs50) Tryd.func50 rfl ok50 rfl rfl ?_
  obtain ⟨out, ho⟩ : ∃ out, out = ((Value.int .i64 r), σ) := ⟨_, rfl⟩
  rw [← ho]
  replace h : OptW (G_bits_TrailingZeros64 x_2 σ) (fun r => ((Value.int .i64 r), σ) = out) := ⟨r, h, ho.symm⟩
  unfold G_bits_TrailingZeros64 at h
  refine Fx_seq (a := c50_1) (b := c50_2) rfl ?_
  refine Fx_text rfl (by kernel_rfl) ?_
  refine Ro_v (v := (Value.int .i64 (0))) rfl (o_assign rfl rfl) ?_
  refine Ro_nil ?_
  refine Fx_seq (a := c50_3) (b := c50_10) rfl ?_
  refine Fx_seq (a := c50_4) (b := c50_5) rfl ?_
  refine Fx_text rfl (by kernel_rfl) ?_
  refine Ro_v (v := (Value.int .u64 x_2)) rfl (o_move rfl rfl) ?_
  obtain ⟨x3, hx3, h⟩ := h.lt
  refine Ro_v (v := (Value.bool x3)) rfl (o_eql rfl rfl rfl hx3) ?_
  refine Ro_nil ?_
  refine Fx_cond (a := c50_6) (b := c50_9) rfl rfl (fun ex3 => ?_) (fun ex3 => ?_)
  · replace h := h.ifT ex3
    refine Fx_seq (a := c50_7) (b := c50_8) rfl ?_
    refine Fx_text rfl (by kernel_rfl) ?_
    refine Ro_v (v := (Value.int .i64 (64))) rfl (o_assign rfl rfl) ?_
    refine Ro_nil ?_
    exact Fx_ret rfl rfl (congrArg some h.sm)
  · replace h := h.ifF ex3
    exact h.nn.elim
noncomputable def c48_0 : Code := bodyOf Tryd.f48
noncomputable def c48_1 : Code := cl c48_0
noncomputable def c48_2 : Code := cr c48_0
noncomputable def c48_3 : Code := cl c48_2
noncomputable def c48_4 : Code := cl c48_3
noncomputable def c48_5 : Code := cl c48_4
noncomputable def c48_6 : Code := cr c48_4
noncomputable def c48_7 : Code := cr c48_3
noncomputable def c48_8 : Code := cr c48_2
noncomputable def c48_9 : Code := cl c48_8
noncomputable def c48_10 : Code := cr c48_8
theorem ok48 : funcOk Tryd.f48 = true := by kernel_rfl
noncomputable def rs48 : List ResultVar := resultsOf Tryd.f48
theorem w48 (x_2 : Int) (σ : AHeap) (r : Int) (h : G_bits_TrailingZeros x_2 σ = some r) : callL Tryd.prog 48 [(Value.int .u64 x_2)] σ = some ((Value.int .i64 r), σ) := by
  refine callL_walk (fn := Tryd.f48) (c := c48_0) (rs := rs48) Tryd.func48 rfl ok48 rfl rfl ?_
  obtain ⟨out, ho⟩ : ∃ out, out = ((Value.int .i64 r), σ) := ⟨_, rfl⟩
  rw [← ho]
  replace h : OptW (G_bits_TrailingZeros x_2 σ) (fun r => ((Value.int .i64 r), σ) = out) := ⟨r, h, ho.symm⟩
  unfold G_bits_TrailingZeros at h
  refine Fx_seq (a := c48_1) (b := c48_2) rfl ?_
  refine Fx_text rfl (by kernel_rfl) ?_
  refine Ro_v (v := (Value.int .i64 (0))) rfl (o_assign rfl rfl) ?_
  refine Ro_nil ?_
  refine Fx_seq (a := c48_3) (b := c48_8) rfl ?_
  refine Fx_cond (a := c48_4) (b := c48_7) rfl rfl (fun q => nomatch q) (fun _ => ?_)
  refine Fx_skip (c := c48_7) rfl ?_
  refine Fx_seq (a := c48_9) (b := c48_10) rfl ?_
  refine Fx_text rfl (by kernel_rfl) ?_
  refine Ro_v (v := (Value.int .u64 x_2)) rfl (o_move rfl rfl) ?_
  obtain ⟨x3, hx3, h⟩ := h.bd
  refine Ro_v (v := (Value.int .i64 x3)) rfl (o_call (vs := [(Value.int .u64 x_2)]) rfl rfl (w50 _ _ _ hx3)) ?_
  refine Ro_v (v := (Value.int .i64 x3)) rfl (o_assign rfl rfl) ?_
  refine Ro_nil ?_
  exact Fx_ret rfl rfl (congrArg some h.sm)
noncomputable def c41_0 : Code := bodyOf Tryd.f41
noncomputable def c41_1 : Code := cl c41_0
noncomputable def c41_2 : Code := cr c41_0
noncomputable def c41_3 : Code := cl c41_2
noncomputable def c41_4 : Code := cl c41_3
noncomputable def c41_5 : Code := cr c41_3
noncomputable def c41_6 : Code := cl c41_5
noncomputable def c41_7 : Code := cr c41_5
noncomputable def c41_8 : Code := cr c41_2
noncomputable def c41_9 : Code := cl c41_8
noncomputable def c41_10 : Code := cr c41_8
noncomputable def c41_11 : Code := cl c41_10
noncomputable def c41_12 : Code := cr c41_10
noncomputable def c41_13 : Code := cl c41_12
noncomputable def c41_14 : Code := cl c41_13
noncomputable def c41_15 : Code := cr c41_13
noncomputable def c41_16 : Code := cl c41_15
noncomputable def c41_17 : Code := cr c41_15
noncomputable def c41_18 : Code := cr c41_12
noncomputable def c41_19 : Code := cl c41_18
noncomputable def c41_20 : Code := cl c41_19
noncomputable def c41_21 : Code := cr c41_19
noncomputable def c41_22 : Code := cl c41_21
noncomputable def c41_23 : Code := cl c41_22
noncomputable def c41_24 : Code := cr c41_22
noncomputable def c41_25 : Code := cl c41_24
noncomputable def c41_26 : Code := cr c41_24
noncomputable def c41_27 : Code := cl c41_26
noncomputable def c41_28 : Code := cr c41_26
noncomputable def c41_29 : Code := cl c41_28
noncomputable def c41_30 : Code := cl c41_29
noncomputable def c41_31 : Code := cl c41_30
noncomputable def c41_32 : Code := cl c41_31
noncomputable def c41_33 : Code := cl c41_32
noncomputable def c41_34 : Code := cr c41_32
noncomputable def c41_35 : Code := cl c41_34
noncomputable def c41_36 : Code := cr c41_34
noncomputable def c41_37 : Code := cr c41_31
noncomputable def c41_38 : Code := cl c41_37
noncomputable def c41_39 : Code := cl c41_38
noncomputable def c41_40 : Code := cr c41_38
noncomputable def c41_41 : Code := cl c41_40
noncomputable def c41_42 : Code := cr c41_40
noncomputable def c41_43 : Code := cr c41_28
noncomputable def c41_44 : Code := cl c41_43
noncomputable def c41_45 : Code := cr c41_43
noncomputable def c41_46 : Code := cr c41_21
noncomputable def c41_47 : Code := cl c41_46
noncomputable def c41_48 : Code := cr c41_46
noncomputable def c41_49 : Code := cl c41_48
noncomputable def c41_50 : Code := cl c41_49
noncomputable def c41_51 : Code := cl c41_50
noncomputable def c41_52 : Code := cl c41_51
noncomputable def c41_53 : Code := cl c41_52
noncomputable def c41_54 : Code := cr c41_52
noncomputable def c41_55 : Code := cl c41_54
noncomputable def c41_56 : Code := cr c41_54
noncomputable def c41_57 : Code := cr c41_51
noncomputable def c41_58 : Code := cl c41_57
noncomputable def c41_59 : Code := cl c41_58
noncomputable def c41_60 : Code := cr c41_58
noncomputable def c41_61 : Code := cl c41_60
noncomputable def c41_62 : Code := cr c41_60
noncomputable def c41_63 : Code := cl c41_62
noncomputable def c41_64 : Code := cr c41_62
noncomputable def c41_65 : Code := cr c41_48
noncomputable def c41_66 : Code := cl c41_65
noncomputable def c41_67 : Code := cr c41_65
noncomputable def c41_68 : Code := cr c41_18
noncomputable def c41_69 : Code := cl c41_68
noncomputable def c41_70 : Code := cl c41_69
noncomputable def c41_71 : Code := cr c41_69
noncomputable def c41_72 : Code := cl c41_71
noncomputable def c41_73 : Code := cl c41_72
noncomputable def c41_74 : Code := cr c41_72
noncomputable def c41_75 : Code := cr c41_71
noncomputable def c41_76 : Code := cr c41_68
noncomputable def c41_77 : Code := cl c41_76
noncomputable def c41_78 : Code := cl c41_77
noncomputable def c41_79 : Code := cr c41_77
noncomputable def c41_80 : Code := cl c41_79
noncomputable def c41_81 : Code := cl c41_80
noncomputable def c41_82 : Code := cr c41_80
noncomputable def c41_83 : Code := cr c41_79
noncomputable def c41_84 : Code := cr c41_76
noncomputable def c41_85 : Code := cl c41_84
noncomputable def c41_86 : Code := cr c41_84
theorem ok41 : funcOk Tryd.f41 = true := by kernel_rfl
noncomputable def rs41 : List ResultVar := resultsOf Tryd.f41
theorem p41_j1 (dst_16 : Sl) (u_17 : Int) (base_18 : Int) (neg_19 : Bool) (append_20 : Bool) (d_21 : Sl) (s_22 : ByteArray) (a_23 : Option Addr) (i_24 : Int) (σ : AHeap) (out : Value × AHeap) (f : Fr) (h : OptW (G_strconv_formatBits_j1 dst_16 u_17 base_18 neg_19 append_20 d_21 s_22 a_23 i_24 σ) (fun r => ((Value.tuple #[(Sl.v r.1), (Value.string r.2.1)]), r.2.2) = out)) :
    Fx Tryd.prog rs41 [.code c41_18] .normal (Fr.set (Fr.set (Fr.set (Fr.set (Fr.set (Fr.set (Fr.set (Fr.set (Fr.set f 0 (Sl.v dst_16)) 1 (Value.int .u64 u_17)) 2 (Value.int .i64 base_18)) 3 (Value.bool neg_19)) 4 (Value.bool append_20)) 10 (Sl.v d_21)) 11 (Value.string s_22)) 12 (Value.pointer a_23)) 13 (Value.int .i64 i_24)) σ = some out := by
  unfold G_strconv_formatBits_j1 at h
  refine Fx_seq (a := c41_19) (b := c41_68) rfl ?_
  refine Fx_seq (a := c41_20) (b := c41_21) rfl ?_
  refine Fx_text rfl (by kernel_rfl) ?_
  refine Ro_v (v := (Value.int .i64 base_18)) rfl (o_move rfl rfl) ?_
  obtain ⟨x25, hx25, h⟩ := h.bd
  refine Ro_v (v := (Value.bool x25)) rfl (o_call (vs := [(Value.int .i64 base_18)]) rfl rfl (w47 _ _ _ hx25)) ?_
  refine Ro_nil ?_
  refine Fx_cond (a := c41_22) (b := c41_46) rfl rfl (fun ex25 => ?_) (fun ex25 => ?_)
  · replace h := h.ifT ex25
    exact h.nn.elim
  · replace h := h.ifF ex25
    exact h.nn.elim
theorem w41 (dst_3 : Sl) (u_4 : Int) (base_5 : Int) (neg_6 : Bool) (append_7 : Bool) (σ : AHeap) (r : (Sl × ByteArray × AHeap)) (h : G_strconv_formatBits dst_3 u_4 base_5 neg_6 append_7 σ = some r) : callL Tryd.prog 41 [(Sl.v dst_3), (Value.int .u64 u_4), (Value.int .i64 base_5), (Value.bool neg_6), (Value.bool append_7)] σ = some ((Value.tuple #[(Sl.v r.1), (Value.string r.2.1)]), r.2.2) := by
  refine callL_walk (fn := Tryd.f41) (c := c41_0) (rs := rs41) Tryd.func41 rfl ok41 rfl rfl ?_
  obtain ⟨out, ho⟩ : ∃ out, out = ((Value.tuple #[(Sl.v r.1), (Value.string r.2.1)]), r.2.2) := ⟨_, rfl⟩
  rw [← ho]
  replace h : OptW (G_strconv_formatBits dst_3 u_4 base_5 neg_6 append_7 σ) (fun r => ((Value.tuple #[(Sl.v r.1), (Value.string r.2.1)]), r.2.2) = out) := ⟨r, h, ho.symm⟩
  unfold G_strconv_formatBits at h
  refine Fx_seq (a := c41_1) (b := c41_2) rfl ?_
  refine Fx_text rfl (by kernel_rfl) ?_
  refine Ro_v (v := (Sl.v Sl.nil)) rfl (o_assign rfl rfl) ?_
  refine Ro_v (v := (Value.string (⟨#[]⟩ : ByteArray))) rfl (o_assign rfl rfl) ?_
  refine Ro_nil ?_
  refine Fx_seq (a := c41_3) (b := c41_8) rfl ?_
  refine Fx_seq (a := c41_4) (b := c41_5) rfl ?_
  refine Fx_text rfl (by kernel_rfl) ?_
  refine Ro_v (v := (Value.int .i64 base_5)) rfl (o_move rfl rfl) ?_
  obtain ⟨x8, hx8, h⟩ := h.lt
  refine Ro_v (v := (Value.bool x8)) rfl (o_lss rfl rfl rfl hx8) ?_
  refine Ro_v (v := (Value.bool x8)) rfl (o_move rfl rfl) ?_
  refine Ro_set (t := !x8) (v := bif !x8 then (Value.int .i64 base_5) else undef) rfl (w_F rfl rfl rfl) (by intro e; have e0 := not_t (e); subst e0; exact o_move rfl rfl) (fun e => ⟨gv_f e, rfl⟩) ?_
  obtain ⟨x9, hx9, h⟩ := h.lt
  refine Ro_set (t := !x8) (v := bif !x8 then (Value.bool x9) else undef) rfl (w_F rfl rfl rfl) (by intro e; have e0 := not_t (e); subst e0; exact o_eql rfl rfl rfl hx9) (fun e => ⟨gv_f e, rfl⟩) ?_
  obtain ⟨x10, hx10, h⟩ := h.lt
  refine Ro_v (v := (Value.bool x10)) rfl (o_pick rfl rfl (by intro e; subst e; subst hx10; rfl) (by intro e; subst e; subst hx10; rfl)) ?_
  refine Ro_v (v := (Value.bool x10)) rfl (o_move rfl rfl) ?_
  refine Ro_set (t := !x10) (v := bif !x10 then (Value.int .i64 base_5) else undef) rfl (w_F rfl rfl rfl) (by intro e; have e0 := not_t (e); subst e0; exact o_move rfl rfl) (fun e => ⟨gv_f e, rfl⟩) ?_
  obtain ⟨x11, hx11, h⟩ := h.lt
  refine Ro_set (t := !x10) (v := bif !x10 then (Value.bool x11) else undef) rfl (w_F rfl rfl rfl) (by intro e; have e0 := not_t (e); subst e0; exact o_gtr rfl rfl rfl hx11) (fun e => ⟨gv_f e, rfl⟩) ?_
  obtain ⟨x12, hx12, h⟩ := h.lt
  refine Ro_v (v := (Value.bool x12)) rfl (o_pick rfl rfl (by intro e; subst e; subst hx12; rfl) (by intro e; subst e; subst hx12; rfl)) ?_
  refine Ro_nil ?_
  refine Fx_cond (a := c41_6) (b := c41_7) rfl rfl (fun ex12 => ?_) (fun ex12 => ?_)
  · replace h := h.ifT ex12
    exact h.nn.elim
  · replace h := h.ifF ex12
    refine Fx_skip (c := c41_7) rfl ?_
    refine Fx_seq (a := c41_9) (b := c41_10) rfl ?_
    refine Fx_text rfl (by kernel_rfl) ?_
    obtain ⟨⟨a_13, σ14⟩, hσ14, h⟩ := h.lt
    refine Ro_v (v := (Value.pointer a_13)) rfl (o_alloc (vs := [(Value.int .u8 0), (Value.int .u8 0), (Value.int .u8 0), (Value.int .u8 0), (Value.int .u8 0), (Value.int .u8 0), (Value.int .u8 0), (Value.int .u8 0), (Value.int .u8 0), (Value.int .u8 0), (Value.int .u8 0), (Value.int .u8 0), (Value.int .u8 0), (Value.int .u8 0), (Value.int .u8 0), (Value.int .u8 0), (Value.int .u8 0), (Value.int .u8 0), (Value.int .u8 0), (Value.int .u8 0), (Value.int .u8 0), (Value.int .u8 0), (Value.int .u8 0), (Value.int .u8 0), (Value.int .u8 0), (Value.int .u8 0), (Value.int .u8 0), (Value.int .u8 0), (Value.int .u8 0), (Value.int .u8 0), (Value.int .u8 0), (Value.int .u8 0), (Value.int .u8 0), (Value.int .u8 0), (Value.int .u8 0), (Value.int .u8 0), (Value.int .u8 0), (Value.int .u8 0), (Value.int .u8 0), (Value.int .u8 0), (Value.int .u8 0), (Value.int .u8 0), (Value.int .u8 0), (Value.int .u8 0), (Value.int .u8 0), (Value.int .u8 0), (Value.int .u8 0), (Value.int .u8 0), (Value.int .u8 0), (Value.int .u8 0), (Value.int .u8 0), (Value.int .u8 0), (Value.int .u8 0), (Value.int .u8 0), (Value.int .u8 0), (Value.int .u8 0), (Value.int .u8 0), (Value.int .u8 0), (Value.int .u8 0), (Value.int .u8 0), (Value.int .u8 0), (Value.int .u8 0), (Value.int .u8 0), (Value.int .u8 0), (Value.int .u8 0)]) rfl tz53 rfl rfl hσ14.symm) ?_
    refine Ro_nil ?_
    refine Fx_seq (a := c41_11) (b := c41_12) rfl ?_
    refine Fx_text rfl (by kernel_rfl) ?_
    refine Ro_v (v := (Value.int .i64 (65))) rfl (o_assign rfl rfl) ?_
    refine Ro_nil ?_
    refine Fx_seq (a := c41_13) (b := c41_18) rfl ?_
    refine Fx_seq (a := c41_14) (b := c41_15) rfl ?_
    refine Fx_text rfl (by kernel_rfl) ?_
    refine Ro_v (v := (Value.bool neg_6)) rfl (o_move rfl rfl) ?_
    refine Ro_nil ?_
    refine Fx_cond (a := c41_16) (b := c41_17) rfl rfl (fun eneg_6 => ?_) (fun eneg_6 => ?_)
    · replace h := h.ifT eneg_6
      refine Fx_text rfl (by kernel_rfl) ?_
      refine Ro_v (v := (Value.int .u64 u_4)) rfl (o_move rfl rfl) ?_
      obtain ⟨x15, hx15, h⟩ := h.lt
      refine Ro_v (v := (Value.int .u64 x15)) rfl (o_neg rfl rfl hx15) ?_
      refine Ro_v (v := (Value.int .u64 x15)) rfl (o_assign rfl rfl) ?_
      refine Ro_nil ?_
      exact Fx_forget (Fr.set_of (Fr.set_of (Fr.set_of (Fr.set_of (Fr.set_of (Fr.set_of (Fr.set_of (Fr.set_of (Fr.set_of rfl rfl) rfl) rfl) rfl) rfl) rfl) rfl) rfl) rfl) (p41_j1 _ _ _ _ _ _ _ _ _ _ _ _ h)
    · replace h := h.ifF eneg_6
      refine Fx_skip (c := c41_17) rfl ?_
      refine Fx_seq (a := c41_19) (b := c41_68) rfl ?_
      refine Fx_seq (a := c41_20) (b := c41_21) rfl ?_
      refine Fx_text rfl (by kernel_rfl) ?_
      refine Ro_v (v := (Value.int .i64 base_5)) rfl (o_move rfl rfl) ?_
      obtain ⟨x77, hx77, h⟩ := h.bd
      refine Ro_v (v := (Value.bool x77)) rfl (o_call (vs := [(Value.int .i64 base_5)]) rfl rfl (w47 _ _ _ hx77)) ?_
      refine Ro_nil ?_
      refine Fx_cond (a := c41_22) (b := c41_46) rfl rfl (fun ex77 => ?_) (fun ex77 => ?_)
      · replace h := h.ifT ex77
        exact h.nn.elim
      · replace h := h.ifF ex77
        exact h.nn.elim
noncomputable def c33_0 : Code := bodyOf Tryd.f33
noncomputable def c33_1 : Code := cl c33_0
noncomputable def c33_2 : Code := cr c33_0
noncomputable def c33_3 : Code := cl c33_2
noncomputable def c33_4 : Code := cl c33_3
noncomputable def c33_5 : Code := cr c33_3
noncomputable def c33_6 : Code := cl c33_5
noncomputable def c33_7 : Code := cl c33_6
noncomputable def c33_8 : Code := cl c33_7
noncomputable def c33_9 : Code := cr c33_7
noncomputable def c33_10 : Code := cl c33_9
noncomputable def c33_11 : Code := cl c33_10
noncomputable def c33_12 : Code := cr c33_10
noncomputable def c33_13 : Code := cr c33_9
noncomputable def c33_14 : Code := cr c33_6
noncomputable def c33_15 : Code := cl c33_14
noncomputable def c33_16 : Code := cr c33_14
noncomputable def c33_17 : Code := cl c33_16
noncomputable def c33_18 : Code := cr c33_16
noncomputable def c33_19 : Code := cl c33_18
noncomputable def c33_20 : Code := cl c33_19
noncomputable def c33_21 : Code := cr c33_19
noncomputable def c33_22 : Code := cl c33_21
noncomputable def c33_23 : Code := cr c33_21
noncomputable def c33_24 : Code := cr c33_18
noncomputable def c33_25 : Code := cl c33_24
noncomputable def c33_26 : Code := cr c33_24
noncomputable def c33_27 : Code := cl c33_26
noncomputable def c33_28 : Code := cr c33_26
noncomputable def c33_29 : Code := cl c33_28
noncomputable def c33_30 : Code := cl c33_29
noncomputable def c33_31 : Code := cr c33_29
noncomputable def c33_32 : Code := cl c33_31
noncomputable def c33_33 : Code := cl c33_32
noncomputable def c33_34 : Code := cr c33_32
noncomputable def c33_35 : Code := cl c33_34
noncomputable def c33_36 : Code := cr c33_34
noncomputable def c33_37 : Code := cr c33_31
noncomputable def c33_38 : Code := cr c33_28
noncomputable def c33_39 : Code := cl c33_38
noncomputable def c33_40 : Code := cr c33_38
noncomputable def c33_41 : Code := cr c33_5
noncomputable def c33_42 : Code := cr c33_2
noncomputable def c33_43 : Code := cl c33_42
noncomputable def c33_44 : Code := cr c33_42
noncomputable def c33_45 : Code := cl c33_44
noncomputable def c33_46 : Code := cr c33_44
theorem ok33 : funcOk Tryd.f33 = true := by kernel_rfl
noncomputable def rs33 : List ResultVar := resultsOf Tryd.f33
theorem w33 (i_2 : Int) (base_3 : Int) (σ : AHeap) (r : (ByteArray × AHeap)) (h : G_strconv_FormatInt i_2 base_3 σ = some r) : callL Tryd.prog 33 [(Value.int .i64 i_2), (Value.int .i64 base_3)] σ = some ((Value.string r.1), r.2) := by
  refine callL_walk (fn := Tryd.f33) (c := c33_0) (rs := rs33) Tryd.func33 rfl ok33 rfl rfl ?_
  obtain ⟨out, ho⟩ : ∃ out, out = ((Value.string r.1), r.2) := ⟨_, rfl⟩
  rw [← ho]
  replace h : OptW (G_strconv_FormatInt i_2 base_3 σ) (fun r => ((Value.string r.1), r.2) = out) := ⟨r, h, ho.symm⟩
  unfold G_strconv_FormatInt at h
  refine Fx_seq (a := c33_1) (b := c33_2) rfl ?_
  refine Fx_text rfl (by kernel_rfl) ?_
  refine Ro_v (v := (Value.string (⟨#[]⟩ : ByteArray))) rfl (o_assign rfl rfl) ?_
  refine Ro_nil ?_
  refine Fx_seq (a := c33_3) (b := c33_42) rfl ?_
  refine Fx_seq (a := c33_4) (b := c33_5) rfl ?_
  refine Fx_text rfl (by kernel_rfl) ?_
  refine Ro_v (v := (Value.int .i64 base_3)) rfl (o_move rfl rfl) ?_
  obtain ⟨x4, hx4, h⟩ := h.lt
  refine Ro_v (v := (Value.bool x4)) rfl (o_eql rfl rfl rfl hx4) ?_
  refine Ro_nil ?_
  refine Fx_cond (a := c33_6) (b := c33_41) rfl rfl (fun ex4 => ?_) (fun ex4 => ?_)
  · replace h := h.ifT ex4
    refine Fx_seq (a := c33_7) (b := c33_14) rfl ?_
    refine Fx_seq (a := c33_8) (b := c33_9) rfl ?_
    refine Fx_text rfl (by kernel_rfl) ?_
    refine Ro_v (v := (Value.int .i64 i_2)) rfl (o_move rfl rfl) ?_
    obtain ⟨x5, hx5, h⟩ := h.lt
    refine Ro_v (v := (Value.bool x5)) rfl (o_leq rfl rfl rfl hx5) ?_
    refine Ro_v (v := (Value.bool x5)) rfl (o_move rfl rfl) ?_
    refine Ro_set (t := x5) (v := bif x5 then (Value.int .i64 i_2) else undef) rfl (w_T rfl rfl rfl) (by intro e; have e0 := e; subst e0; exact o_move rfl rfl) (fun e => ⟨gv_f e, rfl⟩) ?_
    obtain ⟨x6, hx6, h⟩ := h.lt
    refine Ro_set (t := x5) (v := bif x5 then (Value.bool x6) else undef) rfl (w_T rfl rfl rfl) (by intro e; have e0 := e; subst e0; exact o_lss rfl rfl rfl hx6) (fun e => ⟨gv_f e, rfl⟩) ?_
    obtain ⟨x7, hx7, h⟩ := h.lt
    refine Ro_v (v := (Value.bool x7)) rfl (o_pick rfl rfl (by intro e; subst e; subst hx7; rfl) (by intro e; subst e; subst hx7; rfl)) ?_
    refine Ro_nil ?_
    refine Fx_cond (a := c33_10) (b := c33_13) rfl rfl (fun ex7 => ?_) (fun ex7 => ?_)
    · replace h := h.ifT ex7
      refine Fx_seq (a := c33_11) (b := c33_12) rfl ?_
      refine Fx_text rfl (by kernel_rfl) ?_
      refine Ro_v (v := (Value.int .i64 i_2)) rfl (o_move rfl rfl) ?_
      obtain ⟨x8, hx8, h⟩ := h.bd
      refine Ro_v (v := (Value.string x8)) rfl (o_call (vs := [(Value.int .i64 i_2)]) rfl rfl (w38 _ _ _ hx8)) ?_
      refine Ro_v (v := (Value.string x8)) rfl (o_assign rfl rfl) ?_
      refine Ro_nil ?_
      exact Fx_ret rfl rfl (congrArg some h.sm)
    · replace h := h.ifF ex7
      refine Fx_skip (c := c33_13) rfl ?_
      refine Fx_seq (a := c33_15) (b := c33_16) rfl ?_
      refine Fx_text rfl (by kernel_rfl) ?_
      obtain ⟨⟨a_9, σ10⟩, hσ10, h⟩ := h.lt
      refine Ro_v (v := (Value.pointer a_9)) rfl (o_alloc (vs := [(Value.int .u8 0), (Value.int .u8 0), (Value.int .u8 0), (Value.int .u8 0), (Value.int .u8 0), (Value.int .u8 0), (Value.int .u8 0), (Value.int .u8 0), (Value.int .u8 0), (Value.int .u8 0), (Value.int .u8 0), (Value.int .u8 0), (Value.int .u8 0), (Value.int .u8 0), (Value.int .u8 0), (Value.int .u8 0), (Value.int .u8 0), (Value.int .u8 0), (Value.int .u8 0), (Value.int .u8 0), (Value.int .u8 0), (Value.int .u8 0), (Value.int .u8 0), (Value.int .u8 0)]) rfl tz42 rfl rfl hσ10.symm) ?_
      refine Ro_nil ?_
      refine Fx_seq (a := c33_17) (b := c33_18) rfl ?_
      refine Fx_text rfl (by kernel_rfl) ?_
      refine Ro_v (v := (Value.int .i64 i_2)) rfl (o_move rfl rfl) ?_
      obtain ⟨x11, hx11, h⟩ := h.lt
      refine Ro_v (v := (Value.int .u64 x11)) rfl (o_convI rfl tu2 tu43 rfl hx11) ?_
      refine Ro_v (v := (Value.int .u64 x11)) rfl (o_assign rfl rfl) ?_
      refine Ro_nil ?_
      refine Fx_seq (a := c33_19) (b := c33_24) rfl ?_
      refine Fx_seq (a := c33_20) (b := c33_21) rfl ?_
      refine Fx_text rfl (by kernel_rfl) ?_
      refine Ro_v (v := (Value.int .i64 i_2)) rfl (o_move rfl rfl) ?_
      obtain ⟨x12, hx12, h⟩ := h.lt
      refine Ro_v (v := (Value.bool x12)) rfl (o_lss rfl rfl rfl hx12) ?_
      refine Ro_nil ?_
      refine Fx_cond (a := c33_22) (b := c33_23) rfl rfl (fun ex12 => ?_) (fun ex12 => ?_)
      · replace h := h.ifT ex12
        exact h.nn.elim
      · replace h := h.ifF ex12
        exact h.nn.elim
  · replace h := h.ifF ex4
    refine Fx_skip (c := c33_41) rfl ?_
    refine Fx_seq (a := c33_43) (b := c33_44) rfl ?_
    refine Fx_text rfl (by kernel_rfl) ?_
    refine Ro_v (v := (Value.int .i64 i_2)) rfl (o_move rfl rfl) ?_
    obtain ⟨x17, hx17, h⟩ := h.lt
    refine Ro_v (v := (Value.int .u64 x17)) rfl (o_convI rfl tu2 tu43 rfl hx17) ?_
    refine Ro_v (v := (Value.int .i64 base_3)) rfl (o_move rfl rfl) ?_
    refine Ro_v (v := (Value.int .i64 i_2)) rfl (o_move rfl rfl) ?_
    obtain ⟨x18, hx18, h⟩ := h.lt
    refine Ro_v (v := (Value.bool x18)) rfl (o_lss rfl rfl rfl hx18) ?_
    obtain ⟨⟨x21, x22, σ23⟩, hσ23, h⟩ := h.bd
    refine Ro_v (v := (Value.tuple #[(Sl.v x21), (Value.string x22)])) rfl (o_call (vs := [(Sl.v Sl.nil), (Value.int .u64 x17), (Value.int .i64 base_3), (Value.bool x18), (Value.bool false)]) rfl rfl (w41 _ _ _ _ _ _ _ hσ23)) ?_
    refine Ro_v (v := (Value.tuple #[(Sl.v x21), (Value.string x22)])) rfl (o_move rfl rfl) ?_
    refine Ro_v (v := (Sl.v x21)) rfl (o_ext rfl rfl rfl) ?_
    refine Ro_v (v := (Value.string x22)) rfl (o_ext rfl rfl rfl) ?_
    refine Ro_v (v := (Sl.v x21)) rfl (o_assign rfl rfl) ?_
    refine Ro_v (v := (Value.string x22)) rfl (o_assign rfl rfl) ?_
    refine Ro_nil ?_
    refine Fx_seq (a := c33_45) (b := c33_46) rfl ?_
    refine Fx_text rfl (by kernel_rfl) ?_
    refine Ro_v (v := (Value.string x22)) rfl (o_move rfl rfl) ?_
    refine Ro_v (v := (Value.string x22)) rfl (o_assign rfl rfl) ?_
    refine Ro_nil ?_
    exact Fx_ret rfl rfl (congrArg some h.sm)
noncomputable def c31_0 : Code := bodyOf Tryd.f31
noncomputable def c31_1 : Code := cl c31_0
noncomputable def c31_2 : Code := cr c31_0
noncomputable def c31_3 : Code := cl c31_2
noncomputable def c31_4 : Code := cr c31_2
theorem ok31 : funcOk Tryd.f31 = true := by kernel_rfl
noncomputable def rs31 : List ResultVar := resultsOf Tryd.f31
theorem w31 (i_2 : Int) (σ : AHeap) (r : (ByteArray × AHeap)) (h : G_strconv_Itoa i_2 σ = some r) : callL Tryd.prog 31 [(Value.int .i64 i_2)] σ = some ((Value.string r.1), r.2) := by
  refine callL_walk (fn := Tryd.f31) (c := c31_0) (rs := rs31) Tryd.func31 rfl ok31 rfl rfl ?_
  obtain ⟨out, ho⟩ : ∃ out, out = ((Value.string r.1), r.2) := ⟨_, rfl⟩
  rw [← ho]
  replace h : OptW (G_strconv_Itoa i_2 σ) (fun r => ((Value.string r.1), r.2) = out) := ⟨r, h, ho.symm⟩
  unfold G_strconv_Itoa at h
  refine Fx_seq (a := c31_1) (b := c31_2) rfl ?_
  refine Fx_text rfl (by kernel_rfl) ?_
  refine Ro_v (v := (Value.string (⟨#[]⟩ : ByteArray))) rfl (o_assign rfl rfl) ?_
  refine Ro_nil ?_
  refine Fx_seq (a := c31_3) (b := c31_4) rfl ?_
  refine Fx_text rfl (by kernel_rfl) ?_
  refine Ro_v (v := (Value.int .i64 i_2)) rfl (o_move rfl rfl) ?_
  obtain ⟨⟨x4, σ5⟩, hσ5, h⟩ := h.bd
  refine Ro_v (v := (Value.string x4)) rfl (o_call (vs := [(Value.int .i64 i_2), (Value.int .i64 (10))]) rfl rfl (w33 _ _ _ _ hσ5)) ?_
  refine Ro_v (v := (Value.string x4)) rfl (o_assign rfl rfl) ?_
  refine Ro_nil ?_
  exact Fx_ret rfl rfl (congrArg some h.sm)
noncomputable def c27_0 : Code := bodyOf Tryd.f27
noncomputable def c27_1 : Code := cl c27_0
noncomputable def c27_2 : Code := cr c27_0
noncomputable def c27_3 : Code := cl c27_2
noncomputable def c27_4 : Code := cr c27_2
theorem ok27 : funcOk Tryd.f27 = true := by kernel_rfl
noncomputable def rs27 : List ResultVar := resultsOf Tryd.f27
theorem w27 (i_2 : Int) (σ : AHeap) (r : (ByteArray × AHeap)) (h : G_strconv_Itoa_x i_2 σ = some r) : callL Tryd.prog 27 [(Value.int .i64 i_2)] σ = some ((Value.string r.1), r.2) := by
  refine callL_walk (fn := Tryd.f27) (c := c27_0) (rs := rs27) Tryd.func27 rfl ok27 rfl rfl ?_
  obtain ⟨out, ho⟩ : ∃ out, out = ((Value.string r.1), r.2) := ⟨_, rfl⟩
  rw [← ho]
  replace h : OptW (G_strconv_Itoa_x i_2 σ) (fun r => ((Value.string r.1), r.2) = out) := ⟨r, h, ho.symm⟩
  unfold G_strconv_Itoa_x at h
  refine Fx_seq (a := c27_1) (b := c27_2) rfl ?_
  refine Fx_text rfl (by kernel_rfl) ?_
  refine Ro_v (v := (Value.string (⟨#[]⟩ : ByteArray))) rfl (o_assign rfl rfl) ?_
  refine Ro_nil ?_
  refine Fx_seq (a := c27_3) (b := c27_4) rfl ?_
  refine Fx_text rfl (by kernel_rfl) ?_
  refine Ro_v (v := (Value.int .i64 i_2)) rfl (o_move rfl rfl) ?_
  obtain ⟨⟨x4, σ5⟩, hσ5, h⟩ := h.bd
  refine Ro_v (v := (Value.string x4)) rfl (o_call (vs := [(Value.int .i64 i_2)]) rfl rfl (w31 _ _ _ hσ5)) ?_
  refine Ro_v (v := (Value.string x4)) rfl (o_assign rfl rfl) ?_
  refine Ro_nil ?_
  exact Fx_ret rfl rfl (congrArg some h.sm)
noncomputable def c20_0 : Code := bodyOf Tryd.f20
noncomputable def c20_1 : Code := cl c20_0
noncomputable def c20_2 : Code := cr c20_0
noncomputable def c20_3 : Code := cl c20_2
noncomputable def c20_4 : Code := cl c20_3
noncomputable def c20_5 : Code := cr c20_3
noncomputable def c20_6 : Code := cl c20_5
noncomputable def c20_7 : Code := cl c20_6
noncomputable def c20_8 : Code := cr c20_6
noncomputable def c20_9 : Code := cr c20_5
noncomputable def c20_10 : Code := cr c20_2
noncomputable def c20_11 : Code := cl c20_10
noncomputable def c20_12 : Code := cr c20_10
theorem ok20 : funcOk Tryd.f20 = true := by kernel_rfl
noncomputable def rs20 : List ResultVar := resultsOf Tryd.f20
theorem w20 (id_2 : Int) (σ : AHeap) (r : (ByteArray × AHeap)) (h : G_ident_Format id_2 σ = some r) : callL Tryd.prog 20 [(Value.int .i64 id_2)] σ = some ((Value.string r.1), r.2) := by
  refine callL_walk (fn := Tryd.f20) (c := c20_0) (rs := rs20) Tryd.func20 rfl ok20 rfl rfl ?_
  obtain ⟨out, ho⟩ : ∃ out, out = ((Value.string r.1), r.2) := ⟨_, rfl⟩
  rw [← ho]
  replace h : OptW (G_ident_Format id_2 σ) (fun r => ((Value.string r.1), r.2) = out) := ⟨r, h, ho.symm⟩
  unfold G_ident_Format at h
  refine Fx_seq (a := c20_1) (b := c20_2) rfl ?_
  refine Fx_text rfl (by kernel_rfl) ?_
  refine Ro_v (v := (Value.string (⟨#[]⟩ : ByteArray))) rfl (o_assign rfl rfl) ?_
  refine Ro_nil ?_
  refine Fx_seq (a := c20_3) (b := c20_10) rfl ?_
  refine Fx_seq (a := c20_4) (b := c20_5) rfl ?_
  refine Fx_text rfl (by kernel_rfl) ?_
  refine Ro_v (v := (Value.int .i64 id_2)) rfl (o_move rfl rfl) ?_
  obtain ⟨x3, hx3, h⟩ := h.bd
  refine Ro_v (v := (Value.bool x3)) rfl (o_call (vs := [(Value.int .i64 id_2)]) rfl rfl (w12 _ _ _ hx3)) ?_
  obtain ⟨x4, hx4, h⟩ := h.lt
  refine Ro_v (v := (Value.bool x4)) rfl (o_not rfl rfl hx4) ?_
  refine Ro_nil ?_
  refine Fx_cond (a := c20_6) (b := c20_9) rfl rfl (fun ex4 => ?_) (fun ex4 => ?_)
  · replace h := h.ifT ex4
    refine Fx_seq (a := c20_7) (b := c20_8) rfl ?_
    refine Fx_text rfl (by kernel_rfl) ?_
    refine Ro_v (v := (Value.string (⟨#[]⟩ : ByteArray))) rfl (o_assign rfl rfl) ?_
    refine Ro_nil ?_
    exact Fx_ret rfl rfl (congrArg some h.sm)
  · replace h := h.ifF ex4
    refine Fx_skip (c := c20_9) rfl ?_
    refine Fx_seq (a := c20_11) (b := c20_12) rfl ?_
    refine Fx_text rfl (by kernel_rfl) ?_
    refine Ro_v (v := (Value.int .i64 id_2)) rfl (o_move rfl rfl) ?_
    obtain ⟨x5, hx5, h⟩ := h.bd
    refine Ro_v (v := (Value.int .i64 x5)) rfl (o_shr rfl rfl rfl hx5) ?_
    obtain ⟨⟨x7, σ8⟩, hσ8, h⟩ := h.bd
    refine Ro_v (v := (Value.string x7)) rfl (o_call (vs := [(Value.int .i64 x5)]) rfl rfl (w27 _ _ _ hσ8)) ?_
    obtain ⟨x9, hx9, h⟩ := h.bd
    refine Ro_v (v := (Value.string x9)) rfl (o_saddO rfl rfl rfl hx9) ?_
    refine Ro_v (v := (Value.int .i64 id_2)) rfl (o_move rfl rfl) ?_
    obtain ⟨x10, hx10, h⟩ := h.lt
    refine Ro_v (v := (Value.int .i64 x10)) rfl (o_and rfl rfl rfl hx10) ?_
    obtain ⟨⟨x12, σ13⟩, hσ13, h⟩ := h.bd
    refine Ro_v (v := (Value.string x12)) rfl (o_call (vs := [(Value.int .i64 x10)]) rfl rfl (w27 _ _ _ hσ13)) ?_
    obtain ⟨x14, hx14, h⟩ := h.bd
    refine Ro_v (v := (Value.string x14)) rfl (o_saddO rfl rfl rfl hx14) ?_
    refine Ro_v (v := (Value.string x14)) rfl (o_assign rfl rfl) ?_
    refine Ro_nil ?_
    exact Fx_ret rfl rfl (congrArg some h.sm)
noncomputable def c11_0 : Code := bodyOf Tryd.f11
noncomputable def c11_1 : Code := cl c11_0
noncomputable def c11_2 : Code := cr c11_0
noncomputable def c11_3 : Code := cl c11_2
noncomputable def c11_4 : Code := cr c11_2
noncomputable def c11_5 : Code := cl c11_4
noncomputable def c11_6 : Code := cr c11_4
noncomputable def c11_7 : Code := cl c11_6
noncomputable def c11_8 : Code := cr c11_6
theorem ok11 : funcOk Tryd.f11 = true := by kernel_rfl
noncomputable def rs11 : List ResultVar := resultsOf Tryd.f11
theorem w11  (σ : AHeap) (r : (Bool × AHeap)) (h : G_semvcslaw10_awake σ = some r) : callL Tryd.prog 11 [] σ = some ((Value.bool r.1), r.2) := by
  refine callL_walk (fn := Tryd.f11) (c := c11_0) (rs := rs11) Tryd.func11 rfl ok11 rfl rfl ?_
  obtain ⟨out, ho⟩ : ∃ out, out = ((Value.bool r.1), r.2) := ⟨_, rfl⟩
  rw [← ho]
  replace h : OptW (G_semvcslaw10_awake σ) (fun r => ((Value.bool r.1), r.2) = out) := ⟨r, h, ho.symm⟩
  unfold G_semvcslaw10_awake at h
  refine Fx_seq (a := c11_1) (b := c11_2) rfl ?_
  refine Fx_text rfl (by kernel_rfl) ?_
  refine Ro_v (v := (Value.bool false)) rfl (o_assign rfl rfl) ?_
  refine Ro_nil ?_
  refine Fx_seq (a := c11_3) (b := c11_4) rfl ?_
  refine Fx_text rfl (by kernel_rfl) ?_
  obtain ⟨⟨x2, x3⟩, hx2, h⟩ := h.bd
  refine Ro_v (v := (Value.tuple #[(Value.int .i64 x2), (Value.int .i64 x3)])) rfl (o_call (vs := [(Value.int .i64 (3)), (Value.int .i64 (17))]) rfl rfl (w9 _ _ _ _ hx2)) ?_
  refine Ro_v (v := (Value.tuple #[(Value.int .i64 x2), (Value.int .i64 x3)])) rfl (o_move rfl rfl) ?_
  refine Ro_v (v := (Value.int .i64 x2)) rfl (o_ext rfl rfl rfl) ?_
  refine Ro_v (v := (Value.int .i64 x3)) rfl (o_ext rfl rfl rfl) ?_
  refine Ro_v (v := (Value.int .i64 x2)) rfl (o_assign rfl rfl) ?_
  refine Ro_v (v := (Value.int .i64 x3)) rfl (o_assign rfl rfl) ?_
  refine Ro_nil ?_
  refine Fx_seq (a := c11_5) (b := c11_6) rfl ?_
  refine Fx_text rfl (by kernel_rfl) ?_
  obtain ⟨⟨x4, x5⟩, hx4, h⟩ := h.bd
  refine Ro_v (v := (Value.tuple #[(Value.int .i64 x4), (Value.int .i64 x5)])) rfl (o_call (vs := [(Value.string (⟨#[51, 46, 49, 55]⟩ : ByteArray))]) rfl rfl (w18 _ _ _ hx4)) ?_
  refine Ro_v (v := (Value.tuple #[(Value.int .i64 x4), (Value.int .i64 x5)])) rfl (o_move rfl rfl) ?_
  refine Ro_v (v := (Value.int .i64 x4)) rfl (o_ext rfl rfl rfl) ?_
  refine Ro_v (v := (Value.int .i64 x5)) rfl (o_ext rfl rfl rfl) ?_
  refine Ro_v (v := (Value.int .i64 x4)) rfl (o_assign rfl rfl) ?_
  refine Ro_v (v := (Value.int .i64 x5)) rfl (o_assign rfl rfl) ?_
  refine Ro_nil ?_
  refine Fx_seq (a := c11_7) (b := c11_8) rfl ?_
  refine Fx_text rfl (by kernel_rfl) ?_
  refine Ro_v (v := (Value.int .i64 x3)) rfl (o_move rfl rfl) ?_
  obtain ⟨x6, hx6, h⟩ := h.lt
  refine Ro_v (v := (Value.bool x6)) rfl (o_eql rfl rfl rfl hx6) ?_
  refine Ro_v (v := (Value.bool x6)) rfl (o_move rfl rfl) ?_
  refine Ro_set (t := x6) (v := bif x6 then (Value.int .i64 x5) else undef) rfl (w_T rfl rfl rfl) (by intro e; have e0 := e; subst e0; exact o_move rfl rfl) (fun e => ⟨gv_f e, rfl⟩) ?_
  obtain ⟨x7, hx7, h⟩ := h.lt
  refine Ro_set (t := x6) (v := bif x6 then (Value.bool x7) else undef) rfl (w_T rfl rfl rfl) (by intro e; have e0 := e; subst e0; exact o_eql rfl rfl rfl hx7) (fun e => ⟨gv_f e, rfl⟩) ?_
  obtain ⟨x8, hx8, h⟩ := h.lt
  refine Ro_v (v := (Value.bool x8)) rfl (o_pick rfl rfl (by intro e; subst e; subst hx8; rfl) (by intro e; subst e; subst hx8; rfl)) ?_
  refine Ro_v (v := (Value.bool x8)) rfl (o_move rfl rfl) ?_
  refine Ro_set (t := x8) (v := bif x8 then (Value.int .i64 x2) else undef) rfl (w_T rfl rfl rfl) (by intro e; have e0 := e; subst e0; exact o_move rfl rfl) (fun e => ⟨gv_f e, rfl⟩) ?_
  obtain ⟨x9, hx9, h⟩ := h.lt
  refine Ro_set (t := x8) (v := bif x8 then (Value.bool x9) else undef) rfl (w_T rfl rfl rfl) (by intro e; have e0 := e; subst e0; exact o_eql rfl rfl rfl hx9) (fun e => ⟨gv_f e, rfl⟩) ?_
  obtain ⟨x10, hx10, h⟩ := h.lt
  refine Ro_v (v := (Value.bool x10)) rfl (o_pick rfl rfl (by intro e; subst e; subst hx10; rfl) (by intro e; subst e; subst hx10; rfl)) ?_
  refine Ro_v (v := (Value.bool x10)) rfl (o_move rfl rfl) ?_
  refine Ro_set (t := x10) (v := bif x10 then (Value.int .i64 x4) else undef) rfl (w_T rfl rfl rfl) (by intro e; have e0 := e; subst e0; exact o_move rfl rfl) (fun e => ⟨gv_f e, rfl⟩) ?_
  refine Ro_set (t := x10) (v := bif x10 then (Value.int .i64 x2) else undef) rfl (w_T rfl rfl rfl) (by intro e; have e0 := e; subst e0; exact o_move rfl rfl) (fun e => ⟨gv_f e, rfl⟩) ?_
  obtain ⟨x11, hx11, h⟩ := h.lt
  refine Ro_set (t := x10) (v := bif x10 then (Value.bool x11) else undef) rfl (w_T rfl rfl rfl) (by intro e; have e0 := e; subst e0; exact o_eql rfl rfl rfl hx11) (fun e => ⟨gv_f e, rfl⟩) ?_
  obtain ⟨x12, hx12, h⟩ := h.lt
  refine Ro_v (v := (Value.bool x12)) rfl (o_pick rfl rfl (by intro e; subst e; subst hx12; rfl) (by intro e; subst e; subst hx12; rfl)) ?_
  refine Ro_v (v := (Value.bool x12)) rfl (o_move rfl rfl) ?_
  refine Ro_set (t := x12) (v := bif x12 then (Value.int .i64 x2) else undef) rfl (w_T rfl rfl rfl) (by intro e; have e0 := e; subst e0; exact o_move rfl rfl) (fun e => ⟨gv_f e, rfl⟩) ?_
  obtain ⟨⟨x14, σ15⟩, hσ15, h⟩ := h.bd
  refine Ro_set (t := x12) (v := bif x12 then (Value.string x14) else undef) rfl (w_T rfl rfl rfl) (by intro e; have e0 := e; subst e0; exact o_call (vs := [(Value.int .i64 x2)]) rfl rfl (w20 _ _ _ hσ15)) (fun e => ⟨gv_f e, (by have q := hσ15; rw [e] at q; simp only [cond_false, Option.some.injEq, Prod.mk.injEq] at q; exact q.2.symm)⟩) ?_
  obtain ⟨x16, hx16, h⟩ := h.lt
  refine Ro_set (t := x12) (v := bif x12 then (Value.bool x16) else undef) rfl (w_T rfl rfl rfl) (by intro e; have e0 := e; subst e0; exact o_seql rfl rfl rfl hx16) (fun e => ⟨gv_f e, rfl⟩) ?_
  obtain ⟨x17, hx17, h⟩ := h.lt
  refine Ro_v (v := (Value.bool x17)) rfl (o_pick rfl rfl (by intro e; subst e; subst hx17; rfl) (by intro e; subst e; subst hx17; rfl)) ?_
  refine Ro_v (v := (Value.bool x17)) rfl (o_move rfl rfl) ?_
  refine Ro_set (t := x17) (v := bif x17 then (Value.int .i64 x2) else undef) rfl (w_T rfl rfl rfl) (by intro e; have e0 := e; subst e0; exact o_move rfl rfl) (fun e => ⟨gv_f e, rfl⟩) ?_
  obtain ⟨x18, hx18, h⟩ := h.bd
  refine Ro_set (t := x17) (v := bif x17 then (Value.int .i64 x18) else undef) rfl (w_T rfl rfl rfl) (by intro e; have e0 := e; subst e0; exact o_call (vs := [(Value.int .i64 x2)]) rfl rfl (w14 _ _ _ hx18)) (fun e => ⟨gv_f e, rfl⟩) ?_
  obtain ⟨x19, hx19, h⟩ := h.lt
  refine Ro_set (t := x17) (v := bif x17 then (Value.bool x19) else undef) rfl (w_T rfl rfl rfl) (by intro e; have e0 := e; subst e0; exact o_eql rfl rfl rfl hx19) (fun e => ⟨gv_f e, rfl⟩) ?_
  obtain ⟨x20, hx20, h⟩ := h.lt
  refine Ro_v (v := (Value.bool x20)) rfl (o_pick rfl rfl (by intro e; subst e; subst hx20; rfl) (by intro e; subst e; subst hx20; rfl)) ?_
  refine Ro_v (v := (Value.bool x20)) rfl (o_move rfl rfl) ?_
  refine Ro_set (t := x20) (v := bif x20 then (Value.int .i64 x2) else undef) rfl (w_T rfl rfl rfl) (by intro e; have e0 := e; subst e0; exact o_move rfl rfl) (fun e => ⟨gv_f e, rfl⟩) ?_
  obtain ⟨x21, hx21, h⟩ := h.bd
  refine Ro_set (t := x20) (v := bif x20 then (Value.int .i64 x21) else undef) rfl (w_T rfl rfl rfl) (by intro e; have e0 := e; subst e0; exact o_call (vs := [(Value.int .i64 x2)]) rfl rfl (w16 _ _ _ hx21)) (fun e => ⟨gv_f e, rfl⟩) ?_
  obtain ⟨x22, hx22, h⟩ := h.lt
  refine Ro_set (t := x20) (v := bif x20 then (Value.bool x22) else undef) rfl (w_T rfl rfl rfl) (by intro e; have e0 := e; subst e0; exact o_eql rfl rfl rfl hx22) (fun e => ⟨gv_f e, rfl⟩) ?_
  obtain ⟨x23, hx23, h⟩ := h.lt
  refine Ro_v (v := (Value.bool x23)) rfl (o_pick rfl rfl (by intro e; subst e; subst hx23; rfl) (by intro e; subst e; subst hx23; rfl)) ?_
  refine Ro_v (v := (Value.bool x23)) rfl (o_move rfl rfl) ?_
  refine Ro_set (t := x23) (v := bif x23 then (Value.int .i64 x2) else undef) rfl (w_T rfl rfl rfl) (by intro e; have e0 := e; subst e0; exact o_move rfl rfl) (fun e => ⟨gv_f e, rfl⟩) ?_
  obtain ⟨x24, hx24, h⟩ := h.bd
  refine Ro_set (t := x23) (v := bif x23 then (Value.bool x24) else undef) rfl (w_T rfl rfl rfl) (by intro e; have e0 := e; subst e0; exact o_call (vs := [(Value.int .i64 x2)]) rfl rfl (w12 _ _ _ hx24)) (fun e => ⟨gv_f e, rfl⟩) ?_
  obtain ⟨x25, hx25, h⟩ := h.lt
  refine Ro_v (v := (Value.bool x25)) rfl (o_pick rfl rfl (by intro e; subst e; subst hx25; rfl) (by intro e; subst e; subst hx25; rfl)) ?_
  refine Ro_v (v := (Value.bool x25)) rfl (o_assign rfl rfl) ?_
  refine Ro_nil ?_
  exact Fx_ret rfl rfl (congrArg some h.sm)
noncomputable def c13_0 : Code := bodyOf Tryd.f13
noncomputable def c13_1 : Code := cl c13_0
noncomputable def c13_2 : Code := cr c13_0
noncomputable def c13_3 : Code := cl c13_2
noncomputable def c13_4 : Code := cr c13_2
theorem ok13 : funcOk Tryd.f13 = true := by kernel_rfl
noncomputable def rs13 : List ResultVar := resultsOf Tryd.f13
theorem w13 (id_2 : Int) (σ : AHeap) (r : Bool) (h : G_semvcsref10_Valid id_2 = some r) : callL Tryd.prog 13 [(Value.int .i64 id_2)] σ = some ((Value.bool r), σ) := by
  refine callL_walk (fn := Tryd.f13) (c := c13_0) (rs := rs13) Tryd.func13 rfl ok13 rfl rfl ?_
  obtain ⟨out, ho⟩ : ∃ out, out = ((Value.bool r), σ) := ⟨_, rfl⟩
  rw [← ho]
  replace h : OptW (G_semvcsref10_Valid id_2) (fun r => ((Value.bool r), σ) = out) := ⟨r, h, ho.symm⟩
  unfold G_semvcsref10_Valid at h
  refine Fx_seq (a := c13_1) (b := c13_2) rfl ?_
  refine Fx_text rfl (by kernel_rfl) ?_
  refine Ro_v (v := (Value.bool false)) rfl (o_assign rfl rfl) ?_
  refine Ro_nil ?_
  refine Fx_seq (a := c13_3) (b := c13_4) rfl ?_
  refine Fx_text rfl (by kernel_rfl) ?_
  refine Ro_v (v := (Value.int .i64 id_2)) rfl (o_move rfl rfl) ?_
  obtain ⟨x3, hx3, h⟩ := h.lt
  refine Ro_v (v := (Value.bool x3)) rfl (o_gtr rfl rfl rfl hx3) ?_
  refine Ro_v (v := (Value.bool x3)) rfl (o_move rfl rfl) ?_
  refine Ro_set (t := x3) (v := bif x3 then (Value.int .i64 id_2) else undef) rfl (w_T rfl rfl rfl) (by intro e; have e0 := e; subst e0; exact o_move rfl rfl) (fun e => ⟨gv_f e, rfl⟩) ?_
  obtain ⟨x4, hx4, h⟩ := h.lt
  refine Ro_set (t := x3) (v := bif x3 then (Value.bool x4) else undef) rfl (w_T rfl rfl rfl) (by intro e; have e0 := e; subst e0; exact o_lss rfl rfl rfl hx4) (fun e => ⟨gv_f e, rfl⟩) ?_
  obtain ⟨x5, hx5, h⟩ := h.lt
  refine Ro_v (v := (Value.bool x5)) rfl (o_pick rfl rfl (by intro e; subst e; subst hx5; rfl) (by intro e; subst e; subst hx5; rfl)) ?_
  refine Ro_v (v := (Value.bool x5)) rfl (o_move rfl rfl) ?_
  refine Ro_set (t := x5) (v := bif x5 then (Value.int .i64 id_2) else undef) rfl (w_T rfl rfl rfl) (by intro e; have e0 := e; subst e0; exact o_move rfl rfl) (fun e => ⟨gv_f e, rfl⟩) ?_
  obtain ⟨x6, hx6, h⟩ := h.lt
  refine Ro_set (t := x5) (v := bif x5 then (Value.int .i64 x6) else undef) rfl (w_T rfl rfl rfl) (by intro e; have e0 := e; subst e0; exact o_rem rfl rfl rfl (by decide) hx6) (fun e => ⟨gv_f e, rfl⟩) ?_
  obtain ⟨x7, hx7, h⟩ := h.lt
  refine Ro_set (t := x5) (v := bif x5 then (Value.bool x7) else undef) rfl (w_T rfl rfl rfl) (by intro e; have e0 := e; subst e0; exact o_neq rfl rfl rfl hx7) (fun e => ⟨gv_f e, rfl⟩) ?_
  obtain ⟨x8, hx8, h⟩ := h.lt
  refine Ro_v (v := (Value.bool x8)) rfl (o_pick rfl rfl (by intro e; subst e; subst hx8; rfl) (by intro e; subst e; subst hx8; rfl)) ?_
  refine Ro_v (v := (Value.bool x8)) rfl (o_assign rfl rfl) ?_
  refine Ro_nil ?_
  exact Fx_ret rfl rfl (congrArg some h.sm)
noncomputable def c15_0 : Code := bodyOf Tryd.f15
noncomputable def c15_1 : Code := cl c15_0
noncomputable def c15_2 : Code := cr c15_0
noncomputable def c15_3 : Code := cl c15_2
noncomputable def c15_4 : Code := cl c15_3
noncomputable def c15_5 : Code := cr c15_3
noncomputable def c15_6 : Code := cl c15_5
noncomputable def c15_7 : Code := cl c15_6
noncomputable def c15_8 : Code := cr c15_6
noncomputable def c15_9 : Code := cr c15_5
noncomputable def c15_10 : Code := cr c15_2
noncomputable def c15_11 : Code := cl c15_10
noncomputable def c15_12 : Code := cr c15_10
theorem ok15 : funcOk Tryd.f15 = true := by kernel_rfl
noncomputable def rs15 : List ResultVar := resultsOf Tryd.f15
theorem w15 (id_2 : Int) (σ : AHeap) (r : Int) (h : G_semvcsref10_Site id_2 = some r) : callL Tryd.prog 15 [(Value.int .i64 id_2)] σ = some ((Value.int .i64 r), σ) := by
  refine callL_walk (fn := Tryd.f15) (c := c15_0) (rs := rs15) Tryd.func15 rfl ok15 rfl rfl ?_
  obtain ⟨out, ho⟩ : ∃ out, out = ((Value.int .i64 r), σ) := ⟨_, rfl⟩
  rw [← ho]
  replace h : OptW (G_semvcsref10_Site id_2) (fun r => ((Value.int .i64 r), σ) = out) := ⟨r, h, ho.symm⟩
  unfold G_semvcsref10_Site at h
  refine Fx_seq (a := c15_1) (b := c15_2) rfl ?_
  refine Fx_text rfl (by kernel_rfl) ?_
  refine Ro_v (v := (Value.int .i64 (0))) rfl (o_assign rfl rfl) ?_
  refine Ro_nil ?_
  refine Fx_seq (a := c15_3) (b := c15_10) rfl ?_
  refine Fx_seq (a := c15_4) (b := c15_5) rfl ?_
  refine Fx_text rfl (by kernel_rfl) ?_
  refine Ro_v (v := (Value.int .i64 id_2)) rfl (o_move rfl rfl) ?_
  obtain ⟨x3, hx3, h⟩ := h.bd
  refine Ro_v (v := (Value.bool x3)) rfl (o_call (vs := [(Value.int .i64 id_2)]) rfl rfl (w13 _ _ _ hx3)) ?_
  obtain ⟨x4, hx4, h⟩ := h.lt
  refine Ro_v (v := (Value.bool x4)) rfl (o_not rfl rfl hx4) ?_
  refine Ro_nil ?_
  refine Fx_cond (a := c15_6) (b := c15_9) rfl rfl (fun ex4 => ?_) (fun ex4 => ?_)
  · replace h := h.ifT ex4
    refine Fx_seq (a := c15_7) (b := c15_8) rfl ?_
    refine Fx_text rfl (by kernel_rfl) ?_
    refine Ro_v (v := (Value.int .i64 (0))) rfl (o_assign rfl rfl) ?_
    refine Ro_nil ?_
    exact Fx_ret rfl rfl (congrArg some h.sm)
  · replace h := h.ifF ex4
    refine Fx_skip (c := c15_9) rfl ?_
    refine Fx_seq (a := c15_11) (b := c15_12) rfl ?_
    refine Fx_text rfl (by kernel_rfl) ?_
    refine Ro_v (v := (Value.int .i64 id_2)) rfl (o_move rfl rfl) ?_
    obtain ⟨x5, hx5, h⟩ := h.lt
    refine Ro_v (v := (Value.int .i64 x5)) rfl (o_quo rfl rfl rfl (by decide) hx5) ?_
    refine Ro_v (v := (Value.int .i64 x5)) rfl (o_assign rfl rfl) ?_
    refine Ro_nil ?_
    exact Fx_ret rfl rfl (congrArg some h.sm)
noncomputable def c17_0 : Code := bodyOf Tryd.f17
noncomputable def c17_1 : Code := cl c17_0
noncomputable def c17_2 : Code := cr c17_0
noncomputable def c17_3 : Code := cl c17_2
noncomputable def c17_4 : Code := cl c17_3
noncomputable def c17_5 : Code := cr c17_3
noncomputable def c17_6 : Code := cl c17_5
noncomputable def c17_7 : Code := cl c17_6
noncomputable def c17_8 : Code := cr c17_6
noncomputable def c17_9 : Code := cr c17_5
noncomputable def c17_10 : Code := cr c17_2
noncomputable def c17_11 : Code := cl c17_10
noncomputable def c17_12 : Code := cr c17_10
theorem ok17 : funcOk Tryd.f17 = true := by kernel_rfl
noncomputable def rs17 : List ResultVar := resultsOf Tryd.f17
theorem w17 (id_2 : Int) (σ : AHeap) (r : Int) (h : G_semvcsref10_Serial id_2 = some r) : callL Tryd.prog 17 [(Value.int .i64 id_2)] σ = some ((Value.int .i64 r), σ) := by
  refine callL_walk (fn := Tryd.f17) (c := c17_0) (rs := rs17) Tryd.func17 rfl ok17 rfl rfl ?_
  obtain ⟨out, ho⟩ : ∃ out, out = ((Value.int .i64 r), σ) := ⟨_, rfl⟩
  rw [← ho]
  replace h : OptW (G_semvcsref10_Serial id_2) (fun r => ((Value.int .i64 r), σ) = out) := ⟨r, h, ho.symm⟩
  unfold G_semvcsref10_Serial at h
  refine Fx_seq (a := c17_1) (b := c17_2) rfl ?_
  refine Fx_text rfl (by kernel_rfl) ?_
  refine Ro_v (v := (Value.int .i64 (0))) rfl (o_assign rfl rfl) ?_
  refine Ro_nil ?_
  refine Fx_seq (a := c17_3) (b := c17_10) rfl ?_
  refine Fx_seq (a := c17_4) (b := c17_5) rfl ?_
  refine Fx_text rfl (by kernel_rfl) ?_
  refine Ro_v (v := (Value.int .i64 id_2)) rfl (o_move rfl rfl) ?_
  obtain ⟨x3, hx3, h⟩ := h.bd
  refine Ro_v (v := (Value.bool x3)) rfl (o_call (vs := [(Value.int .i64 id_2)]) rfl rfl (w13 _ _ _ hx3)) ?_
  obtain ⟨x4, hx4, h⟩ := h.lt
  refine Ro_v (v := (Value.bool x4)) rfl (o_not rfl rfl hx4) ?_
  refine Ro_nil ?_
  refine Fx_cond (a := c17_6) (b := c17_9) rfl rfl (fun ex4 => ?_) (fun ex4 => ?_)
  · replace h := h.ifT ex4
    refine Fx_seq (a := c17_7) (b := c17_8) rfl ?_
    refine Fx_text rfl (by kernel_rfl) ?_
    refine Ro_v (v := (Value.int .i64 (0))) rfl (o_assign rfl rfl) ?_
    refine Ro_nil ?_
    exact Fx_ret rfl rfl (congrArg some h.sm)
  · replace h := h.ifF ex4
    refine Fx_skip (c := c17_9) rfl ?_
    refine Fx_seq (a := c17_11) (b := c17_12) rfl ?_
    refine Fx_text rfl (by kernel_rfl) ?_
    refine Ro_v (v := (Value.int .i64 id_2)) rfl (o_move rfl rfl) ?_
    obtain ⟨x5, hx5, h⟩ := h.lt
    refine Ro_v (v := (Value.int .i64 x5)) rfl (o_rem rfl rfl rfl (by decide) hx5) ?_
    refine Ro_v (v := (Value.int .i64 x5)) rfl (o_assign rfl rfl) ?_
    refine Ro_nil ?_
    exact Fx_ret rfl rfl (congrArg some h.sm)
noncomputable def c3_0 : Code := bodyOf Tryd.f3
noncomputable def c3_1 : Code := cl c3_0
noncomputable def c3_2 : Code := cr c3_0
noncomputable def c3_3 : Code := cl c3_2
noncomputable def c3_4 : Code := cr c3_2
noncomputable def c3_5 : Code := cl c3_4
noncomputable def c3_6 : Code := cr c3_4
noncomputable def c3_7 : Code := cl c3_6
noncomputable def c3_8 : Code := cr c3_6
theorem ok3 : funcOk Tryd.f3 = true := by kernel_rfl
noncomputable def rs3 : List ResultVar := resultsOf Tryd.f3
theorem w3 (site_2 : Int) (n_3 : Int) (id_4 : Int) (σ : AHeap) (r : (Bool × AHeap)) (h : G_semvcslaw10_IdentMakes site_2 n_3 id_4 σ = some r) : callL Tryd.prog 3 [(Value.int .i64 site_2), (Value.int .i64 n_3), (Value.int .i64 id_4)] σ = some ((Value.bool r.1), r.2) := by
  refine callL_walk (fn := Tryd.f3) (c := c3_0) (rs := rs3) Tryd.func3 rfl ok3 rfl rfl ?_
  obtain ⟨out, ho⟩ : ∃ out, out = ((Value.bool r.1), r.2) := ⟨_, rfl⟩
  rw [← ho]
  replace h : OptW (G_semvcslaw10_IdentMakes site_2 n_3 id_4 σ) (fun r => ((Value.bool r.1), r.2) = out) := ⟨r, h, ho.symm⟩
  unfold G_semvcslaw10_IdentMakes at h
  refine Fx_seq (a := c3_1) (b := c3_2) rfl ?_
  refine Fx_text rfl (by kernel_rfl) ?_
  refine Ro_v (v := (Value.bool false)) rfl (o_assign rfl rfl) ?_
  refine Ro_nil ?_
  refine Fx_seq (a := c3_3) (b := c3_4) rfl ?_
  refine Fx_text rfl (by kernel_rfl) ?_
  refine Ro_v (v := (Value.int .i64 site_2)) rfl (o_move rfl rfl) ?_
  refine Ro_v (v := (Value.int .i64 n_3)) rfl (o_move rfl rfl) ?_
  obtain ⟨⟨x5, x6⟩, hx5, h⟩ := h.bd
  refine Ro_v (v := (Value.tuple #[(Value.int .i64 x5), (Value.int .i64 x6)])) rfl (o_call (vs := [(Value.int .i64 site_2), (Value.int .i64 n_3)]) rfl rfl (w9 _ _ _ _ hx5)) ?_
  refine Ro_v (v := (Value.tuple #[(Value.int .i64 x5), (Value.int .i64 x6)])) rfl (o_move rfl rfl) ?_
  refine Ro_v (v := (Value.int .i64 x5)) rfl (o_ext rfl rfl rfl) ?_
  refine Ro_v (v := (Value.int .i64 x6)) rfl (o_ext rfl rfl rfl) ?_
  refine Ro_v (v := (Value.int .i64 x5)) rfl (o_assign rfl rfl) ?_
  refine Ro_v (v := (Value.int .i64 x6)) rfl (o_assign rfl rfl) ?_
  refine Ro_nil ?_
  refine Fx_seq (a := c3_5) (b := c3_6) rfl ?_
  refine Fx_text rfl (by kernel_rfl) ?_
  refine Ro_v (v := (Value.int .i64 site_2)) rfl (o_move rfl rfl) ?_
  refine Ro_v (v := (Value.int .i64 n_3)) rfl (o_move rfl rfl) ?_
  obtain ⟨⟨x7, x8⟩, hx7, h⟩ := h.bd
  refine Ro_v (v := (Value.tuple #[(Value.int .i64 x7), (Value.int .i64 x8)])) rfl (o_call (vs := [(Value.int .i64 site_2), (Value.int .i64 n_3)]) rfl rfl (w10 _ _ _ _ hx7)) ?_
  refine Ro_v (v := (Value.tuple #[(Value.int .i64 x7), (Value.int .i64 x8)])) rfl (o_move rfl rfl) ?_
  refine Ro_v (v := (Value.int .i64 x7)) rfl (o_ext rfl rfl rfl) ?_
  refine Ro_v (v := (Value.int .i64 x8)) rfl (o_ext rfl rfl rfl) ?_
  refine Ro_v (v := (Value.int .i64 x7)) rfl (o_assign rfl rfl) ?_
  refine Ro_v (v := (Value.int .i64 x8)) rfl (o_assign rfl rfl) ?_
  refine Ro_nil ?_
  refine Fx_seq (a := c3_7) (b := c3_8) rfl ?_
  refine Fx_text rfl (by kernel_rfl) ?_
  obtain ⟨⟨x10, σ11⟩, hσ11, h⟩ := h.bd
  refine Ro_v (v := (Value.bool x10)) rfl (o_call (vs := []) rfl rfl (w11 _ _ hσ11)) ?_
  refine Ro_v (v := (Value.bool x10)) rfl (o_move rfl rfl) ?_
  refine Ro_set (t := x10) (v := bif x10 then (Value.int .i64 x5) else undef) rfl (w_T rfl rfl rfl) (by intro e; have e0 := e; subst e0; exact o_move rfl rfl) (fun e => ⟨gv_f e, rfl⟩) ?_
  refine Ro_set (t := x10) (v := bif x10 then (Value.int .i64 x7) else undef) rfl (w_T rfl rfl rfl) (by intro e; have e0 := e; subst e0; exact o_move rfl rfl) (fun e => ⟨gv_f e, rfl⟩) ?_
  obtain ⟨x12, hx12, h⟩ := h.lt
  refine Ro_set (t := x10) (v := bif x10 then (Value.bool x12) else undef) rfl (w_T rfl rfl rfl) (by intro e; have e0 := e; subst e0; exact o_eql rfl rfl rfl hx12) (fun e => ⟨gv_f e, rfl⟩) ?_
  obtain ⟨x13, hx13, h⟩ := h.lt
  refine Ro_v (v := (Value.bool x13)) rfl (o_pick rfl rfl (by intro e; subst e; subst hx13; rfl) (by intro e; subst e; subst hx13; rfl)) ?_
  refine Ro_v (v := (Value.bool x13)) rfl (o_move rfl rfl) ?_
  refine Ro_set (t := x13) (v := bif x13 then (Value.int .i64 x6) else undef) rfl (w_T rfl rfl rfl) (by intro e; have e0 := e; subst e0; exact o_move rfl rfl) (fun e => ⟨gv_f e, rfl⟩) ?_
  refine Ro_set (t := x13) (v := bif x13 then (Value.int .i64 x8) else undef) rfl (w_T rfl rfl rfl) (by intro e; have e0 := e; subst e0; exact o_move rfl rfl) (fun e => ⟨gv_f e, rfl⟩) ?_
  obtain ⟨x14, hx14, h⟩ := h.lt
  refine Ro_set (t := x13) (v := bif x13 then (Value.bool x14) else undef) rfl (w_T rfl rfl rfl) (by intro e; have e0 := e; subst e0; exact o_eql rfl rfl rfl hx14) (fun e => ⟨gv_f e, rfl⟩) ?_
  obtain ⟨x15, hx15, h⟩ := h.lt
  refine Ro_v (v := (Value.bool x15)) rfl (o_pick rfl rfl (by intro e; subst e; subst hx15; rfl) (by intro e; subst e; subst hx15; rfl)) ?_
  refine Ro_v (v := (Value.bool x15)) rfl (o_move rfl rfl) ?_
  refine Ro_set (t := x15) (v := bif x15 then (Value.int .i64 id_4) else undef) rfl (w_T rfl rfl rfl) (by intro e; have e0 := e; subst e0; exact o_move rfl rfl) (fun e => ⟨gv_f e, rfl⟩) ?_
  obtain ⟨x16, hx16, h⟩ := h.bd
  refine Ro_set (t := x15) (v := bif x15 then (Value.bool x16) else undef) rfl (w_T rfl rfl rfl) (by intro e; have e0 := e; subst e0; exact o_call (vs := [(Value.int .i64 id_4)]) rfl rfl (w12 _ _ _ hx16)) (fun e => ⟨gv_f e, rfl⟩) ?_
  refine Ro_set (t := x15) (v := bif x15 then (Value.int .i64 id_4) else undef) rfl (w_T rfl rfl rfl) (by intro e; have e0 := e; subst e0; exact o_move rfl rfl) (fun e => ⟨gv_f e, rfl⟩) ?_
  obtain ⟨x17, hx17, h⟩ := h.bd
  refine Ro_set (t := x15) (v := bif x15 then (Value.bool x17) else undef) rfl (w_T rfl rfl rfl) (by intro e; have e0 := e; subst e0; exact o_call (vs := [(Value.int .i64 id_4)]) rfl rfl (w13 _ _ _ hx17)) (fun e => ⟨gv_f e, rfl⟩) ?_
  obtain ⟨x18, hx18, h⟩ := h.lt
  refine Ro_set (t := x15) (v := bif x15 then (Value.bool x18) else undef) rfl (w_T rfl rfl rfl) (by intro e; have e0 := e; subst e0; exact o_beql rfl tu4 rfl rfl hx18) (fun e => ⟨gv_f e, rfl⟩) ?_
  obtain ⟨x19, hx19, h⟩ := h.lt
  refine Ro_v (v := (Value.bool x19)) rfl (o_pick rfl rfl (by intro e; subst e; subst hx19; rfl) (by intro e; subst e; subst hx19; rfl)) ?_
  refine Ro_v (v := (Value.bool x19)) rfl (o_move rfl rfl) ?_
  refine Ro_set (t := x19) (v := bif x19 then (Value.int .i64 id_4) else undef) rfl (w_T rfl rfl rfl) (by intro e; have e0 := e; subst e0; exact o_move rfl rfl) (fun e => ⟨gv_f e, rfl⟩) ?_
  obtain ⟨x20, hx20, h⟩ := h.bd
  refine Ro_set (t := x19) (v := bif x19 then (Value.int .i64 x20) else undef) rfl (w_T rfl rfl rfl) (by intro e; have e0 := e; subst e0; exact o_call (vs := [(Value.int .i64 id_4)]) rfl rfl (w14 _ _ _ hx20)) (fun e => ⟨gv_f e, rfl⟩) ?_
  refine Ro_set (t := x19) (v := bif x19 then (Value.int .i64 id_4) else undef) rfl (w_T rfl rfl rfl) (by intro e; have e0 := e; subst e0; exact o_move rfl rfl) (fun e => ⟨gv_f e, rfl⟩) ?_
  obtain ⟨x21, hx21, h⟩ := h.bd
  refine Ro_set (t := x19) (v := bif x19 then (Value.int .i64 x21) else undef) rfl (w_T rfl rfl rfl) (by intro e; have e0 := e; subst e0; exact o_call (vs := [(Value.int .i64 id_4)]) rfl rfl (w15 _ _ _ hx21)) (fun e => ⟨gv_f e, rfl⟩) ?_
  obtain ⟨x22, hx22, h⟩ := h.lt
  refine Ro_set (t := x19) (v := bif x19 then (Value.bool x22) else undef) rfl (w_T rfl rfl rfl) (by intro e; have e0 := e; subst e0; exact o_eql rfl rfl rfl hx22) (fun e => ⟨gv_f e, rfl⟩) ?_
  obtain ⟨x23, hx23, h⟩ := h.lt
  refine Ro_v (v := (Value.bool x23)) rfl (o_pick rfl rfl (by intro e; subst e; subst hx23; rfl) (by intro e; subst e; subst hx23; rfl)) ?_
  refine Ro_v (v := (Value.bool x23)) rfl (o_move rfl rfl) ?_
  refine Ro_set (t := x23) (v := bif x23 then (Value.int .i64 id_4) else undef) rfl (w_T rfl rfl rfl) (by intro e; have e0 := e; subst e0; exact o_move rfl rfl) (fun e => ⟨gv_f e, rfl⟩) ?_
  obtain ⟨x24, hx24, h⟩ := h.bd
  refine Ro_set (t := x23) (v := bif x23 then (Value.int .i64 x24) else undef) rfl (w_T rfl rfl rfl) (by intro e; have e0 := e; subst e0; exact o_call (vs := [(Value.int .i64 id_4)]) rfl rfl (w16 _ _ _ hx24)) (fun e => ⟨gv_f e, rfl⟩) ?_
  refine Ro_set (t := x23) (v := bif x23 then (Value.int .i64 id_4) else undef) rfl (w_T rfl rfl rfl) (by intro e; have e0 := e; subst e0; exact o_move rfl rfl) (fun e => ⟨gv_f e, rfl⟩) ?_
  obtain ⟨x25, hx25, h⟩ := h.bd
  refine Ro_set (t := x23) (v := bif x23 then (Value.int .i64 x25) else undef) rfl (w_T rfl rfl rfl) (by intro e; have e0 := e; subst e0; exact o_call (vs := [(Value.int .i64 id_4)]) rfl rfl (w17 _ _ _ hx25)) (fun e => ⟨gv_f e, rfl⟩) ?_
  obtain ⟨x26, hx26, h⟩ := h.lt
  refine Ro_set (t := x23) (v := bif x23 then (Value.bool x26) else undef) rfl (w_T rfl rfl rfl) (by intro e; have e0 := e; subst e0; exact o_eql rfl rfl rfl hx26) (fun e => ⟨gv_f e, rfl⟩) ?_
  obtain ⟨x27, hx27, h⟩ := h.lt
  refine Ro_v (v := (Value.bool x27)) rfl (o_pick rfl rfl (by intro e; subst e; subst hx27; rfl) (by intro e; subst e; subst hx27; rfl)) ?_
  refine Ro_v (v := (Value.bool x27)) rfl (o_assign rfl rfl) ?_
  refine Ro_nil ?_
  exact Fx_ret rfl rfl (congrArg some h.sm)
noncomputable def c28_0 : Code := bodyOf Tryd.f28
noncomputable def c28_1 : Code := cl c28_0
noncomputable def c28_2 : Code := cr c28_0
noncomputable def c28_3 : Code := cl c28_2
noncomputable def c28_4 : Code := cr c28_2
noncomputable def c28_5 : Code := cl c28_4
noncomputable def c28_6 : Code := cl c28_5
noncomputable def c28_7 : Code := cl c28_6
noncomputable def c28_8 : Code := cl c28_7
noncomputable def c28_9 : Code := cr c28_7
noncomputable def c28_10 : Code := cl c28_9
noncomputable def c28_11 : Code := cr c28_9
noncomputable def c28_12 : Code := cl c28_11
noncomputable def c28_13 : Code := cr c28_11
noncomputable def c28_14 : Code := cl c28_13
noncomputable def c28_15 : Code := cl c28_14
noncomputable def c28_16 : Code := cr c28_14
noncomputable def c28_17 : Code := cr c28_13
theorem ok28 : funcOk Tryd.f28 = true := by kernel_rfl
noncomputable def rs28 : List ResultVar := resultsOf Tryd.f28
noncomputable def C28_l1   (out : Value × AHeap) : (Int × ByteArray × AHeap) ⊕ (ByteArray × AHeap) → Prop
  | .inl (n_3, s_4, σ) => ∀ f, Fx Tryd.prog rs28 [.code c28_5, .blk 0] .normal (Fr.set (Fr.set f 0 (Value.int .i64 n_3)) 3 (Value.string s_4)) σ = some out
  | .inr (x5, σ) => ((Value.string x5), σ) = out
theorem q28_l1 (n_3 : Int) (s_4 : ByteArray) (σ : AHeap)  (out : Value × AHeap) (f : Fr) (h : OptW (G_semvcsref10_decimal_l1 (n_3, s_4, σ)) (C28_l1 out)) :
    Fx Tryd.prog rs28 [.code c28_5, .blk 0] .normal (Fr.set (Fr.set f 0 (Value.int .i64 n_3)) 3 (Value.string s_4)) σ = some out := by
  unfold G_semvcsref10_decimal_l1 at h
  refine Fx_loop (b := c28_6) rfl ?_
  refine Fx_block (b := c28_7) rfl ?_
  refine Fx_seq (a := c28_8) (b := c28_9) rfl ?_
  refine Fx_text rfl (by kernel_rfl) ?_
  refine Ro_v (v := (Value.int .i64 n_3)) rfl (o_move rfl rfl) ?_
  obtain ⟨x6, hx6, h⟩ := h.lt
  refine Ro_v (v := (Value.int .i64 x6)) rfl (o_rem rfl rfl rfl (by decide) hx6) ?_
  obtain ⟨x7, hx7, h⟩ := h.lt
  refine Ro_v (v := (Value.int .i64 x7)) rfl (o_add rfl rfl rfl hx7) ?_
  obtain ⟨x8, hx8, h⟩ := h.lt
  refine Ro_v (v := (Value.int .u8 x8)) rfl (o_convI rfl tu3 tu5 rfl hx8) ?_
  obtain ⟨⟨x9, σ10⟩, hσ10, h⟩ := h.lt
  refine Ro_v (v := (Sl.v x9)) rfl (o_buildSl (ps := [(0, (Value.int .u8 x8))]) (cs := #[(Value.int .u8 x8)]) (vs := [(Value.int .u8 x8)]) rfl tu38 ts5 tz5 rfl rfl (by decide) rfl rfl hσ10.symm) ?_
  obtain ⟨x11, hx11, h⟩ := h.bd
  refine Ro_v (v := (Value.string x11)) rfl (o_convBS rfl tu38 tu9 tu5 rfl hx11) ?_
  refine Ro_v (v := (Value.string s_4)) rfl (o_move rfl rfl) ?_
  obtain ⟨x12, hx12, h⟩ := h.bd
  refine Ro_v (v := (Value.string x12)) rfl (o_saddO rfl rfl rfl hx12) ?_
  refine Ro_v (v := (Value.string x12)) rfl (o_assign rfl rfl) ?_
  refine Ro_nil ?_
  refine Fx_seq (a := c28_10) (b := c28_11) rfl ?_
  refine Fx_text rfl (by kernel_rfl) ?_
  refine Ro_v (v := (Value.int .i64 n_3)) rfl (o_move rfl rfl) ?_
  obtain ⟨x13, hx13, h⟩ := h.lt
  refine Ro_v (v := (Value.int .i64 x13)) rfl (o_quo rfl rfl rfl (by decide) hx13) ?_
  refine Ro_v (v := (Value.int .i64 x13)) rfl (o_assign rfl rfl) ?_
  refine Ro_nil ?_
  refine Fx_seq (a := c28_12) (b := c28_13) rfl ?_
  refine Fx_text rfl (by kernel_rfl) ?_
  refine Ro_v (v := (Value.int .i64 x13)) rfl (o_move rfl rfl) ?_
  obtain ⟨x14, hx14, h⟩ := h.lt
  refine Ro_v (v := (Value.bool x14)) rfl (o_eql rfl rfl rfl hx14) ?_
  refine Ro_nil ?_
  refine Fx_cond (a := c28_14) (b := c28_17) rfl rfl (fun ex14 => ?_) (fun ex14 => ?_)
  · replace h := h.ifT ex14
    refine Fx_seq (a := c28_15) (b := c28_16) rfl ?_
    refine Fx_text rfl (by kernel_rfl) ?_
    refine Ro_v (v := (Value.string x12)) rfl (o_move rfl rfl) ?_
    refine Ro_v (v := (Value.string x12)) rfl (o_assign rfl rfl) ?_
    refine Ro_nil ?_
    exact Fx_ret rfl rfl (congrArg some h.sm)
  · replace h := h.ifF ex14
    refine Fx_skip (c := c28_17) rfl ?_
    refine Fx_blk ?_
    exact Fx_forget (Fr.set_of (Fr.set_of rfl rfl) rfl) (h.sm _)
theorem w28 (n_2 : Int) (σ : AHeap) (r : (ByteArray × AHeap)) (h : G_semvcsref10_decimal n_2 σ = some r) : callL Tryd.prog 28 [(Value.int .i64 n_2)] σ = some ((Value.string r.1), r.2) := by
  refine callL_walk (fn := Tryd.f28) (c := c28_0) (rs := rs28) Tryd.func28 rfl ok28 rfl rfl ?_
  obtain ⟨out, ho⟩ : ∃ out, out = ((Value.string r.1), r.2) := ⟨_, rfl⟩
  rw [← ho]
  replace h : OptW (G_semvcsref10_decimal n_2 σ) (fun r => ((Value.string r.1), r.2) = out) := ⟨r, h, ho.symm⟩
  unfold G_semvcsref10_decimal at h
  refine Fx_seq (a := c28_1) (b := c28_2) rfl ?_
  refine Fx_text rfl (by kernel_rfl) ?_
  refine Ro_v (v := (Value.string (⟨#[]⟩ : ByteArray))) rfl (o_assign rfl rfl) ?_
  refine Ro_nil ?_
  refine Fx_seq (a := c28_3) (b := c28_4) rfl ?_
  refine Fx_text rfl (by kernel_rfl) ?_
  refine Ro_v (v := (Value.string (⟨#[]⟩ : ByteArray))) rfl (o_assign rfl rfl) ?_
  refine Ro_nil ?_
  refine Fx_block (b := c28_5) rfl ?_
  refine Fx_forget (Fr.set_of (Fr.set_of rfl rfl) rfl) ((OptW.loop h (fun s => C28_l1 out (.inl s)) ?_ : C28_l1 out (.inl (n_2, (⟨#[]⟩ : ByteArray), σ))) _)
  intro s hs f
  obtain ⟨n_3, s_4, σ⟩ := s
  refine q28_l1 n_3 s_4 σ out f (hs.imp ?_)
  intro r hr
  rcases r with y | b
  · exact hr
  · obtain ⟨x15, σ16⟩ := b
    have h := hr
    exact h.sm
noncomputable def c21_0 : Code := bodyOf Tryd.f21
noncomputable def c21_1 : Code := cl c21_0
noncomputable def c21_2 : Code := cr c21_0
noncomputable def c21_3 : Code := cl c21_2
noncomputable def c21_4 : Code := cl c21_3
noncomputable def c21_5 : Code := cr c21_3
noncomputable def c21_6 : Code := cl c21_5
noncomputable def c21_7 : Code := cl c21_6
noncomputable def c21_8 : Code := cr c21_6
noncomputable def c21_9 : Code := cr c21_5
noncomputable def c21_10 : Code := cr c21_2
noncomputable def c21_11 : Code := cl c21_10
noncomputable def c21_12 : Code := cr c21_10
theorem ok21 : funcOk Tryd.f21 = true := by kernel_rfl
noncomputable def rs21 : List ResultVar := resultsOf Tryd.f21
theorem w21 (id_2 : Int) (σ : AHeap) (r : (ByteArray × AHeap)) (h : G_semvcsref10_Format id_2 σ = some r) : callL Tryd.prog 21 [(Value.int .i64 id_2)] σ = some ((Value.string r.1), r.2) := by
  refine callL_walk (fn := Tryd.f21) (c := c21_0) (rs := rs21) Tryd.func21 rfl ok21 rfl rfl ?_
  obtain ⟨out, ho⟩ : ∃ out, out = ((Value.string r.1), r.2) := ⟨_, rfl⟩
  rw [← ho]
  replace h : OptW (G_semvcsref10_Format id_2 σ) (fun r => ((Value.string r.1), r.2) = out) := ⟨r, h, ho.symm⟩
  unfold G_semvcsref10_Format at h
  refine Fx_seq (a := c21_1) (b := c21_2) rfl ?_
  refine Fx_text rfl (by kernel_rfl) ?_
  refine Ro_v (v := (Value.string (⟨#[]⟩ : ByteArray))) rfl (o_assign rfl rfl) ?_
  refine Ro_nil ?_
  refine Fx_seq (a := c21_3) (b := c21_10) rfl ?_
  refine Fx_seq (a := c21_4) (b := c21_5) rfl ?_
  refine Fx_text rfl (by kernel_rfl) ?_
  refine Ro_v (v := (Value.int .i64 id_2)) rfl (o_move rfl rfl) ?_
  obtain ⟨x3, hx3, h⟩ := h.bd
  refine Ro_v (v := (Value.bool x3)) rfl (o_call (vs := [(Value.int .i64 id_2)]) rfl rfl (w13 _ _ _ hx3)) ?_
  obtain ⟨x4, hx4, h⟩ := h.lt
  refine Ro_v (v := (Value.bool x4)) rfl (o_not rfl rfl hx4) ?_
  refine Ro_nil ?_
  refine Fx_cond (a := c21_6) (b := c21_9) rfl rfl (fun ex4 => ?_) (fun ex4 => ?_)
  · replace h := h.ifT ex4
    refine Fx_seq (a := c21_7) (b := c21_8) rfl ?_
    refine Fx_text rfl (by kernel_rfl) ?_
    refine Ro_v (v := (Value.string (⟨#[]⟩ : ByteArray))) rfl (o_assign rfl rfl) ?_
    refine Ro_nil ?_
    exact Fx_ret rfl rfl (congrArg some h.sm)
  · replace h := h.ifF ex4
    refine Fx_skip (c := c21_9) rfl ?_
    refine Fx_seq (a := c21_11) (b := c21_12) rfl ?_
    refine Fx_text rfl (by kernel_rfl) ?_
    refine Ro_v (v := (Value.int .i64 id_2)) rfl (o_move rfl rfl) ?_
    obtain ⟨x5, hx5, h⟩ := h.bd
    refine Ro_v (v := (Value.int .i64 x5)) rfl (o_call (vs := [(Value.int .i64 id_2)]) rfl rfl (w15 _ _ _ hx5)) ?_
    obtain ⟨⟨x7, σ8⟩, hσ8, h⟩ := h.bd
    refine Ro_v (v := (Value.string x7)) rfl (o_call (vs := [(Value.int .i64 x5)]) rfl rfl (w28 _ _ _ hσ8)) ?_
    obtain ⟨x9, hx9, h⟩ := h.bd
    refine Ro_v (v := (Value.string x9)) rfl (o_saddO rfl rfl rfl hx9) ?_
    refine Ro_v (v := (Value.int .i64 id_2)) rfl (o_move rfl rfl) ?_
    obtain ⟨x10, hx10, h⟩ := h.bd
    refine Ro_v (v := (Value.int .i64 x10)) rfl (o_call (vs := [(Value.int .i64 id_2)]) rfl rfl (w17 _ _ _ hx10)) ?_
    obtain ⟨⟨x12, σ13⟩, hσ13, h⟩ := h.bd
    refine Ro_v (v := (Value.string x12)) rfl (o_call (vs := [(Value.int .i64 x10)]) rfl rfl (w28 _ _ _ hσ13)) ?_
    obtain ⟨x14, hx14, h⟩ := h.bd
    refine Ro_v (v := (Value.string x14)) rfl (o_saddO rfl rfl rfl hx14) ?_
    refine Ro_v (v := (Value.string x14)) rfl (o_assign rfl rfl) ?_
    refine Ro_nil ?_
    exact Fx_ret rfl rfl (congrArg some h.sm)
noncomputable def c19_0 : Code := bodyOf Tryd.f19
noncomputable def c19_1 : Code := cl c19_0
noncomputable def c19_2 : Code := cr c19_0
noncomputable def c19_3 : Code := cl c19_2
noncomputable def c19_4 : Code := cr c19_2
noncomputable def c19_5 : Code := cl c19_4
noncomputable def c19_6 : Code := cl c19_5
noncomputable def c19_7 : Code := cr c19_5
noncomputable def c19_8 : Code := cl c19_7
noncomputable def c19_9 : Code := cl c19_8
noncomputable def c19_10 : Code := cr c19_8
noncomputable def c19_11 : Code := cr c19_7
noncomputable def c19_12 : Code := cr c19_4
noncomputable def c19_13 : Code := cl c19_12
noncomputable def c19_14 : Code := cl c19_13
noncomputable def c19_15 : Code := cr c19_13
noncomputable def c19_16 : Code := cl c19_15
noncomputable def c19_17 : Code := cl c19_16
noncomputable def c19_18 : Code := cl c19_17
noncomputable def c19_19 : Code := cl c19_18
noncomputable def c19_20 : Code := cr c19_18
noncomputable def c19_21 : Code := cl c19_20
noncomputable def c19_22 : Code := cr c19_20
noncomputable def c19_23 : Code := cr c19_17
noncomputable def c19_24 : Code := cl c19_23
noncomputable def c19_25 : Code := cl c19_24
noncomputable def c19_26 : Code := cl c19_25
noncomputable def c19_27 : Code := cl c19_26
noncomputable def c19_28 : Code := cr c19_26
noncomputable def c19_29 : Code := cl c19_28
noncomputable def c19_30 : Code := cr c19_28
noncomputable def c19_31 : Code := cl c19_30
noncomputable def c19_32 : Code := cr c19_30
noncomputable def c19_33 : Code := cl c19_32
noncomputable def c19_34 : Code := cl c19_33
noncomputable def c19_35 : Code := cr c19_33
noncomputable def c19_36 : Code := cr c19_32
noncomputable def c19_37 : Code := cl c19_36
noncomputable def c19_38 : Code := cr c19_36
noncomputable def c19_39 : Code := cl c19_38
noncomputable def c19_40 : Code := cr c19_38
noncomputable def c19_41 : Code := cr c19_23
noncomputable def c19_42 : Code := cr c19_12
noncomputable def c19_43 : Code := cl c19_42
noncomputable def c19_44 : Code := cr c19_42
noncomputable def c19_45 : Code := cl c19_44
noncomputable def c19_46 : Code := cl c19_45
noncomputable def c19_47 : Code := cr c19_45
noncomputable def c19_48 : Code := cl c19_47
noncomputable def c19_49 : Code := cl c19_48
noncomputable def c19_50 : Code := cr c19_48
noncomputable def c19_51 : Code := cr c19_47
noncomputable def c19_52 : Code := cr c19_44
noncomputable def c19_53 : Code := cl c19_52
noncomputable def c19_54 : Code := cr c19_52
theorem ok19 : funcOk Tryd.f19 = true := by kernel_rfl
noncomputable def rs19 : List ResultVar := resultsOf Tryd.f19
noncomputable def C19_l1 (s_6 : ByteArray)  (out : Value × AHeap) : (Int × Int × Int × Int × AHeap) ⊕ ((Int × Int × AHeap) ⊕ (Int × Int × AHeap)) → Prop
  | .inl (site_7, n_8, dots_9, i_10, σ) => ∀ f, Fx Tryd.prog rs19 [.code c19_16, .blk 0, .code c19_42] .normal (Fr.set (Fr.set (Fr.set (Fr.set (Fr.set f 0 (Value.string s_6)) 4 (Value.int .i64 site_7)) 5 (Value.int .i64 n_8)) 6 (Value.int .i64 dots_9)) 7 (Value.int .i64 i_10)) σ = some out
  | .inr (.inl (site_11, n_12, σ)) => ∀ f, Fx Tryd.prog rs19 [.code c19_42] .normal (Fr.set (Fr.set (Fr.set f 0 (Value.string s_6)) 4 (Value.int .i64 site_11)) 5 (Value.int .i64 n_12)) σ = some out
  | .inr (.inr (x13, x14, σ)) => ((Value.tuple #[(Value.int .i64 x13), (Value.int .i64 x14)]), σ) = out
theorem p19_j1 (s_6 : ByteArray) (site_20 : Int) (n_21 : Int) (dots_22 : Int) (i_23 : Int) (σ : AHeap) (out : Value × AHeap) (f : Fr) (h : OptW (G_semvcsref10_Parse_j1 s_6 site_20 n_21 dots_22 i_23 σ) (C19_l1 s_6 out)) :
    Fx Tryd.prog rs19 [.code c19_41, .code c19_16, .blk 0, .code c19_42] .normal (Fr.set (Fr.set (Fr.set (Fr.set (Fr.set f 0 (Value.string s_6)) 4 (Value.int .i64 site_20)) 5 (Value.int .i64 n_21)) 6 (Value.int .i64 dots_22)) 7 (Value.int .i64 i_23)) σ = some out := by
  unfold G_semvcsref10_Parse_j1 at h
  refine Fx_text rfl (by kernel_rfl) ?_
  refine Ro_v (v := (Value.int .i64 i_23)) rfl (o_move rfl rfl) ?_
  obtain ⟨x24, hx24, h⟩ := h.lt
  refine Ro_v (v := (Value.int .i64 x24)) rfl (o_add rfl rfl rfl hx24) ?_
  refine Ro_v (v := (Value.int .i64 x24)) rfl (o_assign rfl rfl) ?_
  refine Ro_nil ?_
  exact Fx_forget (Fr.set_of (Fr.set_of (Fr.set_of (Fr.set_of (Fr.set_of rfl rfl) rfl) rfl) rfl) rfl) (h.sm _)
theorem q19_l1 (s_6 : ByteArray) (site_7 : Int) (n_8 : Int) (dots_9 : Int) (i_10 : Int) (σ : AHeap)  (out : Value × AHeap) (f : Fr) (h : OptW (G_semvcsref10_Parse_l1 s_6 (site_7, n_8, dots_9, i_10, σ)) (C19_l1 s_6 out)) :
    Fx Tryd.prog rs19 [.code c19_16, .blk 0, .code c19_42] .normal (Fr.set (Fr.set (Fr.set (Fr.set (Fr.set f 0 (Value.string s_6)) 4 (Value.int .i64 site_7)) 5 (Value.int .i64 n_8)) 6 (Value.int .i64 dots_9)) 7 (Value.int .i64 i_10)) σ = some out := by
  unfold G_semvcsref10_Parse_l1 at h
  refine Fx_loop (b := c19_17) rfl ?_
  refine Fx_seq (a := c19_18) (b := c19_23) rfl ?_
  refine Fx_seq (a := c19_19) (b := c19_20) rfl ?_
  refine Fx_text rfl (by kernel_rfl) ?_
  refine Ro_v (v := (Value.int .i64 i_10)) rfl (o_move rfl rfl) ?_
  refine Ro_v (v := (Value.string s_6)) rfl (o_move rfl rfl) ?_
  obtain ⟨x15, hx15, h⟩ := h.lt
  refine Ro_v (v := (Value.int .i64 x15)) rfl (o_lenS rfl tu9 rfl hx15) ?_
  obtain ⟨x16, hx16, h⟩ := h.lt
  refine Ro_v (v := (Value.bool x16)) rfl (o_lss rfl rfl rfl hx16) ?_
  refine Ro_nil ?_
  refine Fx_cond (a := c19_21) (b := c19_22) rfl rfl (fun ex16 => ?_) (fun ex16 => ?_)
  · replace h := h.ifT ex16
    refine Fx_skip (c := c19_21) rfl ?_
    refine Fx_seq (a := c19_24) (b := c19_41) rfl ?_
    refine Fx_block (b := c19_25) rfl ?_
    refine Fx_block (b := c19_26) rfl ?_
    refine Fx_seq (a := c19_27) (b := c19_28) rfl ?_
    refine Fx_text rfl (by kernel_rfl) ?_
    refine Ro_v (v := (Value.string s_6)) rfl (o_move rfl rfl) ?_
    refine Ro_v (v := (Value.int .i64 i_10)) rfl (o_move rfl rfl) ?_
    obtain ⟨x17, hx17, h⟩ := h.bd
    refine Ro_v (v := (Value.int .u8 x17)) rfl (o_idxS rfl tu9 rfl rfl hx17) ?_
    obtain ⟨x18, hx18, h⟩ := h.lt
    refine Ro_v (v := (Value.bool x18)) rfl (o_eql rfl rfl rfl hx18) ?_
    refine Ro_v (v := (Value.bool x18)) rfl (o_assign rfl rfl) ?_
    refine Ro_nil ?_
    refine Fx_cond (a := c19_29) (b := c19_30) rfl rfl (fun ex18 => ?_) (fun ex18 => ?_)
    · replace h := h.ifT ex18
      refine Fx_text rfl (by kernel_rfl) ?_
      refine Ro_v (v := (Value.int .i64 dots_9)) rfl (o_move rfl rfl) ?_
      obtain ⟨x19, hx19, h⟩ := h.lt
      refine Ro_v (v := (Value.int .i64 x19)) rfl (o_add rfl rfl rfl hx19) ?_
      refine Ro_v (v := (Value.int .i64 x19)) rfl (o_assign rfl rfl) ?_
      refine Ro_nil ?_
      refine Fx_blk ?_
      refine Fx_blk ?_
      exact Fx_forget (Fr.set_of (Fr.set_of (Fr.set_of (Fr.set_of (Fr.set_of rfl rfl) rfl) rfl) rfl) rfl) (p19_j1 _ _ _ _ _ _ _ _ h)
    · replace h := h.ifF ex18
      refine Fx_seq (a := c19_31) (b := c19_32) rfl ?_
      refine Fx_text rfl (by kernel_rfl) ?_
      refine Ro_v (v := (Value.string s_6)) rfl (o_move rfl rfl) ?_
      refine Ro_v (v := (Value.int .i64 i_10)) rfl (o_move rfl rfl) ?_
      obtain ⟨x25, hx25, h⟩ := h.bd
      refine Ro_v (v := (Value.int .u8 x25)) rfl (o_idxS rfl tu9 rfl rfl hx25) ?_
      obtain ⟨x26, hx26, h⟩ := h.lt
      refine Ro_v (v := (Value.bool x26)) rfl (o_lss rfl rfl rfl hx26) ?_
      refine Ro_v (v := (Value.bool x26)) rfl (o_move rfl rfl) ?_
      refine Ro_set (t := !x26) (v := bif !x26 then (Value.string s_6) else undef) rfl (w_F rfl rfl rfl) (by intro e; have e0 := not_t (e); subst e0; exact o_move rfl rfl) (fun e => ⟨gv_f e, rfl⟩) ?_
      refine Ro_set (t := !x26) (v := bif !x26 then (Value.int .i64 i_10) else undef) rfl (w_F rfl rfl rfl) (by intro e; have e0 := not_t (e); subst e0; exact o_move rfl rfl) (fun e => ⟨gv_f e, rfl⟩) ?_
      obtain ⟨x27, hx27, h⟩ := h.bd
      refine Ro_set (t := !x26) (v := bif !x26 then (Value.int .u8 x27) else undef) rfl (w_F rfl rfl rfl) (by intro e; have e0 := not_t (e); subst e0; exact o_idxS rfl tu9 rfl rfl hx27) (fun e => ⟨gv_f e, rfl⟩) ?_
      obtain ⟨x28, hx28, h⟩ := h.lt
      refine Ro_set (t := !x26) (v := bif !x26 then (Value.bool x28) else undef) rfl (w_F rfl rfl rfl) (by intro e; have e0 := not_t (e); subst e0; exact o_gtr rfl rfl rfl hx28) (fun e => ⟨gv_f e, rfl⟩) ?_
      obtain ⟨x29, hx29, h⟩ := h.lt
      refine Ro_v (v := (Value.bool x29)) rfl (o_pick rfl rfl (by intro e; subst e; subst hx29; rfl) (by intro e; subst e; subst hx29; rfl)) ?_
      refine Ro_v (v := (Value.bool x29)) rfl (o_move rfl rfl) ?_
      refine Ro_set (t := !x29) (v := bif !x29 then (Value.int .i64 site_7) else undef) rfl (w_F rfl rfl rfl) (by intro e; have e0 := not_t (e); subst e0; exact o_move rfl rfl) (fun e => ⟨gv_f e, rfl⟩) ?_
      obtain ⟨x30, hx30, h⟩ := h.lt
      refine Ro_set (t := !x29) (v := bif !x29 then (Value.bool x30) else undef) rfl (w_F rfl rfl rfl) (by intro e; have e0 := not_t (e); subst e0; exact o_gtr rfl rfl rfl hx30) (fun e => ⟨gv_f e, rfl⟩) ?_
      obtain ⟨x31, hx31, h⟩ := h.lt
      refine Ro_v (v := (Value.bool x31)) rfl (o_pick rfl rfl (by intro e; subst e; subst hx31; rfl) (by intro e; subst e; subst hx31; rfl)) ?_
      refine Ro_v (v := (Value.bool x31)) rfl (o_move rfl rfl) ?_
      refine Ro_set (t := !x31) (v := bif !x31 then (Value.int .i64 n_8) else undef) rfl (w_F rfl rfl rfl) (by intro e; have e0 := not_t (e); subst e0; exact o_move rfl rfl) (fun e => ⟨gv_f e, rfl⟩) ?_
      obtain ⟨x32, hx32, h⟩ := h.lt
      refine Ro_set (t := !x31) (v := bif !x31 then (Value.bool x32) else undef) rfl (w_F rfl rfl rfl) (by intro e; have e0 := not_t (e); subst e0; exact o_gtr rfl rfl rfl hx32) (fun e => ⟨gv_f e, rfl⟩) ?_
      obtain ⟨x33, hx33, h⟩ := h.lt
      refine Ro_v (v := (Value.bool x33)) rfl (o_pick rfl rfl (by intro e; subst e; subst hx33; rfl) (by intro e; subst e; subst hx33; rfl)) ?_
      refine Ro_v (v := (Value.bool x33)) rfl (o_assign rfl rfl) ?_
      refine Ro_nil ?_
      refine Fx_cond (a := c19_33) (b := c19_36) rfl rfl (fun ex33 => ?_) (fun ex33 => ?_)
      · replace h := h.ifT ex33
        refine Fx_seq (a := c19_34) (b := c19_35) rfl ?_
        refine Fx_text rfl (by kernel_rfl) ?_
        refine Ro_v (v := (Value.int .i64 (0))) rfl (o_assign rfl rfl) ?_
        refine Ro_v (v := (Value.int .i64 (13))) rfl (o_assign rfl rfl) ?_
        refine Ro_nil ?_
        exact Fx_ret rfl rfl (congrArg some h.sm)
      · replace h := h.ifF ex33
        refine Fx_seq (a := c19_37) (b := c19_38) rfl ?_
        refine Fx_text rfl (by kernel_rfl) ?_
        refine Ro_v (v := (Value.int .i64 dots_9)) rfl (o_move rfl rfl) ?_
        obtain ⟨x34, hx34, h⟩ := h.lt
        refine Ro_v (v := (Value.bool x34)) rfl (o_eql rfl rfl rfl hx34) ?_
        refine Ro_v (v := (Value.bool x34)) rfl (o_assign rfl rfl) ?_
        refine Ro_nil ?_
        refine Fx_cond (a := c19_39) (b := c19_40) rfl rfl (fun ex34 => ?_) (fun ex34 => ?_)
        · replace h := h.ifT ex34
          refine Fx_text rfl (by kernel_rfl) ?_
          refine Ro_v (v := (Value.int .i64 site_7)) rfl (o_move rfl rfl) ?_
          obtain ⟨x35, hx35, h⟩ := h.lt
          refine Ro_v (v := (Value.int .i64 x35)) rfl (o_mul rfl rfl rfl hx35) ?_
          refine Ro_v (v := (Value.string s_6)) rfl (o_move rfl rfl) ?_
          refine Ro_v (v := (Value.int .i64 i_10)) rfl (o_move rfl rfl) ?_
          obtain ⟨x36, hx36, h⟩ := h.bd
          refine Ro_v (v := (Value.int .u8 x36)) rfl (o_idxS rfl tu9 rfl rfl hx36) ?_
          obtain ⟨x37, hx37, h⟩ := h.lt
          refine Ro_v (v := (Value.int .u8 x37)) rfl (o_sub rfl rfl rfl hx37) ?_
          obtain ⟨x38, hx38, h⟩ := h.lt
          refine Ro_v (v := (Value.int .i64 x38)) rfl (o_convI rfl tu5 tu3 rfl hx38) ?_
          obtain ⟨x39, hx39, h⟩ := h.lt
          refine Ro_v (v := (Value.int .i64 x39)) rfl (o_add rfl rfl rfl hx39) ?_
          refine Ro_v (v := (Value.int .i64 x39)) rfl (o_assign rfl rfl) ?_
          refine Ro_nil ?_
          refine Fx_blk ?_
          refine Fx_blk ?_
          exact Fx_forget (Fr.set_of (Fr.set_of (Fr.set_of (Fr.set_of (Fr.set_of rfl rfl) rfl) rfl) rfl) rfl) (p19_j1 _ _ _ _ _ _ _ _ h)
        · replace h := h.ifF ex34
          refine Fx_text rfl (by kernel_rfl) ?_
          refine Ro_v (v := (Value.int .i64 n_8)) rfl (o_move rfl rfl) ?_
          obtain ⟨x40, hx40, h⟩ := h.lt
          refine Ro_v (v := (Value.int .i64 x40)) rfl (o_mul rfl rfl rfl hx40) ?_
          refine Ro_v (v := (Value.string s_6)) rfl (o_move rfl rfl) ?_
          refine Ro_v (v := (Value.int .i64 i_10)) rfl (o_move rfl rfl) ?_
          obtain ⟨x41, hx41, h⟩ := h.bd
          refine Ro_v (v := (Value.int .u8 x41)) rfl (o_idxS rfl tu9 rfl rfl hx41) ?_
          obtain ⟨x42, hx42, h⟩ := h.lt
          refine Ro_v (v := (Value.int .u8 x42)) rfl (o_sub rfl rfl rfl hx42) ?_
          obtain ⟨x43, hx43, h⟩ := h.lt
          refine Ro_v (v := (Value.int .i64 x43)) rfl (o_convI rfl tu5 tu3 rfl hx43) ?_
          obtain ⟨x44, hx44, h⟩ := h.lt
          refine Ro_v (v := (Value.int .i64 x44)) rfl (o_add rfl rfl rfl hx44) ?_
          refine Ro_v (v := (Value.int .i64 x44)) rfl (o_assign rfl rfl) ?_
          refine Ro_nil ?_
          refine Fx_blk ?_
          refine Fx_blk ?_
          exact Fx_forget (Fr.set_of (Fr.set_of (Fr.set_of (Fr.set_of (Fr.set_of rfl rfl) rfl) rfl) rfl) rfl) (p19_j1 _ _ _ _ _ _ _ _ h)
  · replace h := h.ifF ex16
    refine Fx_exit rfl ?_
    refine Fx_out_code ?_
    refine Fx_out_code ?_
    refine Fx_out_eq ?_
    exact Fx_forget (Fr.set_of (Fr.set_of (Fr.set_of rfl rfl) rfl) rfl) (h.sm _)
theorem w19 (s_3 : ByteArray) (σ : AHeap) (r : (Int × Int × AHeap)) (h : G_semvcsref10_Parse s_3 σ = some r) : callL Tryd.prog 19 [(Value.string s_3)] σ = some ((Value.tuple #[(Value.int .i64 r.1), (Value.int .i64 r.2.1)]), r.2.2) := by
  refine callL_walk (fn := Tryd.f19) (c := c19_0) (rs := rs19) Tryd.func19 rfl ok19 rfl rfl ?_
  obtain ⟨out, ho⟩ : ∃ out, out = ((Value.tuple #[(Value.int .i64 r.1), (Value.int .i64 r.2.1)]), r.2.2) := ⟨_, rfl⟩
  rw [← ho]
  replace h : OptW (G_semvcsref10_Parse s_3 σ) (fun r => ((Value.tuple #[(Value.int .i64 r.1), (Value.int .i64 r.2.1)]), r.2.2) = out) := ⟨r, h, ho.symm⟩
  unfold G_semvcsref10_Parse at h
  refine Fx_seq (a := c19_1) (b := c19_2) rfl ?_
  refine Fx_text rfl (by kernel_rfl) ?_
  refine Ro_v (v := (Value.int .i64 (0))) rfl (o_assign rfl rfl) ?_
  refine Ro_v (v := (Value.int .i64 (0))) rfl (o_assign rfl rfl) ?_
  refine Ro_nil ?_
  refine Fx_seq (a := c19_3) (b := c19_4) rfl ?_
  refine Fx_text rfl (by kernel_rfl) ?_
  refine Ro_v (v := (Value.int .i64 (0))) rfl (o_assign rfl rfl) ?_
  refine Ro_v (v := (Value.int .i64 (0))) rfl (o_assign rfl rfl) ?_
  refine Ro_v (v := (Value.int .i64 (0))) rfl (o_assign rfl rfl) ?_
  refine Ro_nil ?_
  refine Fx_seq (a := c19_5) (b := c19_12) rfl ?_
  refine Fx_seq (a := c19_6) (b := c19_7) rfl ?_
  refine Fx_text rfl (by kernel_rfl) ?_
  refine Ro_v (v := (Value.string s_3)) rfl (o_move rfl rfl) ?_
  obtain ⟨x4, hx4, h⟩ := h.lt
  refine Ro_v (v := (Value.int .i64 x4)) rfl (o_lenS rfl tu9 rfl hx4) ?_
  obtain ⟨x5, hx5, h⟩ := h.lt
  refine Ro_v (v := (Value.bool x5)) rfl (o_gtr rfl rfl rfl hx5) ?_
  refine Ro_nil ?_
  refine Fx_cond (a := c19_8) (b := c19_11) rfl rfl (fun ex5 => ?_) (fun ex5 => ?_)
  · replace h := h.ifT ex5
    refine Fx_seq (a := c19_9) (b := c19_10) rfl ?_
    refine Fx_text rfl (by kernel_rfl) ?_
    refine Ro_v (v := (Value.int .i64 (0))) rfl (o_assign rfl rfl) ?_
    refine Ro_v (v := (Value.int .i64 (13))) rfl (o_assign rfl rfl) ?_
    refine Ro_nil ?_
    exact Fx_ret rfl rfl (congrArg some h.sm)
  · replace h := h.ifF ex5
    refine Fx_skip (c := c19_11) rfl ?_
    refine Fx_seq (a := c19_13) (b := c19_42) rfl ?_
    refine Fx_seq (a := c19_14) (b := c19_15) rfl ?_
    refine Fx_text rfl (by kernel_rfl) ?_
    refine Ro_v (v := (Value.int .i64 (0))) rfl (o_assign rfl rfl) ?_
    refine Ro_nil ?_
    refine Fx_block (b := c19_16) rfl ?_
    refine Fx_forget (Fr.set_of (Fr.set_of (Fr.set_of (Fr.set_of (Fr.set_of rfl rfl) rfl) rfl) rfl) rfl) ((OptW.loop h (fun s => C19_l1 s_3 out (.inl s)) ?_ : C19_l1 s_3 out (.inl ((0), (0), (0), (0), σ))) _)
    intro s hs f
    obtain ⟨site_7, n_8, dots_9, i_10, σ⟩ := s
    refine q19_l1 s_3 site_7 n_8 dots_9 i_10 σ out f (hs.imp ?_)
    intro r hr
    rcases r with y | b
    · exact hr
    · rcases b with b | b
      · obtain ⟨site_45, n_46, σ47⟩ := b
        have h := hr
        intro f
        refine Fx_seq (a := c19_43) (b := c19_44) rfl ?_
        refine Fx_text rfl (by kernel_rfl) ?_
        refine Ro_v (v := (Value.int .i64 site_45)) rfl (o_move rfl rfl) ?_
        refine Ro_v (v := (Value.int .i64 n_46)) rfl (o_move rfl rfl) ?_
        obtain ⟨⟨x48, x49⟩, hx48, h⟩ := h.bd
        refine Ro_v (v := (Value.tuple #[(Value.int .i64 x48), (Value.int .i64 x49)])) rfl (o_call (vs := [(Value.int .i64 site_45), (Value.int .i64 n_46)]) rfl rfl (w10 _ _ _ _ hx48)) ?_
        refine Ro_v (v := (Value.tuple #[(Value.int .i64 x48), (Value.int .i64 x49)])) rfl (o_move rfl rfl) ?_
        refine Ro_v (v := (Value.int .i64 x48)) rfl (o_ext rfl rfl rfl) ?_
        refine Ro_v (v := (Value.int .i64 x49)) rfl (o_ext rfl rfl rfl) ?_
        refine Ro_v (v := (Value.int .i64 x48)) rfl (o_assign rfl rfl) ?_
        refine Ro_v (v := (Value.int .i64 x49)) rfl (o_assign rfl rfl) ?_
        refine Ro_nil ?_
        refine Fx_seq (a := c19_45) (b := c19_52) rfl ?_
        refine Fx_seq (a := c19_46) (b := c19_47) rfl ?_
        refine Fx_text rfl (by kernel_rfl) ?_
        refine Ro_v (v := (Value.int .i64 x49)) rfl (o_move rfl rfl) ?_
        obtain ⟨x50, hx50, h⟩ := h.lt
        refine Ro_v (v := (Value.bool x50)) rfl (o_neq rfl rfl rfl hx50) ?_
        refine Ro_v (v := (Value.bool x50)) rfl (o_move rfl rfl) ?_
        refine Ro_set (t := !x50) (v := bif !x50 then (Value.int .i64 x48) else undef) rfl (w_F rfl rfl rfl) (by intro e; have e0 := not_t (e); subst e0; exact o_move rfl rfl) (fun e => ⟨gv_f e, rfl⟩) ?_
        obtain ⟨⟨x52, σ53⟩, hσ53, h⟩ := h.bd
        refine Ro_set (t := !x50) (v := bif !x50 then (Value.string x52) else undef) rfl (w_F rfl rfl rfl) (by intro e; have e0 := not_t (e); subst e0; exact o_call (vs := [(Value.int .i64 x48)]) rfl rfl (w21 _ _ _ hσ53)) (fun e => ⟨gv_f e, (by have q := hσ53; rw [e] at q; simp only [cond_false, Option.some.injEq, Prod.mk.injEq] at q; exact q.2.symm)⟩) ?_
        refine Ro_set (t := !x50) (v := bif !x50 then (Value.string s_3) else undef) rfl (w_F rfl rfl rfl) (by intro e; have e0 := not_t (e); subst e0; exact o_move rfl rfl) (fun e => ⟨gv_f e, rfl⟩) ?_
        obtain ⟨x54, hx54, h⟩ := h.lt
        refine Ro_set (t := !x50) (v := bif !x50 then (Value.bool x54) else undef) rfl (w_F rfl rfl rfl) (by intro e; have e0 := not_t (e); subst e0; exact o_sneq rfl rfl rfl hx54) (fun e => ⟨gv_f e, rfl⟩) ?_
        obtain ⟨x55, hx55, h⟩ := h.lt
        refine Ro_v (v := (Value.bool x55)) rfl (o_pick rfl rfl (by intro e; subst e; subst hx55; rfl) (by intro e; subst e; subst hx55; rfl)) ?_
        refine Ro_nil ?_
        refine Fx_cond (a := c19_48) (b := c19_51) rfl rfl (fun ex55 => ?_) (fun ex55 => ?_)
        · replace h := h.ifT ex55
          refine Fx_seq (a := c19_49) (b := c19_50) rfl ?_
          refine Fx_text rfl (by kernel_rfl) ?_
          refine Ro_v (v := (Value.int .i64 (0))) rfl (o_assign rfl rfl) ?_
          refine Ro_v (v := (Value.int .i64 (13))) rfl (o_assign rfl rfl) ?_
          refine Ro_nil ?_
          exact Fx_ret rfl rfl (congrArg some h.sm)
        · replace h := h.ifF ex55
          refine Fx_skip (c := c19_51) rfl ?_
          refine Fx_seq (a := c19_53) (b := c19_54) rfl ?_
          refine Fx_text rfl (by kernel_rfl) ?_
          refine Ro_v (v := (Value.int .i64 x48)) rfl (o_move rfl rfl) ?_
          refine Ro_v (v := (Value.int .i64 x48)) rfl (o_assign rfl rfl) ?_
          refine Ro_v (v := (Value.int .i64 (0))) rfl (o_assign rfl rfl) ?_
          refine Ro_nil ?_
          exact Fx_ret rfl rfl (congrArg some h.sm)
      · obtain ⟨x56, x57, σ58⟩ := b
        have h := hr
        exact h.sm
noncomputable def c4_0 : Code := bodyOf Tryd.f4
noncomputable def c4_1 : Code := cl c4_0
noncomputable def c4_2 : Code := cr c4_0
noncomputable def c4_3 : Code := cl c4_2
noncomputable def c4_4 : Code := cr c4_2
noncomputable def c4_5 : Code := cl c4_4
noncomputable def c4_6 : Code := cr c4_4
noncomputable def c4_7 : Code := cl c4_6
noncomputable def c4_8 : Code := cr c4_6
theorem ok4 : funcOk Tryd.f4 = true := by kernel_rfl
noncomputable def rs4 : List ResultVar := resultsOf Tryd.f4
theorem w4 (id_2 : Int) (s_3 : ByteArray) (σ : AHeap) (r : (Bool × AHeap)) (h : G_semvcslaw10_IdentTexts id_2 s_3 σ = some r) : callL Tryd.prog 4 [(Value.int .i64 id_2), (Value.string s_3)] σ = some ((Value.bool r.1), r.2) := by
  refine callL_walk (fn := Tryd.f4) (c := c4_0) (rs := rs4) Tryd.func4 rfl ok4 rfl rfl ?_
  obtain ⟨out, ho⟩ : ∃ out, out = ((Value.bool r.1), r.2) := ⟨_, rfl⟩
  rw [← ho]
  replace h : OptW (G_semvcslaw10_IdentTexts id_2 s_3 σ) (fun r => ((Value.bool r.1), r.2) = out) := ⟨r, h, ho.symm⟩
  unfold G_semvcslaw10_IdentTexts at h
  refine Fx_seq (a := c4_1) (b := c4_2) rfl ?_
  refine Fx_text rfl (by kernel_rfl) ?_
  refine Ro_v (v := (Value.bool false)) rfl (o_assign rfl rfl) ?_
  refine Ro_nil ?_
  refine Fx_seq (a := c4_3) (b := c4_4) rfl ?_
  refine Fx_text rfl (by kernel_rfl) ?_
  refine Ro_v (v := (Value.string s_3)) rfl (o_move rfl rfl) ?_
  obtain ⟨⟨x4, x5⟩, hx4, h⟩ := h.bd
  refine Ro_v (v := (Value.tuple #[(Value.int .i64 x4), (Value.int .i64 x5)])) rfl (o_call (vs := [(Value.string s_3)]) rfl rfl (w18 _ _ _ hx4)) ?_
  refine Ro_v (v := (Value.tuple #[(Value.int .i64 x4), (Value.int .i64 x5)])) rfl (o_move rfl rfl) ?_
  refine Ro_v (v := (Value.int .i64 x4)) rfl (o_ext rfl rfl rfl) ?_
  refine Ro_v (v := (Value.int .i64 x5)) rfl (o_ext rfl rfl rfl) ?_
  refine Ro_v (v := (Value.int .i64 x4)) rfl (o_assign rfl rfl) ?_
  refine Ro_v (v := (Value.int .i64 x5)) rfl (o_assign rfl rfl) ?_
  refine Ro_nil ?_
  refine Fx_seq (a := c4_5) (b := c4_6) rfl ?_
  refine Fx_text rfl (by kernel_rfl) ?_
  refine Ro_v (v := (Value.string s_3)) rfl (o_move rfl rfl) ?_
  obtain ⟨⟨x8, x9, σ10⟩, hσ10, h⟩ := h.bd
  refine Ro_v (v := (Value.tuple #[(Value.int .i64 x8), (Value.int .i64 x9)])) rfl (o_call (vs := [(Value.string s_3)]) rfl rfl (w19 _ _ _ hσ10)) ?_
  refine Ro_v (v := (Value.tuple #[(Value.int .i64 x8), (Value.int .i64 x9)])) rfl (o_move rfl rfl) ?_
  refine Ro_v (v := (Value.int .i64 x8)) rfl (o_ext rfl rfl rfl) ?_
  refine Ro_v (v := (Value.int .i64 x9)) rfl (o_ext rfl rfl rfl) ?_
  refine Ro_v (v := (Value.int .i64 x8)) rfl (o_assign rfl rfl) ?_
  refine Ro_v (v := (Value.int .i64 x9)) rfl (o_assign rfl rfl) ?_
  refine Ro_nil ?_
  refine Fx_seq (a := c4_7) (b := c4_8) rfl ?_
  refine Fx_text rfl (by kernel_rfl) ?_
  obtain ⟨⟨x12, σ13⟩, hσ13, h⟩ := h.bd
  refine Ro_v (v := (Value.bool x12)) rfl (o_call (vs := []) rfl rfl (w11 _ _ hσ13)) ?_
  refine Ro_v (v := (Value.bool x12)) rfl (o_move rfl rfl) ?_
  refine Ro_set (t := x12) (v := bif x12 then (Value.int .i64 id_2) else undef) rfl (w_T rfl rfl rfl) (by intro e; have e0 := e; subst e0; exact o_move rfl rfl) (fun e => ⟨gv_f e, rfl⟩) ?_
  obtain ⟨⟨x15, σ16⟩, hσ16, h⟩ := h.bd
  refine Ro_set (t := x12) (v := bif x12 then (Value.string x15) else undef) rfl (w_T rfl rfl rfl) (by intro e; have e0 := e; subst e0; exact o_call (vs := [(Value.int .i64 id_2)]) rfl rfl (w20 _ _ _ hσ16)) (fun e => ⟨gv_f e, (by have q := hσ16; rw [e] at q; simp only [cond_false, Option.some.injEq, Prod.mk.injEq] at q; exact q.2.symm)⟩) ?_
  refine Ro_set (t := x12) (v := bif x12 then (Value.int .i64 id_2) else undef) rfl (w_T rfl rfl rfl) (by intro e; have e0 := e; subst e0; exact o_move rfl rfl) (fun e => ⟨gv_f e, rfl⟩) ?_
  obtain ⟨⟨x18, σ19⟩, hσ19, h⟩ := h.bd
  refine Ro_set (t := x12) (v := bif x12 then (Value.string x18) else undef) rfl (w_T rfl rfl rfl) (by intro e; have e0 := e; subst e0; exact o_call (vs := [(Value.int .i64 id_2)]) rfl rfl (w21 _ _ _ hσ19)) (fun e => ⟨gv_f e, (by have q := hσ19; rw [e] at q; simp only [cond_false, Option.some.injEq, Prod.mk.injEq] at q; exact q.2.symm)⟩) ?_
  obtain ⟨x20, hx20, h⟩ := h.lt
  refine Ro_set (t := x12) (v := bif x12 then (Value.bool x20) else undef) rfl (w_T rfl rfl rfl) (by intro e; have e0 := e; subst e0; exact o_seql rfl rfl rfl hx20) (fun e => ⟨gv_f e, rfl⟩) ?_
  obtain ⟨x21, hx21, h⟩ := h.lt
  refine Ro_v (v := (Value.bool x21)) rfl (o_pick rfl rfl (by intro e; subst e; subst hx21; rfl) (by intro e; subst e; subst hx21; rfl)) ?_
  refine Ro_v (v := (Value.bool x21)) rfl (o_move rfl rfl) ?_
  refine Ro_set (t := x21) (v := bif x21 then (Value.int .i64 x4) else undef) rfl (w_T rfl rfl rfl) (by intro e; have e0 := e; subst e0; exact o_move rfl rfl) (fun e => ⟨gv_f e, rfl⟩) ?_
  refine Ro_set (t := x21) (v := bif x21 then (Value.int .i64 x8) else undef) rfl (w_T rfl rfl rfl) (by intro e; have e0 := e; subst e0; exact o_move rfl rfl) (fun e => ⟨gv_f e, rfl⟩) ?_
  obtain ⟨x22, hx22, h⟩ := h.lt
  refine Ro_set (t := x21) (v := bif x21 then (Value.bool x22) else undef) rfl (w_T rfl rfl rfl) (by intro e; have e0 := e; subst e0; exact o_eql rfl rfl rfl hx22) (fun e => ⟨gv_f e, rfl⟩) ?_
  obtain ⟨x23, hx23, h⟩ := h.lt
  refine Ro_v (v := (Value.bool x23)) rfl (o_pick rfl rfl (by intro e; subst e; subst hx23; rfl) (by intro e; subst e; subst hx23; rfl)) ?_
  refine Ro_v (v := (Value.bool x23)) rfl (o_move rfl rfl) ?_
  refine Ro_set (t := x23) (v := bif x23 then (Value.int .i64 x5) else undef) rfl (w_T rfl rfl rfl) (by intro e; have e0 := e; subst e0; exact o_move rfl rfl) (fun e => ⟨gv_f e, rfl⟩) ?_
  refine Ro_set (t := x23) (v := bif x23 then (Value.int .i64 x9) else undef) rfl (w_T rfl rfl rfl) (by intro e; have e0 := e; subst e0; exact o_move rfl rfl) (fun e => ⟨gv_f e, rfl⟩) ?_
  obtain ⟨x24, hx24, h⟩ := h.lt
  refine Ro_set (t := x23) (v := bif x23 then (Value.bool x24) else undef) rfl (w_T rfl rfl rfl) (by intro e; have e0 := e; subst e0; exact o_eql rfl rfl rfl hx24) (fun e => ⟨gv_f e, rfl⟩) ?_
  obtain ⟨x25, hx25, h⟩ := h.lt
  refine Ro_v (v := (Value.bool x25)) rfl (o_pick rfl rfl (by intro e; subst e; subst hx25; rfl) (by intro e; subst e; subst hx25; rfl)) ?_
  refine Ro_v (v := (Value.bool x25)) rfl (o_assign rfl rfl) ?_
  refine Ro_nil ?_
  exact Fx_ret rfl rfl (congrArg some h.sm)
end Go.Am
