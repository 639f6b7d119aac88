/- L1c9W -/
import Derived.Test.YtfblbkmmjidknaaL1G
import Derived.Test.YtfblbkmmjidknaaProg
set_option linter.unusedVariables false
namespace Go.Am
open Go.Proofs
theorem tu9 : Try.prog.underlying 9 = some .string := by kernel_rfl
theorem tz33 : zeroOf Try.prog 33 = some (Value.agg #[(Value.int .i64 0), (Value.string (ByteArray.empty)), (Value.string (ByteArray.empty))]) := by kernel_rfl
theorem tp33 : placesAt Try.prog 33 = some #[(0, 1), (1, 1), (2, 1)] := by kernel_rfl
theorem tu23 : Try.prog.underlying 23 = some (.slice 33) := by kernel_rfl
theorem ts33 : szOf Try.prog 33 = some 3 := by kernel_rfl
theorem ti33 : infoAt Try.prog 33 = some (some (Value.agg #[(Value.int .i64 0), (Value.string (ByteArray.empty)), (Value.string (ByteArray.empty))]), 3, 40) := by kernel_rfl
theorem tf33_2 : fieldAt Try.prog 33 2 = some (2, 9) := by kernel_rfl
theorem ts9 : szOf Try.prog 9 = some 1 := by kernel_rfl
theorem ta9 : aggOf Try.prog 9 = some false := by kernel_rfl
theorem tf33_1 : fieldAt Try.prog 33 1 = some (1, 9) := by kernel_rfl
theorem ta33 : aggOf Try.prog 33 = some true := by kernel_rfl
theorem tq33 : flatEq Try.prog 33 [2, 3, 3] = true := by kernel_rfl
theorem tz43 : zeroOf Try.prog 43 = some (Value.agg #[(Value.int .i64 0), (Value.int .i64 0), (Value.int .i64 0), (Value.int .i64 0)]) := by kernel_rfl
theorem tp43 : placesAt Try.prog 43 = some #[(0, 1), (1, 1), (2, 1), (3, 1)] := by kernel_rfl
theorem ts43 : szOf Try.prog 43 = some 4 := by kernel_rfl
theorem ta43 : aggOf Try.prog 43 = some true := by kernel_rfl
theorem tf43_2 : fieldAt Try.prog 43 2 = some (2, 24) := by kernel_rfl
theorem ts24 : szOf Try.prog 24 = some 1 := by kernel_rfl
theorem ta24 : aggOf Try.prog 24 = some false := by kernel_rfl
theorem tf43_3 : fieldAt Try.prog 43 3 = some (3, 3) := by kernel_rfl
theorem ts3 : szOf Try.prog 3 = some 1 := by kernel_rfl
theorem ta3 : aggOf Try.prog 3 = some false := by kernel_rfl
theorem tf43_1 : fieldAt Try.prog 43 1 = some (1, 3) := by kernel_rfl
theorem tf43_0 : fieldAt Try.prog 43 0 = some (0, 3) := by kernel_rfl
theorem tu45 : Try.prog.underlying 45 = some (.slice 5) := by kernel_rfl
theorem ts5 : szOf Try.prog 5 = some 1 := by kernel_rfl
theorem tz5 : zeroOf Try.prog 5 = some (Value.int .u8 0) := by kernel_rfl
theorem ti5 : infoAt Try.prog 5 = some (some (Value.int .u8 0), 1, 1) := by kernel_rfl
theorem tu5 : Try.prog.underlying 5 = some (.int .u8) := by kernel_rfl
theorem tu4 : Try.prog.underlying 4 = some .bool := by kernel_rfl
theorem tf33_0 : fieldAt Try.prog 33 0 = some (0, 3) := by kernel_rfl
theorem tf50_0 : fieldAt Try.prog 50 0 = some (0, 48) := by kernel_rfl
theorem ts48 : szOf Try.prog 48 = some 1 := by kernel_rfl
theorem ta48 : aggOf Try.prog 48 = some false := by kernel_rfl
theorem tu48 : Try.prog.underlying 48 = some (.pointer 50) := by kernel_rfl
theorem tu59 : Try.prog.underlying 59 = some .unsafePointer := by kernel_rfl
theorem ts50 : szOf Try.prog 50 = some 2 := by kernel_rfl
theorem tf50_1 : fieldAt Try.prog 50 1 = some (1, 45) := by kernel_rfl
theorem ts45 : szOf Try.prog 45 = some 1 := by kernel_rfl
theorem ta45 : aggOf Try.prog 45 = some false := by kernel_rfl
theorem tu58 : Try.prog.underlying 58 = some (.pointer 5) := by kernel_rfl
theorem tz50 : zeroOf Try.prog 50 = some (Value.agg #[(Value.pointer none), (Sl.v Sl.nil)]) := by kernel_rfl
noncomputable def c23_0 : Code := bodyOf Try.f23
noncomputable def c23_1 : Code := cl c23_0
noncomputable def c23_2 : Code := cr c23_0
noncomputable def c23_3 : Code := cl c23_2
noncomputable def c23_4 : Code := cr c23_2
theorem ok23 : funcOk Try.f23 = true := by kernel_rfl
noncomputable def rs23 : List ResultVar := resultsOf Try.f23
theorem w23 (c_2 : Int) (σ : AHeap) (r : Bool) (h : G_lex_allowed c_2 = some r) : callL Try.prog 23 [(Value.int .u8 c_2)] σ = some ((Value.bool r), σ) := by
  refine callL_walk (fn := Try.f23) (c := c23_0) (rs := rs23) Try.func23 rfl ok23 rfl rfl ?_
  obtain ⟨out, ho⟩ : ∃ out, out = ((Value.bool r), σ) := ⟨_, rfl⟩
  rw [← ho]
  replace h : OptW (G_lex_allowed c_2) (fun r => ((Value.bool r), σ) = out) := ⟨r, h, ho.symm⟩
  unfold G_lex_allowed at h
  refine Fx_seq (a := c23_1) (b := c23_2) rfl ?_
  refine Fx_text rfl (by kernel_rfl) ?_
  refine Ro_v (v := (Value.bool false)) rfl (o_assign rfl rfl) ?_
  refine Ro_nil ?_
  refine Fx_seq (a := c23_3) (b := c23_4) rfl ?_
  refine Fx_text rfl (by kernel_rfl) ?_
  refine Ro_v (v := (Value.int .u8 c_2)) rfl (o_move rfl rfl) ?_
  obtain ⟨x3, hx3, h⟩ := h.lt
  refine Ro_v (v := (Value.bool x3)) rfl (o_eql rfl rfl rfl hx3) ?_
  refine Ro_v (v := (Value.bool x3)) rfl (o_move rfl rfl) ?_
  refine Ro_set (t := !x3) (v := bif !x3 then (Value.int .u8 c_2) else undef) rfl (w_F rfl rfl rfl) (by intro e; have e0 := not_t (e); subst e0; exact o_move rfl rfl) (fun e => ⟨gv_f e, rfl⟩) ?_
  obtain ⟨x4, hx4, h⟩ := h.lt
  refine Ro_set (t := !x3) (v := bif !x3 then (Value.bool x4) else undef) rfl (w_F rfl rfl rfl) (by intro e; have e0 := not_t (e); subst e0; exact o_eql rfl rfl rfl hx4) (fun e => ⟨gv_f e, rfl⟩) ?_
  obtain ⟨x5, hx5, h⟩ := h.lt
  refine Ro_v (v := (Value.bool x5)) rfl (o_pick rfl rfl (by intro e; subst e; subst hx5; rfl) (by intro e; subst e; subst hx5; rfl)) ?_
  refine Ro_v (v := (Value.bool x5)) rfl (o_move rfl rfl) ?_
  refine Ro_set (t := !x5) (v := bif !x5 then (Value.int .u8 c_2) else undef) rfl (w_F rfl rfl rfl) (by intro e; have e0 := not_t (e); subst e0; exact o_move rfl rfl) (fun e => ⟨gv_f e, rfl⟩) ?_
  obtain ⟨x6, hx6, h⟩ := h.lt
  refine Ro_set (t := !x5) (v := bif !x5 then (Value.bool x6) else undef) rfl (w_F rfl rfl rfl) (by intro e; have e0 := not_t (e); subst e0; exact o_eql rfl rfl rfl hx6) (fun e => ⟨gv_f e, rfl⟩) ?_
  obtain ⟨x7, hx7, h⟩ := h.lt
  refine Ro_v (v := (Value.bool x7)) rfl (o_pick rfl rfl (by intro e; subst e; subst hx7; rfl) (by intro e; subst e; subst hx7; rfl)) ?_
  refine Ro_v (v := (Value.bool x7)) rfl (o_move rfl rfl) ?_
  refine Ro_set (t := !x7) (v := bif !x7 then (Value.int .u8 c_2) else undef) rfl (w_F rfl rfl rfl) (by intro e; have e0 := not_t (e); subst e0; exact o_move rfl rfl) (fun e => ⟨gv_f e, rfl⟩) ?_
  obtain ⟨x8, hx8, h⟩ := h.lt
  refine Ro_set (t := !x7) (v := bif !x7 then (Value.bool x8) else undef) rfl (w_F rfl rfl rfl) (by intro e; have e0 := not_t (e); subst e0; exact o_geq rfl rfl rfl hx8) (fun e => ⟨gv_f e, rfl⟩) ?_
  refine Ro_set (t := !x7) (v := bif !x7 then (Value.bool x8) else undef) rfl (w_F rfl rfl rfl) (by intro e; have e0 := not_t (e); subst e0; exact o_move rfl rfl) (fun e => ⟨gv_f e, rfl⟩) ?_
  refine Ro_set (t := (!x7 && x8)) (v := bif (!x7 && x8) then (Value.int .u8 c_2) else undef) rfl (w_gT rfl rfl rfl) (by intro e; have e1 := (and_t e).2; have e0 := not_t (and_t e).1; subst e1; subst e0; exact o_move rfl rfl) (fun e => ⟨gv_f e, rfl⟩) ?_
  obtain ⟨x9, hx9, h⟩ := h.lt
  refine Ro_set (t := (!x7 && x8)) (v := bif (!x7 && x8) then (Value.bool x9) else undef) rfl (w_gT rfl rfl rfl) (by intro e; have e1 := (and_t e).2; have e0 := not_t (and_t e).1; subst e1; subst e0; exact o_leq rfl rfl rfl hx9) (fun e => ⟨gv_f e, rfl⟩) ?_
  obtain ⟨x10, hx10, h⟩ := h.lt
  refine Ro_set (t := !x7) (v := bif !x7 then (Value.bool x10) else undef) rfl (w_F rfl rfl rfl) (by intro e; have e0 := not_t (e); subst e0; exact o_pick rfl rfl (by intro e; subst e; subst hx10; rfl) (by intro e; subst e; subst hx10; rfl)) (fun e => ⟨gv_f e, rfl⟩) ?_
  obtain ⟨x11, hx11, h⟩ := h.lt
  refine Ro_v (v := (Value.bool x11)) rfl (o_pick rfl rfl (by intro e; subst e; subst hx11; rfl) (by intro e; subst e; subst hx11; rfl)) ?_
  refine Ro_v (v := (Value.bool x11)) rfl (o_assign rfl rfl) ?_
  refine Ro_nil ?_
  exact Fx_ret rfl rfl (congrArg some h.sm)
noncomputable def c31_0 : Code := bodyOf Try.f31
noncomputable def c31_1 : Code := cl c31_0
noncomputable def c31_2 : Code := cr c31_0
noncomputable def c31_3 : Code := cl c31_2
noncomputable def c31_4 : Code := cr c31_2
theorem ok31 : funcOk Try.f31 = true := by kernel_rfl
noncomputable def rs31 : List ResultVar := resultsOf Try.f31
theorem w31 (c_2 : Int) (σ : AHeap) (r : Bool) (h : G_lex_letter c_2 = some r) : callL Try.prog 31 [(Value.int .u8 c_2)] σ = some ((Value.bool r), σ) := by
  refine callL_walk (fn := Try.f31) (c := c31_0) (rs := rs31) Try.func31 rfl ok31 rfl rfl ?_
  obtain ⟨out, ho⟩ : ∃ out, out = ((Value.bool r), σ) := ⟨_, rfl⟩
  rw [← ho]
  replace h : OptW (G_lex_letter c_2) (fun r => ((Value.bool r), σ) = out) := ⟨r, h, ho.symm⟩
  unfold G_lex_letter at h
  refine Fx_seq (a := c31_1) (b := c31_2) rfl ?_
  refine Fx_text rfl (by kernel_rfl) ?_
  refine Ro_v (v := (Value.bool false)) rfl (o_assign rfl rfl) ?_
  refine Ro_nil ?_
  refine Fx_seq (a := c31_3) (b := c31_4) rfl ?_
  refine Fx_text rfl (by kernel_rfl) ?_
  refine Ro_v (v := (Value.int .u8 c_2)) rfl (o_move rfl rfl) ?_
  obtain ⟨x3, hx3, h⟩ := h.lt
  refine Ro_v (v := (Value.bool x3)) rfl (o_geq rfl rfl rfl hx3) ?_
  refine Ro_v (v := (Value.bool x3)) rfl (o_move rfl rfl) ?_
  refine Ro_set (t := x3) (v := bif x3 then (Value.int .u8 c_2) else undef) rfl (w_T rfl rfl rfl) (by intro e; have e0 := e; subst e0; exact o_move rfl rfl) (fun e => ⟨gv_f e, rfl⟩) ?_
  obtain ⟨x4, hx4, h⟩ := h.lt
  refine Ro_set (t := x3) (v := bif x3 then (Value.bool x4) else undef) rfl (w_T rfl rfl rfl) (by intro e; have e0 := e; subst e0; exact o_leq rfl rfl rfl hx4) (fun e => ⟨gv_f e, rfl⟩) ?_
  obtain ⟨x5, hx5, h⟩ := h.lt
  refine Ro_v (v := (Value.bool x5)) rfl (o_pick rfl rfl (by intro e; subst e; subst hx5; rfl) (by intro e; subst e; subst hx5; rfl)) ?_
  refine Ro_v (v := (Value.bool x5)) rfl (o_move rfl rfl) ?_
  refine Ro_set (t := !x5) (v := bif !x5 then (Value.int .u8 c_2) else undef) rfl (w_F rfl rfl rfl) (by intro e; have e0 := not_t (e); subst e0; exact o_move rfl rfl) (fun e => ⟨gv_f e, rfl⟩) ?_
  obtain ⟨x6, hx6, h⟩ := h.lt
  refine Ro_set (t := !x5) (v := bif !x5 then (Value.bool x6) else undef) rfl (w_F rfl rfl rfl) (by intro e; have e0 := not_t (e); subst e0; exact o_geq rfl rfl rfl hx6) (fun e => ⟨gv_f e, rfl⟩) ?_
  refine Ro_set (t := !x5) (v := bif !x5 then (Value.bool x6) else undef) rfl (w_F rfl rfl rfl) (by intro e; have e0 := not_t (e); subst e0; exact o_move rfl rfl) (fun e => ⟨gv_f e, rfl⟩) ?_
  refine Ro_set (t := (!x5 && x6)) (v := bif (!x5 && x6) then (Value.int .u8 c_2) else undef) rfl (w_gT rfl rfl rfl) (by intro e; have e1 := (and_t e).2; have e0 := not_t (and_t e).1; subst e1; subst e0; exact o_move rfl rfl) (fun e => ⟨gv_f e, rfl⟩) ?_
  obtain ⟨x7, hx7, h⟩ := h.lt
  refine Ro_set (t := (!x5 && x6)) (v := bif (!x5 && x6) then (Value.bool x7) else undef) rfl (w_gT rfl rfl rfl) (by intro e; have e1 := (and_t e).2; have e0 := not_t (and_t e).1; subst e1; subst e0; exact o_leq rfl rfl rfl hx7) (fun e => ⟨gv_f e, rfl⟩) ?_
  obtain ⟨x8, hx8, h⟩ := h.lt
  refine Ro_set (t := !x5) (v := bif !x5 then (Value.bool x8) else undef) rfl (w_F rfl rfl rfl) (by intro e; have e0 := not_t (e); subst e0; exact o_pick rfl rfl (by intro e; subst e; subst hx8; rfl) (by intro e; subst e; subst hx8; rfl)) (fun e => ⟨gv_f e, rfl⟩) ?_
  obtain ⟨x9, hx9, h⟩ := h.lt
  refine Ro_v (v := (Value.bool x9)) rfl (o_pick rfl rfl (by intro e; subst e; subst hx9; rfl) (by intro e; subst e; subst hx9; rfl)) ?_
  refine Ro_v (v := (Value.bool x9)) rfl (o_assign rfl rfl) ?_
  refine Ro_nil ?_
  exact Fx_ret rfl rfl (congrArg some h.sm)
noncomputable def c33_0 : Code := bodyOf Try.f33
noncomputable def c33_1 : Code := cl c33_0
noncomputable def c33_2 : Code := cr c33_0
noncomputable def c33_3 : Code := cl c33_2
noncomputable def c33_4 : Code := cr c33_2
theorem ok33 : funcOk Try.f33 = true := by kernel_rfl
noncomputable def rs33 : List ResultVar := resultsOf Try.f33
theorem w33 (c_2 : Int) (σ : AHeap) (r : Bool) (h : G_lex_digit c_2 = some r) : callL Try.prog 33 [(Value.int .u8 c_2)] σ = some ((Value.bool r), σ) := by
  refine callL_walk (fn := Try.f33) (c := c33_0) (rs := rs33) Try.func33 rfl ok33 rfl rfl ?_
  obtain ⟨out, ho⟩ : ∃ out, out = ((Value.bool r), σ) := ⟨_, rfl⟩
  rw [← ho]
  replace h : OptW (G_lex_digit c_2) (fun r => ((Value.bool r), σ) = out) := ⟨r, h, ho.symm⟩
  unfold G_lex_digit at h
  refine Fx_seq (a := c33_1) (b := c33_2) rfl ?_
  refine Fx_text rfl (by kernel_rfl) ?_
  refine Ro_v (v := (Value.bool false)) rfl (o_assign rfl rfl) ?_
  refine Ro_nil ?_
  refine Fx_seq (a := c33_3) (b := c33_4) rfl ?_
  refine Fx_text rfl (by kernel_rfl) ?_
  refine Ro_v (v := (Value.int .u8 c_2)) rfl (o_move rfl rfl) ?_
  obtain ⟨x3, hx3, h⟩ := h.lt
  refine Ro_v (v := (Value.bool x3)) rfl (o_geq rfl rfl rfl hx3) ?_
  refine Ro_v (v := (Value.bool x3)) rfl (o_move rfl rfl) ?_
  refine Ro_set (t := x3) (v := bif x3 then (Value.int .u8 c_2) else undef) rfl (w_T rfl rfl rfl) (by intro e; have e0 := e; subst e0; exact o_move rfl rfl) (fun e => ⟨gv_f e, rfl⟩) ?_
  obtain ⟨x4, hx4, h⟩ := h.lt
  refine Ro_set (t := x3) (v := bif x3 then (Value.bool x4) else undef) rfl (w_T rfl rfl rfl) (by intro e; have e0 := e; subst e0; exact o_leq rfl rfl rfl hx4) (fun e => ⟨gv_f e, rfl⟩) ?_
  obtain ⟨x5, hx5, h⟩ := h.lt
  refine Ro_v (v := (Value.bool x5)) rfl (o_pick rfl rfl (by intro e; subst e; subst hx5; rfl) (by intro e; subst e; subst hx5; rfl)) ?_
  refine Ro_v (v := (Value.bool x5)) rfl (o_assign rfl rfl) ?_
  refine Ro_nil ?_
  exact Fx_ret rfl rfl (congrArg some h.sm)
noncomputable def c50_0 : Code := bodyOf Try.f50
noncomputable def c50_1 : Code := cl c50_0
noncomputable def c50_2 : Code := cr c50_0
noncomputable def c50_3 : Code := cl c50_2
noncomputable def c50_4 : Code := cr c50_2
theorem ok50 : funcOk Try.f50 = true := by kernel_rfl
noncomputable def rs50 : List ResultVar := resultsOf Try.f50
theorem w50 (c_2 : Int) (σ : AHeap) (r : Bool) (h : G_lex_inner c_2 = some r) : callL Try.prog 50 [(Value.int .u8 c_2)] σ = some ((Value.bool r), σ) := by
  refine callL_walk (fn := Try.f50) (c := c50_0) (rs := rs50) Try.func50 rfl ok50 rfl rfl ?_
  obtain ⟨out, ho⟩ : ∃ out, out = ((Value.bool r), σ) := ⟨_, rfl⟩
  rw [← ho]
  replace h : OptW (G_lex_inner c_2) (fun r => ((Value.bool r), σ) = out) := ⟨r, h, ho.symm⟩
  unfold G_lex_inner at h
  refine Fx_seq (a := c50_1) (b := c50_2) rfl ?_
  refine Fx_text rfl (by kernel_rfl) ?_
  refine Ro_v (v := (Value.bool false)) rfl (o_assign rfl rfl) ?_
  refine Ro_nil ?_
  refine Fx_seq (a := c50_3) (b := c50_4) rfl ?_
  refine Fx_text rfl (by kernel_rfl) ?_
  refine Ro_v (v := (Value.int .u8 c_2)) rfl (o_move rfl rfl) ?_
  obtain ⟨x3, hx3, h⟩ := h.bd
  refine Ro_v (v := (Value.bool x3)) rfl (o_call (vs := [(Value.int .u8 c_2)]) rfl rfl (w31 _ _ _ hx3)) ?_
  refine Ro_v (v := (Value.bool x3)) rfl (o_move rfl rfl) ?_
  refine Ro_set (t := !x3) (v := bif !x3 then (Value.int .u8 c_2) else undef) rfl (w_F rfl rfl rfl) (by intro e; have e0 := not_t (e); subst e0; exact o_move rfl rfl) (fun e => ⟨gv_f e, rfl⟩) ?_
  obtain ⟨x4, hx4, h⟩ := h.bd
  refine Ro_set (t := !x3) (v := bif !x3 then (Value.bool x4) else undef) rfl (w_F rfl rfl rfl) (by intro e; have e0 := not_t (e); subst e0; exact o_call (vs := [(Value.int .u8 c_2)]) rfl rfl (w33 _ _ _ hx4)) (fun e => ⟨gv_f e, rfl⟩) ?_
  obtain ⟨x5, hx5, h⟩ := h.lt
  refine Ro_v (v := (Value.bool x5)) rfl (o_pick rfl rfl (by intro e; subst e; subst hx5; rfl) (by intro e; subst e; subst hx5; rfl)) ?_
  refine Ro_v (v := (Value.bool x5)) rfl (o_move rfl rfl) ?_
  refine Ro_set (t := !x5) (v := bif !x5 then (Value.int .u8 c_2) else undef) rfl (w_F rfl rfl rfl) (by intro e; have e0 := not_t (e); subst e0; exact o_move rfl rfl) (fun e => ⟨gv_f e, rfl⟩) ?_
  obtain ⟨x6, hx6, h⟩ := h.lt
  refine Ro_set (t := !x5) (v := bif !x5 then (Value.bool x6) else undef) rfl (w_F rfl rfl rfl) (by intro e; have e0 := not_t (e); subst e0; exact o_eql rfl rfl rfl hx6) (fun e => ⟨gv_f e, rfl⟩) ?_
  obtain ⟨x7, hx7, h⟩ := h.lt
  refine Ro_v (v := (Value.bool x7)) rfl (o_pick rfl rfl (by intro e; subst e; subst hx7; rfl) (by intro e; subst e; subst hx7; rfl)) ?_
  refine Ro_v (v := (Value.bool x7)) rfl (o_assign rfl rfl) ?_
  refine Ro_nil ?_
  exact Fx_ret rfl rfl (congrArg some h.sm)
noncomputable def c44_0 : Code := bodyOf Try.f44
noncomputable def c44_1 : Code := cl c44_0
noncomputable def c44_2 : Code := cr c44_0
noncomputable def c44_3 : Code := cl c44_2
noncomputable def c44_4 : Code := cl c44_3
noncomputable def c44_5 : Code := cl c44_4
noncomputable def c44_6 : Code := cl c44_5
noncomputable def c44_7 : Code := cl c44_6
noncomputable def c44_8 : Code := cr c44_6
noncomputable def c44_9 : Code := cl c44_8
noncomputable def c44_10 : Code := cr c44_8
noncomputable def c44_11 : Code := cr c44_5
noncomputable def c44_12 : Code := cl c44_11
noncomputable def c44_13 : Code := cr c44_2
noncomputable def c44_14 : Code := cl c44_13
noncomputable def c44_15 : Code := cr c44_13
theorem ok44 : funcOk Try.f44 = true := by kernel_rfl
noncomputable def rs44 : List ResultVar := resultsOf Try.f44
noncomputable def C44_l1 (s_4 : ByteArray) (σ : AHeap) (out : Value × AHeap) : Int ⊕ Int → Prop
  | .inl at_5 => ∀ f, Fx Try.prog rs44 [.code c44_4, .blk 0, .code c44_13] .normal (Fr.set (Fr.set f 0 (Value.string s_4)) 1 (Value.int .i64 at_5)) σ = some out
  | .inr at_6 => ∀ f, Fx Try.prog rs44 [.code c44_13] .normal (Fr.set f 1 (Value.int .i64 at_6)) σ = some out
theorem q44_l1 (s_4 : ByteArray) (at_5 : Int) (σ : AHeap) (out : Value × AHeap) (f : Fr) (h : OptW (G_lex_run_l1 s_4 at_5) (C44_l1 s_4 σ out)) :
    Fx Try.prog rs44 [.code c44_4, .blk 0, .code c44_13] .normal (Fr.set (Fr.set f 0 (Value.string s_4)) 1 (Value.int .i64 at_5)) σ = some out := by
  unfold G_lex_run_l1 at h
  refine Fx_loop (b := c44_5) rfl ?_
  refine Fx_seq (a := c44_6) (b := c44_11) rfl ?_
  refine Fx_seq (a := c44_7) (b := c44_8) rfl ?_
  refine Fx_text rfl (by kernel_rfl) ?_
  refine Ro_v (v := (Value.int .i64 at_5)) rfl (o_move rfl rfl) ?_
  refine Ro_v (v := (Value.string s_4)) rfl (o_move rfl rfl) ?_
  obtain ⟨x7, hx7, h⟩ := h.lt
  refine Ro_v (v := (Value.int .i64 x7)) rfl (o_lenS rfl tu9 rfl hx7) ?_
  obtain ⟨x8, hx8, h⟩ := h.lt
  refine Ro_v (v := (Value.bool x8)) rfl (o_lss rfl rfl rfl hx8) ?_
  refine Ro_v (v := (Value.bool x8)) rfl (o_move rfl rfl) ?_
  refine Ro_set (t := x8) (v := bif x8 then (Value.string s_4) else undef) rfl (w_T rfl rfl rfl) (by intro e; have e0 := e; subst e0; exact o_move rfl rfl) (fun e => ⟨gv_f e, rfl⟩) ?_
  refine Ro_set (t := x8) (v := bif x8 then (Value.int .i64 at_5) else undef) rfl (w_T rfl rfl rfl) (by intro e; have e0 := e; subst e0; exact o_move rfl rfl) (fun e => ⟨gv_f e, rfl⟩) ?_
  obtain ⟨x9, hx9, h⟩ := h.bd
  refine Ro_set (t := x8) (v := bif x8 then (Value.int .u8 x9) else undef) rfl (w_T rfl rfl rfl) (by intro e; have e0 := e; subst e0; exact o_idxS rfl tu9 rfl rfl hx9) (fun e => ⟨gv_f e, rfl⟩) ?_
  obtain ⟨x10, hx10, h⟩ := h.bd
  refine Ro_set (t := x8) (v := bif x8 then (Value.bool x10) else undef) rfl (w_T rfl rfl rfl) (by intro e; have e0 := e; subst e0; exact o_call (vs := [(Value.int .u8 x9)]) rfl rfl (w50 _ _ _ hx10)) (fun e => ⟨gv_f e, rfl⟩) ?_
  obtain ⟨x11, hx11, h⟩ := h.lt
  refine Ro_v (v := (Value.bool x11)) rfl (o_pick rfl rfl (by intro e; subst e; subst hx11; rfl) (by intro e; subst e; subst hx11; rfl)) ?_
  refine Ro_nil ?_
  refine Fx_cond (a := c44_9) (b := c44_10) rfl rfl (fun ex11 => ?_) (fun ex11 => ?_)
  · replace h := h.ifT ex11
    refine Fx_skip (c := c44_9) rfl ?_
    refine Fx_block (b := c44_12) rfl ?_
    refine Fx_text rfl (by kernel_rfl) ?_
    refine Ro_v (v := (Value.int .i64 at_5)) rfl (o_move rfl rfl) ?_
    obtain ⟨x12, hx12, h⟩ := h.lt
    refine Ro_v (v := (Value.int .i64 x12)) rfl (o_add rfl rfl rfl hx12) ?_
    refine Ro_v (v := (Value.int .i64 x12)) rfl (o_assign rfl rfl) ?_
    refine Ro_nil ?_
    refine Fx_blk ?_
    exact Fx_forget (Fr.set_of (Fr.set_of rfl rfl) rfl) (h.sm _)
  · replace h := h.ifF ex11
    refine Fx_exit rfl ?_
    refine Fx_out_code ?_
    refine Fx_out_code ?_
    refine Fx_out_eq ?_
    exact Fx_forget (Fr.set_of rfl rfl) (h.sm _)
theorem w44 (s_2 : ByteArray) (at_3 : Int) (σ : AHeap) (r : Int) (h : G_lex_run s_2 at_3 = some r) : callL Try.prog 44 [(Value.string s_2), (Value.int .i64 at_3)] σ = some ((Value.int .i64 r), σ) := by
  refine callL_walk (fn := Try.f44) (c := c44_0) (rs := rs44) Try.func44 rfl ok44 rfl rfl ?_
  obtain ⟨out, ho⟩ : ∃ out, out = ((Value.int .i64 r), σ) := ⟨_, rfl⟩
  rw [← ho]
  replace h : OptW (G_lex_run s_2 at_3) (fun r => ((Value.int .i64 r), σ) = out) := ⟨r, h, ho.symm⟩
  unfold G_lex_run at h
  refine Fx_seq (a := c44_1) (b := c44_2) rfl ?_
  refine Fx_text rfl (by kernel_rfl) ?_
  refine Ro_v (v := (Value.int .i64 (0))) rfl (o_assign rfl rfl) ?_
  refine Ro_nil ?_
  refine Fx_seq (a := c44_3) (b := c44_13) rfl ?_
  refine Fx_block (b := c44_4) rfl ?_
  refine Fx_forget (Fr.set_of (Fr.set_of rfl rfl) rfl) ((OptW.loop h (fun s => C44_l1 s_2 σ out (.inl s)) ?_ : C44_l1 s_2 σ out (.inl at_3)) _)
  intro s hs f
  refine q44_l1 s_2 s σ out f (hs.imp ?_)
  intro r hr
  rcases r with y | b
  · exact hr
  · obtain ⟨at_13, rfl⟩ : ∃ x, x = b := ⟨_, rfl⟩
    have h := hr
    intro f
    refine Fx_seq (a := c44_14) (b := c44_15) rfl ?_
    refine Fx_text rfl (by kernel_rfl) ?_
    refine Ro_v (v := (Value.int .i64 at_13)) rfl (o_move rfl rfl) ?_
    refine Ro_v (v := (Value.int .i64 at_13)) rfl (o_assign rfl rfl) ?_
    refine Ro_nil ?_
    exact Fx_ret rfl rfl (congrArg some h.sm)
noncomputable def c45_0 : Code := bodyOf Try.f45
noncomputable def c45_1 : Code := cl c45_0
noncomputable def c45_2 : Code := cr c45_0
noncomputable def c45_3 : Code := cl c45_2
noncomputable def c45_4 : Code := cl c45_3
noncomputable def c45_5 : Code := cr c45_3
noncomputable def c45_6 : Code := cl c45_5
noncomputable def c45_7 : Code := cl c45_6
noncomputable def c45_8 : Code := cl c45_7
noncomputable def c45_9 : Code := cr c45_7
noncomputable def c45_10 : Code := cl c45_9
noncomputable def c45_11 : Code := cr c45_9
noncomputable def c45_12 : Code := cl c45_11
noncomputable def c45_13 : Code := cr c45_11
noncomputable def c45_14 : Code := cl c45_13
noncomputable def c45_15 : Code := cr c45_13
noncomputable def c45_16 : Code := cl c45_15
noncomputable def c45_17 : Code := cr c45_15
noncomputable def c45_18 : Code := cl c45_17
noncomputable def c45_19 : Code := cr c45_17
noncomputable def c45_20 : Code := cl c45_19
noncomputable def c45_21 : Code := cr c45_19
noncomputable def c45_22 : Code := cl c45_21
noncomputable def c45_23 : Code := cr c45_21
noncomputable def c45_24 : Code := cl c45_23
noncomputable def c45_25 : Code := cr c45_23
noncomputable def c45_26 : Code := cl c45_25
noncomputable def c45_27 : Code := cr c45_25
noncomputable def c45_28 : Code := cl c45_27
noncomputable def c45_29 : Code := cr c45_27
noncomputable def c45_30 : Code := cl c45_29
noncomputable def c45_31 : Code := cr c45_29
noncomputable def c45_32 : Code := cl c45_31
noncomputable def c45_33 : Code := cr c45_31
noncomputable def c45_34 : Code := cl c45_33
noncomputable def c45_35 : Code := cr c45_33
noncomputable def c45_36 : Code := cl c45_35
noncomputable def c45_37 : Code := cr c45_35
noncomputable def c45_38 : Code := cl c45_37
noncomputable def c45_39 : Code := cr c45_37
noncomputable def c45_40 : Code := cl c45_39
noncomputable def c45_41 : Code := cr c45_39
noncomputable def c45_42 : Code := cl c45_41
noncomputable def c45_43 : Code := cr c45_41
noncomputable def c45_44 : Code := cl c45_43
noncomputable def c45_45 : Code := cr c45_43
noncomputable def c45_46 : Code := cl c45_45
noncomputable def c45_47 : Code := cr c45_45
noncomputable def c45_48 : Code := cl c45_47
noncomputable def c45_49 : Code := cr c45_47
noncomputable def c45_50 : Code := cl c45_49
noncomputable def c45_51 : Code := cr c45_49
noncomputable def c45_52 : Code := cl c45_51
noncomputable def c45_53 : Code := cr c45_51
noncomputable def c45_54 : Code := cl c45_53
noncomputable def c45_55 : Code := cr c45_53
noncomputable def c45_56 : Code := cr c45_6
noncomputable def c45_57 : Code := cl c45_56
noncomputable def c45_58 : Code := cl c45_57
noncomputable def c45_59 : Code := cr c45_57
noncomputable def c45_60 : Code := cr c45_56
noncomputable def c45_61 : Code := cr c45_2
noncomputable def c45_62 : Code := cl c45_61
noncomputable def c45_63 : Code := cr c45_61
theorem ok45 : funcOk Try.f45 = true := by kernel_rfl
noncomputable def rs45 : List ResultVar := resultsOf Try.f45
theorem p45_j1 (x16 : Bool) (σ : AHeap) (out : Value × AHeap) (f : Fr) (h : OptW (G_lex_reserved_j1 x16) (fun r => ((Value.bool r), σ) = out)) :
    Fx Try.prog rs45 [.code c45_56, .blk 0, .code c45_61] .normal (Fr.set f 4 (Value.bool x16)) σ = some out := by
  unfold G_lex_reserved_j1 at h
  refine Fx_cond (a := c45_57) (b := c45_60) rfl rfl (fun ex16 => ?_) (fun ex16 => ?_)
  · replace h := h.ifT ex16
    refine Fx_seq (a := c45_58) (b := c45_59) rfl ?_
    refine Fx_text rfl (by kernel_rfl) ?_
    refine Ro_v (v := (Value.bool true)) rfl (o_assign rfl rfl) ?_
    refine Ro_nil ?_
    exact Fx_ret rfl rfl (congrArg some h.sm)
  · replace h := h.ifF ex16
    refine Fx_skip (c := c45_60) rfl ?_
    refine Fx_blk ?_
    refine Fx_seq (a := c45_62) (b := c45_63) rfl ?_
    refine Fx_text rfl (by kernel_rfl) ?_
    refine Ro_v (v := (Value.bool false)) rfl (o_assign rfl rfl) ?_
    refine Ro_nil ?_
    exact Fx_ret rfl rfl (congrArg some h.sm)
theorem w45 (w_2 : ByteArray) (σ : AHeap) (r : Bool) (h : G_lex_reserved w_2 = some r) : callL Try.prog 45 [(Value.string w_2)] σ = some ((Value.bool r), σ) := by
  refine callL_walk (fn := Try.f45) (c := c45_0) (rs := rs45) Try.func45 rfl ok45 rfl rfl ?_
  obtain ⟨out, ho⟩ : ∃ out, out = ((Value.bool r), σ) := ⟨_, rfl⟩
  rw [← ho]
  replace h : OptW (G_lex_reserved w_2) (fun r => ((Value.bool r), σ) = out) := ⟨r, h, ho.symm⟩
  unfold G_lex_reserved at h
  refine Fx_seq (a := c45_1) (b := c45_2) rfl ?_
  refine Fx_text rfl (by kernel_rfl) ?_
  refine Ro_v (v := (Value.bool false)) rfl (o_assign rfl rfl) ?_
  refine Ro_nil ?_
  refine Fx_seq (a := c45_3) (b := c45_61) rfl ?_
  refine Fx_seq (a := c45_4) (b := c45_5) rfl ?_
  refine Fx_text rfl (by kernel_rfl) ?_
  refine Ro_v (v := (Value.string w_2)) rfl (o_move rfl rfl) ?_
  refine Ro_nil ?_
  refine Fx_block (b := c45_6) rfl ?_
  refine Fx_seq (a := c45_7) (b := c45_56) rfl ?_
  refine Fx_seq (a := c45_8) (b := c45_9) rfl ?_
  refine Fx_text rfl (by kernel_rfl) ?_
  obtain ⟨x3, hx3, h⟩ := h.lt
  refine Ro_v (v := (Value.bool x3)) rfl (o_seql rfl rfl rfl hx3) ?_
  refine Ro_v (v := (Value.bool x3)) rfl (o_assign rfl rfl) ?_
  refine Ro_nil ?_
  refine Fx_cond (a := c45_10) (b := c45_11) rfl rfl (fun ex3 => ?_) (fun ex3 => ?_)
  · replace h := h.ifT ex3
    refine Fx_skip (c := c45_10) rfl ?_
    refine Fx_cond (a := c45_57) (b := c45_60) rfl rfl (fun _ => ?_) (fun q => nomatch (ex3.symm.trans q))
    refine Fx_seq (a := c45_58) (b := c45_59) rfl ?_
    refine Fx_text rfl (by kernel_rfl) ?_
    refine Ro_v (v := (Value.bool true)) rfl (o_assign rfl rfl) ?_
    refine Ro_nil ?_
    exact Fx_ret rfl rfl (congrArg some h.sm)
  · replace h := h.ifF ex3
    refine Fx_seq (a := c45_12) (b := c45_13) rfl ?_
    refine Fx_text rfl (by kernel_rfl) ?_
    obtain ⟨x4, hx4, h⟩ := h.lt
    refine Ro_v (v := (Value.bool x4)) rfl (o_seql rfl rfl rfl hx4) ?_
    refine Ro_v (v := (Value.bool x4)) rfl (o_assign rfl rfl) ?_
    refine Ro_nil ?_
    refine Fx_cond (a := c45_14) (b := c45_15) rfl rfl (fun ex4 => ?_) (fun ex4 => ?_)
    · replace h := h.ifT ex4
      refine Fx_skip (c := c45_14) rfl ?_
      refine Fx_cond (a := c45_57) (b := c45_60) rfl rfl (fun _ => ?_) (fun q => nomatch (ex4.symm.trans q))
      refine Fx_seq (a := c45_58) (b := c45_59) rfl ?_
      refine Fx_text rfl (by kernel_rfl) ?_
      refine Ro_v (v := (Value.bool true)) rfl (o_assign rfl rfl) ?_
      refine Ro_nil ?_
      exact Fx_ret rfl rfl (congrArg some h.sm)
    · replace h := h.ifF ex4
      refine Fx_seq (a := c45_16) (b := c45_17) rfl ?_
      refine Fx_text rfl (by kernel_rfl) ?_
      obtain ⟨x5, hx5, h⟩ := h.lt
      refine Ro_v (v := (Value.bool x5)) rfl (o_seql rfl rfl rfl hx5) ?_
      refine Ro_v (v := (Value.bool x5)) rfl (o_assign rfl rfl) ?_
      refine Ro_nil ?_
      refine Fx_cond (a := c45_18) (b := c45_19) rfl rfl (fun ex5 => ?_) (fun ex5 => ?_)
      · replace h := h.ifT ex5
        refine Fx_skip (c := c45_18) rfl ?_
        refine Fx_cond (a := c45_57) (b := c45_60) rfl rfl (fun _ => ?_) (fun q => nomatch (ex5.symm.trans q))
        refine Fx_seq (a := c45_58) (b := c45_59) rfl ?_
        refine Fx_text rfl (by kernel_rfl) ?_
        refine Ro_v (v := (Value.bool true)) rfl (o_assign rfl rfl) ?_
        refine Ro_nil ?_
        exact Fx_ret rfl rfl (congrArg some h.sm)
      · replace h := h.ifF ex5
        refine Fx_seq (a := c45_20) (b := c45_21) rfl ?_
        refine Fx_text rfl (by kernel_rfl) ?_
        obtain ⟨x6, hx6, h⟩ := h.lt
        refine Ro_v (v := (Value.bool x6)) rfl (o_seql rfl rfl rfl hx6) ?_
        refine Ro_v (v := (Value.bool x6)) rfl (o_assign rfl rfl) ?_
        refine Ro_nil ?_
        refine Fx_cond (a := c45_22) (b := c45_23) rfl rfl (fun ex6 => ?_) (fun ex6 => ?_)
        · replace h := h.ifT ex6
          refine Fx_skip (c := c45_22) rfl ?_
          refine Fx_cond (a := c45_57) (b := c45_60) rfl rfl (fun _ => ?_) (fun q => nomatch (ex6.symm.trans q))
          refine Fx_seq (a := c45_58) (b := c45_59) rfl ?_
          refine Fx_text rfl (by kernel_rfl) ?_
          refine Ro_v (v := (Value.bool true)) rfl (o_assign rfl rfl) ?_
          refine Ro_nil ?_
          exact Fx_ret rfl rfl (congrArg some h.sm)
        · replace h := h.ifF ex6
          refine Fx_seq (a := c45_24) (b := c45_25) rfl ?_
          refine Fx_text rfl (by kernel_rfl) ?_
          obtain ⟨x7, hx7, h⟩ := h.lt
          refine Ro_v (v := (Value.bool x7)) rfl (o_seql rfl rfl rfl hx7) ?_
          refine Ro_v (v := (Value.bool x7)) rfl (o_assign rfl rfl) ?_
          refine Ro_nil ?_
          refine Fx_cond (a := c45_26) (b := c45_27) rfl rfl (fun ex7 => ?_) (fun ex7 => ?_)
          · replace h := h.ifT ex7
            refine Fx_skip (c := c45_26) rfl ?_
            refine Fx_cond (a := c45_57) (b := c45_60) rfl rfl (fun _ => ?_) (fun q => nomatch (ex7.symm.trans q))
            refine Fx_seq (a := c45_58) (b := c45_59) rfl ?_
            refine Fx_text rfl (by kernel_rfl) ?_
            refine Ro_v (v := (Value.bool true)) rfl (o_assign rfl rfl) ?_
            refine Ro_nil ?_
            exact Fx_ret rfl rfl (congrArg some h.sm)
          · replace h := h.ifF ex7
            refine Fx_seq (a := c45_28) (b := c45_29) rfl ?_
            refine Fx_text rfl (by kernel_rfl) ?_
            obtain ⟨x8, hx8, h⟩ := h.lt
            refine Ro_v (v := (Value.bool x8)) rfl (o_seql rfl rfl rfl hx8) ?_
            refine Ro_v (v := (Value.bool x8)) rfl (o_assign rfl rfl) ?_
            refine Ro_nil ?_
            refine Fx_cond (a := c45_30) (b := c45_31) rfl rfl (fun ex8 => ?_) (fun ex8 => ?_)
            · replace h := h.ifT ex8
              refine Fx_skip (c := c45_30) rfl ?_
              refine Fx_cond (a := c45_57) (b := c45_60) rfl rfl (fun _ => ?_) (fun q => nomatch (ex8.symm.trans q))
              refine Fx_seq (a := c45_58) (b := c45_59) rfl ?_
              refine Fx_text rfl (by kernel_rfl) ?_
              refine Ro_v (v := (Value.bool true)) rfl (o_assign rfl rfl) ?_
              refine Ro_nil ?_
              exact Fx_ret rfl rfl (congrArg some h.sm)
            · replace h := h.ifF ex8
              refine Fx_seq (a := c45_32) (b := c45_33) rfl ?_
              refine Fx_text rfl (by kernel_rfl) ?_
              obtain ⟨x9, hx9, h⟩ := h.lt
              refine Ro_v (v := (Value.bool x9)) rfl (o_seql rfl rfl rfl hx9) ?_
              refine Ro_v (v := (Value.bool x9)) rfl (o_assign rfl rfl) ?_
              refine Ro_nil ?_
              refine Fx_cond (a := c45_34) (b := c45_35) rfl rfl (fun ex9 => ?_) (fun ex9 => ?_)
              · replace h := h.ifT ex9
                refine Fx_skip (c := c45_34) rfl ?_
                refine Fx_cond (a := c45_57) (b := c45_60) rfl rfl (fun _ => ?_) (fun q => nomatch (ex9.symm.trans q))
                refine Fx_seq (a := c45_58) (b := c45_59) rfl ?_
                refine Fx_text rfl (by kernel_rfl) ?_
                refine Ro_v (v := (Value.bool true)) rfl (o_assign rfl rfl) ?_
                refine Ro_nil ?_
                exact Fx_ret rfl rfl (congrArg some h.sm)
              · replace h := h.ifF ex9
                refine Fx_seq (a := c45_36) (b := c45_37) rfl ?_
                refine Fx_text rfl (by kernel_rfl) ?_
                obtain ⟨x10, hx10, h⟩ := h.lt
                refine Ro_v (v := (Value.bool x10)) rfl (o_seql rfl rfl rfl hx10) ?_
                refine Ro_v (v := (Value.bool x10)) rfl (o_assign rfl rfl) ?_
                refine Ro_nil ?_
                refine Fx_cond (a := c45_38) (b := c45_39) rfl rfl (fun ex10 => ?_) (fun ex10 => ?_)
                · replace h := h.ifT ex10
                  refine Fx_skip (c := c45_38) rfl ?_
                  refine Fx_cond (a := c45_57) (b := c45_60) rfl rfl (fun _ => ?_) (fun q => nomatch (ex10.symm.trans q))
                  refine Fx_seq (a := c45_58) (b := c45_59) rfl ?_
                  refine Fx_text rfl (by kernel_rfl) ?_
                  refine Ro_v (v := (Value.bool true)) rfl (o_assign rfl rfl) ?_
                  refine Ro_nil ?_
                  exact Fx_ret rfl rfl (congrArg some h.sm)
                · replace h := h.ifF ex10
                  refine Fx_seq (a := c45_40) (b := c45_41) rfl ?_
                  refine Fx_text rfl (by kernel_rfl) ?_
                  obtain ⟨x11, hx11, h⟩ := h.lt
                  refine Ro_v (v := (Value.bool x11)) rfl (o_seql rfl rfl rfl hx11) ?_
                  refine Ro_v (v := (Value.bool x11)) rfl (o_assign rfl rfl) ?_
                  refine Ro_nil ?_
                  refine Fx_cond (a := c45_42) (b := c45_43) rfl rfl (fun ex11 => ?_) (fun ex11 => ?_)
                  · replace h := h.ifT ex11
                    refine Fx_skip (c := c45_42) rfl ?_
                    refine Fx_cond (a := c45_57) (b := c45_60) rfl rfl (fun _ => ?_) (fun q => nomatch (ex11.symm.trans q))
                    refine Fx_seq (a := c45_58) (b := c45_59) rfl ?_
                    refine Fx_text rfl (by kernel_rfl) ?_
                    refine Ro_v (v := (Value.bool true)) rfl (o_assign rfl rfl) ?_
                    refine Ro_nil ?_
                    exact Fx_ret rfl rfl (congrArg some h.sm)
                  · replace h := h.ifF ex11
                    refine Fx_seq (a := c45_44) (b := c45_45) rfl ?_
                    refine Fx_text rfl (by kernel_rfl) ?_
                    obtain ⟨x12, hx12, h⟩ := h.lt
                    refine Ro_v (v := (Value.bool x12)) rfl (o_seql rfl rfl rfl hx12) ?_
                    refine Ro_v (v := (Value.bool x12)) rfl (o_assign rfl rfl) ?_
                    refine Ro_nil ?_
                    refine Fx_cond (a := c45_46) (b := c45_47) rfl rfl (fun ex12 => ?_) (fun ex12 => ?_)
                    · replace h := h.ifT ex12
                      refine Fx_skip (c := c45_46) rfl ?_
                      refine Fx_cond (a := c45_57) (b := c45_60) rfl rfl (fun _ => ?_) (fun q => nomatch (ex12.symm.trans q))
                      refine Fx_seq (a := c45_58) (b := c45_59) rfl ?_
                      refine Fx_text rfl (by kernel_rfl) ?_
                      refine Ro_v (v := (Value.bool true)) rfl (o_assign rfl rfl) ?_
                      refine Ro_nil ?_
                      exact Fx_ret rfl rfl (congrArg some h.sm)
                    · replace h := h.ifF ex12
                      refine Fx_seq (a := c45_48) (b := c45_49) rfl ?_
                      refine Fx_text rfl (by kernel_rfl) ?_
                      obtain ⟨x13, hx13, h⟩ := h.lt
                      refine Ro_v (v := (Value.bool x13)) rfl (o_seql rfl rfl rfl hx13) ?_
                      refine Ro_v (v := (Value.bool x13)) rfl (o_assign rfl rfl) ?_
                      refine Ro_nil ?_
                      refine Fx_cond (a := c45_50) (b := c45_51) rfl rfl (fun ex13 => ?_) (fun ex13 => ?_)
                      · replace h := h.ifT ex13
                        refine Fx_skip (c := c45_50) rfl ?_
                        refine Fx_cond (a := c45_57) (b := c45_60) rfl rfl (fun _ => ?_) (fun q => nomatch (ex13.symm.trans q))
                        refine Fx_seq (a := c45_58) (b := c45_59) rfl ?_
                        refine Fx_text rfl (by kernel_rfl) ?_
                        refine Ro_v (v := (Value.bool true)) rfl (o_assign rfl rfl) ?_
                        refine Ro_nil ?_
                        exact Fx_ret rfl rfl (congrArg some h.sm)
                      · replace h := h.ifF ex13
                        refine Fx_seq (a := c45_52) (b := c45_53) rfl ?_
                        refine Fx_text rfl (by kernel_rfl) ?_
                        obtain ⟨x14, hx14, h⟩ := h.lt
                        refine Ro_v (v := (Value.bool x14)) rfl (o_seql rfl rfl rfl hx14) ?_
                        refine Ro_v (v := (Value.bool x14)) rfl (o_assign rfl rfl) ?_
                        refine Ro_nil ?_
                        refine Fx_cond (a := c45_54) (b := c45_55) rfl rfl (fun ex14 => ?_) (fun ex14 => ?_)
                        · replace h := h.ifT ex14
                          refine Fx_skip (c := c45_54) rfl ?_
                          refine Fx_cond (a := c45_57) (b := c45_60) rfl rfl (fun _ => ?_) (fun q => nomatch (ex14.symm.trans q))
                          refine Fx_seq (a := c45_58) (b := c45_59) rfl ?_
                          refine Fx_text rfl (by kernel_rfl) ?_
                          refine Ro_v (v := (Value.bool true)) rfl (o_assign rfl rfl) ?_
                          refine Ro_nil ?_
                          exact Fx_ret rfl rfl (congrArg some h.sm)
                        · replace h := h.ifF ex14
                          refine Fx_text rfl (by kernel_rfl) ?_
                          obtain ⟨x15, hx15, h⟩ := h.lt
                          refine Ro_v (v := (Value.bool x15)) rfl (o_seql rfl rfl rfl hx15) ?_
                          refine Ro_v (v := (Value.bool x15)) rfl (o_assign rfl rfl) ?_
                          refine Ro_nil ?_
                          exact Fx_forget (Fr.set_of rfl rfl) (p45_j1 _ _ _ _ h)
noncomputable def c32_0 : Code := bodyOf Try.f32
noncomputable def c32_1 : Code := cl c32_0
noncomputable def c32_2 : Code := cr c32_0
noncomputable def c32_3 : Code := cl c32_2
noncomputable def c32_4 : Code := cr c32_2
noncomputable def c32_5 : Code := cl c32_4
noncomputable def c32_6 : Code := cr c32_4
noncomputable def c32_7 : Code := cl c32_6
noncomputable def c32_8 : Code := cr c32_6
noncomputable def c32_9 : Code := cl c32_8
noncomputable def c32_10 : Code := cl c32_9
noncomputable def c32_11 : Code := cr c32_9
noncomputable def c32_12 : Code := cl c32_11
noncomputable def c32_13 : Code := cl c32_12
noncomputable def c32_14 : Code := cr c32_12
noncomputable def c32_15 : Code := cl c32_14
noncomputable def c32_16 : Code := cr c32_14
noncomputable def c32_17 : Code := cl c32_16
noncomputable def c32_18 : Code := cr c32_16
noncomputable def c32_19 : Code := cl c32_18
noncomputable def c32_20 : Code := cl c32_19
noncomputable def c32_21 : Code := cr c32_19
noncomputable def c32_22 : Code := cl c32_21
noncomputable def c32_23 : Code := cl c32_22
noncomputable def c32_24 : Code := cr c32_22
noncomputable def c32_25 : Code := cr c32_21
noncomputable def c32_26 : Code := cr c32_18
noncomputable def c32_27 : Code := cl c32_26
noncomputable def c32_28 : Code := cl c32_27
noncomputable def c32_29 : Code := cr c32_27
noncomputable def c32_30 : Code := cl c32_29
noncomputable def c32_31 : Code := cl c32_30
noncomputable def c32_32 : Code := cr c32_30
noncomputable def c32_33 : Code := cr c32_29
noncomputable def c32_34 : Code := cr c32_26
noncomputable def c32_35 : Code := cl c32_34
noncomputable def c32_36 : Code := cl c32_35
noncomputable def c32_37 : Code := cr c32_35
noncomputable def c32_38 : Code := cl c32_37
noncomputable def c32_39 : Code := cl c32_38
noncomputable def c32_40 : Code := cr c32_38
noncomputable def c32_41 : Code := cr c32_37
noncomputable def c32_42 : Code := cr c32_34
noncomputable def c32_43 : Code := cl c32_42
noncomputable def c32_44 : Code := cr c32_42
noncomputable def c32_45 : Code := cr c32_11
noncomputable def c32_46 : Code := cr c32_8
noncomputable def c32_47 : Code := cl c32_46
noncomputable def c32_48 : Code := cl c32_47
noncomputable def c32_49 : Code := cl c32_48
noncomputable def c32_50 : Code := cr c32_48
noncomputable def c32_51 : Code := cl c32_50
noncomputable def c32_52 : Code := cl c32_51
noncomputable def c32_53 : Code := cr c32_51
noncomputable def c32_54 : Code := cr c32_50
noncomputable def c32_55 : Code := cl c32_54
noncomputable def c32_56 : Code := cr c32_54
noncomputable def c32_57 : Code := cl c32_56
noncomputable def c32_58 : Code := cl c32_57
noncomputable def c32_59 : Code := cr c32_57
noncomputable def c32_60 : Code := cr c32_56
noncomputable def c32_61 : Code := cl c32_60
noncomputable def c32_62 : Code := cr c32_60
noncomputable def c32_63 : Code := cl c32_62
noncomputable def c32_64 : Code := cl c32_63
noncomputable def c32_65 : Code := cr c32_63
noncomputable def c32_66 : Code := cr c32_62
noncomputable def c32_67 : Code := cr c32_46
noncomputable def c32_68 : Code := cl c32_67
noncomputable def c32_69 : Code := cr c32_67
theorem ok32 : funcOk Try.f32 = true := by kernel_rfl
noncomputable def rs32 : List ResultVar := resultsOf Try.f32
theorem w32 (s_5 : ByteArray) (at_6 : Int) (σ : AHeap) (r : (Int × Int × Int × Int)) (h : G_lex_word s_5 at_6 = some r) : callL Try.prog 32 [(Value.string s_5), (Value.int .i64 at_6)] σ = some ((Value.tuple #[(Value.int .i64 r.1), (Value.int .i64 r.2.1), (Value.int .i64 r.2.2.1), (Value.int .i64 r.2.2.2)]), σ) := by
  refine callL_walk (fn := Try.f32) (c := c32_0) (rs := rs32) Try.func32 rfl ok32 rfl rfl ?_
  obtain ⟨out, ho⟩ : ∃ out, out = ((Value.tuple #[(Value.int .i64 r.1), (Value.int .i64 r.2.1), (Value.int .i64 r.2.2.1), (Value.int .i64 r.2.2.2)]), σ) := ⟨_, rfl⟩
  rw [← ho]
  replace h : OptW (G_lex_word s_5 at_6) (fun r => ((Value.tuple #[(Value.int .i64 r.1), (Value.int .i64 r.2.1), (Value.int .i64 r.2.2.1), (Value.int .i64 r.2.2.2)]), σ) = out) := ⟨r, h, ho.symm⟩
  unfold G_lex_word at h
  refine Fx_seq (a := c32_1) (b := c32_2) rfl ?_
  refine Fx_text rfl (by kernel_rfl) ?_
  refine Ro_v (v := (Value.int .i64 (0))) rfl (o_assign rfl rfl) ?_
  refine Ro_v (v := (Value.int .i64 (0))) rfl (o_assign rfl rfl) ?_
  refine Ro_v (v := (Value.int .i64 (0))) rfl (o_assign rfl rfl) ?_
  refine Ro_v (v := (Value.int .i64 (0))) rfl (o_assign rfl rfl) ?_
  refine Ro_nil ?_
  refine Fx_seq (a := c32_3) (b := c32_4) rfl ?_
  refine Fx_text rfl (by kernel_rfl) ?_
  refine Ro_v (v := (Value.string s_5)) rfl (o_move rfl rfl) ?_
  refine Ro_v (v := (Value.int .i64 at_6)) rfl (o_move rfl rfl) ?_
  obtain ⟨x7, hx7, h⟩ := h.bd
  refine Ro_v (v := (Value.int .i64 x7)) rfl (o_call (vs := [(Value.string s_5), (Value.int .i64 at_6)]) rfl rfl (w44 _ _ _ _ hx7)) ?_
  refine Ro_v (v := (Value.int .i64 x7)) rfl (o_assign rfl rfl) ?_
  refine Ro_nil ?_
  refine Fx_seq (a := c32_5) (b := c32_6) rfl ?_
  refine Fx_text rfl (by kernel_rfl) ?_
  refine Ro_v (v := (Value.string s_5)) rfl (o_move rfl rfl) ?_
  refine Ro_v (v := (Value.int .i64 at_6)) rfl (o_move rfl rfl) ?_
  refine Ro_v (v := (Value.int .i64 x7)) rfl (o_move rfl rfl) ?_
  obtain ⟨x8, hx8, h⟩ := h.bd
  refine Ro_v (v := (Value.string x8)) rfl (o_slS (some at_6) (some x7) rfl tu9 rfl rfl rfl hx8) ?_
  refine Ro_v (v := (Value.string x8)) rfl (o_assign rfl rfl) ?_
  refine Ro_nil ?_
  refine Fx_seq (a := c32_7) (b := c32_8) rfl ?_
  refine Fx_text rfl (by kernel_rfl) ?_
  refine Ro_v (v := (Value.string x8)) rfl (o_move rfl rfl) ?_
  obtain ⟨x9, hx9, h⟩ := h.bd
  refine Ro_v (v := (Value.int .u8 x9)) rfl (o_idxS rfl tu9 rfl rfl hx9) ?_
  obtain ⟨x10, hx10, h⟩ := h.lt
  refine Ro_v (v := (Value.bool x10)) rfl (o_leq rfl rfl rfl hx10) ?_
  refine Ro_v (v := (Value.bool x10)) rfl (o_assign rfl rfl) ?_
  refine Ro_nil ?_
  refine Fx_seq (a := c32_9) (b := c32_46) rfl ?_
  refine Fx_seq (a := c32_10) (b := c32_11) rfl ?_
  refine Fx_text rfl (by kernel_rfl) ?_
  refine Ro_v (v := (Value.bool x10)) rfl (o_move rfl rfl) ?_
  refine Ro_v (v := (Value.bool x10)) rfl (o_move rfl rfl) ?_
  refine Ro_set (t := x10) (v := bif x10 then (Value.string x8) else undef) rfl (w_T rfl rfl rfl) (by intro e; have e0 := e; subst e0; exact o_move rfl rfl) (fun e => ⟨gv_f e, rfl⟩) ?_
  obtain ⟨x11, hx11, h⟩ := h.bd
  refine Ro_set (t := x10) (v := bif x10 then (Value.bool x11) else undef) rfl (w_T rfl rfl rfl) (by intro e; have e0 := e; subst e0; exact o_call (vs := [(Value.string x8)]) rfl rfl (w45 _ _ _ hx11)) (fun e => ⟨gv_f e, rfl⟩) ?_
  obtain ⟨x12, hx12, h⟩ := h.lt
  refine Ro_set (t := x10) (v := bif x10 then (Value.bool x12) else undef) rfl (w_T rfl rfl rfl) (by intro e; have e0 := e; subst e0; exact o_not rfl rfl hx12) (fun e => ⟨gv_f e, rfl⟩) ?_
  obtain ⟨x13, hx13, h⟩ := h.lt
  refine Ro_v (v := (Value.bool x13)) rfl (o_pick rfl rfl (by intro e; subst e; subst hx13; rfl) (by intro e; subst e; subst hx13; rfl)) ?_
  refine Ro_v (v := (Value.bool x13)) rfl (o_move rfl rfl) ?_
  refine Ro_set (t := x13) (v := bif x13 then (Value.int .i64 x7) else undef) rfl (w_T rfl rfl rfl) (by intro e; have e0 := e; subst e0; exact o_move rfl rfl) (fun e => ⟨gv_f e, rfl⟩) ?_
  obtain ⟨x14, hx14, h⟩ := h.lt
  refine Ro_set (t := x13) (v := bif x13 then (Value.int .i64 x14) else undef) rfl (w_T rfl rfl rfl) (by intro e; have e0 := e; subst e0; exact o_add rfl rfl rfl hx14) (fun e => ⟨gv_f e, rfl⟩) ?_
  refine Ro_set (t := x13) (v := bif x13 then (Value.string s_5) else undef) rfl (w_T rfl rfl rfl) (by intro e; have e0 := e; subst e0; exact o_move rfl rfl) (fun e => ⟨gv_f e, rfl⟩) ?_
  obtain ⟨x15, hx15, h⟩ := h.lt
  refine Ro_set (t := x13) (v := bif x13 then (Value.int .i64 x15) else undef) rfl (w_T rfl rfl rfl) (by intro e; have e0 := e; subst e0; exact o_lenS rfl tu9 rfl hx15) (fun e => ⟨gv_f e, rfl⟩) ?_
  obtain ⟨x16, hx16, h⟩ := h.lt
  refine Ro_set (t := x13) (v := bif x13 then (Value.bool x16) else undef) rfl (w_T rfl rfl rfl) (by intro e; have e0 := e; subst e0; exact o_lss rfl rfl rfl hx16) (fun e => ⟨gv_f e, rfl⟩) ?_
  obtain ⟨x17, hx17, h⟩ := h.lt
  refine Ro_v (v := (Value.bool x17)) rfl (o_pick rfl rfl (by intro e; subst e; subst hx17; rfl) (by intro e; subst e; subst hx17; rfl)) ?_
  refine Ro_v (v := (Value.bool x17)) rfl (o_move rfl rfl) ?_
  refine Ro_set (t := x17) (v := bif x17 then (Value.string s_5) else undef) rfl (w_T rfl rfl rfl) (by intro e; have e0 := e; subst e0; exact o_move rfl rfl) (fun e => ⟨gv_f e, rfl⟩) ?_
  refine Ro_set (t := x17) (v := bif x17 then (Value.int .i64 x7) else undef) rfl (w_T rfl rfl rfl) (by intro e; have e0 := e; subst e0; exact o_move rfl rfl) (fun e => ⟨gv_f e, rfl⟩) ?_
  obtain ⟨x18, hx18, h⟩ := h.bd
  refine Ro_set (t := x17) (v := bif x17 then (Value.int .u8 x18) else undef) rfl (w_T rfl rfl rfl) (by intro e; have e0 := e; subst e0; exact o_idxS rfl tu9 rfl rfl hx18) (fun e => ⟨gv_f e, rfl⟩) ?_
  obtain ⟨x19, hx19, h⟩ := h.lt
  refine Ro_set (t := x17) (v := bif x17 then (Value.bool x19) else undef) rfl (w_T rfl rfl rfl) (by intro e; have e0 := e; subst e0; exact o_eql rfl rfl rfl hx19) (fun e => ⟨gv_f e, rfl⟩) ?_
  obtain ⟨x20, hx20, h⟩ := h.lt
  refine Ro_v (v := (Value.bool x20)) rfl (o_pick rfl rfl (by intro e; subst e; subst hx20; rfl) (by intro e; subst e; subst hx20; rfl)) ?_
  refine Ro_v (v := (Value.bool x20)) rfl (o_move rfl rfl) ?_
  refine Ro_set (t := x20) (v := bif x20 then (Value.string s_5) else undef) rfl (w_T rfl rfl rfl) (by intro e; have e0 := e; subst e0; exact o_move rfl rfl) (fun e => ⟨gv_f e, rfl⟩) ?_
  refine Ro_set (t := x20) (v := bif x20 then (Value.int .i64 x7) else undef) rfl (w_T rfl rfl rfl) (by intro e; have e0 := e; subst e0; exact o_move rfl rfl) (fun e => ⟨gv_f e, rfl⟩) ?_
  obtain ⟨x21, hx21, h⟩ := h.lt
  refine Ro_set (t := x20) (v := bif x20 then (Value.int .i64 x21) else undef) rfl (w_T rfl rfl rfl) (by intro e; have e0 := e; subst e0; exact o_add rfl rfl rfl hx21) (fun e => ⟨gv_f e, rfl⟩) ?_
  obtain ⟨x22, hx22, h⟩ := h.bd
  refine Ro_set (t := x20) (v := bif x20 then (Value.int .u8 x22) else undef) rfl (w_T rfl rfl rfl) (by intro e; have e0 := e; subst e0; exact o_idxS rfl tu9 rfl rfl hx22) (fun e => ⟨gv_f e, rfl⟩) ?_
  obtain ⟨x23, hx23, h⟩ := h.bd
  refine Ro_set (t := x20) (v := bif x20 then (Value.bool x23) else undef) rfl (w_T rfl rfl rfl) (by intro e; have e0 := e; subst e0; exact o_call (vs := [(Value.int .u8 x22)]) rfl rfl (w31 _ _ _ hx23)) (fun e => ⟨gv_f e, rfl⟩) ?_
  obtain ⟨x24, hx24, h⟩ := h.lt
  refine Ro_v (v := (Value.bool x24)) rfl (o_pick rfl rfl (by intro e; subst e; subst hx24; rfl) (by intro e; subst e; subst hx24; rfl)) ?_
  refine Ro_nil ?_
  refine Fx_cond (a := c32_12) (b := c32_45) rfl rfl (fun ex24 => ?_) (fun ex24 => ?_)
  · replace h := h.ifT ex24
    refine Fx_seq (a := c32_13) (b := c32_14) rfl ?_
    refine Fx_text rfl (by kernel_rfl) ?_
    refine Ro_v (v := (Value.int .i64 x7)) rfl (o_move rfl rfl) ?_
    obtain ⟨x25, hx25, h⟩ := h.lt
    refine Ro_v (v := (Value.int .i64 x25)) rfl (o_add rfl rfl rfl hx25) ?_
    refine Ro_v (v := (Value.int .i64 x25)) rfl (o_assign rfl rfl) ?_
    refine Ro_nil ?_
    refine Fx_seq (a := c32_15) (b := c32_16) rfl ?_
    refine Fx_text rfl (by kernel_rfl) ?_
    refine Ro_v (v := (Value.string s_5)) rfl (o_move rfl rfl) ?_
    refine Ro_v (v := (Value.int .i64 x25)) rfl (o_move rfl rfl) ?_
    obtain ⟨x26, hx26, h⟩ := h.bd
    refine Ro_v (v := (Value.int .i64 x26)) rfl (o_call (vs := [(Value.string s_5), (Value.int .i64 x25)]) rfl rfl (w44 _ _ _ _ hx26)) ?_
    refine Ro_v (v := (Value.int .i64 x26)) rfl (o_assign rfl rfl) ?_
    refine Ro_nil ?_
    refine Fx_seq (a := c32_17) (b := c32_18) rfl ?_
    refine Fx_text rfl (by kernel_rfl) ?_
    refine Ro_v (v := (Value.string s_5)) rfl (o_move rfl rfl) ?_
    refine Ro_v (v := (Value.int .i64 x25)) rfl (o_move rfl rfl) ?_
    refine Ro_v (v := (Value.int .i64 x26)) rfl (o_move rfl rfl) ?_
    obtain ⟨x27, hx27, h⟩ := h.bd
    refine Ro_v (v := (Value.string x27)) rfl (o_slS (some x25) (some x26) rfl tu9 rfl rfl rfl hx27) ?_
    refine Ro_v (v := (Value.string x27)) rfl (o_assign rfl rfl) ?_
    refine Ro_nil ?_
    refine Fx_seq (a := c32_19) (b := c32_26) rfl ?_
    refine Fx_seq (a := c32_20) (b := c32_21) rfl ?_
    refine Fx_text rfl (by kernel_rfl) ?_
    refine Ro_v (v := (Value.string x8)) rfl (o_move rfl rfl) ?_
    obtain ⟨x28, hx28, h⟩ := h.lt
    refine Ro_v (v := (Value.int .i64 x28)) rfl (o_lenS rfl tu9 rfl hx28) ?_
    obtain ⟨x29, hx29, h⟩ := h.lt
    refine Ro_v (v := (Value.bool x29)) rfl (o_gtr rfl rfl rfl hx29) ?_
    refine Ro_v (v := (Value.bool x29)) rfl (o_move rfl rfl) ?_
    refine Ro_set (t := !x29) (v := bif !x29 then (Value.string x27) else undef) rfl (w_F rfl rfl rfl) (by intro e; have e0 := not_t (e); subst e0; exact o_move rfl rfl) (fun e => ⟨gv_f e, rfl⟩) ?_
    obtain ⟨x30, hx30, h⟩ := h.lt
    refine Ro_set (t := !x29) (v := bif !x29 then (Value.int .i64 x30) else undef) rfl (w_F rfl rfl rfl) (by intro e; have e0 := not_t (e); subst e0; exact o_lenS rfl tu9 rfl hx30) (fun e => ⟨gv_f e, rfl⟩) ?_
    obtain ⟨x31, hx31, h⟩ := h.lt
    refine Ro_set (t := !x29) (v := bif !x29 then (Value.bool x31) else undef) rfl (w_F rfl rfl rfl) (by intro e; have e0 := not_t (e); subst e0; exact o_gtr rfl rfl rfl hx31) (fun e => ⟨gv_f e, rfl⟩) ?_
    obtain ⟨x32, hx32, h⟩ := h.lt
    refine Ro_v (v := (Value.bool x32)) rfl (o_pick rfl rfl (by intro e; subst e; subst hx32; rfl) (by intro e; subst e; subst hx32; rfl)) ?_
    refine Ro_nil ?_
    refine Fx_cond (a := c32_22) (b := c32_25) rfl rfl (fun ex32 => ?_) (fun ex32 => ?_)
    · replace h := h.ifT ex32
      refine Fx_seq (a := c32_23) (b := c32_24) rfl ?_
      refine Fx_text rfl (by kernel_rfl) ?_
      refine Ro_v (v := (Value.int .i64 at_6)) rfl (o_move rfl rfl) ?_
      refine Ro_v (v := (Value.int .i64 (0))) rfl (o_assign rfl rfl) ?_
      refine Ro_v (v := (Value.int .i64 (0))) rfl (o_assign rfl rfl) ?_
      refine Ro_v (v := (Value.int .i64 at_6)) rfl (o_assign rfl rfl) ?_
      refine Ro_v (v := (Value.int .i64 (3))) rfl (o_assign rfl rfl) ?_
      refine Ro_nil ?_
      exact Fx_ret rfl rfl (congrArg some h.sm)
    · replace h := h.ifF ex32
      refine Fx_skip (c := c32_25) rfl ?_
      refine Fx_seq (a := c32_27) (b := c32_34) rfl ?_
      refine Fx_seq (a := c32_28) (b := c32_29) rfl ?_
      refine Fx_text rfl (by kernel_rfl) ?_
      refine Ro_v (v := (Value.string x27)) rfl (o_move rfl rfl) ?_
      obtain ⟨x33, hx33, h⟩ := h.bd
      refine Ro_v (v := (Value.bool x33)) rfl (o_call (vs := [(Value.string x27)]) rfl rfl (w45 _ _ _ hx33)) ?_
      refine Ro_nil ?_
      refine Fx_cond (a := c32_30) (b := c32_33) rfl rfl (fun ex33 => ?_) (fun ex33 => ?_)
      · replace h := h.ifT ex33
        refine Fx_seq (a := c32_31) (b := c32_32) rfl ?_
        refine Fx_text rfl (by kernel_rfl) ?_
        refine Ro_v (v := (Value.int .i64 at_6)) rfl (o_move rfl rfl) ?_
        refine Ro_v (v := (Value.int .i64 (0))) rfl (o_assign rfl rfl) ?_
        refine Ro_v (v := (Value.int .i64 (0))) rfl (o_assign rfl rfl) ?_
        refine Ro_v (v := (Value.int .i64 at_6)) rfl (o_assign rfl rfl) ?_
        refine Ro_v (v := (Value.int .i64 (2))) rfl (o_assign rfl rfl) ?_
        refine Ro_nil ?_
        exact Fx_ret rfl rfl (congrArg some h.sm)
      · replace h := h.ifF ex33
        refine Fx_skip (c := c32_33) rfl ?_
        refine Fx_seq (a := c32_35) (b := c32_42) rfl ?_
        refine Fx_seq (a := c32_36) (b := c32_37) rfl ?_
        refine Fx_text rfl (by kernel_rfl) ?_
        refine Ro_v (v := (Value.string x27)) rfl (o_move rfl rfl) ?_
        obtain ⟨x34, hx34, h⟩ := h.bd
        refine Ro_v (v := (Value.int .u8 x34)) rfl (o_idxS rfl tu9 rfl rfl hx34) ?_
        obtain ⟨x35, hx35, h⟩ := h.lt
        refine Ro_v (v := (Value.bool x35)) rfl (o_leq rfl rfl rfl hx35) ?_
        refine Ro_nil ?_
        refine Fx_cond (a := c32_38) (b := c32_41) rfl rfl (fun ex35 => ?_) (fun ex35 => ?_)
        · replace h := h.ifT ex35
          refine Fx_seq (a := c32_39) (b := c32_40) rfl ?_
          refine Fx_text rfl (by kernel_rfl) ?_
          refine Ro_v (v := (Value.int .i64 x26)) rfl (o_move rfl rfl) ?_
          refine Ro_v (v := (Value.int .i64 (4))) rfl (o_assign rfl rfl) ?_
          refine Ro_v (v := (Value.int .i64 x26)) rfl (o_assign rfl rfl) ?_
          refine Ro_v (v := (Value.int .i64 (0))) rfl (o_assign rfl rfl) ?_
          refine Ro_v (v := (Value.int .i64 (0))) rfl (o_assign rfl rfl) ?_
          refine Ro_nil ?_
          exact Fx_ret rfl rfl (congrArg some h.sm)
        · replace h := h.ifF ex35
          refine Fx_skip (c := c32_41) rfl ?_
          refine Fx_seq (a := c32_43) (b := c32_44) rfl ?_
          refine Fx_text rfl (by kernel_rfl) ?_
          refine Ro_v (v := (Value.int .i64 x26)) rfl (o_move rfl rfl) ?_
          refine Ro_v (v := (Value.int .i64 (3))) rfl (o_assign rfl rfl) ?_
          refine Ro_v (v := (Value.int .i64 x26)) rfl (o_assign rfl rfl) ?_
          refine Ro_v (v := (Value.int .i64 (0))) rfl (o_assign rfl rfl) ?_
          refine Ro_v (v := (Value.int .i64 (0))) rfl (o_assign rfl rfl) ?_
          refine Ro_nil ?_
          exact Fx_ret rfl rfl (congrArg some h.sm)
  · replace h := h.ifF ex24
    refine Fx_skip (c := c32_45) rfl ?_
    refine Fx_seq (a := c32_47) (b := c32_67) rfl ?_
    refine Fx_block (b := c32_48) rfl ?_
    refine Fx_seq (a := c32_49) (b := c32_50) rfl ?_
    refine Fx_text rfl (by kernel_rfl) ?_
    refine Ro_v (v := (Value.string x8)) rfl (o_move rfl rfl) ?_
    obtain ⟨x36, hx36, h⟩ := h.bd
    refine Ro_v (v := (Value.bool x36)) rfl (o_call (vs := [(Value.string x8)]) rfl rfl (w45 _ _ _ hx36)) ?_
    refine Ro_v (v := (Value.bool x36)) rfl (o_assign rfl rfl) ?_
    refine Ro_nil ?_
    refine Fx_cond (a := c32_51) (b := c32_54) rfl rfl (fun ex36 => ?_) (fun ex36 => ?_)
    · replace h := h.ifT ex36
      refine Fx_seq (a := c32_52) (b := c32_53) rfl ?_
      refine Fx_text rfl (by kernel_rfl) ?_
      refine Ro_v (v := (Value.int .i64 x7)) rfl (o_move rfl rfl) ?_
      refine Ro_v (v := (Value.int .i64 (7))) rfl (o_assign rfl rfl) ?_
      refine Ro_v (v := (Value.int .i64 x7)) rfl (o_assign rfl rfl) ?_
      refine Ro_v (v := (Value.int .i64 (0))) rfl (o_assign rfl rfl) ?_
      refine Ro_v (v := (Value.int .i64 (0))) rfl (o_assign rfl rfl) ?_
      refine Ro_nil ?_
      exact Fx_ret rfl rfl (congrArg some h.sm)
    · replace h := h.ifF ex36
      refine Fx_seq (a := c32_55) (b := c32_56) rfl ?_
      refine Fx_text rfl (by kernel_rfl) ?_
      refine Ro_v (v := (Value.string x8)) rfl (o_move rfl rfl) ?_
      obtain ⟨x37, hx37, h⟩ := h.lt
      refine Ro_v (v := (Value.int .i64 x37)) rfl (o_lenS rfl tu9 rfl hx37) ?_
      obtain ⟨x38, hx38, h⟩ := h.lt
      refine Ro_v (v := (Value.bool x38)) rfl (o_gtr rfl rfl rfl hx38) ?_
      refine Ro_v (v := (Value.bool x38)) rfl (o_assign rfl rfl) ?_
      refine Ro_nil ?_
      refine Fx_cond (a := c32_57) (b := c32_60) rfl rfl (fun ex38 => ?_) (fun ex38 => ?_)
      · replace h := h.ifT ex38
        refine Fx_seq (a := c32_58) (b := c32_59) rfl ?_
        refine Fx_text rfl (by kernel_rfl) ?_
        refine Ro_v (v := (Value.int .i64 at_6)) rfl (o_move rfl rfl) ?_
        refine Ro_v (v := (Value.int .i64 (0))) rfl (o_assign rfl rfl) ?_
        refine Ro_v (v := (Value.int .i64 (0))) rfl (o_assign rfl rfl) ?_
        refine Ro_v (v := (Value.int .i64 at_6)) rfl (o_assign rfl rfl) ?_
        refine Ro_v (v := (Value.int .i64 (3))) rfl (o_assign rfl rfl) ?_
        refine Ro_nil ?_
        exact Fx_ret rfl rfl (congrArg some h.sm)
      · replace h := h.ifF ex38
        refine Fx_seq (a := c32_61) (b := c32_62) rfl ?_
        refine Fx_text rfl (by kernel_rfl) ?_
        refine Ro_v (v := (Value.bool x10)) rfl (o_move rfl rfl) ?_
        refine Ro_v (v := (Value.bool x10)) rfl (o_assign rfl rfl) ?_
        refine Ro_nil ?_
        refine Fx_cond (a := c32_63) (b := c32_66) rfl rfl (fun ex10 => ?_) (fun ex10 => ?_)
        · replace h := h.ifT ex10
          refine Fx_seq (a := c32_64) (b := c32_65) rfl ?_
          refine Fx_text rfl (by kernel_rfl) ?_
          refine Ro_v (v := (Value.int .i64 x7)) rfl (o_move rfl rfl) ?_
          refine Ro_v (v := (Value.int .i64 (2))) rfl (o_assign rfl rfl) ?_
          refine Ro_v (v := (Value.int .i64 x7)) rfl (o_assign rfl rfl) ?_
          refine Ro_v (v := (Value.int .i64 (0))) rfl (o_assign rfl rfl) ?_
          refine Ro_v (v := (Value.int .i64 (0))) rfl (o_assign rfl rfl) ?_
          refine Ro_nil ?_
          exact Fx_ret rfl rfl (congrArg some h.sm)
        · replace h := h.ifF ex10
          refine Fx_skip (c := c32_66) rfl ?_
          refine Fx_blk ?_
          refine Fx_seq (a := c32_68) (b := c32_69) rfl ?_
          refine Fx_text rfl (by kernel_rfl) ?_
          refine Ro_v (v := (Value.int .i64 x7)) rfl (o_move rfl rfl) ?_
          refine Ro_v (v := (Value.int .i64 (1))) rfl (o_assign rfl rfl) ?_
          refine Ro_v (v := (Value.int .i64 x7)) rfl (o_assign rfl rfl) ?_
          refine Ro_v (v := (Value.int .i64 (0))) rfl (o_assign rfl rfl) ?_
          refine Ro_v (v := (Value.int .i64 (0))) rfl (o_assign rfl rfl) ?_
          refine Ro_nil ?_
          exact Fx_ret rfl rfl (congrArg some h.sm)
noncomputable def c34_0 : Code := bodyOf Try.f34
noncomputable def c34_1 : Code := cl c34_0
noncomputable def c34_2 : Code := cr c34_0
noncomputable def c34_3 : Code := cl c34_2
noncomputable def c34_4 : Code := cl c34_3
noncomputable def c34_5 : Code := cr c34_3
noncomputable def c34_6 : Code := cl c34_5
noncomputable def c34_7 : Code := cl c34_6
noncomputable def c34_8 : Code := cl c34_7
noncomputable def c34_9 : Code := cl c34_8
noncomputable def c34_10 : Code := cr c34_8
noncomputable def c34_11 : Code := cl c34_10
noncomputable def c34_12 : Code := cr c34_10
noncomputable def c34_13 : Code := cr c34_7
noncomputable def c34_14 : Code := cl c34_13
noncomputable def c34_15 : Code := cl c34_14
noncomputable def c34_16 : Code := cl c34_15
noncomputable def c34_17 : Code := cr c34_15
noncomputable def c34_18 : Code := cl c34_17
noncomputable def c34_19 : Code := cl c34_18
noncomputable def c34_20 : Code := cr c34_18
noncomputable def c34_21 : Code := cl c34_20
noncomputable def c34_22 : Code := cl c34_21
noncomputable def c34_23 : Code := cr c34_21
noncomputable def c34_24 : Code := cr c34_20
noncomputable def c34_25 : Code := cl c34_24
noncomputable def c34_26 : Code := cr c34_24
noncomputable def c34_27 : Code := cl c34_26
noncomputable def c34_28 : Code := cl c34_27
noncomputable def c34_29 : Code := cr c34_27
noncomputable def c34_30 : Code := cr c34_26
noncomputable def c34_31 : Code := cl c34_30
noncomputable def c34_32 : Code := cr c34_30
noncomputable def c34_33 : Code := cl c34_32
noncomputable def c34_34 : Code := cl c34_33
noncomputable def c34_35 : Code := cr c34_33
noncomputable def c34_36 : Code := cr c34_32
noncomputable def c34_37 : Code := cr c34_13
noncomputable def c34_38 : Code := cr c34_2
noncomputable def c34_39 : Code := cl c34_38
noncomputable def c34_40 : Code := cr c34_38
theorem ok34 : funcOk Try.f34 = true := by kernel_rfl
noncomputable def rs34 : List ResultVar := resultsOf Try.f34
noncomputable def C34_l1 (s_8 : ByteArray) (at_9 : Int) (σ : AHeap) (out : Value × AHeap) : Int ⊕ (Unit ⊕ (Int × Int × Int × Int)) → Prop
  | .inl end_10 => ∀ f, Fx Try.prog rs34 [.code c34_6, .blk 0, .code c34_38] .normal (Fr.set (Fr.set (Fr.set f 0 (Value.string s_8)) 1 (Value.int .i64 at_9)) 5 (Value.int .i64 end_10)) σ = some out
  | .inr (.inl _) => ∀ f, Fx Try.prog rs34 [.code c34_38] .normal (Fr.set f 1 (Value.int .i64 at_9)) σ = some out
  | .inr (.inr (x11, x12, x13, x14)) => ((Value.tuple #[(Value.int .i64 x11), (Value.int .i64 x12), (Value.int .i64 x13), (Value.int .i64 x14)]), σ) = out
theorem q34_l1 (s_8 : ByteArray) (at_9 : Int) (end_10 : Int) (σ : AHeap) (out : Value × AHeap) (f : Fr) (h : OptW (G_lex_text_l1 s_8 at_9 end_10) (C34_l1 s_8 at_9 σ out)) :
    Fx Try.prog rs34 [.code c34_6, .blk 0, .code c34_38] .normal (Fr.set (Fr.set (Fr.set f 0 (Value.string s_8)) 1 (Value.int .i64 at_9)) 5 (Value.int .i64 end_10)) σ = some out := by
  unfold G_lex_text_l1 at h
  refine Fx_loop (b := c34_7) rfl ?_
  refine Fx_seq (a := c34_8) (b := c34_13) rfl ?_
  refine Fx_seq (a := c34_9) (b := c34_10) rfl ?_
  refine Fx_text rfl (by kernel_rfl) ?_
  refine Ro_v (v := (Value.int .i64 end_10)) rfl (o_move rfl rfl) ?_
  refine Ro_v (v := (Value.string s_8)) rfl (o_move rfl rfl) ?_
  obtain ⟨x15, hx15, h⟩ := h.lt
  refine Ro_v (v := (Value.int .i64 x15)) rfl (o_lenS rfl tu9 rfl hx15) ?_
  obtain ⟨x16, hx16, h⟩ := h.lt
  refine Ro_v (v := (Value.bool x16)) rfl (o_lss rfl rfl rfl hx16) ?_
  refine Ro_nil ?_
  refine Fx_cond (a := c34_11) (b := c34_12) rfl rfl (fun ex16 => ?_) (fun ex16 => ?_)
  · replace h := h.ifT ex16
    refine Fx_skip (c := c34_11) rfl ?_
    refine Fx_seq (a := c34_14) (b := c34_37) rfl ?_
    refine Fx_block (b := c34_15) rfl ?_
    refine Fx_seq (a := c34_16) (b := c34_17) rfl ?_
    refine Fx_text rfl (by kernel_rfl) ?_
    refine Ro_v (v := (Value.string s_8)) rfl (o_move rfl rfl) ?_
    refine Ro_v (v := (Value.int .i64 end_10)) rfl (o_move rfl rfl) ?_
    obtain ⟨x17, hx17, h⟩ := h.bd
    refine Ro_v (v := (Value.int .u8 x17)) rfl (o_idxS rfl tu9 rfl rfl hx17) ?_
    refine Ro_v (v := (Value.int .u8 x17)) rfl (o_assign rfl rfl) ?_
    refine Ro_nil ?_
    refine Fx_block (b := c34_18) rfl ?_
    refine Fx_seq (a := c34_19) (b := c34_20) rfl ?_
    refine Fx_text rfl (by kernel_rfl) ?_
    refine Ro_v (v := (Value.int .u8 x17)) rfl (o_move rfl rfl) ?_
    obtain ⟨x18, hx18, h⟩ := h.lt
    refine Ro_v (v := (Value.bool x18)) rfl (o_eql rfl rfl rfl hx18) ?_
    refine Ro_v (v := (Value.bool x18)) rfl (o_assign rfl rfl) ?_
    refine Ro_nil ?_
    refine Fx_cond (a := c34_21) (b := c34_24) rfl rfl (fun ex18 => ?_) (fun ex18 => ?_)
    · replace h := h.ifT ex18
      refine Fx_seq (a := c34_22) (b := c34_23) rfl ?_
      refine Fx_text rfl (by kernel_rfl) ?_
      refine Ro_v (v := (Value.int .i64 end_10)) rfl (o_move rfl rfl) ?_
      obtain ⟨x19, hx19, h⟩ := h.lt
      refine Ro_v (v := (Value.int .i64 x19)) rfl (o_add rfl rfl rfl hx19) ?_
      refine Ro_v (v := (Value.int .i64 (6))) rfl (o_assign rfl rfl) ?_
      refine Ro_v (v := (Value.int .i64 x19)) rfl (o_assign rfl rfl) ?_
      refine Ro_v (v := (Value.int .i64 (0))) rfl (o_assign rfl rfl) ?_
      refine Ro_v (v := (Value.int .i64 (0))) rfl (o_assign rfl rfl) ?_
      refine Ro_nil ?_
      exact Fx_ret rfl rfl (congrArg some h.sm)
    · replace h := h.ifF ex18
      refine Fx_seq (a := c34_25) (b := c34_26) rfl ?_
      refine Fx_text rfl (by kernel_rfl) ?_
      refine Ro_v (v := (Value.int .u8 x17)) rfl (o_move rfl rfl) ?_
      obtain ⟨x20, hx20, h⟩ := h.lt
      refine Ro_v (v := (Value.bool x20)) rfl (o_eql rfl rfl rfl hx20) ?_
      refine Ro_v (v := (Value.bool x20)) rfl (o_move rfl rfl) ?_
      refine Ro_set (t := !x20) (v := bif !x20 then (Value.int .u8 x17) else undef) rfl (w_F rfl rfl rfl) (by intro e; have e0 := not_t (e); subst e0; exact o_move rfl rfl) (fun e => ⟨gv_f e, rfl⟩) ?_
      obtain ⟨x21, hx21, h⟩ := h.lt
      refine Ro_set (t := !x20) (v := bif !x20 then (Value.bool x21) else undef) rfl (w_F rfl rfl rfl) (by intro e; have e0 := not_t (e); subst e0; exact o_eql rfl rfl rfl hx21) (fun e => ⟨gv_f e, rfl⟩) ?_
      obtain ⟨x22, hx22, h⟩ := h.lt
      refine Ro_v (v := (Value.bool x22)) rfl (o_pick rfl rfl (by intro e; subst e; subst hx22; rfl) (by intro e; subst e; subst hx22; rfl)) ?_
      refine Ro_v (v := (Value.bool x22)) rfl (o_move rfl rfl) ?_
      refine Ro_set (t := !x22) (v := bif !x22 then (Value.int .u8 x17) else undef) rfl (w_F rfl rfl rfl) (by intro e; have e0 := not_t (e); subst e0; exact o_move rfl rfl) (fun e => ⟨gv_f e, rfl⟩) ?_
      obtain ⟨x23, hx23, h⟩ := h.lt
      refine Ro_set (t := !x22) (v := bif !x22 then (Value.bool x23) else undef) rfl (w_F rfl rfl rfl) (by intro e; have e0 := not_t (e); subst e0; exact o_eql rfl rfl rfl hx23) (fun e => ⟨gv_f e, rfl⟩) ?_
      obtain ⟨x24, hx24, h⟩ := h.lt
      refine Ro_v (v := (Value.bool x24)) rfl (o_pick rfl rfl (by intro e; subst e; subst hx24; rfl) (by intro e; subst e; subst hx24; rfl)) ?_
      refine Ro_v (v := (Value.bool x24)) rfl (o_move rfl rfl) ?_
      refine Ro_set (t := !x24) (v := bif !x24 then (Value.int .u8 x17) else undef) rfl (w_F rfl rfl rfl) (by intro e; have e0 := not_t (e); subst e0; exact o_move rfl rfl) (fun e => ⟨gv_f e, rfl⟩) ?_
      obtain ⟨x25, hx25, h⟩ := h.lt
      refine Ro_set (t := !x24) (v := bif !x24 then (Value.bool x25) else undef) rfl (w_F rfl rfl rfl) (by intro e; have e0 := not_t (e); subst e0; exact o_eql rfl rfl rfl hx25) (fun e => ⟨gv_f e, rfl⟩) ?_
      obtain ⟨x26, hx26, h⟩ := h.lt
      refine Ro_v (v := (Value.bool x26)) rfl (o_pick rfl rfl (by intro e; subst e; subst hx26; rfl) (by intro e; subst e; subst hx26; rfl)) ?_
      refine Ro_v (v := (Value.bool x26)) rfl (o_assign rfl rfl) ?_
      refine Ro_nil ?_
      refine Fx_cond (a := c34_27) (b := c34_30) rfl rfl (fun ex26 => ?_) (fun ex26 => ?_)
      · replace h := h.ifT ex26
        refine Fx_seq (a := c34_28) (b := c34_29) rfl ?_
        refine Fx_text rfl (by kernel_rfl) ?_
        refine Ro_v (v := (Value.int .i64 at_9)) rfl (o_move rfl rfl) ?_
        refine Ro_v (v := (Value.int .i64 (0))) rfl (o_assign rfl rfl) ?_
        refine Ro_v (v := (Value.int .i64 (0))) rfl (o_assign rfl rfl) ?_
        refine Ro_v (v := (Value.int .i64 at_9)) rfl (o_assign rfl rfl) ?_
        refine Ro_v (v := (Value.int .i64 (2))) rfl (o_assign rfl rfl) ?_
        refine Ro_nil ?_
        exact Fx_ret rfl rfl (congrArg some h.sm)
      · replace h := h.ifF ex26
        refine Fx_seq (a := c34_31) (b := c34_32) rfl ?_
        refine Fx_text rfl (by kernel_rfl) ?_
        refine Ro_v (v := (Value.int .u8 x17)) rfl (o_move rfl rfl) ?_
        obtain ⟨x27, hx27, h⟩ := h.bd
        refine Ro_v (v := (Value.bool x27)) rfl (o_call (vs := [(Value.int .u8 x17)]) rfl rfl (w23 _ _ _ hx27)) ?_
        obtain ⟨x28, hx28, h⟩ := h.lt
        refine Ro_v (v := (Value.bool x28)) rfl (o_not rfl rfl hx28) ?_
        refine Ro_v (v := (Value.bool x28)) rfl (o_assign rfl rfl) ?_
        refine Ro_nil ?_
        refine Fx_cond (a := c34_33) (b := c34_36) rfl rfl (fun ex28 => ?_) (fun ex28 => ?_)
        · replace h := h.ifT ex28
          refine Fx_seq (a := c34_34) (b := c34_35) rfl ?_
          refine Fx_text rfl (by kernel_rfl) ?_
          refine Ro_v (v := (Value.int .i64 end_10)) rfl (o_move rfl rfl) ?_
          refine Ro_v (v := (Value.int .i64 (0))) rfl (o_assign rfl rfl) ?_
          refine Ro_v (v := (Value.int .i64 (0))) rfl (o_assign rfl rfl) ?_
          refine Ro_v (v := (Value.int .i64 end_10)) rfl (o_assign rfl rfl) ?_
          refine Ro_v (v := (Value.int .i64 (1))) rfl (o_assign rfl rfl) ?_
          refine Ro_nil ?_
          exact Fx_ret rfl rfl (congrArg some h.sm)
        · replace h := h.ifF ex28
          refine Fx_skip (c := c34_36) rfl ?_
          refine Fx_blk ?_
          refine Fx_blk ?_
          refine Fx_text rfl (by kernel_rfl) ?_
          refine Ro_v (v := (Value.int .i64 end_10)) rfl (o_move rfl rfl) ?_
          obtain ⟨x29, hx29, h⟩ := h.lt
          refine Ro_v (v := (Value.int .i64 x29)) rfl (o_add rfl rfl rfl hx29) ?_
          refine Ro_v (v := (Value.int .i64 x29)) rfl (o_assign rfl rfl) ?_
          refine Ro_nil ?_
          exact Fx_forget (Fr.set_of (Fr.set_of (Fr.set_of rfl rfl) rfl) rfl) (h.sm _)
  · replace h := h.ifF ex16
    refine Fx_exit rfl ?_
    refine Fx_out_code ?_
    refine Fx_out_code ?_
    refine Fx_out_eq ?_
    exact Fx_forget (Fr.set_of rfl rfl) (h.sm _)
theorem w34 (s_5 : ByteArray) (at_6 : Int) (σ : AHeap) (r : (Int × Int × Int × Int)) (h : G_lex_text s_5 at_6 = some r) : callL Try.prog 34 [(Value.string s_5), (Value.int .i64 at_6)] σ = some ((Value.tuple #[(Value.int .i64 r.1), (Value.int .i64 r.2.1), (Value.int .i64 r.2.2.1), (Value.int .i64 r.2.2.2)]), σ) := by
  refine callL_walk (fn := Try.f34) (c := c34_0) (rs := rs34) Try.func34 rfl ok34 rfl rfl ?_
  obtain ⟨out, ho⟩ : ∃ out, out = ((Value.tuple #[(Value.int .i64 r.1), (Value.int .i64 r.2.1), (Value.int .i64 r.2.2.1), (Value.int .i64 r.2.2.2)]), σ) := ⟨_, rfl⟩
  rw [← ho]
  replace h : OptW (G_lex_text s_5 at_6) (fun r => ((Value.tuple #[(Value.int .i64 r.1), (Value.int .i64 r.2.1), (Value.int .i64 r.2.2.1), (Value.int .i64 r.2.2.2)]), σ) = out) := ⟨r, h, ho.symm⟩
  unfold G_lex_text at h
  refine Fx_seq (a := c34_1) (b := c34_2) rfl ?_
  refine Fx_text rfl (by kernel_rfl) ?_
  refine Ro_v (v := (Value.int .i64 (0))) rfl (o_assign rfl rfl) ?_
  refine Ro_v (v := (Value.int .i64 (0))) rfl (o_assign rfl rfl) ?_
  refine Ro_v (v := (Value.int .i64 (0))) rfl (o_assign rfl rfl) ?_
  refine Ro_v (v := (Value.int .i64 (0))) rfl (o_assign rfl rfl) ?_
  refine Ro_nil ?_
  refine Fx_seq (a := c34_3) (b := c34_38) rfl ?_
  refine Fx_seq (a := c34_4) (b := c34_5) rfl ?_
  refine Fx_text rfl (by kernel_rfl) ?_
  refine Ro_v (v := (Value.int .i64 at_6)) rfl (o_move rfl rfl) ?_
  obtain ⟨x7, hx7, h⟩ := h.lt
  refine Ro_v (v := (Value.int .i64 x7)) rfl (o_add rfl rfl rfl hx7) ?_
  refine Ro_v (v := (Value.int .i64 x7)) rfl (o_assign rfl rfl) ?_
  refine Ro_nil ?_
  refine Fx_block (b := c34_6) rfl ?_
  refine Fx_forget (Fr.set_of (Fr.set_of (Fr.set_of rfl rfl) rfl) rfl) ((OptW.loop h (fun s => C34_l1 s_5 at_6 σ out (.inl s)) ?_ : C34_l1 s_5 at_6 σ out (.inl x7)) _)
  intro s hs f
  refine q34_l1 s_5 at_6 s σ out f (hs.imp ?_)
  intro r hr
  rcases r with y | b
  · exact hr
  · rcases b with b | b
    · have h := hr
      intro f
      refine Fx_seq (a := c34_39) (b := c34_40) rfl ?_
      refine Fx_text rfl (by kernel_rfl) ?_
      refine Ro_v (v := (Value.int .i64 at_6)) rfl (o_move rfl rfl) ?_
      refine Ro_v (v := (Value.int .i64 (0))) rfl (o_assign rfl rfl) ?_
      refine Ro_v (v := (Value.int .i64 (0))) rfl (o_assign rfl rfl) ?_
      refine Ro_v (v := (Value.int .i64 at_6)) rfl (o_assign rfl rfl) ?_
      refine Ro_v (v := (Value.int .i64 (2))) rfl (o_assign rfl rfl) ?_
      refine Ro_nil ?_
      exact Fx_ret rfl rfl (congrArg some h.sm)
    · obtain ⟨x30, x31, x32, x33⟩ := b
      have h := hr
      exact h.sm
theorem w51 (s : ByteArray) (c : Int) (σ : AHeap) (r : Int) (h : G_bytealg_IndexByteString s c = some r) : callL Try.prog 51 [.string s, .int .u8 c] σ = some (.int .i64 r, σ) := callL_indexByte Try.func51 rfl rfl h
noncomputable def c46_0 : Code := bodyOf Try.f46
noncomputable def c46_1 : Code := cl c46_0
noncomputable def c46_2 : Code := cr c46_0
noncomputable def c46_3 : Code := cl c46_2
noncomputable def c46_4 : Code := cr c46_2
theorem ok46 : funcOk Try.f46 = true := by kernel_rfl
noncomputable def rs46 : List ResultVar := resultsOf Try.f46
theorem w46 (s_2 : ByteArray) (c_3 : Int) (σ : AHeap) (r : Int) (h : G_stringslite_IndexByte s_2 c_3 = some r) : callL Try.prog 46 [(Value.string s_2), (Value.int .u8 c_3)] σ = some ((Value.int .i64 r), σ) := by
  refine callL_walk (fn := Try.f46) (c := c46_0) (rs := rs46) Try.func46 rfl ok46 rfl rfl ?_
  obtain ⟨out, ho⟩ : ∃ out, out = ((Value.int .i64 r), σ) := ⟨_, rfl⟩
  rw [← ho]
  replace h : OptW (G_stringslite_IndexByte s_2 c_3) (fun r => ((Value.int .i64 r), σ) = out) := ⟨r, h, ho.symm⟩
  unfold G_stringslite_IndexByte at h
  refine Fx_seq (a := c46_1) (b := c46_2) rfl ?_
  refine Fx_text rfl (by kernel_rfl) ?_
  refine Ro_v (v := (Value.int .i64 (0))) rfl (o_assign rfl rfl) ?_
  refine Ro_nil ?_
  refine Fx_seq (a := c46_3) (b := c46_4) rfl ?_
  refine Fx_text rfl (by kernel_rfl) ?_
  refine Ro_v (v := (Value.string s_2)) rfl (o_move rfl rfl) ?_
  refine Ro_v (v := (Value.int .u8 c_3)) rfl (o_move rfl rfl) ?_
  obtain ⟨x4, hx4, h⟩ := h.bd
  refine Ro_v (v := (Value.int .i64 x4)) rfl (o_call (vs := [(Value.string s_2), (Value.int .u8 c_3)]) rfl rfl (w51 _ _ _ _ hx4)) ?_
  refine Ro_v (v := (Value.int .i64 x4)) rfl (o_assign rfl rfl) ?_
  refine Ro_nil ?_
  exact Fx_ret rfl rfl (congrArg some h.sm)
noncomputable def c35_0 : Code := bodyOf Try.f35
noncomputable def c35_1 : Code := cl c35_0
noncomputable def c35_2 : Code := cr c35_0
noncomputable def c35_3 : Code := cl c35_2
noncomputable def c35_4 : Code := cr c35_2
theorem ok35 : funcOk Try.f35 = true := by kernel_rfl
noncomputable def rs35 : List ResultVar := resultsOf Try.f35
theorem w35 (s_2 : ByteArray) (c_3 : Int) (σ : AHeap) (r : Int) (h : G_strings_IndexByte s_2 c_3 = some r) : callL Try.prog 35 [(Value.string s_2), (Value.int .u8 c_3)] σ = some ((Value.int .i64 r), σ) := by
  refine callL_walk (fn := Try.f35) (c := c35_0) (rs := rs35) Try.func35 rfl ok35 rfl rfl ?_
  obtain ⟨out, ho⟩ : ∃ out, out = ((Value.int .i64 r), σ) := ⟨_, rfl⟩
  rw [← ho]
  replace h : OptW (G_strings_IndexByte s_2 c_3) (fun r => ((Value.int .i64 r), σ) = out) := ⟨r, h, ho.symm⟩
  unfold G_strings_IndexByte at h
  refine Fx_seq (a := c35_1) (b := c35_2) rfl ?_
  refine Fx_text rfl (by kernel_rfl) ?_
  refine Ro_v (v := (Value.int .i64 (0))) rfl (o_assign rfl rfl) ?_
  refine Ro_nil ?_
  refine Fx_seq (a := c35_3) (b := c35_4) rfl ?_
  refine Fx_text rfl (by kernel_rfl) ?_
  refine Ro_v (v := (Value.string s_2)) rfl (o_move rfl rfl) ?_
  refine Ro_v (v := (Value.int .u8 c_3)) rfl (o_move rfl rfl) ?_
  obtain ⟨x4, hx4, h⟩ := h.bd
  refine Ro_v (v := (Value.int .i64 x4)) rfl (o_call (vs := [(Value.string s_2), (Value.int .u8 c_3)]) rfl rfl (w46 _ _ _ _ hx4)) ?_
  refine Ro_v (v := (Value.int .i64 x4)) rfl (o_assign rfl rfl) ?_
  refine Ro_nil ?_
  exact Fx_ret rfl rfl (congrArg some h.sm)
noncomputable def c24_0 : Code := bodyOf Try.f24
noncomputable def c24_1 : Code := cl c24_0
noncomputable def c24_2 : Code := cr c24_0
noncomputable def c24_3 : Code := cl c24_2
noncomputable def c24_4 : Code := cl c24_3
noncomputable def c24_5 : Code := cr c24_3
noncomputable def c24_6 : Code := cl c24_5
noncomputable def c24_7 : Code := cl c24_6
noncomputable def c24_8 : Code := cr c24_6
noncomputable def c24_9 : Code := cl c24_8
noncomputable def c24_10 : Code := cl c24_9
noncomputable def c24_11 : Code := cr c24_9
noncomputable def c24_12 : Code := cr c24_8
noncomputable def c24_13 : Code := cl c24_12
noncomputable def c24_14 : Code := cr c24_12
noncomputable def c24_15 : Code := cl c24_14
noncomputable def c24_16 : Code := cl c24_15
noncomputable def c24_17 : Code := cr c24_15
noncomputable def c24_18 : Code := cl c24_17
noncomputable def c24_19 : Code := cl c24_18
noncomputable def c24_20 : Code := cl c24_19
noncomputable def c24_21 : Code := cl c24_20
noncomputable def c24_22 : Code := cl c24_21
noncomputable def c24_23 : Code := cr c24_21
noncomputable def c24_24 : Code := cl c24_23
noncomputable def c24_25 : Code := cr c24_23
noncomputable def c24_26 : Code := cr c24_20
noncomputable def c24_27 : Code := cl c24_26
noncomputable def c24_28 : Code := cr c24_17
noncomputable def c24_29 : Code := cl c24_28
noncomputable def c24_30 : Code := cl c24_29
noncomputable def c24_31 : Code := cr c24_29
noncomputable def c24_32 : Code := cl c24_31
noncomputable def c24_33 : Code := cl c24_32
noncomputable def c24_34 : Code := cr c24_32
noncomputable def c24_35 : Code := cr c24_31
noncomputable def c24_36 : Code := cr c24_28
noncomputable def c24_37 : Code := cl c24_36
noncomputable def c24_38 : Code := cl c24_37
noncomputable def c24_39 : Code := cr c24_37
noncomputable def c24_40 : Code := cl c24_39
noncomputable def c24_41 : Code := cl c24_40
noncomputable def c24_42 : Code := cr c24_40
noncomputable def c24_43 : Code := cr c24_39
noncomputable def c24_44 : Code := cr c24_36
noncomputable def c24_45 : Code := cl c24_44
noncomputable def c24_46 : Code := cr c24_44
noncomputable def c24_47 : Code := cr c24_14
noncomputable def c24_48 : Code := cl c24_47
noncomputable def c24_49 : Code := cr c24_47
noncomputable def c24_50 : Code := cl c24_49
noncomputable def c24_51 : Code := cl c24_50
noncomputable def c24_52 : Code := cr c24_50
noncomputable def c24_53 : Code := cr c24_49
noncomputable def c24_54 : Code := cl c24_53
noncomputable def c24_55 : Code := cr c24_53
noncomputable def c24_56 : Code := cl c24_55
noncomputable def c24_57 : Code := cl c24_56
noncomputable def c24_58 : Code := cr c24_56
noncomputable def c24_59 : Code := cr c24_55
noncomputable def c24_60 : Code := cl c24_59
noncomputable def c24_61 : Code := cr c24_59
noncomputable def c24_62 : Code := cl c24_61
noncomputable def c24_63 : Code := cl c24_62
noncomputable def c24_64 : Code := cr c24_62
noncomputable def c24_65 : Code := cr c24_61
noncomputable def c24_66 : Code := cl c24_65
noncomputable def c24_67 : Code := cr c24_65
noncomputable def c24_68 : Code := cl c24_67
noncomputable def c24_69 : Code := cl c24_68
noncomputable def c24_70 : Code := cr c24_68
noncomputable def c24_71 : Code := cr c24_67
noncomputable def c24_72 : Code := cr c24_2
noncomputable def c24_73 : Code := cl c24_72
noncomputable def c24_74 : Code := cr c24_72
theorem ok24 : funcOk Try.f24 = true := by kernel_rfl
noncomputable def rs24 : List ResultVar := resultsOf Try.f24
noncomputable def C24_l1 (s_14 : ByteArray) (at_15 : Int) (c_17 : Int) (σ : AHeap) (out : Value × AHeap) : Int ⊕ Int → Prop
  | .inl end_16 => ∀ f, Fx Try.prog rs24 [.code c24_19, .blk 1, .code c24_28, .blk 0, .code c24_72] .normal (Fr.set (Fr.set (Fr.set (Fr.set f 0 (Value.string s_14)) 1 (Value.int .i64 at_15)) 5 (Value.int .i64 end_16)) 8 (Value.int .u8 c_17)) σ = some out
  | .inr end_18 => ∀ f, Fx Try.prog rs24 [.code c24_28, .blk 0, .code c24_72] .normal (Fr.set (Fr.set (Fr.set f 1 (Value.int .i64 at_15)) 5 (Value.int .i64 end_18)) 8 (Value.int .u8 c_17)) σ = some out
theorem q24_l1 (s_14 : ByteArray) (at_15 : Int) (c_17 : Int) (end_16 : Int) (σ : AHeap) (out : Value × AHeap) (f : Fr) (h : OptW (G_lex_token_l1 s_14 at_15 c_17 end_16) (C24_l1 s_14 at_15 c_17 σ out)) :
    Fx Try.prog rs24 [.code c24_19, .blk 1, .code c24_28, .blk 0, .code c24_72] .normal (Fr.set (Fr.set (Fr.set (Fr.set f 0 (Value.string s_14)) 1 (Value.int .i64 at_15)) 5 (Value.int .i64 end_16)) 8 (Value.int .u8 c_17)) σ = some out := by
  unfold G_lex_token_l1 at h
  refine Fx_loop (b := c24_20) rfl ?_
  refine Fx_seq (a := c24_21) (b := c24_26) rfl ?_
  refine Fx_seq (a := c24_22) (b := c24_23) rfl ?_
  refine Fx_text rfl (by kernel_rfl) ?_
  refine Ro_v (v := (Value.int .i64 end_16)) rfl (o_move rfl rfl) ?_
  refine Ro_v (v := (Value.string s_14)) rfl (o_move rfl rfl) ?_
  obtain ⟨x19, hx19, h⟩ := h.lt
  refine Ro_v (v := (Value.int .i64 x19)) rfl (o_lenS rfl tu9 rfl hx19) ?_
  obtain ⟨x20, hx20, h⟩ := h.lt
  refine Ro_v (v := (Value.bool x20)) rfl (o_lss rfl rfl rfl hx20) ?_
  refine Ro_v (v := (Value.bool x20)) rfl (o_move rfl rfl) ?_
  refine Ro_set (t := x20) (v := bif x20 then (Value.string s_14) else undef) rfl (w_T rfl rfl rfl) (by intro e; have e0 := e; subst e0; exact o_move rfl rfl) (fun e => ⟨gv_f e, rfl⟩) ?_
  refine Ro_set (t := x20) (v := bif x20 then (Value.int .i64 end_16) else undef) rfl (w_T rfl rfl rfl) (by intro e; have e0 := e; subst e0; exact o_move rfl rfl) (fun e => ⟨gv_f e, rfl⟩) ?_
  obtain ⟨x21, hx21, h⟩ := h.bd
  refine Ro_set (t := x20) (v := bif x20 then (Value.int .u8 x21) else undef) rfl (w_T rfl rfl rfl) (by intro e; have e0 := e; subst e0; exact o_idxS rfl tu9 rfl rfl hx21) (fun e => ⟨gv_f e, rfl⟩) ?_
  obtain ⟨x22, hx22, h⟩ := h.bd
  refine Ro_set (t := x20) (v := bif x20 then (Value.bool x22) else undef) rfl (w_T rfl rfl rfl) (by intro e; have e0 := e; subst e0; exact o_call (vs := [(Value.int .u8 x21)]) rfl rfl (w33 _ _ _ hx22)) (fun e => ⟨gv_f e, rfl⟩) ?_
  obtain ⟨x23, hx23, h⟩ := h.lt
  refine Ro_v (v := (Value.bool x23)) rfl (o_pick rfl rfl (by intro e; subst e; subst hx23; rfl) (by intro e; subst e; subst hx23; rfl)) ?_
  refine Ro_nil ?_
  refine Fx_cond (a := c24_24) (b := c24_25) rfl rfl (fun ex23 => ?_) (fun ex23 => ?_)
  · replace h := h.ifT ex23
    refine Fx_skip (c := c24_24) rfl ?_
    refine Fx_block (b := c24_27) rfl ?_
    refine Fx_text rfl (by kernel_rfl) ?_
    refine Ro_v (v := (Value.int .i64 end_16)) rfl (o_move rfl rfl) ?_
    obtain ⟨x24, hx24, h⟩ := h.lt
    refine Ro_v (v := (Value.int .i64 x24)) rfl (o_add rfl rfl rfl hx24) ?_
    refine Ro_v (v := (Value.int .i64 x24)) rfl (o_assign rfl rfl) ?_
    refine Ro_nil ?_
    refine Fx_blk ?_
    exact Fx_forget (Fr.set_of (Fr.set_of (Fr.set_of (Fr.set_of rfl rfl) rfl) rfl) rfl) (h.sm _)
  · replace h := h.ifF ex23
    refine Fx_exit rfl ?_
    refine Fx_out_code ?_
    refine Fx_out_code ?_
    refine Fx_out_eq ?_
    exact Fx_forget (Fr.set_of (Fr.set_of (Fr.set_of rfl rfl) rfl) rfl) (h.sm _)
theorem w24 (s_5 : ByteArray) (at_6 : Int) (σ : AHeap) (r : (Int × Int × Int × Int)) (h : G_lex_token s_5 at_6 = some r) : callL Try.prog 24 [(Value.string s_5), (Value.int .i64 at_6)] σ = some ((Value.tuple #[(Value.int .i64 r.1), (Value.int .i64 r.2.1), (Value.int .i64 r.2.2.1), (Value.int .i64 r.2.2.2)]), σ) := by
  refine callL_walk (fn := Try.f24) (c := c24_0) (rs := rs24) Try.func24 rfl ok24 rfl rfl ?_
  obtain ⟨out, ho⟩ : ∃ out, out = ((Value.tuple #[(Value.int .i64 r.1), (Value.int .i64 r.2.1), (Value.int .i64 r.2.2.1), (Value.int .i64 r.2.2.2)]), σ) := ⟨_, rfl⟩
  rw [← ho]
  replace h : OptW (G_lex_token s_5 at_6) (fun r => ((Value.tuple #[(Value.int .i64 r.1), (Value.int .i64 r.2.1), (Value.int .i64 r.2.2.1), (Value.int .i64 r.2.2.2)]), σ) = out) := ⟨r, h, ho.symm⟩
  unfold G_lex_token at h
  refine Fx_seq (a := c24_1) (b := c24_2) rfl ?_
  refine Fx_text rfl (by kernel_rfl) ?_
  refine Ro_v (v := (Value.int .i64 (0))) rfl (o_assign rfl rfl) ?_
  refine Ro_v (v := (Value.int .i64 (0))) rfl (o_assign rfl rfl) ?_
  refine Ro_v (v := (Value.int .i64 (0))) rfl (o_assign rfl rfl) ?_
  refine Ro_v (v := (Value.int .i64 (0))) rfl (o_assign rfl rfl) ?_
  refine Ro_nil ?_
  refine Fx_seq (a := c24_3) (b := c24_72) rfl ?_
  refine Fx_seq (a := c24_4) (b := c24_5) rfl ?_
  refine Fx_text rfl (by kernel_rfl) ?_
  refine Ro_v (v := (Value.string s_5)) rfl (o_move rfl rfl) ?_
  refine Ro_v (v := (Value.int .i64 at_6)) rfl (o_move rfl rfl) ?_
  obtain ⟨x7, hx7, h⟩ := h.bd
  refine Ro_v (v := (Value.int .u8 x7)) rfl (o_idxS rfl tu9 rfl rfl hx7) ?_
  refine Ro_v (v := (Value.int .u8 x7)) rfl (o_assign rfl rfl) ?_
  refine Ro_nil ?_
  refine Fx_block (b := c24_6) rfl ?_
  refine Fx_seq (a := c24_7) (b := c24_8) rfl ?_
  refine Fx_text rfl (by kernel_rfl) ?_
  refine Ro_v (v := (Value.int .u8 x7)) rfl (o_move rfl rfl) ?_
  obtain ⟨x8, hx8, h⟩ := h.bd
  refine Ro_v (v := (Value.bool x8)) rfl (o_call (vs := [(Value.int .u8 x7)]) rfl rfl (w31 _ _ _ hx8)) ?_
  refine Ro_v (v := (Value.bool x8)) rfl (o_assign rfl rfl) ?_
  refine Ro_nil ?_
  refine Fx_cond (a := c24_9) (b := c24_12) rfl rfl (fun ex8 => ?_) (fun ex8 => ?_)
  · replace h := h.ifT ex8
    refine Fx_seq (a := c24_10) (b := c24_11) rfl ?_
    refine Fx_text rfl (by kernel_rfl) ?_
    refine Ro_v (v := (Value.string s_5)) rfl (o_move rfl rfl) ?_
    refine Ro_v (v := (Value.int .i64 at_6)) rfl (o_move rfl rfl) ?_
    obtain ⟨⟨x9, x10, x11, x12⟩, hx9, h⟩ := h.bd
    refine Ro_v (v := (Value.tuple #[(Value.int .i64 x9), (Value.int .i64 x10), (Value.int .i64 x11), (Value.int .i64 x12)])) rfl (o_call (vs := [(Value.string s_5), (Value.int .i64 at_6)]) rfl rfl (w32 _ _ _ _ hx9)) ?_
    refine Ro_v (v := (Value.int .i64 x9)) rfl (o_ext rfl rfl rfl) ?_
    refine Ro_v (v := (Value.int .i64 x10)) rfl (o_ext rfl rfl rfl) ?_
    refine Ro_v (v := (Value.int .i64 x11)) rfl (o_ext rfl rfl rfl) ?_
    refine Ro_v (v := (Value.int .i64 x12)) rfl (o_ext rfl rfl rfl) ?_
    refine Ro_v (v := (Value.int .i64 x9)) rfl (o_assign rfl rfl) ?_
    refine Ro_v (v := (Value.int .i64 x10)) rfl (o_assign rfl rfl) ?_
    refine Ro_v (v := (Value.int .i64 x11)) rfl (o_assign rfl rfl) ?_
    refine Ro_v (v := (Value.int .i64 x12)) rfl (o_assign rfl rfl) ?_
    refine Ro_nil ?_
    exact Fx_ret rfl rfl (congrArg some h.sm)
  · replace h := h.ifF ex8
    refine Fx_seq (a := c24_13) (b := c24_14) rfl ?_
    refine Fx_text rfl (by kernel_rfl) ?_
    refine Ro_v (v := (Value.int .u8 x7)) rfl (o_move rfl rfl) ?_
    obtain ⟨x13, hx13, h⟩ := h.bd
    refine Ro_v (v := (Value.bool x13)) rfl (o_call (vs := [(Value.int .u8 x7)]) rfl rfl (w33 _ _ _ hx13)) ?_
    refine Ro_v (v := (Value.bool x13)) rfl (o_assign rfl rfl) ?_
    refine Ro_nil ?_
    refine Fx_cond (a := c24_15) (b := c24_47) rfl rfl (fun ex13 => ?_) (fun ex13 => ?_)
    · replace h := h.ifT ex13
      refine Fx_seq (a := c24_16) (b := c24_17) rfl ?_
      refine Fx_text rfl (by kernel_rfl) ?_
      refine Ro_v (v := (Value.int .i64 at_6)) rfl (o_move rfl rfl) ?_
      refine Ro_v (v := (Value.int .i64 at_6)) rfl (o_assign rfl rfl) ?_
      refine Ro_nil ?_
      refine Fx_seq (a := c24_18) (b := c24_28) rfl ?_
      refine Fx_block (b := c24_19) rfl ?_
      refine Fx_forget (Fr.set_of (Fr.set_of (Fr.set_of (Fr.set_of rfl rfl) rfl) rfl) rfl) ((OptW.loop h (fun s => C24_l1 s_5 at_6 x7 σ out (.inl s)) ?_ : C24_l1 s_5 at_6 x7 σ out (.inl at_6)) _)
      intro s hs f
      refine q24_l1 s_5 at_6 x7 s σ out f (hs.imp ?_)
      intro r hr
      rcases r with y | b
      · exact hr
      · obtain ⟨end_25, rfl⟩ : ∃ x, x = b := ⟨_, rfl⟩
        have h := hr
        intro f
        refine Fx_seq (a := c24_29) (b := c24_36) rfl ?_
        refine Fx_seq (a := c24_30) (b := c24_31) rfl ?_
        refine Fx_text rfl (by kernel_rfl) ?_
        refine Ro_v (v := (Value.int .i64 end_25)) rfl (o_move rfl rfl) ?_
        refine Ro_v (v := (Value.int .i64 at_6)) rfl (o_move rfl rfl) ?_
        obtain ⟨x26, hx26, h⟩ := h.lt
        refine Ro_v (v := (Value.int .i64 x26)) rfl (o_add rfl rfl rfl hx26) ?_
        obtain ⟨x27, hx27, h⟩ := h.lt
        refine Ro_v (v := (Value.bool x27)) rfl (o_gtr rfl rfl rfl hx27) ?_
        refine Ro_v (v := (Value.bool x27)) rfl (o_move rfl rfl) ?_
        refine Ro_set (t := x27) (v := bif x27 then (Value.int .u8 x7) else undef) rfl (w_T rfl rfl rfl) (by intro e; have e0 := e; subst e0; exact o_move rfl rfl) (fun e => ⟨gv_f e, rfl⟩) ?_
        obtain ⟨x28, hx28, h⟩ := h.lt
        refine Ro_set (t := x27) (v := bif x27 then (Value.bool x28) else undef) rfl (w_T rfl rfl rfl) (by intro e; have e0 := e; subst e0; exact o_eql rfl rfl rfl hx28) (fun e => ⟨gv_f e, rfl⟩) ?_
        obtain ⟨x29, hx29, h⟩ := h.lt
        refine Ro_v (v := (Value.bool x29)) rfl (o_pick rfl rfl (by intro e; subst e; subst hx29; rfl) (by intro e; subst e; subst hx29; rfl)) ?_
        refine Ro_nil ?_
        refine Fx_cond (a := c24_32) (b := c24_35) rfl rfl (fun ex29 => ?_) (fun ex29 => ?_)
        · replace h := h.ifT ex29
          refine Fx_seq (a := c24_33) (b := c24_34) rfl ?_
          refine Fx_text rfl (by kernel_rfl) ?_
          refine Ro_v (v := (Value.int .i64 at_6)) rfl (o_move rfl rfl) ?_
          refine Ro_v (v := (Value.int .i64 (0))) rfl (o_assign rfl rfl) ?_
          refine Ro_v (v := (Value.int .i64 (0))) rfl (o_assign rfl rfl) ?_
          refine Ro_v (v := (Value.int .i64 at_6)) rfl (o_assign rfl rfl) ?_
          refine Ro_v (v := (Value.int .i64 (2))) rfl (o_assign rfl rfl) ?_
          refine Ro_nil ?_
          exact Fx_ret rfl rfl (congrArg some h.sm)
        · replace h := h.ifF ex29
          refine Fx_skip (c := c24_35) rfl ?_
          refine Fx_seq (a := c24_37) (b := c24_44) rfl ?_
          refine Fx_seq (a := c24_38) (b := c24_39) rfl ?_
          refine Fx_text rfl (by kernel_rfl) ?_
          refine Ro_v (v := (Value.int .i64 end_25)) rfl (o_move rfl rfl) ?_
          refine Ro_v (v := (Value.int .i64 at_6)) rfl (o_move rfl rfl) ?_
          obtain ⟨x30, hx30, h⟩ := h.lt
          refine Ro_v (v := (Value.int .i64 x30)) rfl (o_sub rfl rfl rfl hx30) ?_
          obtain ⟨x31, hx31, h⟩ := h.lt
          refine Ro_v (v := (Value.bool x31)) rfl (o_gtr rfl rfl rfl hx31) ?_
          refine Ro_nil ?_
          refine Fx_cond (a := c24_40) (b := c24_43) rfl rfl (fun ex31 => ?_) (fun ex31 => ?_)
          · replace h := h.ifT ex31
            refine Fx_seq (a := c24_41) (b := c24_42) rfl ?_
            refine Fx_text rfl (by kernel_rfl) ?_
            refine Ro_v (v := (Value.int .i64 at_6)) rfl (o_move rfl rfl) ?_
            refine Ro_v (v := (Value.int .i64 (0))) rfl (o_assign rfl rfl) ?_
            refine Ro_v (v := (Value.int .i64 (0))) rfl (o_assign rfl rfl) ?_
            refine Ro_v (v := (Value.int .i64 at_6)) rfl (o_assign rfl rfl) ?_
            refine Ro_v (v := (Value.int .i64 (3))) rfl (o_assign rfl rfl) ?_
            refine Ro_nil ?_
            exact Fx_ret rfl rfl (congrArg some h.sm)
          · replace h := h.ifF ex31
            refine Fx_skip (c := c24_43) rfl ?_
            refine Fx_seq (a := c24_45) (b := c24_46) rfl ?_
            refine Fx_text rfl (by kernel_rfl) ?_
            refine Ro_v (v := (Value.int .i64 end_25)) rfl (o_move rfl rfl) ?_
            refine Ro_v (v := (Value.int .i64 (5))) rfl (o_assign rfl rfl) ?_
            refine Ro_v (v := (Value.int .i64 end_25)) rfl (o_assign rfl rfl) ?_
            refine Ro_v (v := (Value.int .i64 (0))) rfl (o_assign rfl rfl) ?_
            refine Ro_v (v := (Value.int .i64 (0))) rfl (o_assign rfl rfl) ?_
            refine Ro_nil ?_
            exact Fx_ret rfl rfl (congrArg some h.sm)
    · replace h := h.ifF ex13
      refine Fx_seq (a := c24_48) (b := c24_49) rfl ?_
      refine Fx_text rfl (by kernel_rfl) ?_
      refine Ro_v (v := (Value.int .u8 x7)) rfl (o_move rfl rfl) ?_
      obtain ⟨x32, hx32, h⟩ := h.lt
      refine Ro_v (v := (Value.bool x32)) rfl (o_eql rfl rfl rfl hx32) ?_
      refine Ro_v (v := (Value.bool x32)) rfl (o_assign rfl rfl) ?_
      refine Ro_nil ?_
      refine Fx_cond (a := c24_50) (b := c24_53) rfl rfl (fun ex32 => ?_) (fun ex32 => ?_)
      · replace h := h.ifT ex32
        refine Fx_seq (a := c24_51) (b := c24_52) rfl ?_
        refine Fx_text rfl (by kernel_rfl) ?_
        refine Ro_v (v := (Value.string s_5)) rfl (o_move rfl rfl) ?_
        refine Ro_v (v := (Value.int .i64 at_6)) rfl (o_move rfl rfl) ?_
        obtain ⟨⟨x33, x34, x35, x36⟩, hx33, h⟩ := h.bd
        refine Ro_v (v := (Value.tuple #[(Value.int .i64 x33), (Value.int .i64 x34), (Value.int .i64 x35), (Value.int .i64 x36)])) rfl (o_call (vs := [(Value.string s_5), (Value.int .i64 at_6)]) rfl rfl (w34 _ _ _ _ hx33)) ?_
        refine Ro_v (v := (Value.int .i64 x33)) rfl (o_ext rfl rfl rfl) ?_
        refine Ro_v (v := (Value.int .i64 x34)) rfl (o_ext rfl rfl rfl) ?_
        refine Ro_v (v := (Value.int .i64 x35)) rfl (o_ext rfl rfl rfl) ?_
        refine Ro_v (v := (Value.int .i64 x36)) rfl (o_ext rfl rfl rfl) ?_
        refine Ro_v (v := (Value.int .i64 x33)) rfl (o_assign rfl rfl) ?_
        refine Ro_v (v := (Value.int .i64 x34)) rfl (o_assign rfl rfl) ?_
        refine Ro_v (v := (Value.int .i64 x35)) rfl (o_assign rfl rfl) ?_
        refine Ro_v (v := (Value.int .i64 x36)) rfl (o_assign rfl rfl) ?_
        refine Ro_nil ?_
        exact Fx_ret rfl rfl (congrArg some h.sm)
      · replace h := h.ifF ex32
        refine Fx_seq (a := c24_54) (b := c24_55) rfl ?_
        refine Fx_text rfl (by kernel_rfl) ?_
        refine Ro_v (v := (Value.int .u8 x7)) rfl (o_move rfl rfl) ?_
        obtain ⟨x37, hx37, h⟩ := h.lt
        refine Ro_v (v := (Value.bool x37)) rfl (o_eql rfl rfl rfl hx37) ?_
        refine Ro_v (v := (Value.bool x37)) rfl (o_move rfl rfl) ?_
        refine Ro_set (t := x37) (v := bif x37 then (Value.int .i64 at_6) else undef) rfl (w_T rfl rfl rfl) (by intro e; have e0 := e; subst e0; exact o_move rfl rfl) (fun e => ⟨gv_f e, rfl⟩) ?_
        obtain ⟨x38, hx38, h⟩ := h.lt
        refine Ro_set (t := x37) (v := bif x37 then (Value.int .i64 x38) else undef) rfl (w_T rfl rfl rfl) (by intro e; have e0 := e; subst e0; exact o_add rfl rfl rfl hx38) (fun e => ⟨gv_f e, rfl⟩) ?_
        refine Ro_set (t := x37) (v := bif x37 then (Value.string s_5) else undef) rfl (w_T rfl rfl rfl) (by intro e; have e0 := e; subst e0; exact o_move rfl rfl) (fun e => ⟨gv_f e, rfl⟩) ?_
        obtain ⟨x39, hx39, h⟩ := h.lt
        refine Ro_set (t := x37) (v := bif x37 then (Value.int .i64 x39) else undef) rfl (w_T rfl rfl rfl) (by intro e; have e0 := e; subst e0; exact o_lenS rfl tu9 rfl hx39) (fun e => ⟨gv_f e, rfl⟩) ?_
        obtain ⟨x40, hx40, h⟩ := h.lt
        refine Ro_set (t := x37) (v := bif x37 then (Value.bool x40) else undef) rfl (w_T rfl rfl rfl) (by intro e; have e0 := e; subst e0; exact o_lss rfl rfl rfl hx40) (fun e => ⟨gv_f e, rfl⟩) ?_
        obtain ⟨x41, hx41, h⟩ := h.lt
        refine Ro_v (v := (Value.bool x41)) rfl (o_pick rfl rfl (by intro e; subst e; subst hx41; rfl) (by intro e; subst e; subst hx41; rfl)) ?_
        refine Ro_v (v := (Value.bool x41)) rfl (o_move rfl rfl) ?_
        refine Ro_set (t := x41) (v := bif x41 then (Value.string s_5) else undef) rfl (w_T rfl rfl rfl) (by intro e; have e0 := e; subst e0; exact o_move rfl rfl) (fun e => ⟨gv_f e, rfl⟩) ?_
        refine Ro_set (t := x41) (v := bif x41 then (Value.int .i64 at_6) else undef) rfl (w_T rfl rfl rfl) (by intro e; have e0 := e; subst e0; exact o_move rfl rfl) (fun e => ⟨gv_f e, rfl⟩) ?_
        obtain ⟨x42, hx42, h⟩ := h.lt
        refine Ro_set (t := x41) (v := bif x41 then (Value.int .i64 x42) else undef) rfl (w_T rfl rfl rfl) (by intro e; have e0 := e; subst e0; exact o_add rfl rfl rfl hx42) (fun e => ⟨gv_f e, rfl⟩) ?_
        obtain ⟨x43, hx43, h⟩ := h.bd
        refine Ro_set (t := x41) (v := bif x41 then (Value.int .u8 x43) else undef) rfl (w_T rfl rfl rfl) (by intro e; have e0 := e; subst e0; exact o_idxS rfl tu9 rfl rfl hx43) (fun e => ⟨gv_f e, rfl⟩) ?_
        obtain ⟨x44, hx44, h⟩ := h.lt
        refine Ro_set (t := x41) (v := bif x41 then (Value.bool x44) else undef) rfl (w_T rfl rfl rfl) (by intro e; have e0 := e; subst e0; exact o_eql rfl rfl rfl hx44) (fun e => ⟨gv_f e, rfl⟩) ?_
        obtain ⟨x45, hx45, h⟩ := h.lt
        refine Ro_v (v := (Value.bool x45)) rfl (o_pick rfl rfl (by intro e; subst e; subst hx45; rfl) (by intro e; subst e; subst hx45; rfl)) ?_
        refine Ro_v (v := (Value.bool x45)) rfl (o_assign rfl rfl) ?_
        refine Ro_nil ?_
        refine Fx_cond (a := c24_56) (b := c24_59) rfl rfl (fun ex45 => ?_) (fun ex45 => ?_)
        · replace h := h.ifT ex45
          refine Fx_seq (a := c24_57) (b := c24_58) rfl ?_
          refine Fx_text rfl (by kernel_rfl) ?_
          refine Ro_v (v := (Value.int .i64 at_6)) rfl (o_move rfl rfl) ?_
          obtain ⟨x46, hx46, h⟩ := h.lt
          refine Ro_v (v := (Value.int .i64 x46)) rfl (o_add rfl rfl rfl hx46) ?_
          refine Ro_v (v := (Value.int .i64 (8))) rfl (o_assign rfl rfl) ?_
          refine Ro_v (v := (Value.int .i64 x46)) rfl (o_assign rfl rfl) ?_
          refine Ro_v (v := (Value.int .i64 (0))) rfl (o_assign rfl rfl) ?_
          refine Ro_v (v := (Value.int .i64 (0))) rfl (o_assign rfl rfl) ?_
          refine Ro_nil ?_
          exact Fx_ret rfl rfl (congrArg some h.sm)
        · replace h := h.ifF ex45
          refine Fx_seq (a := c24_60) (b := c24_61) rfl ?_
          refine Fx_text rfl (by kernel_rfl) ?_
          refine Ro_v (v := (Value.int .u8 x7)) rfl (o_move rfl rfl) ?_
          obtain ⟨x47, hx47, h⟩ := h.bd
          refine Ro_v (v := (Value.int .i64 x47)) rfl (o_call (vs := [(Value.string (⟨#[40, 41, 91, 93, 58, 44, 61, 43, 45, 42, 60, 63]⟩ : ByteArray)), (Value.int .u8 x7)]) rfl rfl (w35 _ _ _ _ hx47)) ?_
          obtain ⟨x48, hx48, h⟩ := h.lt
          refine Ro_v (v := (Value.bool x48)) rfl (o_geq rfl rfl rfl hx48) ?_
          refine Ro_v (v := (Value.bool x48)) rfl (o_assign rfl rfl) ?_
          refine Ro_nil ?_
          refine Fx_cond (a := c24_62) (b := c24_65) rfl rfl (fun ex48 => ?_) (fun ex48 => ?_)
          · replace h := h.ifT ex48
            refine Fx_seq (a := c24_63) (b := c24_64) rfl ?_
            refine Fx_text rfl (by kernel_rfl) ?_
            refine Ro_v (v := (Value.int .i64 at_6)) rfl (o_move rfl rfl) ?_
            obtain ⟨x49, hx49, h⟩ := h.lt
            refine Ro_v (v := (Value.int .i64 x49)) rfl (o_add rfl rfl rfl hx49) ?_
            refine Ro_v (v := (Value.int .i64 (8))) rfl (o_assign rfl rfl) ?_
            refine Ro_v (v := (Value.int .i64 x49)) rfl (o_assign rfl rfl) ?_
            refine Ro_v (v := (Value.int .i64 (0))) rfl (o_assign rfl rfl) ?_
            refine Ro_v (v := (Value.int .i64 (0))) rfl (o_assign rfl rfl) ?_
            refine Ro_nil ?_
            exact Fx_ret rfl rfl (congrArg some h.sm)
          · replace h := h.ifF ex48
            refine Fx_seq (a := c24_66) (b := c24_67) rfl ?_
            refine Fx_text rfl (by kernel_rfl) ?_
            refine Ro_v (v := (Value.int .u8 x7)) rfl (o_move rfl rfl) ?_
            obtain ⟨x50, hx50, h⟩ := h.bd
            refine Ro_v (v := (Value.bool x50)) rfl (o_call (vs := [(Value.int .u8 x7)]) rfl rfl (w23 _ _ _ hx50)) ?_
            obtain ⟨x51, hx51, h⟩ := h.lt
            refine Ro_v (v := (Value.bool x51)) rfl (o_not rfl rfl hx51) ?_
            refine Ro_v (v := (Value.bool x51)) rfl (o_assign rfl rfl) ?_
            refine Ro_nil ?_
            refine Fx_cond (a := c24_68) (b := c24_71) rfl rfl (fun ex51 => ?_) (fun ex51 => ?_)
            · replace h := h.ifT ex51
              refine Fx_seq (a := c24_69) (b := c24_70) rfl ?_
              refine Fx_text rfl (by kernel_rfl) ?_
              refine Ro_v (v := (Value.int .i64 at_6)) rfl (o_move rfl rfl) ?_
              refine Ro_v (v := (Value.int .i64 (0))) rfl (o_assign rfl rfl) ?_
              refine Ro_v (v := (Value.int .i64 (0))) rfl (o_assign rfl rfl) ?_
              refine Ro_v (v := (Value.int .i64 at_6)) rfl (o_assign rfl rfl) ?_
              refine Ro_v (v := (Value.int .i64 (1))) rfl (o_assign rfl rfl) ?_
              refine Ro_nil ?_
              exact Fx_ret rfl rfl (congrArg some h.sm)
            · replace h := h.ifF ex51
              refine Fx_skip (c := c24_71) rfl ?_
              refine Fx_blk ?_
              refine Fx_seq (a := c24_73) (b := c24_74) rfl ?_
              refine Fx_text rfl (by kernel_rfl) ?_
              refine Ro_v (v := (Value.int .i64 at_6)) rfl (o_move rfl rfl) ?_
              refine Ro_v (v := (Value.int .i64 (0))) rfl (o_assign rfl rfl) ?_
              refine Ro_v (v := (Value.int .i64 (0))) rfl (o_assign rfl rfl) ?_
              refine Ro_v (v := (Value.int .i64 at_6)) rfl (o_assign rfl rfl) ?_
              refine Ro_v (v := (Value.int .i64 (2))) rfl (o_assign rfl rfl) ?_
              refine Ro_nil ?_
              exact Fx_ret rfl rfl (congrArg some h.sm)
noncomputable def c11_0 : Code := bodyOf Try.f11
noncomputable def c11_1 : Code := cl c11_0
noncomputable def c11_2 : Code := cr c11_0
noncomputable def c11_3 : Code := cl c11_2
noncomputable def c11_4 : Code := cl c11_3
noncomputable def c11_5 : Code := cr c11_3
noncomputable def c11_6 : Code := cl c11_5
noncomputable def c11_7 : Code := cl c11_6
noncomputable def c11_8 : Code := cr c11_6
noncomputable def c11_9 : Code := cr c11_5
noncomputable def c11_10 : Code := cr c11_2
noncomputable def c11_11 : Code := cl c11_10
noncomputable def c11_12 : Code := cr c11_10
noncomputable def c11_13 : Code := cl c11_12
noncomputable def c11_14 : Code := cl c11_13
noncomputable def c11_15 : Code := cl c11_14
noncomputable def c11_16 : Code := cl c11_15
noncomputable def c11_17 : Code := cl c11_16
noncomputable def c11_18 : Code := cr c11_16
noncomputable def c11_19 : Code := cl c11_18
noncomputable def c11_20 : Code := cr c11_18
noncomputable def c11_21 : Code := cl c11_20
noncomputable def c11_22 : Code := cr c11_20
noncomputable def c11_23 : Code := cl c11_22
noncomputable def c11_24 : Code := cl c11_23
noncomputable def c11_25 : Code := cl c11_24
noncomputable def c11_26 : Code := cl c11_25
noncomputable def c11_27 : Code := cl c11_26
noncomputable def c11_28 : Code := cr c11_26
noncomputable def c11_29 : Code := cl c11_28
noncomputable def c11_30 : Code := cr c11_28
noncomputable def c11_31 : Code := cr c11_25
noncomputable def c11_32 : Code := cl c11_31
noncomputable def c11_33 : Code := cl c11_32
noncomputable def c11_34 : Code := cl c11_33
noncomputable def c11_35 : Code := cr c11_33
noncomputable def c11_36 : Code := cl c11_35
noncomputable def c11_37 : Code := cl c11_36
noncomputable def c11_38 : Code := cr c11_36
noncomputable def c11_39 : Code := cl c11_38
noncomputable def c11_40 : Code := cl c11_39
noncomputable def c11_41 : Code := cr c11_39
noncomputable def c11_42 : Code := cr c11_38
noncomputable def c11_43 : Code := cl c11_42
noncomputable def c11_44 : Code := cr c11_42
noncomputable def c11_45 : Code := cl c11_44
noncomputable def c11_46 : Code := cr c11_44
noncomputable def c11_47 : Code := cl c11_46
noncomputable def c11_48 : Code := cr c11_46
noncomputable def c11_49 : Code := cl c11_48
noncomputable def c11_50 : Code := cr c11_48
noncomputable def c11_51 : Code := cl c11_50
noncomputable def c11_52 : Code := cr c11_50
noncomputable def c11_53 : Code := cl c11_52
noncomputable def c11_54 : Code := cr c11_52
noncomputable def c11_55 : Code := cr c11_31
noncomputable def c11_56 : Code := cr c11_22
noncomputable def c11_57 : Code := cl c11_56
noncomputable def c11_58 : Code := cl c11_57
noncomputable def c11_59 : Code := cr c11_57
noncomputable def c11_60 : Code := cl c11_59
noncomputable def c11_61 : Code := cl c11_60
noncomputable def c11_62 : Code := cr c11_60
noncomputable def c11_63 : Code := cr c11_59
noncomputable def c11_64 : Code := cr c11_56
noncomputable def c11_65 : Code := cl c11_64
noncomputable def c11_66 : Code := cr c11_64
noncomputable def c11_67 : Code := cl c11_66
noncomputable def c11_68 : Code := cl c11_67
noncomputable def c11_69 : Code := cr c11_67
noncomputable def c11_70 : Code := cl c11_69
noncomputable def c11_71 : Code := cl c11_70
noncomputable def c11_72 : Code := cr c11_70
noncomputable def c11_73 : Code := cr c11_69
noncomputable def c11_74 : Code := cr c11_66
noncomputable def c11_75 : Code := cl c11_74
noncomputable def c11_76 : Code := cr c11_74
theorem ok11 : funcOk Try.f11 = true := by kernel_rfl
noncomputable def rs11 : List ResultVar := resultsOf Try.f11
noncomputable def C11_l1 (src_8 : ByteArray)  (out : Value × AHeap) : (Sl × Int × AHeap) ⊕ (Sl × ByteArray × Int × Int × AHeap) → Prop
  | .inl (l_9, pos_10, σ) => ∀ f, Fx Try.prog rs11 [.code c11_13, .blk 0] .normal (Fr.set (Fr.set (Fr.set f 0 (Value.string src_8)) 2 (Sl.v l_9)) 6 (Value.int .i64 pos_10)) σ = some out
  | .inr (x11, x12, x13, x14, σ) => ((Value.tuple #[(Sl.v x11), (Value.string x12), (Value.int .i64 x13), (Value.int .i64 x14)]), σ) = out
noncomputable def C11_l2 (src_15 : ByteArray) (start_18 : Int)  (out : Value × AHeap) : (Sl × Int × Bool × AHeap) ⊕ ((Sl × Int × AHeap) ⊕ (Sl × ByteArray × Int × Int × AHeap)) → Prop
  | .inl (l_16, pos_17, comment_19, σ) => ∀ f, Fx Try.prog rs11 [.code c11_24, .blk 2, .code c11_56, .blk 1, .code c11_13, .blk 0] .normal (Fr.set (Fr.set (Fr.set (Fr.set (Fr.set f 0 (Value.string src_15)) 2 (Sl.v l_16)) 6 (Value.int .i64 pos_17)) 7 (Value.int .i64 start_18)) 8 (Value.bool comment_19)) σ = some out
  | .inr (.inl (l_20, pos_21, σ)) => ∀ f, Fx Try.prog rs11 [.code c11_56, .blk 1, .code c11_13, .blk 0] .normal (Fr.set (Fr.set (Fr.set (Fr.set f 0 (Value.string src_15)) 2 (Sl.v l_20)) 6 (Value.int .i64 pos_21)) 7 (Value.int .i64 start_18)) σ = some out
  | .inr (.inr (x22, x23, x24, x25, σ)) => ((Value.tuple #[(Sl.v x22), (Value.string x23), (Value.int .i64 x24), (Value.int .i64 x25)]), σ) = out
theorem p11_j1 (src_15 : ByteArray) (start_18 : Int) (l_32 : Sl) (pos_33 : Int) (comment_34 : Bool) (σ : AHeap) (out : Value × AHeap) (f : Fr) (h : OptW (G_lex_Scan_j1 src_15 start_18 l_32 pos_33 comment_34 σ) (C11_l2 src_15 start_18 out)) :
    Fx Try.prog rs11 [.code c11_55, .code c11_24, .blk 2, .code c11_56, .blk 1, .code c11_13, .blk 0] .normal (Fr.set (Fr.set (Fr.set (Fr.set (Fr.set f 0 (Value.string src_15)) 2 (Sl.v l_32)) 6 (Value.int .i64 pos_33)) 7 (Value.int .i64 start_18)) 8 (Value.bool comment_34)) σ = some out := by
  unfold G_lex_Scan_j1 at h
  refine Fx_text rfl (by kernel_rfl) ?_
  refine Ro_v (v := (Value.int .i64 pos_33)) rfl (o_move rfl rfl) ?_
  obtain ⟨x35, hx35, h⟩ := h.lt
  refine Ro_v (v := (Value.int .i64 x35)) rfl (o_add rfl rfl rfl hx35) ?_
  refine Ro_v (v := (Value.int .i64 x35)) rfl (o_assign rfl rfl) ?_
  refine Ro_nil ?_
  exact Fx_forget (Fr.set_of (Fr.set_of (Fr.set_of (Fr.set_of (Fr.set_of rfl rfl) rfl) rfl) rfl) rfl) (h.sm _)
theorem q11_l2 (src_15 : ByteArray) (start_18 : Int) (l_16 : Sl) (pos_17 : Int) (comment_19 : Bool) (σ : AHeap)  (out : Value × AHeap) (f : Fr) (h : OptW (G_lex_Scan_l2 src_15 start_18 (l_16, pos_17, comment_19, σ)) (C11_l2 src_15 start_18 out)) :
    Fx Try.prog rs11 [.code c11_24, .blk 2, .code c11_56, .blk 1, .code c11_13, .blk 0] .normal (Fr.set (Fr.set (Fr.set (Fr.set (Fr.set f 0 (Value.string src_15)) 2 (Sl.v l_16)) 6 (Value.int .i64 pos_17)) 7 (Value.int .i64 start_18)) 8 (Value.bool comment_19)) σ = some out := by
  unfold G_lex_Scan_l2 at h
  refine Fx_loop (b := c11_25) rfl ?_
  refine Fx_seq (a := c11_26) (b := c11_31) rfl ?_
  refine Fx_seq (a := c11_27) (b := c11_28) rfl ?_
  refine Fx_text rfl (by kernel_rfl) ?_
  refine Ro_v (v := (Value.int .i64 pos_17)) rfl (o_move rfl rfl) ?_
  refine Ro_v (v := (Value.string src_15)) rfl (o_move rfl rfl) ?_
  obtain ⟨x26, hx26, h⟩ := h.lt
  refine Ro_v (v := (Value.int .i64 x26)) rfl (o_lenS rfl tu9 rfl hx26) ?_
  obtain ⟨x27, hx27, h⟩ := h.lt
  refine Ro_v (v := (Value.bool x27)) rfl (o_lss rfl rfl rfl hx27) ?_
  refine Ro_nil ?_
  refine Fx_cond (a := c11_29) (b := c11_30) rfl rfl (fun ex27 => ?_) (fun ex27 => ?_)
  · replace h := h.ifT ex27
    refine Fx_skip (c := c11_29) rfl ?_
    refine Fx_seq (a := c11_32) (b := c11_55) rfl ?_
    refine Fx_block (b := c11_33) rfl ?_
    refine Fx_seq (a := c11_34) (b := c11_35) rfl ?_
    refine Fx_text rfl (by kernel_rfl) ?_
    refine Ro_v (v := (Value.string src_15)) rfl (o_move rfl rfl) ?_
    refine Ro_v (v := (Value.int .i64 pos_17)) rfl (o_move rfl rfl) ?_
    obtain ⟨x28, hx28, h⟩ := h.bd
    refine Ro_v (v := (Value.int .u8 x28)) rfl (o_idxS rfl tu9 rfl rfl hx28) ?_
    refine Ro_v (v := (Value.int .u8 x28)) rfl (o_assign rfl rfl) ?_
    refine Ro_nil ?_
    refine Fx_block (b := c11_36) rfl ?_
    refine Fx_seq (a := c11_37) (b := c11_38) rfl ?_
    refine Fx_text rfl (by kernel_rfl) ?_
    refine Ro_v (v := (Value.int .u8 x28)) rfl (o_move rfl rfl) ?_
    obtain ⟨x29, hx29, h⟩ := h.bd
    refine Ro_v (v := (Value.bool x29)) rfl (o_call (vs := [(Value.int .u8 x28)]) rfl rfl (w23 _ _ _ hx29)) ?_
    obtain ⟨x30, hx30, h⟩ := h.lt
    refine Ro_v (v := (Value.bool x30)) rfl (o_not rfl rfl hx30) ?_
    refine Ro_v (v := (Value.bool x30)) rfl (o_assign rfl rfl) ?_
    refine Ro_nil ?_
    refine Fx_cond (a := c11_39) (b := c11_42) rfl rfl (fun ex30 => ?_) (fun ex30 => ?_)
    · replace h := h.ifT ex30
      refine Fx_seq (a := c11_40) (b := c11_41) rfl ?_
      refine Fx_text rfl (by kernel_rfl) ?_
      refine Ro_v (v := (Value.int .i64 pos_17)) rfl (o_move rfl rfl) ?_
      refine Ro_v (v := (Sl.v Sl.nil)) rfl (o_assign rfl rfl) ?_
      refine Ro_v (v := (Value.string (⟨#[]⟩ : ByteArray))) rfl (o_assign rfl rfl) ?_
      refine Ro_v (v := (Value.int .i64 pos_17)) rfl (o_assign rfl rfl) ?_
      refine Ro_v (v := (Value.int .i64 (1))) rfl (o_assign rfl rfl) ?_
      refine Ro_nil ?_
      exact Fx_ret rfl rfl (congrArg some h.sm)
    · replace h := h.ifF ex30
      refine Fx_seq (a := c11_43) (b := c11_44) rfl ?_
      refine Fx_text rfl (by kernel_rfl) ?_
      refine Ro_v (v := (Value.bool comment_19)) rfl (o_move rfl rfl) ?_
      refine Ro_v (v := (Value.bool comment_19)) rfl (o_assign rfl rfl) ?_
      refine Ro_nil ?_
      refine Fx_cond (a := c11_45) (b := c11_46) rfl rfl (fun ecomment_19 => ?_) (fun ecomment_19 => ?_)
      · replace h := h.ifT ecomment_19
        refine Fx_text rfl (by kernel_rfl) ?_
        refine Ro_v (v := (Value.int .u8 x28)) rfl (o_move rfl rfl) ?_
        obtain ⟨x31, hx31, h⟩ := h.lt
        refine Ro_v (v := (Value.bool x31)) rfl (o_neq rfl rfl rfl hx31) ?_
        refine Ro_v (v := (Value.bool x31)) rfl (o_assign rfl rfl) ?_
        refine Ro_nil ?_
        refine Fx_blk ?_
        refine Fx_blk ?_
        exact Fx_forget (Fr.set_of (Fr.set_of (Fr.set_of (Fr.set_of (Fr.set_of rfl rfl) rfl) rfl) rfl) rfl) (p11_j1 _ _ _ _ _ _ _ _ h)
      · replace h := h.ifF ecomment_19
        refine Fx_seq (a := c11_47) (b := c11_48) rfl ?_
        refine Fx_text rfl (by kernel_rfl) ?_
        refine Ro_v (v := (Value.int .u8 x28)) rfl (o_move rfl rfl) ?_
        obtain ⟨x36, hx36, h⟩ := h.lt
        refine Ro_v (v := (Value.bool x36)) rfl (o_eql rfl rfl rfl hx36) ?_
        refine Ro_v (v := (Value.bool x36)) rfl (o_assign rfl rfl) ?_
        refine Ro_nil ?_
        refine Fx_cond (a := c11_49) (b := c11_50) rfl rfl (fun ex36 => ?_) (fun ex36 => ?_)
        · replace h := h.ifT ex36
          refine Fx_text rfl (by kernel_rfl) ?_
          refine Ro_v (v := (Value.bool true)) rfl (o_assign rfl rfl) ?_
          refine Ro_nil ?_
          refine Fx_blk ?_
          refine Fx_blk ?_
          exact Fx_forget (Fr.set_of (Fr.set_of (Fr.set_of (Fr.set_of (Fr.set_of rfl rfl) rfl) rfl) rfl) rfl) (p11_j1 _ _ _ _ _ _ _ _ h)
        · replace h := h.ifF ex36
          refine Fx_seq (a := c11_51) (b := c11_52) rfl ?_
          refine Fx_text rfl (by kernel_rfl) ?_
          refine Ro_v (v := (Value.int .u8 x28)) rfl (o_move rfl rfl) ?_
          obtain ⟨x37, hx37, h⟩ := h.lt
          refine Ro_v (v := (Value.bool x37)) rfl (o_neq rfl rfl rfl hx37) ?_
          refine Ro_v (v := (Value.bool x37)) rfl (o_move rfl rfl) ?_
          refine Ro_set (t := x37) (v := bif x37 then (Value.int .u8 x28) else undef) rfl (w_T rfl rfl rfl) (by intro e; have e0 := e; subst e0; exact o_move rfl rfl) (fun e => ⟨gv_f e, rfl⟩) ?_
          obtain ⟨x38, hx38, h⟩ := h.lt
          refine Ro_set (t := x37) (v := bif x37 then (Value.bool x38) else undef) rfl (w_T rfl rfl rfl) (by intro e; have e0 := e; subst e0; exact o_neq rfl rfl rfl hx38) (fun e => ⟨gv_f e, rfl⟩) ?_
          obtain ⟨x39, hx39, h⟩ := h.lt
          refine Ro_v (v := (Value.bool x39)) rfl (o_pick rfl rfl (by intro e; subst e; subst hx39; rfl) (by intro e; subst e; subst hx39; rfl)) ?_
          refine Ro_v (v := (Value.bool x39)) rfl (o_move rfl rfl) ?_
          refine Ro_set (t := x39) (v := bif x39 then (Value.int .u8 x28) else undef) rfl (w_T rfl rfl rfl) (by intro e; have e0 := e; subst e0; exact o_move rfl rfl) (fun e => ⟨gv_f e, rfl⟩) ?_
          obtain ⟨x40, hx40, h⟩ := h.lt
          refine Ro_set (t := x39) (v := bif x39 then (Value.bool x40) else undef) rfl (w_T rfl rfl rfl) (by intro e; have e0 := e; subst e0; exact o_neq rfl rfl rfl hx40) (fun e => ⟨gv_f e, rfl⟩) ?_
          obtain ⟨x41, hx41, h⟩ := h.lt
          refine Ro_v (v := (Value.bool x41)) rfl (o_pick rfl rfl (by intro e; subst e; subst hx41; rfl) (by intro e; subst e; subst hx41; rfl)) ?_
          refine Ro_v (v := (Value.bool x41)) rfl (o_move rfl rfl) ?_
          refine Ro_set (t := x41) (v := bif x41 then (Value.int .u8 x28) else undef) rfl (w_T rfl rfl rfl) (by intro e; have e0 := e; subst e0; exact o_move rfl rfl) (fun e => ⟨gv_f e, rfl⟩) ?_
          obtain ⟨x42, hx42, h⟩ := h.lt
          refine Ro_set (t := x41) (v := bif x41 then (Value.bool x42) else undef) rfl (w_T rfl rfl rfl) (by intro e; have e0 := e; subst e0; exact o_neq rfl rfl rfl hx42) (fun e => ⟨gv_f e, rfl⟩) ?_
          obtain ⟨x43, hx43, h⟩ := h.lt
          refine Ro_v (v := (Value.bool x43)) rfl (o_pick rfl rfl (by intro e; subst e; subst hx43; rfl) (by intro e; subst e; subst hx43; rfl)) ?_
          refine Ro_v (v := (Value.bool x43)) rfl (o_assign rfl rfl) ?_
          refine Ro_nil ?_
          refine Fx_cond (a := c11_53) (b := c11_54) rfl rfl (fun ex43 => ?_) (fun ex43 => ?_)
          · replace h := h.ifT ex43
            refine Fx_exit rfl ?_
            refine Fx_out_ne rfl ?_
            refine Fx_out_ne rfl ?_
            refine Fx_out_code ?_
            refine Fx_out_code ?_
            refine Fx_out_eq ?_
            exact Fx_forget (Fr.set_of (Fr.set_of (Fr.set_of (Fr.set_of rfl rfl) rfl) rfl) rfl) (h.sm _)
          · replace h := h.ifF ex43
            refine Fx_skip (c := c11_54) rfl ?_
            refine Fx_blk ?_
            refine Fx_blk ?_
            refine Fx_text rfl (by kernel_rfl) ?_
            refine Ro_v (v := (Value.int .i64 pos_17)) rfl (o_move rfl rfl) ?_
            obtain ⟨x44, hx44, h⟩ := h.lt
            refine Ro_v (v := (Value.int .i64 x44)) rfl (o_add rfl rfl rfl hx44) ?_
            refine Ro_v (v := (Value.int .i64 x44)) rfl (o_assign rfl rfl) ?_
            refine Ro_nil ?_
            exact Fx_forget (Fr.set_of (Fr.set_of (Fr.set_of (Fr.set_of (Fr.set_of rfl rfl) rfl) rfl) rfl) rfl) (h.sm _)
  · replace h := h.ifF ex27
    refine Fx_exit rfl ?_
    refine Fx_out_code ?_
    refine Fx_out_code ?_
    refine Fx_out_eq ?_
    exact Fx_forget (Fr.set_of (Fr.set_of (Fr.set_of (Fr.set_of rfl rfl) rfl) rfl) rfl) (h.sm _)
theorem p11_j2 (src_8 : ByteArray) (l_48 : Sl) (pos_49 : Int) (start_50 : Int) (σ : AHeap) (out : Value × AHeap) (f : Fr) (h : OptW (G_lex_Scan_j2 src_8 l_48 pos_49 start_50 σ) (C11_l1 src_8 out)) :
    Fx Try.prog rs11 [.code c11_56, .blk 1, .code c11_13, .blk 0] .normal (Fr.set (Fr.set (Fr.set (Fr.set f 0 (Value.string src_8)) 2 (Sl.v l_48)) 6 (Value.int .i64 pos_49)) 7 (Value.int .i64 start_50)) σ = some out := by
  unfold G_lex_Scan_j2 at h
  refine Fx_seq (a := c11_57) (b := c11_64) rfl ?_
  refine Fx_seq (a := c11_58) (b := c11_59) rfl ?_
  refine Fx_text rfl (by kernel_rfl) ?_
  refine Ro_v (v := (Value.int .i64 pos_49)) rfl (o_move rfl rfl) ?_
  refine Ro_v (v := (Value.string src_8)) rfl (o_move rfl rfl) ?_
  obtain ⟨x51, hx51, h⟩ := h.lt
  refine Ro_v (v := (Value.int .i64 x51)) rfl (o_lenS rfl tu9 rfl hx51) ?_
  obtain ⟨x52, hx52, h⟩ := h.lt
  refine Ro_v (v := (Value.bool x52)) rfl (o_eql rfl rfl rfl hx52) ?_
  refine Ro_nil ?_
  refine Fx_cond (a := c11_60) (b := c11_63) rfl rfl (fun ex52 => ?_) (fun ex52 => ?_)
  · replace h := h.ifT ex52
    refine Fx_seq (a := c11_61) (b := c11_62) rfl ?_
    refine Fx_draw (ops := opsIn c11_61) (l := [(opA (opsIn c11_61) 0, 0), (opA (opsIn c11_61) 1, 1), (opA (opsIn c11_61) 2, 2), (opA (opsIn c11_61) 3, 3), (opA (opsIn c11_61) 4, 4), (opA (opsIn c11_61) 5, 5), (opA (opsIn c11_61) 6, 6), (opA (opsIn c11_61) 7, 7)]) rfl (by kernel_rfl) (by kernel_rfl) (by kernel_rfl) ?_
    refine Rd_v (v := (Sl.v l_48)) (ps' := []) rfl (o_move rfl rfl) (reads_no rfl) rfl ?_
    refine Rd_v (v := (Value.string src_8)) (ps' := []) rfl (o_move rfl rfl) (reads_no rfl) rfl ?_
    refine Rd_v (v := (Value.int .i64 start_50)) (ps' := []) rfl (o_move rfl rfl) (reads_no rfl) rfl ?_
    obtain ⟨x53, hx53, h⟩ := h.bd
    refine Rd_v (v := (Value.string x53)) (ps' := []) rfl (o_slS (some start_50) none rfl tu9 rfl rfl rfl hx53) reads_nil rfl ?_
    refine Rd_v (v := (Sl.v l_48)) (ps' := []) rfl (o_assign rfl rfl) (reads_no rfl) rfl ?_
    refine Rd_v (v := (Value.string x53)) (ps' := []) rfl (o_assign rfl rfl) (reads_no rfl) rfl ?_
    refine Rd_v (v := (Value.int .i64 (0))) (ps' := []) rfl (o_assign rfl rfl) (reads_no rfl) rfl ?_
    refine Rd_v (v := (Value.int .i64 (0))) (ps' := []) rfl (o_assign rfl rfl) (reads_no rfl) rfl ?_
    refine Rd_nil ?_
    exact Fx_ret rfl rfl (congrArg some h.sm)
  · replace h := h.ifF ex52
    refine Fx_skip (c := c11_63) rfl ?_
    refine Fx_seq (a := c11_65) (b := c11_66) rfl ?_
    refine Fx_text rfl (by kernel_rfl) ?_
    refine Ro_v (v := (Value.string src_8)) rfl (o_move rfl rfl) ?_
    refine Ro_v (v := (Value.int .i64 pos_49)) rfl (o_move rfl rfl) ?_
    obtain ⟨⟨x54, x55, x56, x57⟩, hx54, h⟩ := h.bd
    refine Ro_v (v := (Value.tuple #[(Value.int .i64 x54), (Value.int .i64 x55), (Value.int .i64 x56), (Value.int .i64 x57)])) rfl (o_call (vs := [(Value.string src_8), (Value.int .i64 pos_49)]) rfl rfl (w24 _ _ _ _ hx54)) ?_
    refine Ro_v (v := (Value.tuple #[(Value.int .i64 x54), (Value.int .i64 x55), (Value.int .i64 x56), (Value.int .i64 x57)])) rfl (o_move rfl rfl) ?_
    refine Ro_v (v := (Value.int .i64 x54)) rfl (o_ext rfl rfl rfl) ?_
    refine Ro_v (v := (Value.int .i64 x55)) rfl (o_ext rfl rfl rfl) ?_
    refine Ro_v (v := (Value.int .i64 x56)) rfl (o_ext rfl rfl rfl) ?_
    refine Ro_v (v := (Value.int .i64 x57)) rfl (o_ext rfl rfl rfl) ?_
    refine Ro_v (v := (Value.int .i64 x54)) rfl (o_assign rfl rfl) ?_
    refine Ro_v (v := (Value.int .i64 x55)) rfl (o_assign rfl rfl) ?_
    refine Ro_v (v := (Value.int .i64 x56)) rfl (o_assign rfl rfl) ?_
    refine Ro_v (v := (Value.int .i64 x57)) rfl (o_assign rfl rfl) ?_
    refine Ro_nil ?_
    refine Fx_seq (a := c11_67) (b := c11_74) rfl ?_
    refine Fx_seq (a := c11_68) (b := c11_69) rfl ?_
    refine Fx_text rfl (by kernel_rfl) ?_
    refine Ro_v (v := (Value.int .i64 x57)) rfl (o_move rfl rfl) ?_
    obtain ⟨x58, hx58, h⟩ := h.lt
    refine Ro_v (v := (Value.bool x58)) rfl (o_neq rfl rfl rfl hx58) ?_
    refine Ro_nil ?_
    refine Fx_cond (a := c11_70) (b := c11_73) rfl rfl (fun ex58 => ?_) (fun ex58 => ?_)
    · replace h := h.ifT ex58
      refine Fx_seq (a := c11_71) (b := c11_72) rfl ?_
      refine Fx_text rfl (by kernel_rfl) ?_
      refine Ro_v (v := (Value.int .i64 x56)) rfl (o_move rfl rfl) ?_
      refine Ro_v (v := (Value.int .i64 x57)) rfl (o_move rfl rfl) ?_
      refine Ro_v (v := (Sl.v Sl.nil)) rfl (o_assign rfl rfl) ?_
      refine Ro_v (v := (Value.string (⟨#[]⟩ : ByteArray))) rfl (o_assign rfl rfl) ?_
      refine Ro_v (v := (Value.int .i64 x56)) rfl (o_assign rfl rfl) ?_
      refine Ro_v (v := (Value.int .i64 x57)) rfl (o_assign rfl rfl) ?_
      refine Ro_nil ?_
      exact Fx_ret rfl rfl (congrArg some h.sm)
    · replace h := h.ifF ex58
      refine Fx_skip (c := c11_73) rfl ?_
      refine Fx_seq (a := c11_75) (b := c11_76) rfl ?_
      refine Fx_draw (ops := opsIn c11_75) (l := [(opA (opsIn c11_75) 0, 0), (opA (opsIn c11_75) 1, 1), (opA (opsIn c11_75) 2, 2), (opA (opsIn c11_75) 3, 3), (opA (opsIn c11_75) 4, 4), (opA (opsIn c11_75) 5, 5), (opA (opsIn c11_75) 6, 6), (opA (opsIn c11_75) 7, 7), (opA (opsIn c11_75) 8, 8), (opA (opsIn c11_75) 9, 9), (opA (opsIn c11_75) 10, 10), (opA (opsIn c11_75) 11, 11), (opA (opsIn c11_75) 12, 12), (opA (opsIn c11_75) 13, 13)]) rfl (by kernel_rfl) (by kernel_rfl) (by kernel_rfl) ?_
      refine Rd_v (v := (Sl.v l_48)) (ps' := []) rfl (o_move rfl rfl) (reads_no rfl) rfl ?_
      refine Rd_v (v := (Value.int .i64 x54)) (ps' := []) rfl (o_move rfl rfl) (reads_no rfl) rfl ?_
      refine Rd_v (v := (Value.string src_8)) (ps' := []) rfl (o_move rfl rfl) (reads_no rfl) rfl ?_
      refine Rd_v (v := (Value.int .i64 start_50)) (ps' := []) rfl (o_move rfl rfl) (reads_no rfl) rfl ?_
      refine Rd_v (v := (Value.int .i64 pos_49)) (ps' := []) rfl (o_move rfl rfl) (reads_no rfl) rfl ?_
      obtain ⟨x59, hx59, h⟩ := h.bd
      refine Rd_v (v := (Value.string x59)) (ps' := []) rfl (o_slS (some start_50) (some pos_49) rfl tu9 rfl rfl rfl hx59) reads_nil rfl ?_
      refine Rd_v (v := (Value.string src_8)) (ps' := []) rfl (o_move rfl rfl) (reads_no rfl) rfl ?_
      refine Rd_v (v := (Value.int .i64 pos_49)) (ps' := []) rfl (o_move rfl rfl) (reads_no rfl) rfl ?_
      refine Rd_v (v := (Value.int .i64 x55)) (ps' := []) rfl (o_move rfl rfl) (reads_no rfl) rfl ?_
      obtain ⟨x60, hx60, h⟩ := h.bd
      refine Rd_v (v := (Value.string x60)) (ps' := []) rfl (o_slS (some pos_49) (some x55) rfl tu9 rfl rfl rfl hx60) reads_nil rfl ?_
      refine Rd_v (v := (Value.agg #[(Value.int .i64 x54), (Value.string x59), (Value.string x60)])) (ps' := []) rfl (o_build (ps := [(0, (Value.int .i64 x54)), (1, (Value.string x59)), (2, (Value.string x60))]) (cs := #[(Value.int .i64 x54), (Value.string x59), (Value.string x60)]) rfl tz33 tp33 rfl rfl rfl) (reads_no rfl) rfl ?_
      obtain ⟨⟨x61, σ62⟩, hσ62, h⟩ := h.lt
      refine Rd_v (v := (Sl.v x61)) (ps' := []) rfl (o_buildSl (ps := [(0, (Value.agg #[(Value.int .i64 x54), (Value.string x59), (Value.string x60)]))]) (cs := #[(Value.int .i64 x54), (Value.string x59), (Value.string x60)]) (vs := [(Value.int .i64 x54), (Value.string x59), (Value.string x60)]) rfl tu23 ts33 tz33 rfl rfl (by decide) rfl rfl hσ62.symm) (reads_no rfl) rfl ?_
      obtain ⟨⟨x63, σ64⟩, hσ64, h⟩ := h.bd
      refine Rd_v (v := (Sl.v x63)) (ps' := [(12, σ62)]) rfl (o_appSl rfl tu23 tu23 rfl ti33 rfl rfl rfl rfl hσ64) (reads_no rfl) rfl ?_
      refine Rd_v (v := (Sl.v x63)) (ps' := [(12, σ62)]) rfl (o_assign rfl rfl) (reads_no rfl) rfl ?_
      refine Rd_nil ?_
      refine Fx_text rfl (by kernel_rfl) ?_
      refine Ro_v (v := (Value.int .i64 x55)) rfl (o_move rfl rfl) ?_
      refine Ro_v (v := (Value.int .i64 x55)) rfl (o_assign rfl rfl) ?_
      refine Ro_nil ?_
      refine Fx_blk ?_
      exact Fx_forget (Fr.set_of (Fr.set_of (Fr.set_of rfl rfl) rfl) rfl) (h.sm _)
theorem q11_l1 (src_8 : ByteArray) (l_9 : Sl) (pos_10 : Int) (σ : AHeap)  (out : Value × AHeap) (f : Fr) (h : OptW (G_lex_Scan_l1 src_8 (l_9, pos_10, σ)) (C11_l1 src_8 out)) :
    Fx Try.prog rs11 [.code c11_13, .blk 0] .normal (Fr.set (Fr.set (Fr.set f 0 (Value.string src_8)) 2 (Sl.v l_9)) 6 (Value.int .i64 pos_10)) σ = some out := by
  unfold G_lex_Scan_l1 at h
  refine Fx_loop (b := c11_14) rfl ?_
  refine Fx_block (b := c11_15) rfl ?_
  refine Fx_scope (b := c11_16) rfl ?_
  refine Fx_seq (a := c11_17) (b := c11_18) rfl ?_
  refine Fx_text rfl (by kernel_rfl) ?_
  refine Ro_v (v := (Value.int .i64 pos_10)) rfl (o_move rfl rfl) ?_
  refine Ro_v (v := (Value.int .i64 pos_10)) rfl (o_assign rfl rfl) ?_
  refine Ro_nil ?_
  refine Fx_seq (a := c11_19) (b := c11_20) rfl ?_
  refine Fx_text rfl (by kernel_rfl) ?_
  refine Ro_v (v := (Value.bool false)) rfl (o_assign rfl rfl) ?_
  refine Ro_nil ?_
  refine Fx_seq (a := c11_21) (b := c11_22) rfl ?_
  refine Fx_label (c := c11_21) rfl ?_
  refine Fx_seq (a := c11_23) (b := c11_56) rfl ?_
  refine Fx_block (b := c11_24) rfl ?_
  refine Fx_forget (Fr.set_of (Fr.set_of (Fr.set_of (Fr.set_of (Fr.set_of rfl rfl) rfl) rfl) rfl) rfl) ((OptW.loop h (fun s => C11_l2 src_8 pos_10 out (.inl s)) ?_ : C11_l2 src_8 pos_10 out (.inl (l_9, pos_10, false, σ))) _)
  intro s hs f
  obtain ⟨l_16, pos_17, comment_19, σ⟩ := s
  refine q11_l2 src_8 pos_10 l_16 pos_17 comment_19 σ out f (hs.imp ?_)
  intro r hr
  rcases r with y | b
  · exact hr
  · rcases b with b | b
    · obtain ⟨l_45, pos_46, σ47⟩ := b
      have h := hr
      intro f
      exact Fx_forget (Fr.set_of (Fr.set_of (Fr.set_of (Fr.set_of rfl rfl) rfl) rfl) rfl) (p11_j2 _ _ _ _ _ _ _ h)
    · obtain ⟨x65, x66, x67, x68, σ69⟩ := b
      have h := hr
      exact h.sm
theorem w11 (src_5 : ByteArray) (σ : AHeap) (r : (Sl × ByteArray × Int × Int × AHeap)) (h : G_lex_Scan src_5 σ = some r) : callL Try.prog 11 [(Value.string src_5)] σ = some ((Value.tuple #[(Sl.v r.1), (Value.string r.2.1), (Value.int .i64 r.2.2.1), (Value.int .i64 r.2.2.2.1)]), r.2.2.2.2) := by
  refine callL_walk (fn := Try.f11) (c := c11_0) (rs := rs11) Try.func11 rfl ok11 rfl rfl ?_
  obtain ⟨out, ho⟩ : ∃ out, out = ((Value.tuple #[(Sl.v r.1), (Value.string r.2.1), (Value.int .i64 r.2.2.1), (Value.int .i64 r.2.2.2.1)]), r.2.2.2.2) := ⟨_, rfl⟩
  rw [← ho]
  replace h : OptW (G_lex_Scan src_5 σ) (fun r => ((Value.tuple #[(Sl.v r.1), (Value.string r.2.1), (Value.int .i64 r.2.2.1), (Value.int .i64 r.2.2.2.1)]), r.2.2.2.2) = out) := ⟨r, h, ho.symm⟩
  unfold G_lex_Scan at h
  refine Fx_seq (a := c11_1) (b := c11_2) rfl ?_
  refine Fx_text rfl (by kernel_rfl) ?_
  refine Ro_v (v := (Sl.v Sl.nil)) rfl (o_assign rfl rfl) ?_
  refine Ro_v (v := (Value.string (⟨#[]⟩ : ByteArray))) rfl (o_assign rfl rfl) ?_
  refine Ro_v (v := (Value.int .i64 (0))) rfl (o_assign rfl rfl) ?_
  refine Ro_v (v := (Value.int .i64 (0))) rfl (o_assign rfl rfl) ?_
  refine Ro_nil ?_
  refine Fx_seq (a := c11_3) (b := c11_10) rfl ?_
  refine Fx_seq (a := c11_4) (b := c11_5) rfl ?_
  refine Fx_text rfl (by kernel_rfl) ?_
  refine Ro_v (v := (Value.string src_5)) rfl (o_move rfl rfl) ?_
  obtain ⟨x6, hx6, h⟩ := h.lt
  refine Ro_v (v := (Value.int .i64 x6)) rfl (o_lenS rfl tu9 rfl hx6) ?_
  obtain ⟨x7, hx7, h⟩ := h.lt
  refine Ro_v (v := (Value.bool x7)) rfl (o_gtr rfl rfl rfl hx7) ?_
  refine Ro_nil ?_
  refine Fx_cond (a := c11_6) (b := c11_9) rfl rfl (fun ex7 => ?_) (fun ex7 => ?_)
  · replace h := h.ifT ex7
    refine Fx_seq (a := c11_7) (b := c11_8) rfl ?_
    refine Fx_text rfl (by kernel_rfl) ?_
    refine Ro_v (v := (Sl.v Sl.nil)) rfl (o_assign rfl rfl) ?_
    refine Ro_v (v := (Value.string (⟨#[]⟩ : ByteArray))) rfl (o_assign rfl rfl) ?_
    refine Ro_v (v := (Value.int .i64 (4096))) rfl (o_assign rfl rfl) ?_
    refine Ro_v (v := (Value.int .i64 (3))) rfl (o_assign rfl rfl) ?_
    refine Ro_nil ?_
    exact Fx_ret rfl rfl (congrArg some h.sm)
  · replace h := h.ifF ex7
    refine Fx_skip (c := c11_9) rfl ?_
    refine Fx_seq (a := c11_11) (b := c11_12) rfl ?_
    refine Fx_text rfl (by kernel_rfl) ?_
    refine Ro_v (v := (Value.int .i64 (0))) rfl (o_assign rfl rfl) ?_
    refine Ro_nil ?_
    refine Fx_block (b := c11_13) rfl ?_
    refine Fx_forget (Fr.set_of (Fr.set_of (Fr.set_of rfl rfl) rfl) rfl) ((OptW.loop h (fun s => C11_l1 src_5 out (.inl s)) ?_ : C11_l1 src_5 out (.inl (Sl.nil, (0), σ))) _)
    intro s hs f
    obtain ⟨l_9, pos_10, σ⟩ := s
    refine q11_l1 src_5 l_9 pos_10 σ out f (hs.imp ?_)
    intro r hr
    rcases r with y | b
    · exact hr
    · obtain ⟨x70, x71, x72, x73, σ74⟩ := b
      have h := hr
      exact h.sm
noncomputable def c14_0 : Code := bodyOf Try.f14
noncomputable def c14_1 : Code := cl c14_0
noncomputable def c14_2 : Code := cr c14_0
noncomputable def c14_3 : Code := cl c14_2
noncomputable def c14_4 : Code := cl c14_3
noncomputable def c14_5 : Code := cr c14_3
noncomputable def c14_6 : Code := cl c14_5
noncomputable def c14_7 : Code := cl c14_6
noncomputable def c14_8 : Code := cr c14_6
noncomputable def c14_9 : Code := cr c14_5
noncomputable def c14_10 : Code := cr c14_2
noncomputable def c14_11 : Code := cl c14_10
noncomputable def c14_12 : Code := cr c14_10
noncomputable def c14_13 : Code := cl c14_12
noncomputable def c14_14 : Code := cl c14_13
noncomputable def c14_15 : Code := cr c14_13
noncomputable def c14_16 : Code := cl c14_15
noncomputable def c14_17 : Code := cl c14_16
noncomputable def c14_18 : Code := cr c14_16
noncomputable def c14_19 : Code := cr c14_15
noncomputable def c14_20 : Code := cr c14_12
noncomputable def c14_21 : Code := cl c14_20
noncomputable def c14_22 : Code := cr c14_20
theorem ok14 : funcOk Try.f14 = true := by kernel_rfl
noncomputable def rs14 : List ResultVar := resultsOf Try.f14
theorem w14 (text_2 : ByteArray) (σ : AHeap) (r : Int) (h : G_lex_Class text_2 = some r) : callL Try.prog 14 [(Value.string text_2)] σ = some ((Value.int .i64 r), σ) := by
  refine callL_walk (fn := Try.f14) (c := c14_0) (rs := rs14) Try.func14 rfl ok14 rfl rfl ?_
  obtain ⟨out, ho⟩ : ∃ out, out = ((Value.int .i64 r), σ) := ⟨_, rfl⟩
  rw [← ho]
  replace h : OptW (G_lex_Class text_2) (fun r => ((Value.int .i64 r), σ) = out) := ⟨r, h, ho.symm⟩
  unfold G_lex_Class at h
  refine Fx_seq (a := c14_1) (b := c14_2) rfl ?_
  refine Fx_text rfl (by kernel_rfl) ?_
  refine Ro_v (v := (Value.int .i64 (0))) rfl (o_assign rfl rfl) ?_
  refine Ro_nil ?_
  refine Fx_seq (a := c14_3) (b := c14_10) rfl ?_
  refine Fx_seq (a := c14_4) (b := c14_5) rfl ?_
  refine Fx_text rfl (by kernel_rfl) ?_
  refine Ro_v (v := (Value.string text_2)) rfl (o_move rfl rfl) ?_
  obtain ⟨x3, hx3, h⟩ := h.lt
  refine Ro_v (v := (Value.bool x3)) rfl (o_seql rfl rfl rfl hx3) ?_
  refine Ro_nil ?_
  refine Fx_cond (a := c14_6) (b := c14_9) rfl rfl (fun ex3 => ?_) (fun ex3 => ?_)
  · replace h := h.ifT ex3
    refine Fx_seq (a := c14_7) (b := c14_8) rfl ?_
    refine Fx_text rfl (by kernel_rfl) ?_
    refine Ro_v (v := (Value.int .i64 (0))) rfl (o_assign rfl rfl) ?_
    refine Ro_nil ?_
    exact Fx_ret rfl rfl (congrArg some h.sm)
  · replace h := h.ifF ex3
    refine Fx_skip (c := c14_9) rfl ?_
    refine Fx_seq (a := c14_11) (b := c14_12) rfl ?_
    refine Fx_text rfl (by kernel_rfl) ?_
    refine Ro_v (v := (Value.string text_2)) rfl (o_move rfl rfl) ?_
    obtain ⟨⟨x4, x5, x6, x7⟩, hx4, h⟩ := h.bd
    refine Ro_v (v := (Value.tuple #[(Value.int .i64 x4), (Value.int .i64 x5), (Value.int .i64 x6), (Value.int .i64 x7)])) rfl (o_call (vs := [(Value.string text_2), (Value.int .i64 (0))]) rfl rfl (w24 _ _ _ _ hx4)) ?_
    refine Ro_v (v := (Value.tuple #[(Value.int .i64 x4), (Value.int .i64 x5), (Value.int .i64 x6), (Value.int .i64 x7)])) rfl (o_move rfl rfl) ?_
    refine Ro_v (v := (Value.int .i64 x4)) rfl (o_ext rfl rfl rfl) ?_
    refine Ro_v (v := (Value.int .i64 x5)) rfl (o_ext rfl rfl rfl) ?_
    refine Ro_v (v := (Value.int .i64 x6)) rfl (o_ext rfl rfl rfl) ?_
    refine Ro_v (v := (Value.int .i64 x7)) rfl (o_ext rfl rfl rfl) ?_
    refine Ro_v (v := (Value.int .i64 x4)) rfl (o_assign rfl rfl) ?_
    refine Ro_v (v := (Value.int .i64 x5)) rfl (o_assign rfl rfl) ?_
    refine Ro_v (v := (Value.int .i64 x6)) rfl (o_assign rfl rfl) ?_
    refine Ro_v (v := (Value.int .i64 x7)) rfl (o_assign rfl rfl) ?_
    refine Ro_nil ?_
    refine Fx_seq (a := c14_13) (b := c14_20) rfl ?_
    refine Fx_seq (a := c14_14) (b := c14_15) rfl ?_
    refine Fx_text rfl (by kernel_rfl) ?_
    refine Ro_v (v := (Value.int .i64 x7)) rfl (o_move rfl rfl) ?_
    obtain ⟨x8, hx8, h⟩ := h.lt
    refine Ro_v (v := (Value.bool x8)) rfl (o_neq rfl rfl rfl hx8) ?_
    refine Ro_v (v := (Value.bool x8)) rfl (o_move rfl rfl) ?_
    refine Ro_set (t := !x8) (v := bif !x8 then (Value.int .i64 x5) else undef) rfl (w_F rfl rfl rfl) (by intro e; have e0 := not_t (e); subst e0; exact o_move rfl rfl) (fun e => ⟨gv_f e, rfl⟩) ?_
    refine Ro_set (t := !x8) (v := bif !x8 then (Value.string text_2) else undef) rfl (w_F rfl rfl rfl) (by intro e; have e0 := not_t (e); subst e0; exact o_move rfl rfl) (fun e => ⟨gv_f e, rfl⟩) ?_
    obtain ⟨x9, hx9, h⟩ := h.lt
    refine Ro_set (t := !x8) (v := bif !x8 then (Value.int .i64 x9) else undef) rfl (w_F rfl rfl rfl) (by intro e; have e0 := not_t (e); subst e0; exact o_lenS rfl tu9 rfl hx9) (fun e => ⟨gv_f e, rfl⟩) ?_
    obtain ⟨x10, hx10, h⟩ := h.lt
    refine Ro_set (t := !x8) (v := bif !x8 then (Value.bool x10) else undef) rfl (w_F rfl rfl rfl) (by intro e; have e0 := not_t (e); subst e0; exact o_neq rfl rfl rfl hx10) (fun e => ⟨gv_f e, rfl⟩) ?_
    obtain ⟨x11, hx11, h⟩ := h.lt
    refine Ro_v (v := (Value.bool x11)) rfl (o_pick rfl rfl (by intro e; subst e; subst hx11; rfl) (by intro e; subst e; subst hx11; rfl)) ?_
    refine Ro_nil ?_
    refine Fx_cond (a := c14_16) (b := c14_19) rfl rfl (fun ex11 => ?_) (fun ex11 => ?_)
    · replace h := h.ifT ex11
      refine Fx_seq (a := c14_17) (b := c14_18) rfl ?_
      refine Fx_text rfl (by kernel_rfl) ?_
      refine Ro_v (v := (Value.int .i64 (0))) rfl (o_assign rfl rfl) ?_
      refine Ro_nil ?_
      exact Fx_ret rfl rfl (congrArg some h.sm)
    · replace h := h.ifF ex11
      refine Fx_skip (c := c14_19) rfl ?_
      refine Fx_seq (a := c14_21) (b := c14_22) rfl ?_
      refine Fx_text rfl (by kernel_rfl) ?_
      refine Ro_v (v := (Value.int .i64 x4)) rfl (o_move rfl rfl) ?_
      refine Ro_v (v := (Value.int .i64 x4)) rfl (o_assign rfl rfl) ?_
      refine Ro_nil ?_
      exact Fx_ret rfl rfl (congrArg some h.sm)
noncomputable def c22_0 : Code := bodyOf Try.f22
noncomputable def c22_1 : Code := cl c22_0
noncomputable def c22_2 : Code := cr c22_0
noncomputable def c22_3 : Code := cl c22_2
noncomputable def c22_4 : Code := cl c22_3
noncomputable def c22_5 : Code := cr c22_3
noncomputable def c22_6 : Code := cl c22_5
noncomputable def c22_7 : Code := cl c22_6
noncomputable def c22_8 : Code := cr c22_6
noncomputable def c22_9 : Code := cr c22_5
noncomputable def c22_10 : Code := cr c22_2
noncomputable def c22_11 : Code := cl c22_10
noncomputable def c22_12 : Code := cr c22_10
noncomputable def c22_13 : Code := cl c22_12
noncomputable def c22_14 : Code := cr c22_12
theorem ok22 : funcOk Try.f22 = true := by kernel_rfl
noncomputable def rs22 : List ResultVar := resultsOf Try.f22
theorem w22 (a_2 : ByteArray) (b_3 : ByteArray) (σ : AHeap) (r : (Bool × AHeap)) (h : G_lex_Fuses a_2 b_3 σ = some r) : callL Try.prog 22 [(Value.string a_2), (Value.string b_3)] σ = some ((Value.bool r.1), r.2) := by
  refine callL_walk (fn := Try.f22) (c := c22_0) (rs := rs22) Try.func22 rfl ok22 rfl rfl ?_
  obtain ⟨out, ho⟩ : ∃ out, out = ((Value.bool r.1), r.2) := ⟨_, rfl⟩
  rw [← ho]
  replace h : OptW (G_lex_Fuses a_2 b_3 σ) (fun r => ((Value.bool r.1), r.2) = out) := ⟨r, h, ho.symm⟩
  unfold G_lex_Fuses at h
  refine Fx_seq (a := c22_1) (b := c22_2) rfl ?_
  refine Fx_text rfl (by kernel_rfl) ?_
  refine Ro_v (v := (Value.bool false)) rfl (o_assign rfl rfl) ?_
  refine Ro_nil ?_
  refine Fx_seq (a := c22_3) (b := c22_10) rfl ?_
  refine Fx_seq (a := c22_4) (b := c22_5) rfl ?_
  refine Fx_text rfl (by kernel_rfl) ?_
  refine Ro_v (v := (Value.string a_2)) rfl (o_move rfl rfl) ?_
  obtain ⟨x4, hx4, h⟩ := h.bd
  refine Ro_v (v := (Value.int .i64 x4)) rfl (o_call (vs := [(Value.string a_2)]) rfl rfl (w14 _ _ _ hx4)) ?_
  obtain ⟨x5, hx5, h⟩ := h.lt
  refine Ro_v (v := (Value.bool x5)) rfl (o_eql rfl rfl rfl hx5) ?_
  refine Ro_v (v := (Value.bool x5)) rfl (o_move rfl rfl) ?_
  refine Ro_set (t := !x5) (v := bif !x5 then (Value.string b_3) else undef) rfl (w_F rfl rfl rfl) (by intro e; have e0 := not_t (e); subst e0; exact o_move rfl rfl) (fun e => ⟨gv_f e, rfl⟩) ?_
  obtain ⟨x6, hx6, h⟩ := h.bd
  refine Ro_set (t := !x5) (v := bif !x5 then (Value.int .i64 x6) else undef) rfl (w_F rfl rfl rfl) (by intro e; have e0 := not_t (e); subst e0; exact o_call (vs := [(Value.string b_3)]) rfl rfl (w14 _ _ _ hx6)) (fun e => ⟨gv_f e, rfl⟩) ?_
  obtain ⟨x7, hx7, h⟩ := h.lt
  refine Ro_set (t := !x5) (v := bif !x5 then (Value.bool x7) else undef) rfl (w_F rfl rfl rfl) (by intro e; have e0 := not_t (e); subst e0; exact o_eql rfl rfl rfl hx7) (fun e => ⟨gv_f e, rfl⟩) ?_
  obtain ⟨x8, hx8, h⟩ := h.lt
  refine Ro_v (v := (Value.bool x8)) rfl (o_pick rfl rfl (by intro e; subst e; subst hx8; rfl) (by intro e; subst e; subst hx8; rfl)) ?_
  refine Ro_nil ?_
  refine Fx_cond (a := c22_6) (b := c22_9) rfl rfl (fun ex8 => ?_) (fun ex8 => ?_)
  · replace h := h.ifT ex8
    refine Fx_seq (a := c22_7) (b := c22_8) rfl ?_
    refine Fx_text rfl (by kernel_rfl) ?_
    refine Ro_v (v := (Value.bool false)) rfl (o_assign rfl rfl) ?_
    refine Ro_nil ?_
    exact Fx_ret rfl rfl (congrArg some h.sm)
  · replace h := h.ifF ex8
    refine Fx_skip (c := c22_9) rfl ?_
    refine Fx_seq (a := c22_11) (b := c22_12) rfl ?_
    refine Fx_text rfl (by kernel_rfl) ?_
    refine Ro_v (v := (Value.string a_2)) rfl (o_move rfl rfl) ?_
    refine Ro_v (v := (Value.string b_3)) rfl (o_move rfl rfl) ?_
    obtain ⟨x9, hx9, h⟩ := h.bd
    refine Ro_v (v := (Value.string x9)) rfl (o_saddO rfl rfl rfl hx9) ?_
    obtain ⟨⟨x14, x15, x16, x17, σ18⟩, hσ18, h⟩ := h.bd
    refine Ro_v (v := (Value.tuple #[(Sl.v x14), (Value.string x15), (Value.int .i64 x16), (Value.int .i64 x17)])) rfl (o_call (vs := [(Value.string x9)]) rfl rfl (w11 _ _ _ hσ18)) ?_
    refine Ro_v (v := (Value.tuple #[(Sl.v x14), (Value.string x15), (Value.int .i64 x16), (Value.int .i64 x17)])) rfl (o_move rfl rfl) ?_
    refine Ro_v (v := (Sl.v x14)) rfl (o_ext rfl rfl rfl) ?_
    refine Ro_v (v := (Value.string x15)) rfl (o_ext rfl rfl rfl) ?_
    refine Ro_v (v := (Value.int .i64 x16)) rfl (o_ext rfl rfl rfl) ?_
    refine Ro_v (v := (Value.int .i64 x17)) rfl (o_ext rfl rfl rfl) ?_
    refine Ro_v (v := (Sl.v x14)) rfl (o_assign rfl rfl) ?_
    refine Ro_v (v := (Value.string x15)) rfl (o_assign rfl rfl) ?_
    refine Ro_v (v := (Value.int .i64 x16)) rfl (o_assign rfl rfl) ?_
    refine Ro_v (v := (Value.int .i64 x17)) rfl (o_assign rfl rfl) ?_
    refine Ro_nil ?_
    refine Fx_seq (a := c22_13) (b := c22_14) rfl ?_
    refine Fx_text rfl (by kernel_rfl) ?_
    refine Ro_v (v := (Value.int .i64 x17)) rfl (o_move rfl rfl) ?_
    obtain ⟨x19, hx19, h⟩ := h.lt
    refine Ro_v (v := (Value.bool x19)) rfl (o_neq rfl rfl rfl hx19) ?_
    refine Ro_v (v := (Value.bool x19)) rfl (o_move rfl rfl) ?_
    refine Ro_set (t := !x19) (v := bif !x19 then (Sl.v x14) else undef) rfl (w_F rfl rfl rfl) (by intro e; have e0 := not_t (e); subst e0; exact o_move rfl rfl) (fun e => ⟨gv_f e, rfl⟩) ?_
    obtain ⟨x20, hx20, h⟩ := h.lt
    refine Ro_set (t := !x19) (v := bif !x19 then (Value.int .i64 x20) else undef) rfl (w_F rfl rfl rfl) (by intro e; have e0 := not_t (e); subst e0; exact o_lenSl rfl tu23 rfl hx20) (fun e => ⟨gv_f e, rfl⟩) ?_
    obtain ⟨x21, hx21, h⟩ := h.lt
    refine Ro_set (t := !x19) (v := bif !x19 then (Value.bool x21) else undef) rfl (w_F rfl rfl rfl) (by intro e; have e0 := not_t (e); subst e0; exact o_neq rfl rfl rfl hx21) (fun e => ⟨gv_f e, rfl⟩) ?_
    obtain ⟨x22, hx22, h⟩ := h.lt
    refine Ro_v (v := (Value.bool x22)) rfl (o_pick rfl rfl (by intro e; subst e; subst hx22; rfl) (by intro e; subst e; subst hx22; rfl)) ?_
    refine Ro_v (v := (Value.bool x22)) rfl (o_move rfl rfl) ?_
    refine Ro_set (t := !x22) (v := bif !x22 then (Value.string x15) else undef) rfl (w_F rfl rfl rfl) (by intro e; have e0 := not_t (e); subst e0; exact o_move rfl rfl) (fun e => ⟨gv_f e, rfl⟩) ?_
    obtain ⟨x23, hx23, h⟩ := h.lt
    refine Ro_set (t := !x22) (v := bif !x22 then (Value.bool x23) else undef) rfl (w_F rfl rfl rfl) (by intro e; have e0 := not_t (e); subst e0; exact o_sneq rfl rfl rfl hx23) (fun e => ⟨gv_f e, rfl⟩) ?_
    obtain ⟨x24, hx24, h⟩ := h.lt
    refine Ro_v (v := (Value.bool x24)) rfl (o_pick rfl rfl (by intro e; subst e; subst hx24; rfl) (by intro e; subst e; subst hx24; rfl)) ?_
    refine Ro_v (v := (Value.bool x24)) rfl (o_move rfl rfl) ?_
    refine Ro_set (t := !x24) (v := bif !x24 then (Sl.v x14) else undef) rfl (w_F rfl rfl rfl) (by intro e; have e0 := not_t (e); subst e0; exact o_move rfl rfl) (fun e => ⟨gv_f e, rfl⟩) ?_
    obtain ⟨x25, hx25, h⟩ := h.bd
    refine Ro_set (t := !x24) (v := bif !x24 then (Value.pointer x25) else undef) rfl (w_F rfl rfl rfl) (by intro e; have e0 := not_t (e); subst e0; exact o_iaSl rfl tu23 ts33 rfl rfl hx25) (fun e => ⟨gv_f e, rfl⟩) ?_
    obtain ⟨x26, hx26, h⟩ := h.bd
    refine Ro_set (t := !x24) (v := bif !x24 then (Value.pointer x26) else undef) rfl (w_F rfl rfl rfl) (by intro e; have e0 := not_t (e); subst e0; exact o_fldA rfl tf33_2 ts9 rfl hx26) (fun e => ⟨gv_f e, rfl⟩) ?_
    obtain ⟨x27, hx27, h⟩ := h.bd
    refine Ro_set (t := !x24) (v := bif !x24 then (Value.string x27) else undef) rfl (w_F rfl rfl rfl) (by intro e; have e0 := not_t (e); subst e0; exact o_load1 rfl ta9 rfl (ld_str_eq hx27)) (fun e => ⟨gv_f e, rfl⟩) ?_
    refine Ro_set (t := !x24) (v := bif !x24 then (Value.string a_2) else undef) rfl (w_F rfl rfl rfl) (by intro e; have e0 := not_t (e); subst e0; exact o_move rfl rfl) (fun e => ⟨gv_f e, rfl⟩) ?_
    obtain ⟨x28, hx28, h⟩ := h.lt
    refine Ro_set (t := !x24) (v := bif !x24 then (Value.bool x28) else undef) rfl (w_F rfl rfl rfl) (by intro e; have e0 := not_t (e); subst e0; exact o_sneq rfl rfl rfl hx28) (fun e => ⟨gv_f e, rfl⟩) ?_
    obtain ⟨x29, hx29, h⟩ := h.lt
    refine Ro_v (v := (Value.bool x29)) rfl (o_pick rfl rfl (by intro e; subst e; subst hx29; rfl) (by intro e; subst e; subst hx29; rfl)) ?_
    refine Ro_v (v := (Value.bool x29)) rfl (o_move rfl rfl) ?_
    refine Ro_set (t := !x29) (v := bif !x29 then (Sl.v x14) else undef) rfl (w_F rfl rfl rfl) (by intro e; have e0 := not_t (e); subst e0; exact o_move rfl rfl) (fun e => ⟨gv_f e, rfl⟩) ?_
    obtain ⟨x30, hx30, h⟩ := h.bd
    refine Ro_set (t := !x29) (v := bif !x29 then (Value.pointer x30) else undef) rfl (w_F rfl rfl rfl) (by intro e; have e0 := not_t (e); subst e0; exact o_iaSl rfl tu23 ts33 rfl rfl hx30) (fun e => ⟨gv_f e, rfl⟩) ?_
    obtain ⟨x31, hx31, h⟩ := h.bd
    refine Ro_set (t := !x29) (v := bif !x29 then (Value.pointer x31) else undef) rfl (w_F rfl rfl rfl) (by intro e; have e0 := not_t (e); subst e0; exact o_fldA rfl tf33_2 ts9 rfl hx31) (fun e => ⟨gv_f e, rfl⟩) ?_
    obtain ⟨x32, hx32, h⟩ := h.bd
    refine Ro_set (t := !x29) (v := bif !x29 then (Value.string x32) else undef) rfl (w_F rfl rfl rfl) (by intro e; have e0 := not_t (e); subst e0; exact o_load1 rfl ta9 rfl (ld_str_eq hx32)) (fun e => ⟨gv_f e, rfl⟩) ?_
    refine Ro_set (t := !x29) (v := bif !x29 then (Value.string b_3) else undef) rfl (w_F rfl rfl rfl) (by intro e; have e0 := not_t (e); subst e0; exact o_move rfl rfl) (fun e => ⟨gv_f e, rfl⟩) ?_
    obtain ⟨x33, hx33, h⟩ := h.lt
    refine Ro_set (t := !x29) (v := bif !x29 then (Value.bool x33) else undef) rfl (w_F rfl rfl rfl) (by intro e; have e0 := not_t (e); subst e0; exact o_sneq rfl rfl rfl hx33) (fun e => ⟨gv_f e, rfl⟩) ?_
    obtain ⟨x34, hx34, h⟩ := h.lt
    refine Ro_v (v := (Value.bool x34)) rfl (o_pick rfl rfl (by intro e; subst e; subst hx34; rfl) (by intro e; subst e; subst hx34; rfl)) ?_
    refine Ro_v (v := (Value.bool x34)) rfl (o_move rfl rfl) ?_
    refine Ro_set (t := !x34) (v := bif !x34 then (Sl.v x14) else undef) rfl (w_F rfl rfl rfl) (by intro e; have e0 := not_t (e); subst e0; exact o_move rfl rfl) (fun e => ⟨gv_f e, rfl⟩) ?_
    obtain ⟨x35, hx35, h⟩ := h.bd
    refine Ro_set (t := !x34) (v := bif !x34 then (Value.pointer x35) else undef) rfl (w_F rfl rfl rfl) (by intro e; have e0 := not_t (e); subst e0; exact o_iaSl rfl tu23 ts33 rfl rfl hx35) (fun e => ⟨gv_f e, rfl⟩) ?_
    obtain ⟨x36, hx36, h⟩ := h.bd
    refine Ro_set (t := !x34) (v := bif !x34 then (Value.pointer x36) else undef) rfl (w_F rfl rfl rfl) (by intro e; have e0 := not_t (e); subst e0; exact o_fldA rfl tf33_1 ts9 rfl hx36) (fun e => ⟨gv_f e, rfl⟩) ?_
    obtain ⟨x37, hx37, h⟩ := h.bd
    refine Ro_set (t := !x34) (v := bif !x34 then (Value.string x37) else undef) rfl (w_F rfl rfl rfl) (by intro e; have e0 := not_t (e); subst e0; exact o_load1 rfl ta9 rfl (ld_str_eq hx37)) (fun e => ⟨gv_f e, rfl⟩) ?_
    obtain ⟨x38, hx38, h⟩ := h.lt
    refine Ro_set (t := !x34) (v := bif !x34 then (Value.bool x38) else undef) rfl (w_F rfl rfl rfl) (by intro e; have e0 := not_t (e); subst e0; exact o_sneq rfl rfl rfl hx38) (fun e => ⟨gv_f e, rfl⟩) ?_
    obtain ⟨x39, hx39, h⟩ := h.lt
    refine Ro_v (v := (Value.bool x39)) rfl (o_pick rfl rfl (by intro e; subst e; subst hx39; rfl) (by intro e; subst e; subst hx39; rfl)) ?_
    refine Ro_v (v := (Value.bool x39)) rfl (o_assign rfl rfl) ?_
    refine Ro_nil ?_
    exact Fx_ret rfl rfl (congrArg some h.sm)
noncomputable def c10_0 : Code := bodyOf Try.f10
noncomputable def c10_1 : Code := cl c10_0
noncomputable def c10_2 : Code := cr c10_0
noncomputable def c10_3 : Code := cl c10_2
noncomputable def c10_4 : Code := cr c10_2
noncomputable def c10_5 : Code := cl c10_4
noncomputable def c10_6 : Code := cr c10_4
theorem ok10 : funcOk Try.f10 = true := by kernel_rfl
noncomputable def rs10 : List ResultVar := resultsOf Try.f10
theorem w10  (σ : AHeap) (r : (Bool × AHeap)) (h : G_semvcslaw01_awake σ = some r) : callL Try.prog 10 [] σ = some ((Value.bool r.1), r.2) := by
  refine callL_walk (fn := Try.f10) (c := c10_0) (rs := rs10) Try.func10 rfl ok10 rfl rfl ?_
  obtain ⟨out, ho⟩ : ∃ out, out = ((Value.bool r.1), r.2) := ⟨_, rfl⟩
  rw [← ho]
  replace h : OptW (G_semvcslaw01_awake σ) (fun r => ((Value.bool r.1), r.2) = out) := ⟨r, h, ho.symm⟩
  unfold G_semvcslaw01_awake at h
  refine Fx_seq (a := c10_1) (b := c10_2) rfl ?_
  refine Fx_text rfl (by kernel_rfl) ?_
  refine Ro_v (v := (Value.bool false)) rfl (o_assign rfl rfl) ?_
  refine Ro_nil ?_
  refine Fx_seq (a := c10_3) (b := c10_4) rfl ?_
  refine Fx_text rfl (by kernel_rfl) ?_
  obtain ⟨⟨x6, x7, x8, x9, σ10⟩, hσ10, h⟩ := h.bd
  refine Ro_v (v := (Value.tuple #[(Sl.v x6), (Value.string x7), (Value.int .i64 x8), (Value.int .i64 x9)])) rfl (o_call (vs := [(Value.string (⟨#[120, 32, 35, 97, 10, 43, 32, 49, 48, 32]⟩ : ByteArray))]) rfl rfl (w11 _ _ _ hσ10)) ?_
  refine Ro_v (v := (Value.tuple #[(Sl.v x6), (Value.string x7), (Value.int .i64 x8), (Value.int .i64 x9)])) rfl (o_move rfl rfl) ?_
  refine Ro_v (v := (Sl.v x6)) rfl (o_ext rfl rfl rfl) ?_
  refine Ro_v (v := (Value.string x7)) rfl (o_ext rfl rfl rfl) ?_
  refine Ro_v (v := (Value.int .i64 x8)) rfl (o_ext rfl rfl rfl) ?_
  refine Ro_v (v := (Value.int .i64 x9)) rfl (o_ext rfl rfl rfl) ?_
  refine Ro_v (v := (Sl.v x6)) rfl (o_assign rfl rfl) ?_
  refine Ro_v (v := (Value.string x7)) rfl (o_assign rfl rfl) ?_
  refine Ro_v (v := (Value.int .i64 x8)) rfl (o_assign rfl rfl) ?_
  refine Ro_v (v := (Value.int .i64 x9)) rfl (o_assign rfl rfl) ?_
  refine Ro_nil ?_
  refine Fx_seq (a := c10_5) (b := c10_6) rfl ?_
  refine Fx_text rfl (by kernel_rfl) ?_
  refine Ro_v (v := (Value.int .i64 x9)) rfl (o_move rfl rfl) ?_
  obtain ⟨x11, hx11, h⟩ := h.lt
  refine Ro_v (v := (Value.bool x11)) rfl (o_eql rfl rfl rfl hx11) ?_
  refine Ro_v (v := (Value.bool x11)) rfl (o_move rfl rfl) ?_
  refine Ro_set (t := x11) (v := bif x11 then (Value.int .i64 x8) else undef) rfl (w_T rfl rfl rfl) (by intro e; have e0 := e; subst e0; exact o_move rfl rfl) (fun e => ⟨gv_f e, rfl⟩) ?_
  obtain ⟨x12, hx12, h⟩ := h.lt
  refine Ro_set (t := x11) (v := bif x11 then (Value.bool x12) else undef) rfl (w_T rfl rfl rfl) (by intro e; have e0 := e; subst e0; exact o_eql rfl rfl rfl hx12) (fun e => ⟨gv_f e, rfl⟩) ?_
  obtain ⟨x13, hx13, h⟩ := h.lt
  refine Ro_v (v := (Value.bool x13)) rfl (o_pick rfl rfl (by intro e; subst e; subst hx13; rfl) (by intro e; subst e; subst hx13; rfl)) ?_
  refine Ro_v (v := (Value.bool x13)) rfl (o_move rfl rfl) ?_
  refine Ro_set (t := x13) (v := bif x13 then (Value.string x7) else undef) rfl (w_T rfl rfl rfl) (by intro e; have e0 := e; subst e0; exact o_move rfl rfl) (fun e => ⟨gv_f e, rfl⟩) ?_
  obtain ⟨x14, hx14, h⟩ := h.lt
  refine Ro_set (t := x13) (v := bif x13 then (Value.bool x14) else undef) rfl (w_T rfl rfl rfl) (by intro e; have e0 := e; subst e0; exact o_seql rfl rfl rfl hx14) (fun e => ⟨gv_f e, rfl⟩) ?_
  obtain ⟨x15, hx15, h⟩ := h.lt
  refine Ro_v (v := (Value.bool x15)) rfl (o_pick rfl rfl (by intro e; subst e; subst hx15; rfl) (by intro e; subst e; subst hx15; rfl)) ?_
  refine Ro_v (v := (Value.bool x15)) rfl (o_move rfl rfl) ?_
  refine Ro_set (t := x15) (v := bif x15 then (Sl.v x6) else undef) rfl (w_T rfl rfl rfl) (by intro e; have e0 := e; subst e0; exact o_move rfl rfl) (fun e => ⟨gv_f e, rfl⟩) ?_
  obtain ⟨x16, hx16, h⟩ := h.lt
  refine Ro_set (t := x15) (v := bif x15 then (Value.int .i64 x16) else undef) rfl (w_T rfl rfl rfl) (by intro e; have e0 := e; subst e0; exact o_lenSl rfl tu23 rfl hx16) (fun e => ⟨gv_f e, rfl⟩) ?_
  obtain ⟨x17, hx17, h⟩ := h.lt
  refine Ro_set (t := x15) (v := bif x15 then (Value.bool x17) else undef) rfl (w_T rfl rfl rfl) (by intro e; have e0 := e; subst e0; exact o_eql rfl rfl rfl hx17) (fun e => ⟨gv_f e, rfl⟩) ?_
  obtain ⟨x18, hx18, h⟩ := h.lt
  refine Ro_v (v := (Value.bool x18)) rfl (o_pick rfl rfl (by intro e; subst e; subst hx18; rfl) (by intro e; subst e; subst hx18; rfl)) ?_
  refine Ro_v (v := (Value.bool x18)) rfl (o_move rfl rfl) ?_
  refine Ro_set (t := x18) (v := bif x18 then (Sl.v x6) else undef) rfl (w_T rfl rfl rfl) (by intro e; have e0 := e; subst e0; exact o_move rfl rfl) (fun e => ⟨gv_f e, rfl⟩) ?_
  obtain ⟨x19, hx19, h⟩ := h.bd
  refine Ro_set (t := x18) (v := bif x18 then (Value.pointer x19) else undef) rfl (w_T rfl rfl rfl) (by intro e; have e0 := e; subst e0; exact o_iaSl rfl tu23 ts33 rfl rfl hx19) (fun e => ⟨gv_f e, rfl⟩) ?_
  obtain ⟨⟨x20, x21, x22⟩, hx20, h⟩ := h.bd
  refine Ro_set (t := x18) (v := bif x18 then (Value.agg #[(Value.int .i64 x20), (Value.string x21), (Value.string x22)]) else undef) rfl (w_T rfl rfl rfl) (by intro e; have e0 := e; subst e0; exact o_loadN rfl ta33 ts33 rfl (ld_i64_str_str_eq hx20)) (fun e => ⟨gv_f e, rfl⟩) ?_
  refine Ro_set (t := x18) (v := bif x18 then (Value.agg #[(Value.int .i64 (1)), (Value.string (ByteArray.empty)), (Value.string (⟨#[120]⟩ : ByteArray))]) else undef) rfl (w_T rfl rfl rfl) (by intro e; have e0 := e; subst e0; exact o_build (ps := [(0, (Value.int .i64 (1))), (2, (Value.string (⟨#[120]⟩ : ByteArray)))]) (cs := #[(Value.int .i64 (1)), (Value.string (ByteArray.empty)), (Value.string (⟨#[120]⟩ : ByteArray))]) rfl tz33 tp33 rfl rfl rfl) (fun e => ⟨gv_f e, rfl⟩) ?_
  obtain ⟨x23, hx23, h⟩ := h.lt
  refine Ro_set (t := x18) (v := bif x18 then (Value.bool x23) else undef) rfl (w_T rfl rfl rfl) (by intro e; have e0 := e; subst e0; exact o_aeql rfl tq33 rfl rfl rfl (hx23 ▸ (eqs_int (eqs_str (eqs_str eqs_nil))))) (fun e => ⟨gv_f e, rfl⟩) ?_
  obtain ⟨x24, hx24, h⟩ := h.lt
  refine Ro_v (v := (Value.bool x24)) rfl (o_pick rfl rfl (by intro e; subst e; subst hx24; rfl) (by intro e; subst e; subst hx24; rfl)) ?_
  refine Ro_v (v := (Value.bool x24)) rfl (o_move rfl rfl) ?_
  refine Ro_set (t := x24) (v := bif x24 then (Sl.v x6) else undef) rfl (w_T rfl rfl rfl) (by intro e; have e0 := e; subst e0; exact o_move rfl rfl) (fun e => ⟨gv_f e, rfl⟩) ?_
  obtain ⟨x25, hx25, h⟩ := h.bd
  refine Ro_set (t := x24) (v := bif x24 then (Value.pointer x25) else undef) rfl (w_T rfl rfl rfl) (by intro e; have e0 := e; subst e0; exact o_iaSl rfl tu23 ts33 rfl rfl hx25) (fun e => ⟨gv_f e, rfl⟩) ?_
  obtain ⟨⟨x26, x27, x28⟩, hx26, h⟩ := h.bd
  refine Ro_set (t := x24) (v := bif x24 then (Value.agg #[(Value.int .i64 x26), (Value.string x27), (Value.string x28)]) else undef) rfl (w_T rfl rfl rfl) (by intro e; have e0 := e; subst e0; exact o_loadN rfl ta33 ts33 rfl (ld_i64_str_str_eq hx26)) (fun e => ⟨gv_f e, rfl⟩) ?_
  refine Ro_set (t := x24) (v := bif x24 then (Value.agg #[(Value.int .i64 (8)), (Value.string (⟨#[32, 35, 97, 10]⟩ : ByteArray)), (Value.string (⟨#[43]⟩ : ByteArray))]) else undef) rfl (w_T rfl rfl rfl) (by intro e; have e0 := e; subst e0; exact o_build (ps := [(0, (Value.int .i64 (8))), (1, (Value.string (⟨#[32, 35, 97, 10]⟩ : ByteArray))), (2, (Value.string (⟨#[43]⟩ : ByteArray)))]) (cs := #[(Value.int .i64 (8)), (Value.string (⟨#[32, 35, 97, 10]⟩ : ByteArray)), (Value.string (⟨#[43]⟩ : ByteArray))]) rfl tz33 tp33 rfl rfl rfl) (fun e => ⟨gv_f e, rfl⟩) ?_
  obtain ⟨x29, hx29, h⟩ := h.lt
  refine Ro_set (t := x24) (v := bif x24 then (Value.bool x29) else undef) rfl (w_T rfl rfl rfl) (by intro e; have e0 := e; subst e0; exact o_aeql rfl tq33 rfl rfl rfl (hx29 ▸ (eqs_int (eqs_str (eqs_str eqs_nil))))) (fun e => ⟨gv_f e, rfl⟩) ?_
  obtain ⟨x30, hx30, h⟩ := h.lt
  refine Ro_v (v := (Value.bool x30)) rfl (o_pick rfl rfl (by intro e; subst e; subst hx30; rfl) (by intro e; subst e; subst hx30; rfl)) ?_
  refine Ro_v (v := (Value.bool x30)) rfl (o_move rfl rfl) ?_
  refine Ro_set (t := x30) (v := bif x30 then (Sl.v x6) else undef) rfl (w_T rfl rfl rfl) (by intro e; have e0 := e; subst e0; exact o_move rfl rfl) (fun e => ⟨gv_f e, rfl⟩) ?_
  obtain ⟨x31, hx31, h⟩ := h.bd
  refine Ro_set (t := x30) (v := bif x30 then (Value.pointer x31) else undef) rfl (w_T rfl rfl rfl) (by intro e; have e0 := e; subst e0; exact o_iaSl rfl tu23 ts33 rfl rfl hx31) (fun e => ⟨gv_f e, rfl⟩) ?_
  obtain ⟨⟨x32, x33, x34⟩, hx32, h⟩ := h.bd
  refine Ro_set (t := x30) (v := bif x30 then (Value.agg #[(Value.int .i64 x32), (Value.string x33), (Value.string x34)]) else undef) rfl (w_T rfl rfl rfl) (by intro e; have e0 := e; subst e0; exact o_loadN rfl ta33 ts33 rfl (ld_i64_str_str_eq hx32)) (fun e => ⟨gv_f e, rfl⟩) ?_
  refine Ro_set (t := x30) (v := bif x30 then (Value.agg #[(Value.int .i64 (5)), (Value.string (⟨#[32]⟩ : ByteArray)), (Value.string (⟨#[49, 48]⟩ : ByteArray))]) else undef) rfl (w_T rfl rfl rfl) (by intro e; have e0 := e; subst e0; exact o_build (ps := [(0, (Value.int .i64 (5))), (1, (Value.string (⟨#[32]⟩ : ByteArray))), (2, (Value.string (⟨#[49, 48]⟩ : ByteArray)))]) (cs := #[(Value.int .i64 (5)), (Value.string (⟨#[32]⟩ : ByteArray)), (Value.string (⟨#[49, 48]⟩ : ByteArray))]) rfl tz33 tp33 rfl rfl rfl) (fun e => ⟨gv_f e, rfl⟩) ?_
  obtain ⟨x35, hx35, h⟩ := h.lt
  refine Ro_set (t := x30) (v := bif x30 then (Value.bool x35) else undef) rfl (w_T rfl rfl rfl) (by intro e; have e0 := e; subst e0; exact o_aeql rfl tq33 rfl rfl rfl (hx35 ▸ (eqs_int (eqs_str (eqs_str eqs_nil))))) (fun e => ⟨gv_f e, rfl⟩) ?_
  obtain ⟨x36, hx36, h⟩ := h.lt
  refine Ro_v (v := (Value.bool x36)) rfl (o_pick rfl rfl (by intro e; subst e; subst hx36; rfl) (by intro e; subst e; subst hx36; rfl)) ?_
  refine Ro_v (v := (Value.bool x36)) rfl (o_move rfl rfl) ?_
  obtain ⟨⟨x38, σ39⟩, hσ39, h⟩ := h.bd
  refine Ro_set (t := x36) (v := bif x36 then (Value.bool x38) else undef) rfl (w_T rfl rfl rfl) (by intro e; have e0 := e; subst e0; exact o_call (vs := [(Value.string (⟨#[120]⟩ : ByteArray)), (Value.string (⟨#[49]⟩ : ByteArray))]) rfl rfl (w22 _ _ _ _ hσ39)) (fun e => ⟨gv_f e, (by have q := hσ39; rw [e] at q; simp only [cond_false, Option.some.injEq, Prod.mk.injEq] at q; exact q.2.symm)⟩) ?_
  obtain ⟨x40, hx40, h⟩ := h.lt
  refine Ro_v (v := (Value.bool x40)) rfl (o_pick rfl rfl (by intro e; subst e; subst hx40; rfl) (by intro e; subst e; subst hx40; rfl)) ?_
  refine Ro_v (v := (Value.bool x40)) rfl (o_assign rfl rfl) ?_
  refine Ro_nil ?_
  exact Fx_ret rfl rfl (congrArg some h.sm)
noncomputable def c13_0 : Code := bodyOf Try.f13
noncomputable def c13_1 : Code := cl c13_0
noncomputable def c13_2 : Code := cr c13_0
noncomputable def c13_3 : Code := cl c13_2
noncomputable def c13_4 : Code := cl c13_3
noncomputable def c13_5 : Code := cr c13_3
noncomputable def c13_6 : Code := cl c13_5
noncomputable def c13_7 : Code := cl c13_6
noncomputable def c13_8 : Code := cr c13_6
noncomputable def c13_9 : Code := cr c13_5
noncomputable def c13_10 : Code := cr c13_2
noncomputable def c13_11 : Code := cl c13_10
noncomputable def c13_12 : Code := cl c13_11
noncomputable def c13_13 : Code := cr c13_11
noncomputable def c13_14 : Code := cl c13_13
noncomputable def c13_15 : Code := cl c13_14
noncomputable def c13_16 : Code := cl c13_15
noncomputable def c13_17 : Code := cl c13_16
noncomputable def c13_18 : Code := cr c13_16
noncomputable def c13_19 : Code := cl c13_18
noncomputable def c13_20 : Code := cr c13_18
noncomputable def c13_21 : Code := cr c13_15
noncomputable def c13_22 : Code := cl c13_21
noncomputable def c13_23 : Code := cl c13_22
noncomputable def c13_24 : Code := cl c13_23
noncomputable def c13_25 : Code := cr c13_23
noncomputable def c13_26 : Code := cl c13_25
noncomputable def c13_27 : Code := cl c13_26
noncomputable def c13_28 : Code := cr c13_26
noncomputable def c13_29 : Code := cr c13_25
noncomputable def c13_30 : Code := cr c13_21
noncomputable def c13_31 : Code := cr c13_10
noncomputable def c13_32 : Code := cl c13_31
noncomputable def c13_33 : Code := cr c13_31
theorem ok13 : funcOk Try.f13 = true := by kernel_rfl
noncomputable def rs13 : List ResultVar := resultsOf Try.f13
noncomputable def C13_l1 (a_7 : Sl) (b_8 : Sl) (σ : AHeap) (out : Value × AHeap) : Int ⊕ (Unit ⊕ Bool) → Prop
  | .inl i_9 => ∀ f, Fx Try.prog rs13 [.code c13_14, .blk 0, .code c13_31] .normal (Fr.set (Fr.set (Fr.set f 0 (Sl.v a_7)) 1 (Sl.v b_8)) 5 (Value.int .i64 i_9)) σ = some out
  | .inr (.inl _) => ∀ f, Fx Try.prog rs13 [.code c13_31] .normal f σ = some out
  | .inr (.inr x10) => ((Value.bool x10), σ) = out
theorem q13_l1 (a_7 : Sl) (b_8 : Sl) (i_9 : Int) (σ : AHeap) (out : Value × AHeap) (f : Fr) (h : OptW (G_semvcsref01_Same_l1 a_7 b_8 σ i_9) (C13_l1 a_7 b_8 σ out)) :
    Fx Try.prog rs13 [.code c13_14, .blk 0, .code c13_31] .normal (Fr.set (Fr.set (Fr.set f 0 (Sl.v a_7)) 1 (Sl.v b_8)) 5 (Value.int .i64 i_9)) σ = some out := by
  unfold G_semvcsref01_Same_l1 at h
  refine Fx_loop (b := c13_15) rfl ?_
  refine Fx_seq (a := c13_16) (b := c13_21) rfl ?_
  refine Fx_seq (a := c13_17) (b := c13_18) rfl ?_
  refine Fx_text rfl (by kernel_rfl) ?_
  refine Ro_v (v := (Value.int .i64 i_9)) rfl (o_move rfl rfl) ?_
  refine Ro_v (v := (Sl.v a_7)) rfl (o_move rfl rfl) ?_
  obtain ⟨x11, hx11, h⟩ := h.lt
  refine Ro_v (v := (Value.int .i64 x11)) rfl (o_lenSl rfl tu23 rfl hx11) ?_
  obtain ⟨x12, hx12, h⟩ := h.lt
  refine Ro_v (v := (Value.bool x12)) rfl (o_lss rfl rfl rfl hx12) ?_
  refine Ro_nil ?_
  refine Fx_cond (a := c13_19) (b := c13_20) rfl rfl (fun ex12 => ?_) (fun ex12 => ?_)
  · replace h := h.ifT ex12
    refine Fx_skip (c := c13_19) rfl ?_
    refine Fx_seq (a := c13_22) (b := c13_30) rfl ?_
    refine Fx_block (b := c13_23) rfl ?_
    refine Fx_seq (a := c13_24) (b := c13_25) rfl ?_
    refine Fx_draw (ops := opsIn c13_24) (l := [(opA (opsIn c13_24) 0, 0), (opA (opsIn c13_24) 1, 1), (opA (opsIn c13_24) 2, 2), (opA (opsIn c13_24) 3, 3), (opA (opsIn c13_24) 4, 4), (opA (opsIn c13_24) 5, 5), (opA (opsIn c13_24) 6, 6), (opA (opsIn c13_24) 7, 7), (opA (opsIn c13_24) 8, 8)]) rfl (by kernel_rfl) (by kernel_rfl) (by kernel_rfl) ?_
    refine Rd_v (v := (Sl.v a_7)) (ps' := []) rfl (o_move rfl rfl) (reads_no rfl) rfl ?_
    refine Rd_v (v := (Value.int .i64 i_9)) (ps' := []) rfl (o_move rfl rfl) (reads_no rfl) rfl ?_
    obtain ⟨x13, hx13, h⟩ := h.bd
    refine Rd_v (v := (Value.pointer x13)) (ps' := []) rfl (o_iaSl rfl tu23 ts33 rfl rfl hx13) (reads_no rfl) rfl ?_
    obtain ⟨⟨x14, x15, x16⟩, hx14, h⟩ := h.bd
    refine Rd_v (v := (Value.agg #[(Value.int .i64 x14), (Value.string x15), (Value.string x16)])) (ps' := []) rfl (o_loadN rfl ta33 ts33 rfl (ld_i64_str_str_eq hx14)) reads_nil rfl ?_
    refine Rd_v (v := (Sl.v b_8)) (ps' := []) rfl (o_move rfl rfl) (reads_no rfl) rfl ?_
    refine Rd_v (v := (Value.int .i64 i_9)) (ps' := []) rfl (o_move rfl rfl) (reads_no rfl) rfl ?_
    obtain ⟨x17, hx17, h⟩ := h.bd
    refine Rd_v (v := (Value.pointer x17)) (ps' := []) rfl (o_iaSl rfl tu23 ts33 rfl rfl hx17) (reads_no rfl) rfl ?_
    obtain ⟨⟨x18, x19, x20⟩, hx18, h⟩ := h.bd
    refine Rd_v (v := (Value.agg #[(Value.int .i64 x18), (Value.string x19), (Value.string x20)])) (ps' := []) rfl (o_loadN rfl ta33 ts33 rfl (ld_i64_str_str_eq hx18)) reads_nil rfl ?_
    obtain ⟨x21, hx21, h⟩ := h.lt
    refine Rd_v (v := (Value.bool x21)) (ps' := []) rfl (o_aneq rfl tq33 rfl rfl rfl (eqs_int (eqs_str (eqs_str eqs_nil))) hx21) (reads_no rfl) rfl ?_
    refine Rd_nil ?_
    refine Fx_cond (a := c13_26) (b := c13_29) rfl rfl (fun ex21 => ?_) (fun ex21 => ?_)
    · replace h := h.ifT ex21
      refine Fx_seq (a := c13_27) (b := c13_28) rfl ?_
      refine Fx_text rfl (by kernel_rfl) ?_
      refine Ro_v (v := (Value.bool false)) rfl (o_assign rfl rfl) ?_
      refine Ro_nil ?_
      exact Fx_ret rfl rfl (congrArg some h.sm)
    · replace h := h.ifF ex21
      refine Fx_skip (c := c13_29) rfl ?_
      refine Fx_blk ?_
      refine Fx_text rfl (by kernel_rfl) ?_
      refine Ro_v (v := (Value.int .i64 i_9)) rfl (o_move rfl rfl) ?_
      obtain ⟨x22, hx22, h⟩ := h.lt
      refine Ro_v (v := (Value.int .i64 x22)) rfl (o_add rfl rfl rfl hx22) ?_
      refine Ro_v (v := (Value.int .i64 x22)) rfl (o_assign rfl rfl) ?_
      refine Ro_nil ?_
      exact Fx_forget (Fr.set_of (Fr.set_of (Fr.set_of rfl rfl) rfl) rfl) (h.sm _)
  · replace h := h.ifF ex12
    refine Fx_exit rfl ?_
    refine Fx_out_code ?_
    refine Fx_out_code ?_
    refine Fx_out_eq ?_
    exact Fx_forget rfl (h.sm _)
theorem w13 (a_2 : Sl) (b_3 : Sl) (σ : AHeap) (r : Bool) (h : G_semvcsref01_Same a_2 b_3 σ = some r) : callL Try.prog 13 [(Sl.v a_2), (Sl.v b_3)] σ = some ((Value.bool r), σ) := by
  refine callL_walk (fn := Try.f13) (c := c13_0) (rs := rs13) Try.func13 rfl ok13 rfl rfl ?_
  obtain ⟨out, ho⟩ : ∃ out, out = ((Value.bool r), σ) := ⟨_, rfl⟩
  rw [← ho]
  replace h : OptW (G_semvcsref01_Same a_2 b_3 σ) (fun r => ((Value.bool r), σ) = out) := ⟨r, h, ho.symm⟩
  unfold G_semvcsref01_Same at h
  refine Fx_seq (a := c13_1) (b := c13_2) rfl ?_
  refine Fx_text rfl (by kernel_rfl) ?_
  refine Ro_v (v := (Value.bool false)) rfl (o_assign rfl rfl) ?_
  refine Ro_nil ?_
  refine Fx_seq (a := c13_3) (b := c13_10) rfl ?_
  refine Fx_seq (a := c13_4) (b := c13_5) rfl ?_
  refine Fx_text rfl (by kernel_rfl) ?_
  refine Ro_v (v := (Sl.v a_2)) rfl (o_move rfl rfl) ?_
  obtain ⟨x4, hx4, h⟩ := h.lt
  refine Ro_v (v := (Value.int .i64 x4)) rfl (o_lenSl rfl tu23 rfl hx4) ?_
  refine Ro_v (v := (Sl.v b_3)) rfl (o_move rfl rfl) ?_
  obtain ⟨x5, hx5, h⟩ := h.lt
  refine Ro_v (v := (Value.int .i64 x5)) rfl (o_lenSl rfl tu23 rfl hx5) ?_
  obtain ⟨x6, hx6, h⟩ := h.lt
  refine Ro_v (v := (Value.bool x6)) rfl (o_neq rfl rfl rfl hx6) ?_
  refine Ro_nil ?_
  refine Fx_cond (a := c13_6) (b := c13_9) rfl rfl (fun ex6 => ?_) (fun ex6 => ?_)
  · replace h := h.ifT ex6
    refine Fx_seq (a := c13_7) (b := c13_8) rfl ?_
    refine Fx_text rfl (by kernel_rfl) ?_
    refine Ro_v (v := (Value.bool false)) rfl (o_assign rfl rfl) ?_
    refine Ro_nil ?_
    exact Fx_ret rfl rfl (congrArg some h.sm)
  · replace h := h.ifF ex6
    refine Fx_skip (c := c13_9) rfl ?_
    refine Fx_seq (a := c13_11) (b := c13_31) rfl ?_
    refine Fx_seq (a := c13_12) (b := c13_13) rfl ?_
    refine Fx_text rfl (by kernel_rfl) ?_
    refine Ro_v (v := (Value.int .i64 (0))) rfl (o_assign rfl rfl) ?_
    refine Ro_nil ?_
    refine Fx_block (b := c13_14) rfl ?_
    refine Fx_forget (Fr.set_of (Fr.set_of (Fr.set_of rfl rfl) rfl) rfl) ((OptW.loop h (fun s => C13_l1 a_2 b_3 σ out (.inl s)) ?_ : C13_l1 a_2 b_3 σ out (.inl (0))) _)
    intro s hs f
    refine q13_l1 a_2 b_3 s σ out f (hs.imp ?_)
    intro r hr
    rcases r with y | b
    · exact hr
    · rcases b with b | b
      · have h := hr
        intro f
        refine Fx_seq (a := c13_32) (b := c13_33) rfl ?_
        refine Fx_text rfl (by kernel_rfl) ?_
        refine Ro_v (v := (Value.bool true)) rfl (o_assign rfl rfl) ?_
        refine Ro_nil ?_
        exact Fx_ret rfl rfl (congrArg some h.sm)
      · obtain ⟨x23, rfl⟩ : ∃ x, x = b := ⟨_, rfl⟩
        have h := hr
        exact h.sm
noncomputable def c18_0 : Code := bodyOf Try.f18
noncomputable def c18_1 : Code := cl c18_0
noncomputable def c18_2 : Code := cr c18_0
noncomputable def c18_3 : Code := cl c18_2
noncomputable def c18_4 : Code := cr c18_2
noncomputable def c18_5 : Code := cl c18_4
noncomputable def c18_6 : Code := cl c18_5
noncomputable def c18_7 : Code := cr c18_5
noncomputable def c18_8 : Code := cl c18_7
noncomputable def c18_9 : Code := cl c18_8
noncomputable def c18_10 : Code := cl c18_9
noncomputable def c18_11 : Code := cl c18_10
noncomputable def c18_12 : Code := cr c18_10
noncomputable def c18_13 : Code := cl c18_12
noncomputable def c18_14 : Code := cr c18_12
noncomputable def c18_15 : Code := cr c18_9
noncomputable def c18_16 : Code := cl c18_15
noncomputable def c18_17 : Code := cl c18_16
noncomputable def c18_18 : Code := cl c18_17
noncomputable def c18_19 : Code := cr c18_17
noncomputable def c18_20 : Code := cl c18_19
noncomputable def c18_21 : Code := cl c18_20
noncomputable def c18_22 : Code := cr c18_20
noncomputable def c18_23 : Code := cl c18_22
noncomputable def c18_24 : Code := cl c18_23
noncomputable def c18_25 : Code := cr c18_23
noncomputable def c18_26 : Code := cr c18_22
noncomputable def c18_27 : Code := cl c18_26
noncomputable def c18_28 : Code := cr c18_26
noncomputable def c18_29 : Code := cl c18_28
noncomputable def c18_30 : Code := cr c18_28
noncomputable def c18_31 : Code := cl c18_30
noncomputable def c18_32 : Code := cr c18_30
noncomputable def c18_33 : Code := cl c18_32
noncomputable def c18_34 : Code := cr c18_32
noncomputable def c18_35 : Code := cl c18_34
noncomputable def c18_36 : Code := cr c18_34
noncomputable def c18_37 : Code := cl c18_36
noncomputable def c18_38 : Code := cl c18_37
noncomputable def c18_39 : Code := cr c18_37
noncomputable def c18_40 : Code := cr c18_36
noncomputable def c18_41 : Code := cr c18_15
noncomputable def c18_42 : Code := cr c18_4
noncomputable def c18_43 : Code := cl c18_42
noncomputable def c18_44 : Code := cr c18_42
theorem ok18 : funcOk Try.f18 = true := by kernel_rfl
noncomputable def rs18 : List ResultVar := resultsOf Try.f18
noncomputable def C18_l1 (s_4 : ByteArray) (end_5 : Bool) (σ : AHeap) (out : Value × AHeap) : (Bool × Int) ⊕ (Bool ⊕ Bool) → Prop
  | .inl (comment_6, i_7) => ∀ f, Fx Try.prog rs18 [.code c18_8, .blk 0, .code c18_42] .normal (Fr.set (Fr.set (Fr.set (Fr.set f 0 (Value.string s_4)) 1 (Value.bool end_5)) 5 (Value.bool comment_6)) 6 (Value.int .i64 i_7)) σ = some out
  | .inr (.inl comment_8) => ∀ f, Fx Try.prog rs18 [.code c18_42] .normal (Fr.set (Fr.set f 1 (Value.bool end_5)) 5 (Value.bool comment_8)) σ = some out
  | .inr (.inr x9) => ((Value.bool x9), σ) = out
theorem p18_j1 (s_4 : ByteArray) (end_5 : Bool) (comment_16 : Bool) (i_17 : Int) (σ : AHeap) (out : Value × AHeap) (f : Fr) (h : OptW (G_lex_Trivia_j1 s_4 end_5 comment_16 i_17) (C18_l1 s_4 end_5 σ out)) :
    Fx Try.prog rs18 [.code c18_41, .code c18_8, .blk 0, .code c18_42] .normal (Fr.set (Fr.set (Fr.set (Fr.set f 0 (Value.string s_4)) 1 (Value.bool end_5)) 5 (Value.bool comment_16)) 6 (Value.int .i64 i_17)) σ = some out := by
  unfold G_lex_Trivia_j1 at h
  refine Fx_text rfl (by kernel_rfl) ?_
  refine Ro_v (v := (Value.int .i64 i_17)) rfl (o_move rfl rfl) ?_
  obtain ⟨x18, hx18, h⟩ := h.lt
  refine Ro_v (v := (Value.int .i64 x18)) rfl (o_add rfl rfl rfl hx18) ?_
  refine Ro_v (v := (Value.int .i64 x18)) rfl (o_assign rfl rfl) ?_
  refine Ro_nil ?_
  exact Fx_forget (Fr.set_of (Fr.set_of (Fr.set_of (Fr.set_of rfl rfl) rfl) rfl) rfl) (h.sm _)
theorem q18_l1 (s_4 : ByteArray) (end_5 : Bool) (comment_6 : Bool) (i_7 : Int) (σ : AHeap) (out : Value × AHeap) (f : Fr) (h : OptW (G_lex_Trivia_l1 s_4 end_5 (comment_6, i_7)) (C18_l1 s_4 end_5 σ out)) :
    Fx Try.prog rs18 [.code c18_8, .blk 0, .code c18_42] .normal (Fr.set (Fr.set (Fr.set (Fr.set f 0 (Value.string s_4)) 1 (Value.bool end_5)) 5 (Value.bool comment_6)) 6 (Value.int .i64 i_7)) σ = some out := by
  unfold G_lex_Trivia_l1 at h
  refine Fx_loop (b := c18_9) rfl ?_
  refine Fx_seq (a := c18_10) (b := c18_15) rfl ?_
  refine Fx_seq (a := c18_11) (b := c18_12) rfl ?_
  refine Fx_text rfl (by kernel_rfl) ?_
  refine Ro_v (v := (Value.int .i64 i_7)) rfl (o_move rfl rfl) ?_
  refine Ro_v (v := (Value.string s_4)) rfl (o_move rfl rfl) ?_
  obtain ⟨x10, hx10, h⟩ := h.lt
  refine Ro_v (v := (Value.int .i64 x10)) rfl (o_lenS rfl tu9 rfl hx10) ?_
  obtain ⟨x11, hx11, h⟩ := h.lt
  refine Ro_v (v := (Value.bool x11)) rfl (o_lss rfl rfl rfl hx11) ?_
  refine Ro_nil ?_
  refine Fx_cond (a := c18_13) (b := c18_14) rfl rfl (fun ex11 => ?_) (fun ex11 => ?_)
  · replace h := h.ifT ex11
    refine Fx_skip (c := c18_13) rfl ?_
    refine Fx_seq (a := c18_16) (b := c18_41) rfl ?_
    refine Fx_block (b := c18_17) rfl ?_
    refine Fx_seq (a := c18_18) (b := c18_19) rfl ?_
    refine Fx_text rfl (by kernel_rfl) ?_
    refine Ro_v (v := (Value.string s_4)) rfl (o_move rfl rfl) ?_
    refine Ro_v (v := (Value.int .i64 i_7)) rfl (o_move rfl rfl) ?_
    obtain ⟨x12, hx12, h⟩ := h.bd
    refine Ro_v (v := (Value.int .u8 x12)) rfl (o_idxS rfl tu9 rfl rfl hx12) ?_
    refine Ro_v (v := (Value.int .u8 x12)) rfl (o_assign rfl rfl) ?_
    refine Ro_nil ?_
    refine Fx_block (b := c18_20) rfl ?_
    refine Fx_seq (a := c18_21) (b := c18_22) rfl ?_
    refine Fx_text rfl (by kernel_rfl) ?_
    refine Ro_v (v := (Value.int .u8 x12)) rfl (o_move rfl rfl) ?_
    obtain ⟨x13, hx13, h⟩ := h.bd
    refine Ro_v (v := (Value.bool x13)) rfl (o_call (vs := [(Value.int .u8 x12)]) rfl rfl (w23 _ _ _ hx13)) ?_
    obtain ⟨x14, hx14, h⟩ := h.lt
    refine Ro_v (v := (Value.bool x14)) rfl (o_not rfl rfl hx14) ?_
    refine Ro_v (v := (Value.bool x14)) rfl (o_assign rfl rfl) ?_
    refine Ro_nil ?_
    refine Fx_cond (a := c18_23) (b := c18_26) rfl rfl (fun ex14 => ?_) (fun ex14 => ?_)
    · replace h := h.ifT ex14
      refine Fx_seq (a := c18_24) (b := c18_25) rfl ?_
      refine Fx_text rfl (by kernel_rfl) ?_
      refine Ro_v (v := (Value.bool false)) rfl (o_assign rfl rfl) ?_
      refine Ro_nil ?_
      exact Fx_ret rfl rfl (congrArg some h.sm)
    · replace h := h.ifF ex14
      refine Fx_seq (a := c18_27) (b := c18_28) rfl ?_
      refine Fx_text rfl (by kernel_rfl) ?_
      refine Ro_v (v := (Value.bool comment_6)) rfl (o_move rfl rfl) ?_
      refine Ro_v (v := (Value.bool comment_6)) rfl (o_assign rfl rfl) ?_
      refine Ro_nil ?_
      refine Fx_cond (a := c18_29) (b := c18_30) rfl rfl (fun ecomment_6 => ?_) (fun ecomment_6 => ?_)
      · replace h := h.ifT ecomment_6
        refine Fx_text rfl (by kernel_rfl) ?_
        refine Ro_v (v := (Value.int .u8 x12)) rfl (o_move rfl rfl) ?_
        obtain ⟨x15, hx15, h⟩ := h.lt
        refine Ro_v (v := (Value.bool x15)) rfl (o_neq rfl rfl rfl hx15) ?_
        refine Ro_v (v := (Value.bool x15)) rfl (o_assign rfl rfl) ?_
        refine Ro_nil ?_
        refine Fx_blk ?_
        refine Fx_blk ?_
        exact Fx_forget (Fr.set_of (Fr.set_of (Fr.set_of (Fr.set_of rfl rfl) rfl) rfl) rfl) (p18_j1 _ _ _ _ _ _ _ h)
      · replace h := h.ifF ecomment_6
        refine Fx_seq (a := c18_31) (b := c18_32) rfl ?_
        refine Fx_text rfl (by kernel_rfl) ?_
        refine Ro_v (v := (Value.int .u8 x12)) rfl (o_move rfl rfl) ?_
        obtain ⟨x19, hx19, h⟩ := h.lt
        refine Ro_v (v := (Value.bool x19)) rfl (o_eql rfl rfl rfl hx19) ?_
        refine Ro_v (v := (Value.bool x19)) rfl (o_assign rfl rfl) ?_
        refine Ro_nil ?_
        refine Fx_cond (a := c18_33) (b := c18_34) rfl rfl (fun ex19 => ?_) (fun ex19 => ?_)
        · replace h := h.ifT ex19
          refine Fx_text rfl (by kernel_rfl) ?_
          refine Ro_v (v := (Value.bool true)) rfl (o_assign rfl rfl) ?_
          refine Ro_nil ?_
          refine Fx_blk ?_
          refine Fx_blk ?_
          exact Fx_forget (Fr.set_of (Fr.set_of (Fr.set_of (Fr.set_of rfl rfl) rfl) rfl) rfl) (p18_j1 _ _ _ _ _ _ _ h)
        · replace h := h.ifF ex19
          refine Fx_seq (a := c18_35) (b := c18_36) rfl ?_
          refine Fx_text rfl (by kernel_rfl) ?_
          refine Ro_v (v := (Value.int .u8 x12)) rfl (o_move rfl rfl) ?_
          obtain ⟨x20, hx20, h⟩ := h.lt
          refine Ro_v (v := (Value.bool x20)) rfl (o_neq rfl rfl rfl hx20) ?_
          refine Ro_v (v := (Value.bool x20)) rfl (o_move rfl rfl) ?_
          refine Ro_set (t := x20) (v := bif x20 then (Value.int .u8 x12) else undef) rfl (w_T rfl rfl rfl) (by intro e; have e0 := e; subst e0; exact o_move rfl rfl) (fun e => ⟨gv_f e, rfl⟩) ?_
          obtain ⟨x21, hx21, h⟩ := h.lt
          refine Ro_set (t := x20) (v := bif x20 then (Value.bool x21) else undef) rfl (w_T rfl rfl rfl) (by intro e; have e0 := e; subst e0; exact o_neq rfl rfl rfl hx21) (fun e => ⟨gv_f e, rfl⟩) ?_
          obtain ⟨x22, hx22, h⟩ := h.lt
          refine Ro_v (v := (Value.bool x22)) rfl (o_pick rfl rfl (by intro e; subst e; subst hx22; rfl) (by intro e; subst e; subst hx22; rfl)) ?_
          refine Ro_v (v := (Value.bool x22)) rfl (o_move rfl rfl) ?_
          refine Ro_set (t := x22) (v := bif x22 then (Value.int .u8 x12) else undef) rfl (w_T rfl rfl rfl) (by intro e; have e0 := e; subst e0; exact o_move rfl rfl) (fun e => ⟨gv_f e, rfl⟩) ?_
          obtain ⟨x23, hx23, h⟩ := h.lt
          refine Ro_set (t := x22) (v := bif x22 then (Value.bool x23) else undef) rfl (w_T rfl rfl rfl) (by intro e; have e0 := e; subst e0; exact o_neq rfl rfl rfl hx23) (fun e => ⟨gv_f e, rfl⟩) ?_
          obtain ⟨x24, hx24, h⟩ := h.lt
          refine Ro_v (v := (Value.bool x24)) rfl (o_pick rfl rfl (by intro e; subst e; subst hx24; rfl) (by intro e; subst e; subst hx24; rfl)) ?_
          refine Ro_v (v := (Value.bool x24)) rfl (o_move rfl rfl) ?_
          refine Ro_set (t := x24) (v := bif x24 then (Value.int .u8 x12) else undef) rfl (w_T rfl rfl rfl) (by intro e; have e0 := e; subst e0; exact o_move rfl rfl) (fun e => ⟨gv_f e, rfl⟩) ?_
          obtain ⟨x25, hx25, h⟩ := h.lt
          refine Ro_set (t := x24) (v := bif x24 then (Value.bool x25) else undef) rfl (w_T rfl rfl rfl) (by intro e; have e0 := e; subst e0; exact o_neq rfl rfl rfl hx25) (fun e => ⟨gv_f e, rfl⟩) ?_
          obtain ⟨x26, hx26, h⟩ := h.lt
          refine Ro_v (v := (Value.bool x26)) rfl (o_pick rfl rfl (by intro e; subst e; subst hx26; rfl) (by intro e; subst e; subst hx26; rfl)) ?_
          refine Ro_v (v := (Value.bool x26)) rfl (o_assign rfl rfl) ?_
          refine Ro_nil ?_
          refine Fx_cond (a := c18_37) (b := c18_40) rfl rfl (fun ex26 => ?_) (fun ex26 => ?_)
          · replace h := h.ifT ex26
            refine Fx_seq (a := c18_38) (b := c18_39) rfl ?_
            refine Fx_text rfl (by kernel_rfl) ?_
            refine Ro_v (v := (Value.bool false)) rfl (o_assign rfl rfl) ?_
            refine Ro_nil ?_
            exact Fx_ret rfl rfl (congrArg some h.sm)
          · replace h := h.ifF ex26
            refine Fx_skip (c := c18_40) rfl ?_
            refine Fx_blk ?_
            refine Fx_blk ?_
            refine Fx_text rfl (by kernel_rfl) ?_
            refine Ro_v (v := (Value.int .i64 i_7)) rfl (o_move rfl rfl) ?_
            obtain ⟨x27, hx27, h⟩ := h.lt
            refine Ro_v (v := (Value.int .i64 x27)) rfl (o_add rfl rfl rfl hx27) ?_
            refine Ro_v (v := (Value.int .i64 x27)) rfl (o_assign rfl rfl) ?_
            refine Ro_nil ?_
            exact Fx_forget (Fr.set_of (Fr.set_of (Fr.set_of (Fr.set_of rfl rfl) rfl) rfl) rfl) (h.sm _)
  · replace h := h.ifF ex11
    refine Fx_exit rfl ?_
    refine Fx_out_code ?_
    refine Fx_out_code ?_
    refine Fx_out_eq ?_
    exact Fx_forget (Fr.set_of (Fr.set_of rfl rfl) rfl) (h.sm _)
theorem w18 (s_2 : ByteArray) (end_3 : Bool) (σ : AHeap) (r : Bool) (h : G_lex_Trivia s_2 end_3 = some r) : callL Try.prog 18 [(Value.string s_2), (Value.bool end_3)] σ = some ((Value.bool r), σ) := by
  refine callL_walk (fn := Try.f18) (c := c18_0) (rs := rs18) Try.func18 rfl ok18 rfl rfl ?_
  obtain ⟨out, ho⟩ : ∃ out, out = ((Value.bool r), σ) := ⟨_, rfl⟩
  rw [← ho]
  replace h : OptW (G_lex_Trivia s_2 end_3) (fun r => ((Value.bool r), σ) = out) := ⟨r, h, ho.symm⟩
  unfold G_lex_Trivia at h
  refine Fx_seq (a := c18_1) (b := c18_2) rfl ?_
  refine Fx_text rfl (by kernel_rfl) ?_
  refine Ro_v (v := (Value.bool false)) rfl (o_assign rfl rfl) ?_
  refine Ro_nil ?_
  refine Fx_seq (a := c18_3) (b := c18_4) rfl ?_
  refine Fx_text rfl (by kernel_rfl) ?_
  refine Ro_v (v := (Value.bool false)) rfl (o_assign rfl rfl) ?_
  refine Ro_nil ?_
  refine Fx_seq (a := c18_5) (b := c18_42) rfl ?_
  refine Fx_seq (a := c18_6) (b := c18_7) rfl ?_
  refine Fx_text rfl (by kernel_rfl) ?_
  refine Ro_v (v := (Value.int .i64 (0))) rfl (o_assign rfl rfl) ?_
  refine Ro_nil ?_
  refine Fx_block (b := c18_8) rfl ?_
  refine Fx_forget (Fr.set_of (Fr.set_of (Fr.set_of (Fr.set_of rfl rfl) rfl) rfl) rfl) ((OptW.loop h (fun s => C18_l1 s_2 end_3 σ out (.inl s)) ?_ : C18_l1 s_2 end_3 σ out (.inl (false, (0)))) _)
  intro s hs f
  obtain ⟨comment_6, i_7⟩ := s
  refine q18_l1 s_2 end_3 comment_6 i_7 σ out f (hs.imp ?_)
  intro r hr
  rcases r with y | b
  · exact hr
  · rcases b with b | b
    · obtain ⟨comment_28, rfl⟩ : ∃ x, x = b := ⟨_, rfl⟩
      have h := hr
      intro f
      refine Fx_seq (a := c18_43) (b := c18_44) rfl ?_
      refine Fx_text rfl (by kernel_rfl) ?_
      refine Ro_v (v := (Value.bool end_3)) rfl (o_move rfl rfl) ?_
      refine Ro_v (v := (Value.bool end_3)) rfl (o_move rfl rfl) ?_
      refine Ro_set (t := !end_3) (v := bif !end_3 then (Value.bool comment_28) else undef) rfl (w_F rfl rfl rfl) (by intro e; have e0 := not_t (e); subst e0; exact o_move rfl rfl) (fun e => ⟨gv_f e, rfl⟩) ?_
      obtain ⟨x29, hx29, h⟩ := h.lt
      refine Ro_set (t := !end_3) (v := bif !end_3 then (Value.bool x29) else undef) rfl (w_F rfl rfl rfl) (by intro e; have e0 := not_t (e); subst e0; exact o_not rfl rfl hx29) (fun e => ⟨gv_f e, rfl⟩) ?_
      obtain ⟨x30, hx30, h⟩ := h.lt
      refine Ro_v (v := (Value.bool x30)) rfl (o_pick rfl rfl (by intro e; subst e; subst hx30; rfl) (by intro e; subst e; subst hx30; rfl)) ?_
      refine Ro_v (v := (Value.bool x30)) rfl (o_assign rfl rfl) ?_
      refine Ro_nil ?_
      exact Fx_ret rfl rfl (congrArg some h.sm)
    · obtain ⟨x31, rfl⟩ : ∃ x, x = b := ⟨_, rfl⟩
      have h := hr
      exact h.sm
theorem w49 (A : Option Addr) (σ : AHeap) (r : Option Addr) (h : G_abi_NoEscape A = some r) : callL Try.prog 49 [.pointer A] σ = some (.pointer r, σ) := by
  injection h with h; subst h; exact callL_noEscape Try.func49 rfl rfl
noncomputable def c43_0 : Code := bodyOf Try.f43
noncomputable def c43_1 : Code := cl c43_0
noncomputable def c43_2 : Code := cr c43_0
noncomputable def c43_3 : Code := cl c43_2
noncomputable def c43_4 : Code := cr c43_2
noncomputable def c43_5 : Code := cl c43_4
noncomputable def c43_6 : Code := cr c43_4
noncomputable def c43_7 : Code := cl c43_6
noncomputable def c43_8 : Code := cr c43_6
theorem ok43 : funcOk Try.f43 = true := by kernel_rfl
noncomputable def rs43 : List ResultVar := resultsOf Try.f43
theorem w43 (b_1 : Option Addr) (σ : AHeap) (r : AHeap) (h : G_strings_Builder_copyCheck b_1 σ = some r) : callL Try.prog 43 [(Value.pointer b_1)] σ = some ((Value.tuple #[]), r) := by
  refine callL_walk (fn := Try.f43) (c := c43_0) (rs := rs43) Try.func43 rfl ok43 rfl rfl ?_
  obtain ⟨out, ho⟩ : ∃ out, out = ((Value.tuple #[]), r) := ⟨_, rfl⟩
  rw [← ho]
  replace h : OptW (G_strings_Builder_copyCheck b_1 σ) (fun r => ((Value.tuple #[]), r) = out) := ⟨r, h, ho.symm⟩
  unfold G_strings_Builder_copyCheck at h
  refine Fx_seq (a := c43_1) (b := c43_2) rfl ?_
  refine Fx_text rfl (by kernel_rfl) ?_
  refine Ro_v (v := (Value.pointer b_1)) rfl (o_move rfl rfl) ?_
  obtain ⟨_, hx2, h⟩ := h.bd
  refine Ro_v (v := (Value.pointer b_1)) rfl (o_nilP rfl rfl hx2) ?_
  obtain ⟨x3, hx3, h⟩ := h.bd
  refine Ro_v (v := (Value.pointer x3)) rfl (o_fldA rfl tf50_0 ts48 rfl hx3) ?_
  obtain ⟨x4, hx4, h⟩ := h.bd
  refine Ro_v (v := (Value.pointer x4)) rfl (o_load1 rfl ta48 rfl (ld_ptr_eq hx4)) ?_
  obtain ⟨x5, hx5, h⟩ := h.lt
  refine Ro_v (v := (Value.bool x5)) rfl (o_pnil rfl tu48 rfl rfl hx5) ?_
  refine Ro_nil ?_
  refine Fx_cond (a := c43_3) (b := c43_4) rfl rfl (fun ex5 => ?_) (fun ex5 => ?_)
  · replace h := h.ifT ex5
    refine Fx_text rfl (by kernel_rfl) ?_
    refine Ro_v (v := (Value.pointer b_1)) rfl (o_move rfl rfl) ?_
    refine Ro_v (v := (Value.pointer b_1)) rfl (o_move rfl rfl) ?_
    obtain ⟨x6, hx6, h⟩ := h.bd
    refine Ro_v (v := (Value.pointer x6)) rfl (o_toU rfl tu48 tu59 ts50 rfl hx6) ?_
    obtain ⟨x7, hx7, h⟩ := h.bd
    refine Ro_v (v := (Value.pointer x7)) rfl (o_call (vs := [(Value.pointer x6)]) rfl rfl (w49 _ _ _ hx7)) ?_
    obtain ⟨x8, hx8, h⟩ := h.bd
    refine Ro_v (v := (Value.pointer x8)) rfl (o_fromU rfl tu59 tu48 ts50 rfl hx8) ?_
    obtain ⟨_, hx9, h⟩ := h.bd
    refine Ro_v (v := (Value.pointer b_1)) rfl (o_nilP rfl rfl hx9) ?_
    obtain ⟨x10, hx10, h⟩ := h.bd
    refine Ro_v (v := (Value.pointer x10)) rfl (o_fldA rfl tf50_0 ts48 rfl hx10) ?_
    obtain ⟨σ11, hσ11, h⟩ := h.bd
    refine Ro_d rfl (o_store (v := (Value.pointer x8)) (vs := [(Value.pointer x8)]) rfl ts48 rfl rfl rfl rfl hσ11) ?_
    refine Ro_nil ?_
    exact Fx_end rfl (congrArg some h.sm)
  · replace h := h.ifF ex5
    refine Fx_seq (a := c43_5) (b := c43_6) rfl ?_
    refine Fx_text rfl (by kernel_rfl) ?_
    refine Ro_v (v := (Value.pointer b_1)) rfl (o_move rfl rfl) ?_
    obtain ⟨_, hx12, h⟩ := h.bd
    refine Ro_v (v := (Value.pointer b_1)) rfl (o_nilP rfl rfl hx12) ?_
    obtain ⟨x13, hx13, h⟩ := h.bd
    refine Ro_v (v := (Value.pointer x13)) rfl (o_fldA rfl tf50_0 ts48 rfl hx13) ?_
    obtain ⟨x14, hx14, h⟩ := h.bd
    refine Ro_v (v := (Value.pointer x14)) rfl (o_load1 rfl ta48 rfl (ld_ptr_eq hx14)) ?_
    refine Ro_v (v := (Value.pointer b_1)) rfl (o_move rfl rfl) ?_
    obtain ⟨x15, hx15, h⟩ := h.bd
    obtain ⟨x16, hx16, h⟩ := h.lt
    refine Ro_v (v := (Value.bool x16)) rfl (o_pneq rfl tu48 ts50 rfl rfl hx15 hx16) ?_
    refine Ro_nil ?_
    refine Fx_cond (a := c43_7) (b := c43_8) rfl rfl (fun ex16 => ?_) (fun ex16 => ?_)
    · replace h := h.ifT ex16
      exact h.nn.elim
    · replace h := h.ifF ex16
      refine Fx_skip (c := c43_8) rfl ?_
      exact Fx_end rfl (congrArg some h.sm)
noncomputable def c29_0 : Code := bodyOf Try.f29
noncomputable def c29_1 : Code := cl c29_0
noncomputable def c29_2 : Code := cr c29_0
noncomputable def c29_3 : Code := cl c29_2
noncomputable def c29_4 : Code := cr c29_2
noncomputable def c29_5 : Code := cl c29_4
noncomputable def c29_6 : Code := cr c29_4
noncomputable def c29_7 : Code := cl c29_6
noncomputable def c29_8 : Code := cr c29_6
theorem ok29 : funcOk Try.f29 = true := by kernel_rfl
noncomputable def rs29 : List ResultVar := resultsOf Try.f29
theorem w29 (b_3 : Option Addr) (s_4 : ByteArray) (σ : AHeap) (r : (Int × Value × AHeap)) (h : G_strings_Builder_WriteString b_3 s_4 σ = some r) : callL Try.prog 29 [(Value.pointer b_3), (Value.string s_4)] σ = some ((Value.tuple #[(Value.int .i64 r.1), r.2.1]), r.2.2) := by
  refine callL_walk (fn := Try.f29) (c := c29_0) (rs := rs29) Try.func29 rfl ok29 rfl rfl ?_
  obtain ⟨out, ho⟩ : ∃ out, out = ((Value.tuple #[(Value.int .i64 r.1), r.2.1]), r.2.2) := ⟨_, rfl⟩
  rw [← ho]
  replace h : OptW (G_strings_Builder_WriteString b_3 s_4 σ) (fun r => ((Value.tuple #[(Value.int .i64 r.1), r.2.1]), r.2.2) = out) := ⟨r, h, ho.symm⟩
  unfold G_strings_Builder_WriteString at h
  refine Fx_seq (a := c29_1) (b := c29_2) rfl ?_
  refine Fx_text rfl (by kernel_rfl) ?_
  refine Ro_v (v := (Value.int .i64 (0))) rfl (o_assign rfl rfl) ?_
  refine Ro_v (v := (Value.nilIface)) rfl (o_assign rfl rfl) ?_
  refine Ro_nil ?_
  refine Fx_seq (a := c29_3) (b := c29_4) rfl ?_
  refine Fx_text rfl (by kernel_rfl) ?_
  refine Ro_v (v := (Value.pointer b_3)) rfl (o_move rfl rfl) ?_
  obtain ⟨σ6, hσ6, h⟩ := h.bd
  refine Ro_v (v := (Value.tuple #[])) rfl (o_call (vs := [(Value.pointer b_3)]) rfl rfl (w43 _ _ _ hσ6)) ?_
  refine Ro_nil ?_
  refine Fx_seq (a := c29_5) (b := c29_6) rfl ?_
  refine Fx_text rfl (by kernel_rfl) ?_
  refine Ro_v (v := (Value.pointer b_3)) rfl (o_move rfl rfl) ?_
  refine Ro_v (v := (Value.pointer b_3)) rfl (o_move rfl rfl) ?_
  obtain ⟨_, hx7, h⟩ := h.bd
  refine Ro_v (v := (Value.pointer b_3)) rfl (o_nilP rfl rfl hx7) ?_
  obtain ⟨x8, hx8, h⟩ := h.bd
  refine Ro_v (v := (Value.pointer x8)) rfl (o_fldA rfl tf50_1 ts45 rfl hx8) ?_
  obtain ⟨x9, hx9, h⟩ := h.bd
  refine Ro_v (v := (Sl.v x9)) rfl (o_load1 rfl ta45 rfl (ld_sl_eq hx9)) ?_
  refine Ro_v (v := (Value.string s_4)) rfl (o_move rfl rfl) ?_
  obtain ⟨⟨x10, σ11⟩, hσ11, h⟩ := h.bd
  refine Ro_v (v := (Sl.v x10)) rfl (o_appSt rfl tu45 tu9 rfl ti5 rfl rfl rfl hσ11) ?_
  obtain ⟨_, hx12, h⟩ := h.bd
  refine Ro_v (v := (Value.pointer b_3)) rfl (o_nilP rfl rfl hx12) ?_
  obtain ⟨x13, hx13, h⟩ := h.bd
  refine Ro_v (v := (Value.pointer x13)) rfl (o_fldA rfl tf50_1 ts45 rfl hx13) ?_
  obtain ⟨σ14, hσ14, h⟩ := h.bd
  refine Ro_d rfl (o_store (v := (Sl.v x10)) (vs := [(Sl.v x10)]) rfl ts45 rfl rfl rfl rfl hσ14) ?_
  refine Ro_nil ?_
  refine Fx_seq (a := c29_7) (b := c29_8) rfl ?_
  refine Fx_text rfl (by kernel_rfl) ?_
  refine Ro_v (v := (Value.string s_4)) rfl (o_move rfl rfl) ?_
  obtain ⟨x15, hx15, h⟩ := h.lt
  refine Ro_v (v := (Value.int .i64 x15)) rfl (o_lenS rfl tu9 rfl hx15) ?_
  refine Ro_v (v := (Value.int .i64 x15)) rfl (o_assign rfl rfl) ?_
  refine Ro_v (v := (Value.nilIface)) rfl (o_assign rfl rfl) ?_
  refine Ro_nil ?_
  exact Fx_ret rfl rfl (congrArg some h.sm)
noncomputable def c30_0 : Code := bodyOf Try.f30
noncomputable def c30_1 : Code := cl c30_0
noncomputable def c30_2 : Code := cr c30_0
noncomputable def c30_3 : Code := cl c30_2
noncomputable def c30_4 : Code := cr c30_2
theorem ok30 : funcOk Try.f30 = true := by kernel_rfl
noncomputable def rs30 : List ResultVar := resultsOf Try.f30
theorem w30 (b_2 : Option Addr) (σ : AHeap) (r : (ByteArray × AHeap)) (h : G_strings_Builder_String b_2 σ = some r) : callL Try.prog 30 [(Value.pointer b_2)] σ = some ((Value.string r.1), r.2) := by
  refine callL_walk (fn := Try.f30) (c := c30_0) (rs := rs30) Try.func30 rfl ok30 rfl rfl ?_
  obtain ⟨out, ho⟩ : ∃ out, out = ((Value.string r.1), r.2) := ⟨_, rfl⟩
  rw [← ho]
  replace h : OptW (G_strings_Builder_String b_2 σ) (fun r => ((Value.string r.1), r.2) = out) := ⟨r, h, ho.symm⟩
  unfold G_strings_Builder_String at h
  refine Fx_seq (a := c30_1) (b := c30_2) rfl ?_
  refine Fx_text rfl (by kernel_rfl) ?_
  refine Ro_v (v := (Value.string (⟨#[]⟩ : ByteArray))) rfl (o_assign rfl rfl) ?_
  refine Ro_nil ?_
  refine Fx_seq (a := c30_3) (b := c30_4) rfl ?_
  refine Fx_draw (ops := opsIn c30_3) (l := [(opA (opsIn c30_3) 0, 0), (opA (opsIn c30_3) 1, 1), (opA (opsIn c30_3) 2, 2), (opA (opsIn c30_3) 3, 3), (opA (opsIn c30_3) 4, 4), (opA (opsIn c30_3) 5, 5), (opA (opsIn c30_3) 6, 6), (opA (opsIn c30_3) 7, 7), (opA (opsIn c30_3) 8, 8), (opA (opsIn c30_3) 9, 9), (opA (opsIn c30_3) 10, 10), (opA (opsIn c30_3) 11, 11)]) rfl (by kernel_rfl) (by kernel_rfl) (by kernel_rfl) ?_
  refine Rd_v (v := (Value.pointer b_2)) (ps' := []) rfl (o_move rfl rfl) (reads_no rfl) rfl ?_
  obtain ⟨_, hx3, h⟩ := h.bd
  refine Rd_v (v := (Value.pointer b_2)) (ps' := []) rfl (o_nilP rfl rfl hx3) (reads_no rfl) rfl ?_
  obtain ⟨x4, hx4, h⟩ := h.bd
  refine Rd_v (v := (Value.pointer x4)) (ps' := []) rfl (o_fldA rfl tf50_1 ts45 rfl hx4) (reads_no rfl) rfl ?_
  obtain ⟨x5, hx5, h⟩ := h.bd
  refine Rd_v (v := (Sl.v x5)) (ps' := []) rfl (o_load1 rfl ta45 rfl (ld_sl_eq hx5)) reads_nil rfl ?_
  obtain ⟨x6, hx6, h⟩ := h.bd
  refine Rd_v (v := (Value.pointer x6)) (ps' := [(4, σ)]) rfl (o_dataS rfl rfl hx6) (reads_no rfl) rfl ?_
  refine Rd_v (v := (Value.pointer b_2)) (ps' := [(4, σ)]) rfl (o_move rfl rfl) (reads_no rfl) rfl ?_
  obtain ⟨_, hx7, h⟩ := h.bd
  refine Rd_v (v := (Value.pointer b_2)) (ps' := [(4, σ)]) rfl (o_nilP rfl rfl hx7) (reads_no rfl) rfl ?_
  obtain ⟨x8, hx8, h⟩ := h.bd
  refine Rd_v (v := (Value.pointer x8)) (ps' := [(4, σ)]) rfl (o_fldA rfl tf50_1 ts45 rfl hx8) (reads_no rfl) rfl ?_
  obtain ⟨x9, hx9, h⟩ := h.bd
  refine Rd_v (v := (Sl.v x9)) (ps' := [(4, σ)]) rfl (o_load1 rfl ta45 rfl (ld_sl_eq hx9)) (reads_at (call := callL Try.prog) (o_load1 rfl ta45 rfl (ld_sl_eq hx9)) reads_nil) rfl ?_
  obtain ⟨x10, hx10, h⟩ := h.lt
  refine Rd_v (v := (Value.int .i64 x10)) (ps' := [(4, σ)]) rfl (o_lenSl rfl tu45 rfl hx10) (reads_at (call := callL Try.prog) (o_lenSl rfl tu45 rfl hx10) reads_nil) rfl ?_
  obtain ⟨⟨x11, σ12⟩, hσ12, h⟩ := h.bd
  refine Rd_v (v := (Value.string x11)) (ps' := [(10, σ), (4, σ)]) rfl (o_strU rfl tu58 ts5 rfl rfl hσ12) (reads_no rfl) rfl ?_
  refine Rd_v (v := (Value.string x11)) (ps' := [(10, σ), (4, σ)]) rfl (o_assign rfl rfl) (reads_no rfl) rfl ?_
  refine Rd_nil ?_
  exact Fx_ret rfl rfl (congrArg some h.sm)
noncomputable def c20_0 : Code := bodyOf Try.f20
noncomputable def c20_1 : Code := cl c20_0
noncomputable def c20_2 : Code := cr c20_0
noncomputable def c20_3 : Code := cl c20_2
noncomputable def c20_4 : Code := cr c20_2
noncomputable def c20_5 : Code := cl c20_4
noncomputable def c20_6 : Code := cl c20_5
noncomputable def c20_7 : Code := cr c20_5
noncomputable def c20_8 : Code := cl c20_7
noncomputable def c20_9 : Code := cl c20_8
noncomputable def c20_10 : Code := cl c20_9
noncomputable def c20_11 : Code := cr c20_9
noncomputable def c20_12 : Code := cl c20_11
noncomputable def c20_13 : Code := cl c20_12
noncomputable def c20_14 : Code := cr c20_12
noncomputable def c20_15 : Code := cr c20_11
noncomputable def c20_16 : Code := cl c20_15
noncomputable def c20_17 : Code := cl c20_16
noncomputable def c20_18 : Code := cl c20_17
noncomputable def c20_19 : Code := cr c20_17
noncomputable def c20_20 : Code := cl c20_19
noncomputable def c20_21 : Code := cr c20_19
noncomputable def c20_22 : Code := cr c20_15
noncomputable def c20_23 : Code := cr c20_4
noncomputable def c20_24 : Code := cl c20_23
noncomputable def c20_25 : Code := cr c20_23
noncomputable def c20_26 : Code := cl c20_25
noncomputable def c20_27 : Code := cr c20_25
theorem ok20 : funcOk Try.f20 = true := by kernel_rfl
noncomputable def rs20 : List ResultVar := resultsOf Try.f20
noncomputable def C20_l1 (tail_7 : ByteArray) (b_8 : Option Addr) (x9 : Sl) (x10 : Int)  (out : Value × AHeap) : (Int × AHeap) ⊕ AHeap → Prop
  | .inl (x11, σ) => ∀ f, Fx Try.prog rs20 [.code c20_8, .blk 0, .code c20_23] .normal (Fr.set (Fr.set (Fr.set (Fr.set (Fr.set f 1 (Value.string tail_7)) 5 (Value.pointer b_8)) 8 (Sl.v x9)) 9 (Value.int .i64 x10)) 10 (Value.int .i64 x11)) σ = some out
  | .inr σ => ∀ f, Fx Try.prog rs20 [.code c20_23] .normal (Fr.set (Fr.set f 1 (Value.string tail_7)) 5 (Value.pointer b_8)) σ = some out
theorem q20_l1 (tail_7 : ByteArray) (b_8 : Option Addr) (x9 : Sl) (x10 : Int) (x11 : Int) (σ : AHeap)  (out : Value × AHeap) (f : Fr) (h : OptW (G_lex_Join_l1 tail_7 b_8 x9 x10 (x11, σ)) (C20_l1 tail_7 b_8 x9 x10 out)) :
    Fx Try.prog rs20 [.code c20_8, .blk 0, .code c20_23] .normal (Fr.set (Fr.set (Fr.set (Fr.set (Fr.set f 1 (Value.string tail_7)) 5 (Value.pointer b_8)) 8 (Sl.v x9)) 9 (Value.int .i64 x10)) 10 (Value.int .i64 x11)) σ = some out := by
  unfold G_lex_Join_l1 at h
  refine Fx_loop (b := c20_9) rfl ?_
  refine Fx_seq (a := c20_10) (b := c20_11) rfl ?_
  refine Fx_text rfl (by kernel_rfl) ?_
  obtain ⟨x12, hx12, h⟩ := h.lt
  refine Ro_v (v := (Value.bool x12)) rfl (o_lss rfl rfl rfl hx12) ?_
  refine Ro_nil ?_
  refine Fx_seq (a := c20_12) (b := c20_15) rfl ?_
  refine Fx_cond (a := c20_13) (b := c20_14) rfl rfl (fun ex12 => ?_) (fun ex12 => ?_)
  · replace h := h.ifT ex12
    refine Fx_skip (c := c20_13) rfl ?_
    refine Fx_seq (a := c20_16) (b := c20_22) rfl ?_
    refine Fx_block (b := c20_17) rfl ?_
    refine Fx_seq (a := c20_18) (b := c20_19) rfl ?_
    refine Fx_text rfl (by kernel_rfl) ?_
    obtain ⟨x13, hx13, h⟩ := h.bd
    refine Ro_v (v := (Value.pointer x13)) rfl (o_iaSl rfl tu23 ts33 rfl rfl hx13) ?_
    obtain ⟨⟨x14, x15, x16⟩, hx14, h⟩ := h.bd
    refine Ro_v (v := (Value.agg #[(Value.int .i64 x14), (Value.string x15), (Value.string x16)])) rfl (o_loadN rfl ta33 ts33 rfl (ld_i64_str_str_eq hx14)) ?_
    obtain ⟨⟨t_17, σ18⟩, hσ18, h⟩ := h.lt
    refine Ro_v (v := (Value.pointer t_17)) rfl (o_alloc (vs := [(Value.int .i64 0), (Value.string (ByteArray.empty)), (Value.string (ByteArray.empty))]) rfl tz33 rfl rfl hσ18.symm) ?_
    obtain ⟨σ19, hσ19, h⟩ := h.bd
    refine Ro_d rfl (o_store (v := (Value.agg #[(Value.int .i64 x14), (Value.string x15), (Value.string x16)])) (vs := [(Value.int .i64 x14), (Value.string x15), (Value.string x16)]) rfl ts33 rfl rfl rfl rfl hσ19) ?_
    refine Ro_nil ?_
    refine Fx_seq (a := c20_20) (b := c20_21) rfl ?_
    refine Fx_text rfl (by kernel_rfl) ?_
    obtain ⟨x20, hx20, h⟩ := h.bd
    refine Ro_v (v := (Value.pointer x20)) rfl (o_fldA rfl tf33_1 ts9 rfl hx20) ?_
    obtain ⟨x21, hx21, h⟩ := h.bd
    refine Ro_v (v := (Value.string x21)) rfl (o_load1 rfl ta9 rfl (ld_str_eq hx21)) ?_
    obtain ⟨⟨x24, x25, σ26⟩, hσ26, h⟩ := h.bd
    refine Ro_v (v := (Value.tuple #[(Value.int .i64 x24), x25])) rfl (o_call (vs := [(Value.pointer b_8), (Value.string x21)]) rfl rfl (w29 _ _ _ _ hσ26)) ?_
    refine Ro_nil ?_
    refine Fx_text rfl (by kernel_rfl) ?_
    obtain ⟨x27, hx27, h⟩ := h.bd
    refine Ro_v (v := (Value.pointer x27)) rfl (o_fldA rfl tf33_2 ts9 rfl hx27) ?_
    obtain ⟨x28, hx28, h⟩ := h.bd
    refine Ro_v (v := (Value.string x28)) rfl (o_load1 rfl ta9 rfl (ld_str_eq hx28)) ?_
    obtain ⟨⟨x31, x32, σ33⟩, hσ33, h⟩ := h.bd
    refine Ro_v (v := (Value.tuple #[(Value.int .i64 x31), x32])) rfl (o_call (vs := [(Value.pointer b_8), (Value.string x28)]) rfl rfl (w29 _ _ _ _ hσ33)) ?_
    refine Ro_nil ?_
    refine Fx_blk ?_
    refine Fx_text rfl (by kernel_rfl) ?_
    obtain ⟨x34, hx34, h⟩ := h.lt
    refine Ro_v (v := (Value.int .i64 x34)) rfl (o_add rfl rfl rfl hx34) ?_
    refine Ro_v (v := (Value.int .i64 x34)) rfl (o_move rfl rfl) ?_
    refine Ro_nil ?_
    exact Fx_forget (Fr.set_of (Fr.set_of (Fr.set_of (Fr.set_of (Fr.set_of rfl rfl) rfl) rfl) rfl) rfl) (h.sm _)
  · replace h := h.ifF ex12
    refine Fx_exit rfl ?_
    refine Fx_out_code ?_
    refine Fx_out_code ?_
    refine Fx_out_eq ?_
    exact Fx_forget (Fr.set_of (Fr.set_of rfl rfl) rfl) (h.sm _)
theorem w20 (l_2 : Sl) (tail_3 : ByteArray) (σ : AHeap) (r : (ByteArray × AHeap)) (h : G_lex_Join l_2 tail_3 σ = some r) : callL Try.prog 20 [(Sl.v l_2), (Value.string tail_3)] σ = some ((Value.string r.1), r.2) := by
  refine callL_walk (fn := Try.f20) (c := c20_0) (rs := rs20) Try.func20 rfl ok20 rfl rfl ?_
  obtain ⟨out, ho⟩ : ∃ out, out = ((Value.string r.1), r.2) := ⟨_, rfl⟩
  rw [← ho]
  replace h : OptW (G_lex_Join l_2 tail_3 σ) (fun r => ((Value.string r.1), r.2) = out) := ⟨r, h, ho.symm⟩
  unfold G_lex_Join at h
  refine Fx_seq (a := c20_1) (b := c20_2) rfl ?_
  refine Fx_text rfl (by kernel_rfl) ?_
  refine Ro_v (v := (Value.string (⟨#[]⟩ : ByteArray))) rfl (o_assign rfl rfl) ?_
  refine Ro_nil ?_
  refine Fx_seq (a := c20_3) (b := c20_4) rfl ?_
  refine Fx_text rfl (by kernel_rfl) ?_
  obtain ⟨⟨b_4, σ5⟩, hσ5, h⟩ := h.lt
  refine Ro_v (v := (Value.pointer b_4)) rfl (o_alloc (vs := [(Value.pointer none), (Sl.v Sl.nil)]) rfl tz50 rfl rfl hσ5.symm) ?_
  refine Ro_nil ?_
  refine Fx_seq (a := c20_5) (b := c20_23) rfl ?_
  refine Fx_seq (a := c20_6) (b := c20_7) rfl ?_
  refine Fx_text rfl (by kernel_rfl) ?_
  refine Ro_v (v := (Sl.v l_2)) rfl (o_move rfl rfl) ?_
  obtain ⟨x6, hx6, h⟩ := h.lt
  refine Ro_v (v := (Value.int .i64 x6)) rfl (o_lenSl rfl tu23 rfl hx6) ?_
  refine Ro_v (v := (Value.int .i64 (0))) rfl (o_move rfl rfl) ?_
  refine Ro_nil ?_
  refine Fx_block (b := c20_8) rfl ?_
  refine Fx_forget (Fr.set_of (Fr.set_of (Fr.set_of (Fr.set_of (Fr.set_of rfl rfl) rfl) rfl) rfl) rfl) ((OptW.loop h (fun s => C20_l1 tail_3 b_4 l_2 x6 out (.inl s)) ?_ : C20_l1 tail_3 b_4 l_2 x6 out (.inl ((0), σ5))) _)
  intro s hs f
  obtain ⟨x11, σ⟩ := s
  refine q20_l1 tail_3 b_4 l_2 x6 x11 σ out f (hs.imp ?_)
  intro r hr
  rcases r with y | b
  · exact hr
  · obtain ⟨σ35, rfl⟩ : ∃ x, x = b := ⟨_, rfl⟩
    have h := hr
    intro f
    refine Fx_seq (a := c20_24) (b := c20_25) rfl ?_
    refine Fx_text rfl (by kernel_rfl) ?_
    refine Ro_v (v := (Value.string tail_3)) rfl (o_move rfl rfl) ?_
    obtain ⟨⟨x38, x39, σ40⟩, hσ40, h⟩ := h.bd
    refine Ro_v (v := (Value.tuple #[(Value.int .i64 x38), x39])) rfl (o_call (vs := [(Value.pointer b_4), (Value.string tail_3)]) rfl rfl (w29 _ _ _ _ hσ40)) ?_
    refine Ro_nil ?_
    refine Fx_seq (a := c20_26) (b := c20_27) rfl ?_
    refine Fx_text rfl (by kernel_rfl) ?_
    obtain ⟨⟨x42, σ43⟩, hσ43, h⟩ := h.bd
    refine Ro_v (v := (Value.string x42)) rfl (o_call (vs := [(Value.pointer b_4)]) rfl rfl (w30 _ _ _ hσ43)) ?_
    refine Ro_v (v := (Value.string x42)) rfl (o_assign rfl rfl) ?_
    refine Ro_nil ?_
    exact Fx_ret rfl rfl (congrArg some h.sm)
noncomputable def c21_0 : Code := bodyOf Try.f21
noncomputable def c21_1 : Code := cl c21_0
noncomputable def c21_2 : Code := cr c21_0
noncomputable def c21_3 : Code := cl c21_2
noncomputable def c21_4 : Code := cr c21_2
noncomputable def c21_5 : Code := cl c21_4
noncomputable def c21_6 : Code := cl c21_5
noncomputable def c21_7 : Code := cr c21_5
noncomputable def c21_8 : Code := cl c21_7
noncomputable def c21_9 : Code := cl c21_8
noncomputable def c21_10 : Code := cl c21_9
noncomputable def c21_11 : Code := cl c21_10
noncomputable def c21_12 : Code := cr c21_10
noncomputable def c21_13 : Code := cl c21_12
noncomputable def c21_14 : Code := cr c21_12
noncomputable def c21_15 : Code := cr c21_9
noncomputable def c21_16 : Code := cl c21_15
noncomputable def c21_17 : Code := cl c21_16
noncomputable def c21_18 : Code := cr c21_15
noncomputable def c21_19 : Code := cr c21_4
noncomputable def c21_20 : Code := cl c21_19
noncomputable def c21_21 : Code := cr c21_19
theorem ok21 : funcOk Try.f21 = true := by kernel_rfl
noncomputable def rs21 : List ResultVar := resultsOf Try.f21
noncomputable def C21_l1 (l_4 : Sl) (tail_5 : ByteArray) (σ : AHeap) (out : Value × AHeap) : (ByteArray × Int) ⊕ ByteArray → Prop
  | .inl (s_6, i_7) => ∀ f, Fx Try.prog rs21 [.code c21_8, .blk 0, .code c21_19] .normal (Fr.set (Fr.set (Fr.set (Fr.set f 0 (Sl.v l_4)) 1 (Value.string tail_5)) 5 (Value.string s_6)) 6 (Value.int .i64 i_7)) σ = some out
  | .inr s_8 => ∀ f, Fx Try.prog rs21 [.code c21_19] .normal (Fr.set (Fr.set f 1 (Value.string tail_5)) 5 (Value.string s_8)) σ = some out
theorem q21_l1 (l_4 : Sl) (tail_5 : ByteArray) (s_6 : ByteArray) (i_7 : Int) (σ : AHeap) (out : Value × AHeap) (f : Fr) (h : OptW (G_semvcsref01_Join_l1 l_4 tail_5 σ (s_6, i_7)) (C21_l1 l_4 tail_5 σ out)) :
    Fx Try.prog rs21 [.code c21_8, .blk 0, .code c21_19] .normal (Fr.set (Fr.set (Fr.set (Fr.set f 0 (Sl.v l_4)) 1 (Value.string tail_5)) 5 (Value.string s_6)) 6 (Value.int .i64 i_7)) σ = some out := by
  unfold G_semvcsref01_Join_l1 at h
  refine Fx_loop (b := c21_9) rfl ?_
  refine Fx_seq (a := c21_10) (b := c21_15) rfl ?_
  refine Fx_seq (a := c21_11) (b := c21_12) rfl ?_
  refine Fx_text rfl (by kernel_rfl) ?_
  refine Ro_v (v := (Value.int .i64 i_7)) rfl (o_move rfl rfl) ?_
  refine Ro_v (v := (Sl.v l_4)) rfl (o_move rfl rfl) ?_
  obtain ⟨x9, hx9, h⟩ := h.lt
  refine Ro_v (v := (Value.int .i64 x9)) rfl (o_lenSl rfl tu23 rfl hx9) ?_
  obtain ⟨x10, hx10, h⟩ := h.lt
  refine Ro_v (v := (Value.bool x10)) rfl (o_lss rfl rfl rfl hx10) ?_
  refine Ro_nil ?_
  refine Fx_cond (a := c21_13) (b := c21_14) rfl rfl (fun ex10 => ?_) (fun ex10 => ?_)
  · replace h := h.ifT ex10
    refine Fx_skip (c := c21_13) rfl ?_
    refine Fx_seq (a := c21_16) (b := c21_18) rfl ?_
    refine Fx_block (b := c21_17) rfl ?_
    refine Fx_draw (ops := opsIn c21_17) (l := [(opA (opsIn c21_17) 0, 0), (opA (opsIn c21_17) 1, 1), (opA (opsIn c21_17) 2, 2), (opA (opsIn c21_17) 3, 3), (opA (opsIn c21_17) 4, 4), (opA (opsIn c21_17) 5, 5), (opA (opsIn c21_17) 6, 6), (opA (opsIn c21_17) 7, 7), (opA (opsIn c21_17) 8, 8), (opA (opsIn c21_17) 9, 9), (opA (opsIn c21_17) 10, 10), (opA (opsIn c21_17) 11, 11), (opA (opsIn c21_17) 12, 12), (opA (opsIn c21_17) 13, 13)]) rfl (by kernel_rfl) (by kernel_rfl) (by kernel_rfl) ?_
    refine Rd_v (v := (Value.string s_6)) (ps' := []) rfl (o_move rfl rfl) (reads_no rfl) rfl ?_
    refine Rd_v (v := (Sl.v l_4)) (ps' := []) rfl (o_move rfl rfl) (reads_no rfl) rfl ?_
    refine Rd_v (v := (Value.int .i64 i_7)) (ps' := []) rfl (o_move rfl rfl) (reads_no rfl) rfl ?_
    obtain ⟨x11, hx11, h⟩ := h.bd
    refine Rd_v (v := (Value.pointer x11)) (ps' := []) rfl (o_iaSl rfl tu23 ts33 rfl rfl hx11) (reads_no rfl) rfl ?_
    obtain ⟨x12, hx12, h⟩ := h.bd
    refine Rd_v (v := (Value.pointer x12)) (ps' := []) rfl (o_fldA rfl tf33_1 ts9 rfl hx12) (reads_no rfl) rfl ?_
    obtain ⟨x13, hx13, h⟩ := h.bd
    refine Rd_v (v := (Value.string x13)) (ps' := []) rfl (o_load1 rfl ta9 rfl (ld_str_eq hx13)) reads_nil rfl ?_
    obtain ⟨x14, hx14, h⟩ := h.bd
    refine Rd_v (v := (Value.string x14)) (ps' := []) rfl (o_saddO rfl rfl rfl hx14) (reads_no rfl) rfl ?_
    refine Rd_v (v := (Sl.v l_4)) (ps' := []) rfl (o_move rfl rfl) (reads_no rfl) rfl ?_
    refine Rd_v (v := (Value.int .i64 i_7)) (ps' := []) rfl (o_move rfl rfl) (reads_no rfl) rfl ?_
    obtain ⟨x15, hx15, h⟩ := h.bd
    refine Rd_v (v := (Value.pointer x15)) (ps' := []) rfl (o_iaSl rfl tu23 ts33 rfl rfl hx15) (reads_no rfl) rfl ?_
    obtain ⟨x16, hx16, h⟩ := h.bd
    refine Rd_v (v := (Value.pointer x16)) (ps' := []) rfl (o_fldA rfl tf33_2 ts9 rfl hx16) (reads_no rfl) rfl ?_
    obtain ⟨x17, hx17, h⟩ := h.bd
    refine Rd_v (v := (Value.string x17)) (ps' := []) rfl (o_load1 rfl ta9 rfl (ld_str_eq hx17)) reads_nil rfl ?_
    obtain ⟨x18, hx18, h⟩ := h.bd
    refine Rd_v (v := (Value.string x18)) (ps' := []) rfl (o_saddO rfl rfl rfl hx18) (reads_no rfl) rfl ?_
    refine Rd_v (v := (Value.string x18)) (ps' := []) rfl (o_assign rfl rfl) (reads_no rfl) rfl ?_
    refine Rd_nil ?_
    refine Fx_blk ?_
    refine Fx_text rfl (by kernel_rfl) ?_
    refine Ro_v (v := (Value.int .i64 i_7)) rfl (o_move rfl rfl) ?_
    obtain ⟨x19, hx19, h⟩ := h.lt
    refine Ro_v (v := (Value.int .i64 x19)) rfl (o_add rfl rfl rfl hx19) ?_
    refine Ro_v (v := (Value.int .i64 x19)) rfl (o_assign rfl rfl) ?_
    refine Ro_nil ?_
    exact Fx_forget (Fr.set_of (Fr.set_of (Fr.set_of (Fr.set_of rfl rfl) rfl) rfl) rfl) (h.sm _)
  · replace h := h.ifF ex10
    refine Fx_exit rfl ?_
    refine Fx_out_code ?_
    refine Fx_out_code ?_
    refine Fx_out_eq ?_
    exact Fx_forget (Fr.set_of (Fr.set_of rfl rfl) rfl) (h.sm _)
theorem w21 (l_2 : Sl) (tail_3 : ByteArray) (σ : AHeap) (r : ByteArray) (h : G_semvcsref01_Join l_2 tail_3 σ = some r) : callL Try.prog 21 [(Sl.v l_2), (Value.string tail_3)] σ = some ((Value.string r), σ) := by
  refine callL_walk (fn := Try.f21) (c := c21_0) (rs := rs21) Try.func21 rfl ok21 rfl rfl ?_
  obtain ⟨out, ho⟩ : ∃ out, out = ((Value.string r), σ) := ⟨_, rfl⟩
  rw [← ho]
  replace h : OptW (G_semvcsref01_Join l_2 tail_3 σ) (fun r => ((Value.string r), σ) = out) := ⟨r, h, ho.symm⟩
  unfold G_semvcsref01_Join at h
  refine Fx_seq (a := c21_1) (b := c21_2) rfl ?_
  refine Fx_text rfl (by kernel_rfl) ?_
  refine Ro_v (v := (Value.string (⟨#[]⟩ : ByteArray))) rfl (o_assign rfl rfl) ?_
  refine Ro_nil ?_
  refine Fx_seq (a := c21_3) (b := c21_4) rfl ?_
  refine Fx_text rfl (by kernel_rfl) ?_
  refine Ro_v (v := (Value.string (⟨#[]⟩ : ByteArray))) rfl (o_assign rfl rfl) ?_
  refine Ro_nil ?_
  refine Fx_seq (a := c21_5) (b := c21_19) rfl ?_
  refine Fx_seq (a := c21_6) (b := c21_7) rfl ?_
  refine Fx_text rfl (by kernel_rfl) ?_
  refine Ro_v (v := (Value.int .i64 (0))) rfl (o_assign rfl rfl) ?_
  refine Ro_nil ?_
  refine Fx_block (b := c21_8) rfl ?_
  refine Fx_forget (Fr.set_of (Fr.set_of (Fr.set_of (Fr.set_of rfl rfl) rfl) rfl) rfl) ((OptW.loop h (fun s => C21_l1 l_2 tail_3 σ out (.inl s)) ?_ : C21_l1 l_2 tail_3 σ out (.inl ((⟨#[]⟩ : ByteArray), (0)))) _)
  intro s hs f
  obtain ⟨s_6, i_7⟩ := s
  refine q21_l1 l_2 tail_3 s_6 i_7 σ out f (hs.imp ?_)
  intro r hr
  rcases r with y | b
  · exact hr
  · obtain ⟨s_20, rfl⟩ : ∃ x, x = b := ⟨_, rfl⟩
    have h := hr
    intro f
    refine Fx_seq (a := c21_20) (b := c21_21) rfl ?_
    refine Fx_text rfl (by kernel_rfl) ?_
    refine Ro_v (v := (Value.string s_20)) rfl (o_move rfl rfl) ?_
    refine Ro_v (v := (Value.string tail_3)) rfl (o_move rfl rfl) ?_
    obtain ⟨x21, hx21, h⟩ := h.bd
    refine Ro_v (v := (Value.string x21)) rfl (o_saddO rfl rfl rfl hx21) ?_
    refine Ro_v (v := (Value.string x21)) rfl (o_assign rfl rfl) ?_
    refine Ro_nil ?_
    exact Fx_ret rfl rfl (congrArg some h.sm)
noncomputable def c9_0 : Code := bodyOf Try.f9
noncomputable def c9_1 : Code := cl c9_0
noncomputable def c9_2 : Code := cr c9_0
noncomputable def c9_3 : Code := cl c9_2
noncomputable def c9_4 : Code := cl c9_3
noncomputable def c9_5 : Code := cr c9_3
noncomputable def c9_6 : Code := cl c9_5
noncomputable def c9_7 : Code := cl c9_6
noncomputable def c9_8 : Code := cr c9_6
noncomputable def c9_9 : Code := cr c9_5
noncomputable def c9_10 : Code := cr c9_2
noncomputable def c9_11 : Code := cl c9_10
noncomputable def c9_12 : Code := cl c9_11
noncomputable def c9_13 : Code := cr c9_11
noncomputable def c9_14 : Code := cl c9_13
noncomputable def c9_15 : Code := cl c9_14
noncomputable def c9_16 : Code := cl c9_15
noncomputable def c9_17 : Code := cl c9_16
noncomputable def c9_18 : Code := cr c9_16
noncomputable def c9_19 : Code := cl c9_18
noncomputable def c9_20 : Code := cr c9_18
noncomputable def c9_21 : Code := cr c9_15
noncomputable def c9_22 : Code := cl c9_21
noncomputable def c9_23 : Code := cl c9_22
noncomputable def c9_24 : Code := cl c9_23
noncomputable def c9_25 : Code := cr c9_23
noncomputable def c9_26 : Code := cl c9_25
noncomputable def c9_27 : Code := cl c9_26
noncomputable def c9_28 : Code := cr c9_26
noncomputable def c9_29 : Code := cr c9_25
noncomputable def c9_30 : Code := cr c9_21
noncomputable def c9_31 : Code := cr c9_10
noncomputable def c9_32 : Code := cl c9_31
noncomputable def c9_33 : Code := cr c9_31
noncomputable def c9_34 : Code := cl c9_33
noncomputable def c9_35 : Code := cr c9_33
theorem ok9 : funcOk Try.f9 = true := by kernel_rfl
noncomputable def rs9 : List ResultVar := resultsOf Try.f9
noncomputable def C9_l1 (l_16 : Sl) (tail_17 : ByteArray)  (out : Value × AHeap) : (Int × AHeap) ⊕ (AHeap ⊕ (Bool × AHeap)) → Prop
  | .inl (i_18, σ) => ∀ f, Fx Try.prog rs9 [.code c9_14, .blk 0, .code c9_31] .normal (Fr.set (Fr.set (Fr.set f 0 (Sl.v l_16)) 1 (Value.string tail_17)) 5 (Value.int .i64 i_18)) σ = some out
  | .inr (.inl σ) => ∀ f, Fx Try.prog rs9 [.code c9_31] .normal (Fr.set (Fr.set f 0 (Sl.v l_16)) 1 (Value.string tail_17)) σ = some out
  | .inr (.inr (x19, σ)) => ((Value.bool x19), σ) = out
theorem q9_l1 (l_16 : Sl) (tail_17 : ByteArray) (i_18 : Int) (σ : AHeap)  (out : Value × AHeap) (f : Fr) (h : OptW (G_semvcslaw01_LexAgain_l1 l_16 tail_17 (i_18, σ)) (C9_l1 l_16 tail_17 out)) :
    Fx Try.prog rs9 [.code c9_14, .blk 0, .code c9_31] .normal (Fr.set (Fr.set (Fr.set f 0 (Sl.v l_16)) 1 (Value.string tail_17)) 5 (Value.int .i64 i_18)) σ = some out := by
  unfold G_semvcslaw01_LexAgain_l1 at h
  refine Fx_loop (b := c9_15) rfl ?_
  refine Fx_seq (a := c9_16) (b := c9_21) rfl ?_
  refine Fx_seq (a := c9_17) (b := c9_18) rfl ?_
  refine Fx_text rfl (by kernel_rfl) ?_
  refine Ro_v (v := (Value.int .i64 i_18)) rfl (o_move rfl rfl) ?_
  refine Ro_v (v := (Sl.v l_16)) rfl (o_move rfl rfl) ?_
  obtain ⟨x20, hx20, h⟩ := h.lt
  refine Ro_v (v := (Value.int .i64 x20)) rfl (o_lenSl rfl tu23 rfl hx20) ?_
  obtain ⟨x21, hx21, h⟩ := h.lt
  refine Ro_v (v := (Value.bool x21)) rfl (o_lss rfl rfl rfl hx21) ?_
  refine Ro_nil ?_
  refine Fx_cond (a := c9_19) (b := c9_20) rfl rfl (fun ex21 => ?_) (fun ex21 => ?_)
  · replace h := h.ifT ex21
    refine Fx_skip (c := c9_19) rfl ?_
    refine Fx_seq (a := c9_22) (b := c9_30) rfl ?_
    refine Fx_block (b := c9_23) rfl ?_
    refine Fx_seq (a := c9_24) (b := c9_25) rfl ?_
    refine Fx_draw (ops := opsIn c9_24) (l := [(opA (opsIn c9_24) 0, 0), (opA (opsIn c9_24) 1, 1), (opA (opsIn c9_24) 2, 2), (opA (opsIn c9_24) 3, 3), (opA (opsIn c9_24) 4, 4), (opA (opsIn c9_24) 5, 5), (opA (opsIn c9_24) 6, 6), (opA (opsIn c9_24) 7, 7), (opA (opsIn c9_24) 8, 8), (opA (opsIn c9_24) 9, 9), (opA (opsIn c9_24) 10, 10), (opA (opsIn c9_24) 11, 11), (opA (opsIn c9_24) 12, 12), (opA (opsIn c9_24) 13, 13), (opA (opsIn c9_24) 14, 14), (opA (opsIn c9_24) 15, 15), (opA (opsIn c9_24) 16, 16), (opA (opsIn c9_24) 17, 17), (opA (opsIn c9_24) 18, 18), (opA (opsIn c9_24) 19, 19), (opA (opsIn c9_24) 20, 20), (opA (opsIn c9_24) 21, 21), (opA (opsIn c9_24) 22, 22), (opA (opsIn c9_24) 23, 23), (opA (opsIn c9_24) 24, 24), (opA (opsIn c9_24) 25, 25), (opA (opsIn c9_24) 26, 26), (opA (opsIn c9_24) 27, 27), (opA (opsIn c9_24) 28, 28), (opA (opsIn c9_24) 29, 29), (opA (opsIn c9_24) 30, 30), (opA (opsIn c9_24) 31, 31), (opA (opsIn c9_24) 32, 32), (opA (opsIn c9_24) 33, 33), (opA (opsIn c9_24) 34, 34), (opA (opsIn c9_24) 35, 35), (opA (opsIn c9_24) 36, 36), (opA (opsIn c9_24) 37, 37), (opA (opsIn c9_24) 38, 38), (opA (opsIn c9_24) 39, 39), (opA (opsIn c9_24) 40, 40), (opA (opsIn c9_24) 41, 41), (opA (opsIn c9_24) 42, 42), (opA (opsIn c9_24) 43, 43), (opA (opsIn c9_24) 44, 44), (opA (opsIn c9_24) 45, 45), (opA (opsIn c9_24) 46, 46), (opA (opsIn c9_24) 47, 47), (opA (opsIn c9_24) 48, 48), (opA (opsIn c9_24) 49, 49), (opA (opsIn c9_24) 50, 50), (opA (opsIn c9_24) 51, 51), (opA (opsIn c9_24) 52, 52), (opA (opsIn c9_24) 53, 53), (opA (opsIn c9_24) 54, 54)]) rfl (by kernel_rfl) (by kernel_rfl) (by kernel_rfl) ?_
    refine Rd_v (v := (Sl.v l_16)) (ps' := []) rfl (o_move rfl rfl) (reads_no rfl) rfl ?_
    refine Rd_v (v := (Value.int .i64 i_18)) (ps' := []) rfl (o_move rfl rfl) (reads_no rfl) rfl ?_
    obtain ⟨x22, hx22, h⟩ := h.bd
    refine Rd_v (v := (Value.pointer x22)) (ps' := []) rfl (o_iaSl rfl tu23 ts33 rfl rfl hx22) (reads_no rfl) rfl ?_
    obtain ⟨x23, hx23, h⟩ := h.bd
    refine Rd_v (v := (Value.pointer x23)) (ps' := []) rfl (o_fldA rfl tf33_2 ts9 rfl hx23) (reads_no rfl) rfl ?_
    obtain ⟨x24, hx24, h⟩ := h.bd
    refine Rd_v (v := (Value.string x24)) (ps' := []) rfl (o_load1 rfl ta9 rfl (ld_str_eq hx24)) reads_nil rfl ?_
    obtain ⟨x25, hx25, h⟩ := h.bd
    refine Rd_v (v := (Value.int .i64 x25)) (ps' := [(5, σ)]) rfl (o_call (vs := [(Value.string x24)]) rfl rfl (w14 _ _ _ hx25)) (reads_no rfl) rfl ?_
    refine Rd_v (v := (Sl.v l_16)) (ps' := [(5, σ)]) rfl (o_move rfl rfl) (reads_no rfl) rfl ?_
    refine Rd_v (v := (Value.int .i64 i_18)) (ps' := [(5, σ)]) rfl (o_move rfl rfl) (reads_no rfl) rfl ?_
    obtain ⟨x26, hx26, h⟩ := h.bd
    refine Rd_v (v := (Value.pointer x26)) (ps' := [(5, σ)]) rfl (o_iaSl rfl tu23 ts33 rfl rfl hx26) (reads_no rfl) rfl ?_
    obtain ⟨x27, hx27, h⟩ := h.bd
    refine Rd_v (v := (Value.pointer x27)) (ps' := [(5, σ)]) rfl (o_fldA rfl tf33_0 ts3 rfl hx27) (reads_no rfl) rfl ?_
    obtain ⟨x28, hx28, h⟩ := h.bd
    refine Rd_v (v := (Value.int .i64 x28)) (ps' := [(5, σ)]) rfl (o_load1 rfl ta3 rfl (ld_i64_eq hx28)) (reads_at (call := callL Try.prog) (o_load1 rfl ta3 rfl (ld_i64_eq hx28)) reads_nil) rfl ?_
    obtain ⟨x29, hx29, h⟩ := h.lt
    refine Rd_v (v := (Value.bool x29)) (ps' := [(5, σ)]) rfl (o_neq rfl rfl rfl hx29) (reads_no rfl) rfl ?_
    refine Rd_v (v := (Value.bool x29)) (ps' := [(5, σ)]) rfl (o_move rfl rfl) (reads_no rfl) rfl ?_
    refine Rd_set (t := !x29) (v := bif !x29 then (Sl.v l_16) else undef) rfl (w_F rfl rfl rfl) (by intro e; have e0 := not_t (e); subst e0; exact o_move rfl rfl) (fun e => ⟨gv_f e, rfl⟩) (by intro e; have e0 := not_t (e); subst e0; exact (reads_no rfl)) rfl ?_
    refine Rd_set (t := !x29) (v := bif !x29 then (Value.int .i64 i_18) else undef) rfl (w_F rfl rfl rfl) (by intro e; have e0 := not_t (e); subst e0; exact o_move rfl rfl) (fun e => ⟨gv_f e, rfl⟩) (by intro e; have e0 := not_t (e); subst e0; exact (reads_no rfl)) rfl ?_
    obtain ⟨x30, hx30, h⟩ := h.bd
    refine Rd_set (t := !x29) (v := bif !x29 then (Value.pointer x30) else undef) rfl (w_F rfl rfl rfl) (by intro e; have e0 := not_t (e); subst e0; exact o_iaSl rfl tu23 ts33 rfl rfl hx30) (fun e => ⟨gv_f e, rfl⟩) (by intro e; have e0 := not_t (e); subst e0; exact (reads_no rfl)) rfl ?_
    obtain ⟨x31, hx31, h⟩ := h.bd
    refine Rd_set (t := !x29) (v := bif !x29 then (Value.pointer x31) else undef) rfl (w_F rfl rfl rfl) (by intro e; have e0 := not_t (e); subst e0; exact o_fldA rfl tf33_0 ts3 rfl hx31) (fun e => ⟨gv_f e, rfl⟩) (by intro e; have e0 := not_t (e); subst e0; exact (reads_no rfl)) rfl ?_
    obtain ⟨x32, hx32, h⟩ := h.bd
    refine Rd_set (t := !x29) (v := bif !x29 then (Value.int .i64 x32) else undef) rfl (w_F rfl rfl rfl) (by intro e; have e0 := not_t (e); subst e0; exact o_load1 rfl ta3 rfl (ld_i64_eq hx32)) (fun e => ⟨gv_f e, rfl⟩) (by intro e; have e0 := not_t (e); subst e0; exact (reads_ord (by kernel_rfl) reads_nil)) rfl ?_
    obtain ⟨x33, hx33, h⟩ := h.lt
    refine Rd_set (t := !x29) (v := bif !x29 then (Value.bool x33) else undef) rfl (w_F rfl rfl rfl) (by intro e; have e0 := not_t (e); subst e0; exact o_eql rfl rfl rfl hx33) (fun e => ⟨gv_f e, rfl⟩) (by intro e; have e0 := not_t (e); subst e0; exact (reads_no rfl)) rfl ?_
    obtain ⟨x34, hx34, h⟩ := h.lt
    refine Rd_v (v := (Value.bool x34)) (ps' := [(5, σ)]) rfl (o_pick rfl rfl (by intro e; subst e; subst hx34; rfl) (by intro e; subst e; subst hx34; rfl)) (reads_no rfl) rfl ?_
    refine Rd_v (v := (Value.bool x34)) (ps' := [(5, σ)]) rfl (o_move rfl rfl) (reads_no rfl) rfl ?_
    refine Rd_set (t := !x34) (v := bif !x34 then (Sl.v l_16) else undef) rfl (w_F rfl rfl rfl) (by intro e; have e0 := not_t (e); subst e0; exact o_move rfl rfl) (fun e => ⟨gv_f e, rfl⟩) (by intro e; have e0 := not_t (e); subst e0; exact (reads_no rfl)) rfl ?_
    refine Rd_set (t := !x34) (v := bif !x34 then (Value.int .i64 i_18) else undef) rfl (w_F rfl rfl rfl) (by intro e; have e0 := not_t (e); subst e0; exact o_move rfl rfl) (fun e => ⟨gv_f e, rfl⟩) (by intro e; have e0 := not_t (e); subst e0; exact (reads_no rfl)) rfl ?_
    obtain ⟨x35, hx35, h⟩ := h.bd
    refine Rd_set (t := !x34) (v := bif !x34 then (Value.pointer x35) else undef) rfl (w_F rfl rfl rfl) (by intro e; have e0 := not_t (e); subst e0; exact o_iaSl rfl tu23 ts33 rfl rfl hx35) (fun e => ⟨gv_f e, rfl⟩) (by intro e; have e0 := not_t (e); subst e0; exact (reads_no rfl)) rfl ?_
    obtain ⟨x36, hx36, h⟩ := h.bd
    refine Rd_set (t := !x34) (v := bif !x34 then (Value.pointer x36) else undef) rfl (w_F rfl rfl rfl) (by intro e; have e0 := not_t (e); subst e0; exact o_fldA rfl tf33_1 ts9 rfl hx36) (fun e => ⟨gv_f e, rfl⟩) (by intro e; have e0 := not_t (e); subst e0; exact (reads_no rfl)) rfl ?_
    obtain ⟨x37, hx37, h⟩ := h.bd
    refine Rd_set (t := !x34) (v := bif !x34 then (Value.string x37) else undef) rfl (w_F rfl rfl rfl) (by intro e; have e0 := not_t (e); subst e0; exact o_load1 rfl ta9 rfl (ld_str_eq hx37)) (fun e => ⟨gv_f e, rfl⟩) (by intro e; have e0 := not_t (e); subst e0; exact (reads_ord (by kernel_rfl) reads_nil)) rfl ?_
    obtain ⟨x38, hx38, h⟩ := h.bd
    refine Rd_setA (t := !x34) (v := bif !x34 then (Value.bool x38) else undef) rfl (w_F rfl rfl rfl) (by intro e; have e0 := not_t (e); subst e0; exact o_call (vs := [(Value.string x37), (Value.bool false)]) rfl rfl (w18 _ _ _ _ hx38)) (fun e => ⟨gv_f e, rfl⟩) rfl ?_
    obtain ⟨x39, hx39, h⟩ := h.lt
    refine Rd_set (t := !x34) (v := bif !x34 then (Value.bool x39) else undef) rfl (w_F rfl rfl rfl) (by intro e; have e0 := not_t (e); subst e0; exact o_not rfl rfl hx39) (fun e => ⟨gv_f e, rfl⟩) (by intro e; have e0 := not_t (e); subst e0; exact (reads_no rfl)) rfl ?_
    obtain ⟨x40, hx40, h⟩ := h.lt
    refine Rd_v (v := (Value.bool x40)) (ps' := [(26, σ), (5, σ)]) rfl (o_pick rfl rfl (by intro e; subst e; subst hx40; rfl) (by intro e; subst e; subst hx40; rfl)) (reads_no rfl) rfl ?_
    refine Rd_v (v := (Value.bool x40)) (ps' := [(26, σ), (5, σ)]) rfl (o_move rfl rfl) (reads_no rfl) rfl ?_
    refine Rd_set (t := !x40) (v := bif !x40 then (Value.int .i64 i_18) else undef) rfl (w_F rfl rfl rfl) (by intro e; have e0 := not_t (e); subst e0; exact o_move rfl rfl) (fun e => ⟨gv_f e, rfl⟩) (by intro e; have e0 := not_t (e); subst e0; exact (reads_no rfl)) rfl ?_
    obtain ⟨x41, hx41, h⟩ := h.lt
    refine Rd_set (t := !x40) (v := bif !x40 then (Value.bool x41) else undef) rfl (w_F rfl rfl rfl) (by intro e; have e0 := not_t (e); subst e0; exact o_gtr rfl rfl rfl hx41) (fun e => ⟨gv_f e, rfl⟩) (by intro e; have e0 := not_t (e); subst e0; exact (reads_no rfl)) rfl ?_
    refine Rd_set (t := !x40) (v := bif !x40 then (Value.bool x41) else undef) rfl (w_F rfl rfl rfl) (by intro e; have e0 := not_t (e); subst e0; exact o_move rfl rfl) (fun e => ⟨gv_f e, rfl⟩) (by intro e; have e0 := not_t (e); subst e0; exact (reads_no rfl)) rfl ?_
    refine Rd_set (t := (!x40 && x41)) (v := bif (!x40 && x41) then (Sl.v l_16) else undef) rfl (w_gT rfl rfl rfl) (by intro e; have e1 := (and_t e).2; have e0 := not_t (and_t e).1; subst e1; subst e0; exact o_move rfl rfl) (fun e => ⟨gv_f e, rfl⟩) (by intro e; have e1 := (and_t e).2; have e0 := not_t (and_t e).1; subst e1; subst e0; exact (reads_no rfl)) rfl ?_
    refine Rd_set (t := (!x40 && x41)) (v := bif (!x40 && x41) then (Value.int .i64 i_18) else undef) rfl (w_gT rfl rfl rfl) (by intro e; have e1 := (and_t e).2; have e0 := not_t (and_t e).1; subst e1; subst e0; exact o_move rfl rfl) (fun e => ⟨gv_f e, rfl⟩) (by intro e; have e1 := (and_t e).2; have e0 := not_t (and_t e).1; subst e1; subst e0; exact (reads_no rfl)) rfl ?_
    obtain ⟨x42, hx42, h⟩ := h.bd
    refine Rd_set (t := (!x40 && x41)) (v := bif (!x40 && x41) then (Value.pointer x42) else undef) rfl (w_gT rfl rfl rfl) (by intro e; have e1 := (and_t e).2; have e0 := not_t (and_t e).1; subst e1; subst e0; exact o_iaSl rfl tu23 ts33 rfl rfl hx42) (fun e => ⟨gv_f e, rfl⟩) (by intro e; have e1 := (and_t e).2; have e0 := not_t (and_t e).1; subst e1; subst e0; exact (reads_no rfl)) rfl ?_
    obtain ⟨x43, hx43, h⟩ := h.bd
    refine Rd_set (t := (!x40 && x41)) (v := bif (!x40 && x41) then (Value.pointer x43) else undef) rfl (w_gT rfl rfl rfl) (by intro e; have e1 := (and_t e).2; have e0 := not_t (and_t e).1; subst e1; subst e0; exact o_fldA rfl tf33_1 ts9 rfl hx43) (fun e => ⟨gv_f e, rfl⟩) (by intro e; have e1 := (and_t e).2; have e0 := not_t (and_t e).1; subst e1; subst e0; exact (reads_no rfl)) rfl ?_
    obtain ⟨x44, hx44, h⟩ := h.bd
    refine Rd_set (t := (!x40 && x41)) (v := bif (!x40 && x41) then (Value.string x44) else undef) rfl (w_gT rfl rfl rfl) (by intro e; have e1 := (and_t e).2; have e0 := not_t (and_t e).1; subst e1; subst e0; exact o_load1 rfl ta9 rfl (ld_str_eq hx44)) (fun e => ⟨gv_f e, rfl⟩) (by intro e; have e1 := (and_t e).2; have e0 := not_t (and_t e).1; subst e1; subst e0; exact (reads_ord (by kernel_rfl) (reads_ord (by kernel_rfl) reads_nil))) rfl ?_
    obtain ⟨x45, hx45, h⟩ := h.lt
    refine Rd_set (t := (!x40 && x41)) (v := bif (!x40 && x41) then (Value.bool x45) else undef) rfl (w_gT rfl rfl rfl) (by intro e; have e1 := (and_t e).2; have e0 := not_t (and_t e).1; subst e1; subst e0; exact o_seql rfl rfl rfl hx45) (fun e => ⟨gv_f e, rfl⟩) (by intro e; have e1 := (and_t e).2; have e0 := not_t (and_t e).1; subst e1; subst e0; exact (reads_no rfl)) rfl ?_
    obtain ⟨x46, hx46, h⟩ := h.lt
    refine Rd_set (t := !x40) (v := bif !x40 then (Value.bool x46) else undef) rfl (w_F rfl rfl rfl) (by intro e; have e0 := not_t (e); subst e0; exact o_pick rfl rfl (by intro e; subst e; subst hx46; rfl) (by intro e; subst e; subst hx46; rfl)) (fun e => ⟨gv_f e, rfl⟩) (by intro e; have e0 := not_t (e); subst e0; exact (reads_no rfl)) rfl ?_
    refine Rd_set (t := !x40) (v := bif !x40 then (Value.bool x46) else undef) rfl (w_F rfl rfl rfl) (by intro e; have e0 := not_t (e); subst e0; exact o_move rfl rfl) (fun e => ⟨gv_f e, rfl⟩) (by intro e; have e0 := not_t (e); subst e0; exact (reads_no rfl)) rfl ?_
    refine Rd_set (t := (!x40 && x46)) (v := bif (!x40 && x46) then (Sl.v l_16) else undef) rfl (w_gT rfl rfl rfl) (by intro e; have e1 := (and_t e).2; have e0 := not_t (and_t e).1; subst e1; subst e0; exact o_move rfl rfl) (fun e => ⟨gv_f e, rfl⟩) (by intro e; have e1 := (and_t e).2; have e0 := not_t (and_t e).1; subst e1; subst e0; exact (reads_no rfl)) rfl ?_
    refine Rd_set (t := (!x40 && x46)) (v := bif (!x40 && x46) then (Value.int .i64 i_18) else undef) rfl (w_gT rfl rfl rfl) (by intro e; have e1 := (and_t e).2; have e0 := not_t (and_t e).1; subst e1; subst e0; exact o_move rfl rfl) (fun e => ⟨gv_f e, rfl⟩) (by intro e; have e1 := (and_t e).2; have e0 := not_t (and_t e).1; subst e1; subst e0; exact (reads_no rfl)) rfl ?_
    obtain ⟨x47, hx47, h⟩ := h.lt
    refine Rd_set (t := (!x40 && x46)) (v := bif (!x40 && x46) then (Value.int .i64 x47) else undef) rfl (w_gT rfl rfl rfl) (by intro e; have e1 := (and_t e).2; have e0 := not_t (and_t e).1; subst e1; subst e0; exact o_sub rfl rfl rfl hx47) (fun e => ⟨gv_f e, rfl⟩) (by intro e; have e1 := (and_t e).2; have e0 := not_t (and_t e).1; subst e1; subst e0; exact (reads_no rfl)) rfl ?_
    obtain ⟨x48, hx48, h⟩ := h.bd
    refine Rd_set (t := (!x40 && x46)) (v := bif (!x40 && x46) then (Value.pointer x48) else undef) rfl (w_gT rfl rfl rfl) (by intro e; have e1 := (and_t e).2; have e0 := not_t (and_t e).1; subst e1; subst e0; exact o_iaSl rfl tu23 ts33 rfl rfl hx48) (fun e => ⟨gv_f e, rfl⟩) (by intro e; have e1 := (and_t e).2; have e0 := not_t (and_t e).1; subst e1; subst e0; exact (reads_no rfl)) rfl ?_
    obtain ⟨x49, hx49, h⟩ := h.bd
    refine Rd_set (t := (!x40 && x46)) (v := bif (!x40 && x46) then (Value.pointer x49) else undef) rfl (w_gT rfl rfl rfl) (by intro e; have e1 := (and_t e).2; have e0 := not_t (and_t e).1; subst e1; subst e0; exact o_fldA rfl tf33_2 ts9 rfl hx49) (fun e => ⟨gv_f e, rfl⟩) (by intro e; have e1 := (and_t e).2; have e0 := not_t (and_t e).1; subst e1; subst e0; exact (reads_no rfl)) rfl ?_
    obtain ⟨x50, hx50, h⟩ := h.bd
    refine Rd_set (t := (!x40 && x46)) (v := bif (!x40 && x46) then (Value.string x50) else undef) rfl (w_gT rfl rfl rfl) (by intro e; have e1 := (and_t e).2; have e0 := not_t (and_t e).1; subst e1; subst e0; exact o_load1 rfl ta9 rfl (ld_str_eq hx50)) (fun e => ⟨gv_f e, rfl⟩) (by intro e; have e1 := (and_t e).2; have e0 := not_t (and_t e).1; subst e1; subst e0; exact (reads_ord (by kernel_rfl) (reads_ord (by kernel_rfl) reads_nil))) rfl ?_
    refine Rd_set (t := (!x40 && x46)) (v := bif (!x40 && x46) then (Sl.v l_16) else undef) rfl (w_gT rfl rfl rfl) (by intro e; have e1 := (and_t e).2; have e0 := not_t (and_t e).1; subst e1; subst e0; exact o_move rfl rfl) (fun e => ⟨gv_f e, rfl⟩) (by intro e; have e1 := (and_t e).2; have e0 := not_t (and_t e).1; subst e1; subst e0; exact (reads_no rfl)) rfl ?_
    refine Rd_set (t := (!x40 && x46)) (v := bif (!x40 && x46) then (Value.int .i64 i_18) else undef) rfl (w_gT rfl rfl rfl) (by intro e; have e1 := (and_t e).2; have e0 := not_t (and_t e).1; subst e1; subst e0; exact o_move rfl rfl) (fun e => ⟨gv_f e, rfl⟩) (by intro e; have e1 := (and_t e).2; have e0 := not_t (and_t e).1; subst e1; subst e0; exact (reads_no rfl)) rfl ?_
    obtain ⟨x51, hx51, h⟩ := h.bd
    refine Rd_set (t := (!x40 && x46)) (v := bif (!x40 && x46) then (Value.pointer x51) else undef) rfl (w_gT rfl rfl rfl) (by intro e; have e1 := (and_t e).2; have e0 := not_t (and_t e).1; subst e1; subst e0; exact o_iaSl rfl tu23 ts33 rfl rfl hx51) (fun e => ⟨gv_f e, rfl⟩) (by intro e; have e1 := (and_t e).2; have e0 := not_t (and_t e).1; subst e1; subst e0; exact (reads_no rfl)) rfl ?_
    obtain ⟨x52, hx52, h⟩ := h.bd
    refine Rd_set (t := (!x40 && x46)) (v := bif (!x40 && x46) then (Value.pointer x52) else undef) rfl (w_gT rfl rfl rfl) (by intro e; have e1 := (and_t e).2; have e0 := not_t (and_t e).1; subst e1; subst e0; exact o_fldA rfl tf33_2 ts9 rfl hx52) (fun e => ⟨gv_f e, rfl⟩) (by intro e; have e1 := (and_t e).2; have e0 := not_t (and_t e).1; subst e1; subst e0; exact (reads_no rfl)) rfl ?_
    obtain ⟨x53, hx53, h⟩ := h.bd
    refine Rd_set (t := (!x40 && x46)) (v := bif (!x40 && x46) then (Value.string x53) else undef) rfl (w_gT rfl rfl rfl) (by intro e; have e1 := (and_t e).2; have e0 := not_t (and_t e).1; subst e1; subst e0; exact o_load1 rfl ta9 rfl (ld_str_eq hx53)) (fun e => ⟨gv_f e, rfl⟩) (by intro e; have e1 := (and_t e).2; have e0 := not_t (and_t e).1; subst e1; subst e0; exact (reads_ord (by kernel_rfl) (reads_ord (by kernel_rfl) reads_nil))) rfl ?_
    obtain ⟨⟨x55, σ56⟩, hσ56, h⟩ := h.bd
    refine Rd_setA (t := (!x40 && x46)) (v := bif (!x40 && x46) then (Value.bool x55) else undef) rfl (w_gT rfl rfl rfl) (by intro e; have e1 := (and_t e).2; have e0 := not_t (and_t e).1; subst e1; subst e0; exact o_call (vs := [(Value.string x50), (Value.string x53)]) rfl rfl (w22 _ _ _ _ hσ56)) (fun e => ⟨gv_f e, (by have q := hσ56; rw [e] at q; simp only [cond_false, Option.some.injEq, Prod.mk.injEq] at q; exact q.2.symm)⟩) rfl ?_
    obtain ⟨x57, hx57, h⟩ := h.lt
    refine Rd_set (t := !x40) (v := bif !x40 then (Value.bool x57) else undef) rfl (w_F rfl rfl rfl) (by intro e; have e0 := not_t (e); subst e0; exact o_pick rfl rfl (by intro e; subst e; subst hx57; rfl) (by intro e; subst e; subst hx57; rfl)) (fun e => ⟨gv_f e, rfl⟩) (by intro e; have e0 := not_t (e); subst e0; exact (reads_no rfl)) rfl ?_
    obtain ⟨x58, hx58, h⟩ := h.lt
    refine Rd_v (v := (Value.bool x58)) (ps' := [(52, σ), (26, σ), (5, σ)]) rfl (o_pick rfl rfl (by intro e; subst e; subst hx58; rfl) (by intro e; subst e; subst hx58; rfl)) (reads_no rfl) rfl ?_
    refine Rd_nil ?_
    refine Fx_cond (a := c9_26) (b := c9_29) rfl rfl (fun ex58 => ?_) (fun ex58 => ?_)
    · replace h := h.ifT ex58
      refine Fx_seq (a := c9_27) (b := c9_28) rfl ?_
      refine Fx_text rfl (by kernel_rfl) ?_
      obtain ⟨⟨x60, σ61⟩, hσ61, h⟩ := h.bd
      refine Ro_v (v := (Value.bool x60)) rfl (o_call (vs := []) rfl rfl (w10 _ _ hσ61)) ?_
      refine Ro_v (v := (Value.bool x60)) rfl (o_assign rfl rfl) ?_
      refine Ro_nil ?_
      exact Fx_ret rfl rfl (congrArg some h.sm)
    · replace h := h.ifF ex58
      refine Fx_skip (c := c9_29) rfl ?_
      refine Fx_blk ?_
      refine Fx_text rfl (by kernel_rfl) ?_
      refine Ro_v (v := (Value.int .i64 i_18)) rfl (o_move rfl rfl) ?_
      obtain ⟨x62, hx62, h⟩ := h.lt
      refine Ro_v (v := (Value.int .i64 x62)) rfl (o_add rfl rfl rfl hx62) ?_
      refine Ro_v (v := (Value.int .i64 x62)) rfl (o_assign rfl rfl) ?_
      refine Ro_nil ?_
      exact Fx_forget (Fr.set_of (Fr.set_of (Fr.set_of rfl rfl) rfl) rfl) (h.sm _)
  · replace h := h.ifF ex21
    refine Fx_exit rfl ?_
    refine Fx_out_code ?_
    refine Fx_out_code ?_
    refine Fx_out_eq ?_
    exact Fx_forget (Fr.set_of (Fr.set_of rfl rfl) rfl) (h.sm _)
theorem w9 (l_2 : Sl) (tail_3 : ByteArray) (σ : AHeap) (r : (Bool × AHeap)) (h : G_semvcslaw01_LexAgain l_2 tail_3 σ = some r) : callL Try.prog 9 [(Sl.v l_2), (Value.string tail_3)] σ = some ((Value.bool r.1), r.2) := by
  refine callL_walk (fn := Try.f9) (c := c9_0) (rs := rs9) Try.func9 rfl ok9 rfl rfl ?_
  obtain ⟨out, ho⟩ : ∃ out, out = ((Value.bool r.1), r.2) := ⟨_, rfl⟩
  rw [← ho]
  replace h : OptW (G_semvcslaw01_LexAgain l_2 tail_3 σ) (fun r => ((Value.bool r.1), r.2) = out) := ⟨r, h, ho.symm⟩
  unfold G_semvcslaw01_LexAgain at h
  refine Fx_seq (a := c9_1) (b := c9_2) rfl ?_
  refine Fx_text rfl (by kernel_rfl) ?_
  refine Ro_v (v := (Value.bool false)) rfl (o_assign rfl rfl) ?_
  refine Ro_nil ?_
  refine Fx_seq (a := c9_3) (b := c9_10) rfl ?_
  refine Fx_seq (a := c9_4) (b := c9_5) rfl ?_
  refine Fx_text rfl (by kernel_rfl) ?_
  refine Ro_v (v := (Sl.v l_2)) rfl (o_move rfl rfl) ?_
  obtain ⟨x4, hx4, h⟩ := h.lt
  refine Ro_v (v := (Value.int .i64 x4)) rfl (o_lenSl rfl tu23 rfl hx4) ?_
  obtain ⟨x5, hx5, h⟩ := h.lt
  refine Ro_v (v := (Value.bool x5)) rfl (o_gtr rfl rfl rfl hx5) ?_
  refine Ro_v (v := (Value.bool x5)) rfl (o_move rfl rfl) ?_
  refine Ro_set (t := !x5) (v := bif !x5 then (Value.string tail_3) else undef) rfl (w_F rfl rfl rfl) (by intro e; have e0 := not_t (e); subst e0; exact o_move rfl rfl) (fun e => ⟨gv_f e, rfl⟩) ?_
  obtain ⟨x6, hx6, h⟩ := h.bd
  refine Ro_set (t := !x5) (v := bif !x5 then (Value.bool x6) else undef) rfl (w_F rfl rfl rfl) (by intro e; have e0 := not_t (e); subst e0; exact o_call (vs := [(Value.string tail_3), (Value.bool true)]) rfl rfl (w18 _ _ _ _ hx6)) (fun e => ⟨gv_f e, rfl⟩) ?_
  obtain ⟨x7, hx7, h⟩ := h.lt
  refine Ro_set (t := !x5) (v := bif !x5 then (Value.bool x7) else undef) rfl (w_F rfl rfl rfl) (by intro e; have e0 := not_t (e); subst e0; exact o_not rfl rfl hx7) (fun e => ⟨gv_f e, rfl⟩) ?_
  obtain ⟨x8, hx8, h⟩ := h.lt
  refine Ro_v (v := (Value.bool x8)) rfl (o_pick rfl rfl (by intro e; subst e; subst hx8; rfl) (by intro e; subst e; subst hx8; rfl)) ?_
  refine Ro_v (v := (Value.bool x8)) rfl (o_move rfl rfl) ?_
  refine Ro_set (t := !x8) (v := bif !x8 then (Sl.v l_2) else undef) rfl (w_F rfl rfl rfl) (by intro e; have e0 := not_t (e); subst e0; exact o_move rfl rfl) (fun e => ⟨gv_f e, rfl⟩) ?_
  refine Ro_set (t := !x8) (v := bif !x8 then (Value.string tail_3) else undef) rfl (w_F rfl rfl rfl) (by intro e; have e0 := not_t (e); subst e0; exact o_move rfl rfl) (fun e => ⟨gv_f e, rfl⟩) ?_
  obtain ⟨x9, hx9, h⟩ := h.bd
  refine Ro_set (t := !x8) (v := bif !x8 then (Value.string x9) else undef) rfl (w_F rfl rfl rfl) (by intro e; have e0 := not_t (e); subst e0; exact o_call (vs := [(Sl.v l_2), (Value.string tail_3)]) rfl rfl (w21 _ _ _ _ hx9)) (fun e => ⟨gv_f e, rfl⟩) ?_
  obtain ⟨x10, hx10, h⟩ := h.lt
  refine Ro_set (t := !x8) (v := bif !x8 then (Value.int .i64 x10) else undef) rfl (w_F rfl rfl rfl) (by intro e; have e0 := not_t (e); subst e0; exact o_lenS rfl tu9 rfl hx10) (fun e => ⟨gv_f e, rfl⟩) ?_
  obtain ⟨x11, hx11, h⟩ := h.lt
  refine Ro_set (t := !x8) (v := bif !x8 then (Value.bool x11) else undef) rfl (w_F rfl rfl rfl) (by intro e; have e0 := not_t (e); subst e0; exact o_gtr rfl rfl rfl hx11) (fun e => ⟨gv_f e, rfl⟩) ?_
  obtain ⟨x12, hx12, h⟩ := h.lt
  refine Ro_v (v := (Value.bool x12)) rfl (o_pick rfl rfl (by intro e; subst e; subst hx12; rfl) (by intro e; subst e; subst hx12; rfl)) ?_
  refine Ro_nil ?_
  refine Fx_cond (a := c9_6) (b := c9_9) rfl rfl (fun ex12 => ?_) (fun ex12 => ?_)
  · replace h := h.ifT ex12
    refine Fx_seq (a := c9_7) (b := c9_8) rfl ?_
    refine Fx_text rfl (by kernel_rfl) ?_
    obtain ⟨⟨x14, σ15⟩, hσ15, h⟩ := h.bd
    refine Ro_v (v := (Value.bool x14)) rfl (o_call (vs := []) rfl rfl (w10 _ _ hσ15)) ?_
    refine Ro_v (v := (Value.bool x14)) rfl (o_assign rfl rfl) ?_
    refine Ro_nil ?_
    exact Fx_ret rfl rfl (congrArg some h.sm)
  · replace h := h.ifF ex12
    refine Fx_skip (c := c9_9) rfl ?_
    refine Fx_seq (a := c9_11) (b := c9_31) rfl ?_
    refine Fx_seq (a := c9_12) (b := c9_13) rfl ?_
    refine Fx_text rfl (by kernel_rfl) ?_
    refine Ro_v (v := (Value.int .i64 (0))) rfl (o_assign rfl rfl) ?_
    refine Ro_nil ?_
    refine Fx_block (b := c9_14) rfl ?_
    refine Fx_forget (Fr.set_of (Fr.set_of (Fr.set_of rfl rfl) rfl) rfl) ((OptW.loop h (fun s => C9_l1 l_2 tail_3 out (.inl s)) ?_ : C9_l1 l_2 tail_3 out (.inl ((0), σ))) _)
    intro s hs f
    obtain ⟨i_18, σ⟩ := s
    refine q9_l1 l_2 tail_3 i_18 σ out f (hs.imp ?_)
    intro r hr
    rcases r with y | b
    · exact hr
    · rcases b with b | b
      · obtain ⟨σ63, rfl⟩ : ∃ x, x = b := ⟨_, rfl⟩
        have h := hr
        intro f
        refine Fx_seq (a := c9_32) (b := c9_33) rfl ?_
        refine Fx_text rfl (by kernel_rfl) ?_
        refine Ro_v (v := (Sl.v l_2)) rfl (o_move rfl rfl) ?_
        refine Ro_v (v := (Value.string tail_3)) rfl (o_move rfl rfl) ?_
        obtain ⟨⟨x65, σ66⟩, hσ66, h⟩ := h.bd
        refine Ro_v (v := (Value.string x65)) rfl (o_call (vs := [(Sl.v l_2), (Value.string tail_3)]) rfl rfl (w20 _ _ _ _ hσ66)) ?_
        obtain ⟨⟨x71, x72, x73, x74, σ75⟩, hσ75, h⟩ := h.bd
        refine Ro_v (v := (Value.tuple #[(Sl.v x71), (Value.string x72), (Value.int .i64 x73), (Value.int .i64 x74)])) rfl (o_call (vs := [(Value.string x65)]) rfl rfl (w11 _ _ _ hσ75)) ?_
        refine Ro_v (v := (Value.tuple #[(Sl.v x71), (Value.string x72), (Value.int .i64 x73), (Value.int .i64 x74)])) rfl (o_move rfl rfl) ?_
        refine Ro_v (v := (Sl.v x71)) rfl (o_ext rfl rfl rfl) ?_
        refine Ro_v (v := (Value.string x72)) rfl (o_ext rfl rfl rfl) ?_
        refine Ro_v (v := (Value.int .i64 x73)) rfl (o_ext rfl rfl rfl) ?_
        refine Ro_v (v := (Value.int .i64 x74)) rfl (o_ext rfl rfl rfl) ?_
        refine Ro_v (v := (Sl.v x71)) rfl (o_assign rfl rfl) ?_
        refine Ro_v (v := (Value.string x72)) rfl (o_assign rfl rfl) ?_
        refine Ro_v (v := (Value.int .i64 x73)) rfl (o_assign rfl rfl) ?_
        refine Ro_v (v := (Value.int .i64 x74)) rfl (o_assign rfl rfl) ?_
        refine Ro_nil ?_
        refine Fx_seq (a := c9_34) (b := c9_35) rfl ?_
        refine Fx_text rfl (by kernel_rfl) ?_
        obtain ⟨⟨x77, σ78⟩, hσ78, h⟩ := h.bd
        refine Ro_v (v := (Value.bool x77)) rfl (o_call (vs := []) rfl rfl (w10 _ _ hσ78)) ?_
        refine Ro_v (v := (Value.bool x77)) rfl (o_move rfl rfl) ?_
        refine Ro_set (t := x77) (v := bif x77 then (Value.int .i64 x74) else undef) rfl (w_T rfl rfl rfl) (by intro e; have e0 := e; subst e0; exact o_move rfl rfl) (fun e => ⟨gv_f e, rfl⟩) ?_
        obtain ⟨x79, hx79, h⟩ := h.lt
        refine Ro_set (t := x77) (v := bif x77 then (Value.bool x79) else undef) rfl (w_T rfl rfl rfl) (by intro e; have e0 := e; subst e0; exact o_eql rfl rfl rfl hx79) (fun e => ⟨gv_f e, rfl⟩) ?_
        obtain ⟨x80, hx80, h⟩ := h.lt
        refine Ro_v (v := (Value.bool x80)) rfl (o_pick rfl rfl (by intro e; subst e; subst hx80; rfl) (by intro e; subst e; subst hx80; rfl)) ?_
        refine Ro_v (v := (Value.bool x80)) rfl (o_move rfl rfl) ?_
        refine Ro_set (t := x80) (v := bif x80 then (Value.string x72) else undef) rfl (w_T rfl rfl rfl) (by intro e; have e0 := e; subst e0; exact o_move rfl rfl) (fun e => ⟨gv_f e, rfl⟩) ?_
        refine Ro_set (t := x80) (v := bif x80 then (Value.string tail_3) else undef) rfl (w_T rfl rfl rfl) (by intro e; have e0 := e; subst e0; exact o_move rfl rfl) (fun e => ⟨gv_f e, rfl⟩) ?_
        obtain ⟨x81, hx81, h⟩ := h.lt
        refine Ro_set (t := x80) (v := bif x80 then (Value.bool x81) else undef) rfl (w_T rfl rfl rfl) (by intro e; have e0 := e; subst e0; exact o_seql rfl rfl rfl hx81) (fun e => ⟨gv_f e, rfl⟩) ?_
        obtain ⟨x82, hx82, h⟩ := h.lt
        refine Ro_v (v := (Value.bool x82)) rfl (o_pick rfl rfl (by intro e; subst e; subst hx82; rfl) (by intro e; subst e; subst hx82; rfl)) ?_
        refine Ro_v (v := (Value.bool x82)) rfl (o_move rfl rfl) ?_
        refine Ro_set (t := x82) (v := bif x82 then (Sl.v x71) else undef) rfl (w_T rfl rfl rfl) (by intro e; have e0 := e; subst e0; exact o_move rfl rfl) (fun e => ⟨gv_f e, rfl⟩) ?_
        refine Ro_set (t := x82) (v := bif x82 then (Sl.v l_2) else undef) rfl (w_T rfl rfl rfl) (by intro e; have e0 := e; subst e0; exact o_move rfl rfl) (fun e => ⟨gv_f e, rfl⟩) ?_
        obtain ⟨x83, hx83, h⟩ := h.bd
        refine Ro_set (t := x82) (v := bif x82 then (Value.bool x83) else undef) rfl (w_T rfl rfl rfl) (by intro e; have e0 := e; subst e0; exact o_call (vs := [(Sl.v x71), (Sl.v l_2)]) rfl rfl (w13 _ _ _ _ hx83)) (fun e => ⟨gv_f e, rfl⟩) ?_
        obtain ⟨x84, hx84, h⟩ := h.lt
        refine Ro_v (v := (Value.bool x84)) rfl (o_pick rfl rfl (by intro e; subst e; subst hx84; rfl) (by intro e; subst e; subst hx84; rfl)) ?_
        refine Ro_v (v := (Value.bool x84)) rfl (o_assign rfl rfl) ?_
        refine Ro_nil ?_
        exact Fx_ret rfl rfl (congrArg some h.sm)
      · obtain ⟨x85, σ86⟩ := b
        have h := hr
        exact h.sm
end Go.Am
