/- Part of a reckoning of a Go program over abstract values, proved sound against the model. -/
import Derived.Test.YtedphjbgimkmlaaDoorAiIA2
set_option linter.unusedSimpArgs false
set_option linter.unusedVariables false
namespace Go.Proofs.YtedphjbgimkmlaaDoor.Ai
open Go.Proofs
set_option maxRecDepth 100000
noncomputable def T3 : ATy := (cfg0.ty 3).getD ⟨.bool, 0, 0, .nils, false⟩
@[simp] theorem ty_3 : cfg0.ty 3 = some T3 := by kernel_rfl
@[simp] theorem und_3 : T3.und = .int .i64 := by kernel_rfl
@[simp] theorem size_3 : T3.size = 1 := by kernel_rfl
@[simp] theorem bytes_3 : T3.bytes = 8 := by kernel_rfl
@[simp] theorem zero_3 : T3.zero = .int .i64 0 := by kernel_rfl
noncomputable def T4 : ATy := (cfg0.ty 4).getD ⟨.bool, 0, 0, .nils, false⟩
@[simp] theorem ty_4 : cfg0.ty 4 = some T4 := by kernel_rfl
@[simp] theorem und_4 : T4.und = .bool := by kernel_rfl
@[simp] theorem size_4 : T4.size = 1 := by kernel_rfl
@[simp] theorem bytes_4 : T4.bytes = 1 := by kernel_rfl
@[simp] theorem zero_4 : T4.zero = .bool false := by kernel_rfl
noncomputable def T9 : ATy := (cfg0.ty 9).getD ⟨.bool, 0, 0, .nils, false⟩
@[simp] theorem ty_9 : cfg0.ty 9 = some T9 := by kernel_rfl
@[simp] theorem und_9 : T9.und = .string := by kernel_rfl
@[simp] theorem size_9 : T9.size = 1 := by kernel_rfl
@[simp] theorem bytes_9 : T9.bytes = 16 := by kernel_rfl
@[simp] theorem zero_9 : T9.zero = .str .empty := by kernel_rfl
noncomputable def T22 : ATy := (cfg0.ty 22).getD ⟨.bool, 0, 0, .nils, false⟩
@[simp] theorem ty_22 : cfg0.ty 22 = some T22 := by kernel_rfl
@[simp] theorem und_22 : T22.und = .slice 35 := by kernel_rfl
@[simp] theorem size_22 : T22.size = 1 := by kernel_rfl
@[simp] theorem bytes_22 : T22.bytes = 24 := by kernel_rfl
@[simp] theorem zero_22 : T22.zero = .nils := by kernel_rfl
noncomputable def T25 : ATy := (cfg0.ty 25).getD ⟨.bool, 0, 0, .nils, false⟩
@[simp] theorem ty_25 : cfg0.ty 25 = some T25 := by kernel_rfl
@[simp] theorem und_25 : T25.und = .slice 4 := by kernel_rfl
@[simp] theorem size_25 : T25.size = 1 := by kernel_rfl
@[simp] theorem bytes_25 : T25.bytes = 24 := by kernel_rfl
@[simp] theorem zero_25 : T25.zero = .nils := by kernel_rfl
noncomputable def T26 : ATy := (cfg0.ty 26).getD ⟨.bool, 0, 0, .nils, false⟩
@[simp] theorem ty_26 : cfg0.ty 26 = some T26 := by kernel_rfl
@[simp] theorem und_26 : T26.und = .int .i64 := by kernel_rfl
@[simp] theorem size_26 : T26.size = 1 := by kernel_rfl
@[simp] theorem bytes_26 : T26.bytes = 8 := by kernel_rfl
@[simp] theorem zero_26 : T26.zero = .int .i64 0 := by kernel_rfl
noncomputable def T32 : ATy := (cfg0.ty 32).getD ⟨.bool, 0, 0, .nils, false⟩
@[simp] theorem ty_32 : cfg0.ty 32 = some T32 := by kernel_rfl
@[simp] theorem und_32 : T32.und = .slice 39 := by kernel_rfl
@[simp] theorem size_32 : T32.size = 1 := by kernel_rfl
@[simp] theorem bytes_32 : T32.bytes = 24 := by kernel_rfl
@[simp] theorem zero_32 : T32.zero = .nils := by kernel_rfl
noncomputable def T33 : ATy := (cfg0.ty 33).getD ⟨.bool, 0, 0, .nils, false⟩
@[simp] theorem ty_33 : cfg0.ty 33 = some T33 := by kernel_rfl
@[simp] theorem und_33 : T33.und = .slice 70 := by kernel_rfl
@[simp] theorem size_33 : T33.size = 1 := by kernel_rfl
@[simp] theorem bytes_33 : T33.bytes = 24 := by kernel_rfl
@[simp] theorem zero_33 : T33.zero = .nils := by kernel_rfl
noncomputable def T35 : ATy := (cfg0.ty 35).getD ⟨.bool, 0, 0, .nils, false⟩
@[simp] theorem ty_35 : cfg0.ty 35 = some T35 := by kernel_rfl
@[simp] theorem agg_35 : isAggD T35.und = true := by kernel_rfl
@[simp] theorem fld_35_0 : fieldOf cfg0 35 0 = some (0, 1, false) := by kernel_rfl
@[simp] theorem fld_35_1 : fieldOf cfg0 35 1 = some (1, 1, false) := by kernel_rfl
@[simp] theorem fld_35_2 : fieldOf cfg0 35 2 = some (2, 1, false) := by kernel_rfl
@[simp] theorem fld_35_3 : fieldOf cfg0 35 3 = some (3, 1, false) := by kernel_rfl
@[simp] theorem bld_35 (ps : List (Nat × V)) : aBuild cfg0 35 ps = (fillV (fun i => ([(0, 1), (1, 1), (2, 1), (3, 1)] : List (Nat × Nat))[i]?) [.int .i64 0, .nils, .nils, .int .i64 0] ps).map V.agg := by kernel_rfl
@[simp] theorem size_35 : T35.size = 4 := by kernel_rfl
@[simp] theorem bytes_35 : T35.bytes = 64 := by kernel_rfl
@[simp] theorem zero_35 : T35.zero = .agg [.int .i64 0, .nils, .nils, .int .i64 0] := by kernel_rfl
noncomputable def T37 : ATy := (cfg0.ty 37).getD ⟨.bool, 0, 0, .nils, false⟩
@[simp] theorem ty_37 : cfg0.ty 37 = some T37 := by kernel_rfl
@[simp] theorem und_37 : T37.und = .slice 3 := by kernel_rfl
@[simp] theorem size_37 : T37.size = 1 := by kernel_rfl
@[simp] theorem bytes_37 : T37.bytes = 24 := by kernel_rfl
@[simp] theorem zero_37 : T37.zero = .nils := by kernel_rfl
noncomputable def T39 : ATy := (cfg0.ty 39).getD ⟨.bool, 0, 0, .nils, false⟩
@[simp] theorem ty_39 : cfg0.ty 39 = some T39 := by kernel_rfl
@[simp] theorem agg_39 : isAggD T39.und = true := by kernel_rfl
@[simp] theorem fld_39_0 : fieldOf cfg0 39 0 = some (0, 1, false) := by kernel_rfl
@[simp] theorem fld_39_1 : fieldOf cfg0 39 1 = some (1, 1, false) := by kernel_rfl
@[simp] theorem bld_39 (ps : List (Nat × V)) : aBuild cfg0 39 ps = (fillV (fun i => ([(0, 1), (1, 1)] : List (Nat × Nat))[i]?) [.str .empty, .nils] ps).map V.agg := by kernel_rfl
@[simp] theorem size_39 : T39.size = 2 := by kernel_rfl
@[simp] theorem bytes_39 : T39.bytes = 40 := by kernel_rfl
@[simp] theorem zero_39 : T39.zero = .agg [.str .empty, .nils] := by kernel_rfl
noncomputable def T66 : ATy := (cfg0.ty 66).getD ⟨.bool, 0, 0, .nils, false⟩
@[simp] theorem ty_66 : cfg0.ty 66 = some T66 := by kernel_rfl
@[simp] theorem size_66 : T66.size = 1 := by kernel_rfl
@[simp] theorem bytes_66 : T66.bytes = 8 := by kernel_rfl
@[simp] theorem zero_66 : T66.zero = .nilf := by kernel_rfl
noncomputable def T70 : ATy := (cfg0.ty 70).getD ⟨.bool, 0, 0, .nils, false⟩
@[simp] theorem ty_70 : cfg0.ty 70 = some T70 := by kernel_rfl
@[simp] theorem agg_70 : isAggD T70.und = true := by kernel_rfl
@[simp] theorem fld_70_0 : fieldOf cfg0 70 0 = some (0, 1, false) := by kernel_rfl
@[simp] theorem fld_70_1 : fieldOf cfg0 70 1 = some (1, 1, false) := by kernel_rfl
@[simp] theorem bld_70 (ps : List (Nat × V)) : aBuild cfg0 70 ps = (fillV (fun i => ([(0, 1), (1, 1)] : List (Nat × Nat))[i]?) [.int .i64 0, .int .i64 0] ps).map V.agg := by kernel_rfl
@[simp] theorem size_70 : T70.size = 2 := by kernel_rfl
@[simp] theorem bytes_70 : T70.bytes = 16 := by kernel_rfl
@[simp] theorem zero_70 : T70.zero = .agg [.int .i64 0, .int .i64 0] := by kernel_rfl
@[simp] theorem fn_3 : cfg0.fn 3 = some Tryd.f3 := by kernel_rfl
@[simp] theorem fn_4 : cfg0.fn 4 = some Tryd.f4 := by kernel_rfl
@[simp] theorem fn_5 : cfg0.fn 5 = some Tryd.f5 := by kernel_rfl
@[simp] theorem fn_6 : cfg0.fn 6 = some Tryd.f6 := by kernel_rfl
@[simp] theorem fn_7 : cfg0.fn 7 = some Tryd.f7 := by kernel_rfl
@[simp] theorem fn_8 : cfg0.fn 8 = some Tryd.f8 := by kernel_rfl
@[simp] theorem fn_9 : cfg0.fn 9 = some Tryd.f9 := by kernel_rfl
@[simp] theorem fn_10 : cfg0.fn 10 = some Tryd.f10 := by kernel_rfl
@[simp] theorem fn_11 : cfg0.fn 11 = some Tryd.f11 := by kernel_rfl
@[simp] theorem fn_12 : cfg0.fn 12 = some Tryd.f12 := by kernel_rfl
@[simp] theorem fn_13 : cfg0.fn 13 = some Tryd.f13 := by kernel_rfl
@[simp] theorem fn_16 : cfg0.fn 16 = some Tryd.f16 := by kernel_rfl
@[simp] theorem fn_17 : cfg0.fn 17 = some Tryd.f17 := by kernel_rfl
@[simp] theorem fn_18 : cfg0.fn 18 = some Tryd.f18 := by kernel_rfl
@[simp] theorem fn_19 : cfg0.fn 19 = some Tryd.f19 := by kernel_rfl
@[simp] theorem fn_20 : cfg0.fn 20 = some Tryd.f20 := by kernel_rfl
@[simp] theorem fn_21 : cfg0.fn 21 = some Tryd.f21 := by kernel_rfl
@[simp] theorem fn_22 : cfg0.fn 22 = some Tryd.f22 := by kernel_rfl
@[simp] theorem fn_23 : cfg0.fn 23 = some Tryd.f23 := by kernel_rfl
@[simp] theorem fn_24 : cfg0.fn 24 = some Tryd.f24 := by kernel_rfl
@[simp] theorem fn_32 : cfg0.fn 32 = some Tryd.f32 := by kernel_rfl
@[simp] theorem fn_33 : cfg0.fn 33 = some Tryd.f33 := by kernel_rfl
@[simp] theorem fn_34 : cfg0.fn 34 = some Tryd.f34 := by kernel_rfl
@[simp] theorem fn_35 : cfg0.fn 35 = some Tryd.f35 := by kernel_rfl
@[simp] theorem fn_36 : cfg0.fn 36 = some Tryd.f36 := by kernel_rfl
@[simp] theorem fn_37 : cfg0.fn 37 = some Tryd.f37 := by kernel_rfl
@[simp] theorem fn_38 : cfg0.fn 38 = some Tryd.f38 := by kernel_rfl
@[simp] theorem fn_39 : cfg0.fn 39 = some Tryd.f39 := by kernel_rfl
@[simp] theorem fn_40 : cfg0.fn 40 = some Tryd.f40 := by kernel_rfl
@[simp] theorem fn_41 : cfg0.fn 41 = some Tryd.f41 := by kernel_rfl
@[simp] theorem fn_60 : cfg0.fn 60 = some Tryd.f60 := by kernel_rfl
@[simp] theorem fn_61 : cfg0.fn 61 = some Tryd.f61 := by kernel_rfl
@[simp] theorem fn_62 : cfg0.fn 62 = some Tryd.f62 := by kernel_rfl
@[simp] theorem fn_63 : cfg0.fn 63 = some Tryd.f63 := by kernel_rfl
@[simp] theorem fn_64 : cfg0.fn 64 = some Tryd.f64 := by kernel_rfl
@[simp] theorem fn_71 : cfg0.fn 71 = some Tryd.f71 := by kernel_rfl
@[simp] theorem fn_72 : cfg0.fn 72 = some Tryd.f72 := by kernel_rfl
@[simp] theorem fn_76 : cfg0.fn 76 = some Tryd.f76 := by kernel_rfl
/- F3 cinnabar/cinnabarlaw16.InstsChecks -/
def f3_r0l : List Oper := [⟨some 2, .assign (.const (.bool false)), 4, "law.go:50", #[], none⟩]
def f3_r0o : Array Oper := f3_r0l.toArray
@[simp] theorem f3_r0_l : f3_r0o.toList = f3_r0l := rfl
attribute [simp] f3_r0l
def f3_r1l : List Oper := [⟨some 7, .move (.tmp 0), 22, "law.go:51", #[], none⟩,
  ⟨some 8, .call ⟨.value (.func 4), #[.tmp 7], #[22]⟩, 4, "law.go:51", #[⟨0, .data⟩], none⟩,
  ⟨some 9, .unOp .not 4 (.tmp 8), 4, "law.go:51", #[⟨1, .data⟩], none⟩]
def f3_r1o : Array Oper := f3_r1l.toArray
@[simp] theorem f3_r1_l : f3_r1o.toList = f3_r1l := rfl
attribute [simp] f3_r1l
def f3_r2l : List Oper := [⟨some 10, .call ⟨.value (.func 5), #[], #[]⟩, 4, "law.go:52", #[], none⟩,
  ⟨some 2, .assign (.tmp 10), 4, "law.go:52", #[⟨0, .data⟩, ⟨0, .chain⟩, ⟨0, .phase⟩], none⟩]
def f3_r2o : Array Oper := f3_r2l.toArray
@[simp] theorem f3_r2_l : f3_r2o.toList = f3_r2l := rfl
attribute [simp] f3_r2l
def f3_r3l : List Oper := [⟨some 12, .move (.tmp 0), 22, "law.go:54", #[], none⟩,
  ⟨some 13, .call ⟨.value (.func 6), #[.tmp 12], #[22]⟩, 27, "law.go:54", #[⟨0, .data⟩], none⟩,
  ⟨some 11, .move (.tmp 13), 27, "law.go:54", #[⟨1, .data⟩], none⟩,
  ⟨some 14, .extract (.tmp 11) 0, 25, "law.go:54", #[⟨2, .data⟩], none⟩,
  ⟨some 15, .extract (.tmp 11) 1, 26, "law.go:54", #[⟨2, .data⟩, ⟨5, .gcOnly .lateStores⟩], none⟩,
  ⟨some 3, .assign (.tmp 14), 25, "law.go:54", #[⟨3, .data⟩, ⟨1, .chain⟩, ⟨0, .phase⟩, ⟨1, .phase⟩, ⟨2, .phase⟩, ⟨3, .phase⟩, ⟨4, .textOnly .lateStores⟩], none⟩,
  ⟨some 4, .assign (.tmp 15), 26, "law.go:54", #[⟨4, .data⟩, ⟨5, .chain⟩, ⟨0, .phase⟩, ⟨1, .phase⟩, ⟨2, .phase⟩, ⟨3, .phase⟩, ⟨4, .phase⟩, ⟨5, .phase⟩], none⟩]
def f3_r3o : Array Oper := f3_r3l.toArray
@[simp] theorem f3_r3_l : f3_r3o.toList = f3_r3l := rfl
attribute [simp] f3_r3l
def f3_r4l : List Oper := [⟨some 17, .move (.tmp 0), 22, "law.go:55", #[], none⟩,
  ⟨some 18, .call ⟨.value (.func 7), #[.tmp 17], #[22]⟩, 27, "law.go:55", #[⟨0, .data⟩], none⟩,
  ⟨some 16, .move (.tmp 18), 27, "law.go:55", #[⟨1, .data⟩], none⟩,
  ⟨some 19, .extract (.tmp 16) 0, 25, "law.go:55", #[⟨2, .data⟩], none⟩,
  ⟨some 20, .extract (.tmp 16) 1, 26, "law.go:55", #[⟨2, .data⟩, ⟨5, .gcOnly .lateStores⟩], none⟩,
  ⟨some 5, .assign (.tmp 19), 25, "law.go:55", #[⟨3, .data⟩, ⟨1, .chain⟩, ⟨0, .phase⟩, ⟨1, .phase⟩, ⟨2, .phase⟩, ⟨3, .phase⟩, ⟨4, .textOnly .lateStores⟩], none⟩,
  ⟨some 6, .assign (.tmp 20), 26, "law.go:55", #[⟨4, .data⟩, ⟨5, .chain⟩, ⟨0, .phase⟩, ⟨1, .phase⟩, ⟨2, .phase⟩, ⟨3, .phase⟩, ⟨4, .phase⟩, ⟨5, .phase⟩], none⟩]
def f3_r4o : Array Oper := f3_r4l.toArray
@[simp] theorem f3_r4_l : f3_r4o.toList = f3_r4l := rfl
attribute [simp] f3_r4l
def f3_r5l : List Oper := [⟨some 21, .call ⟨.value (.func 5), #[], #[]⟩, 4, "law.go:56", #[], none⟩,
  ⟨some 22, .move (.tmp 21), 4, "law.go:56", #[⟨0, .data⟩, ⟨0, .chain⟩], none⟩,
  ⟨some 23, .move (.tmp 0), 22, "law.go:56", #[⟨1, .guard⟩], some (1, true)⟩,
  ⟨some 24, .call ⟨.value (.func 8), #[.tmp 23], #[22]⟩, 26, "law.go:56", #[⟨2, .data⟩, ⟨1, .chain⟩, ⟨1, .guard⟩], some (1, true)⟩,
  ⟨some 25, .move (.tmp 0), 22, "law.go:56", #[⟨1, .guard⟩], some (1, true)⟩,
  ⟨some 26, .call ⟨.value (.func 9), #[.tmp 25], #[22]⟩, 26, "law.go:56", #[⟨4, .data⟩, ⟨3, .chain⟩, ⟨1, .guard⟩], some (1, true)⟩,
  ⟨some 27, .binOp .eql 26 (.tmp 24) (.tmp 26) 26, 4, "law.go:56", #[⟨3, .data⟩, ⟨5, .data⟩, ⟨1, .guard⟩], some (1, true)⟩,
  ⟨some 28, .pick (.tmp 22) (.tmp 27) (.const (.bool false)), 4, "law.go:56", #[⟨1, .data⟩, ⟨6, .data⟩], none⟩,
  ⟨some 29, .move (.tmp 28), 4, "law.go:56", #[⟨7, .data⟩, ⟨5, .chain⟩], none⟩,
  ⟨some 30, .move (.tmp 4), 26, "law.go:56", #[⟨8, .guard⟩], some (8, true)⟩,
  ⟨some 31, .move (.tmp 6), 26, "law.go:56", #[⟨8, .guard⟩], some (8, true)⟩,
  ⟨some 32, .binOp .eql 26 (.tmp 30) (.tmp 31) 26, 4, "law.go:56", #[⟨9, .data⟩, ⟨10, .data⟩, ⟨8, .guard⟩], some (8, true)⟩,
  ⟨some 33, .pick (.tmp 29) (.tmp 32) (.const (.bool false)), 4, "law.go:56", #[⟨8, .data⟩, ⟨11, .data⟩], none⟩,
  ⟨some 34, .move (.tmp 33), 4, "law.go:56", #[⟨12, .data⟩, ⟨8, .chain⟩], none⟩,
  ⟨some 35, .move (.tmp 3), 25, "law.go:56", #[⟨13, .guard⟩], some (13, true)⟩,
  ⟨some 36, .move (.tmp 5), 25, "law.go:56", #[⟨13, .guard⟩], some (13, true)⟩,
  ⟨some 37, .call ⟨.value (.func 10), #[.tmp 35, .tmp 36], #[25, 25]⟩, 4, "law.go:56", #[⟨14, .data⟩, ⟨15, .data⟩, ⟨13, .chain⟩, ⟨13, .guard⟩], some (13, true)⟩,
  ⟨some 38, .pick (.tmp 34) (.tmp 37) (.const (.bool false)), 4, "law.go:56", #[⟨13, .data⟩, ⟨16, .data⟩], none⟩,
  ⟨some 2, .assign (.tmp 38), 4, "law.go:56", #[⟨17, .data⟩, ⟨16, .chain⟩, ⟨0, .phase⟩, ⟨1, .phase⟩, ⟨2, .phase⟩, ⟨3, .phase⟩, ⟨4, .phase⟩, ⟨5, .phase⟩, ⟨6, .phase⟩, ⟨7, .phase⟩, ⟨8, .phase⟩, ⟨9, .phase⟩, ⟨10, .phase⟩, ⟨11, .phase⟩, ⟨12, .phase⟩, ⟨13, .phase⟩, ⟨14, .phase⟩, ⟨15, .phase⟩, ⟨16, .phase⟩, ⟨17, .phase⟩], none⟩]
def f3_r5o : Array Oper := f3_r5l.toArray
@[simp] theorem f3_r5_l : f3_r5o.toList = f3_r5l := rfl
attribute [simp] f3_r5l
@[simp] theorem f3_r5_g1 : guardT f3_r5o 1 = some 22 := rfl
@[simp] theorem f3_r5_g8 : guardT f3_r5o 8 = some 29 := rfl
@[simp] theorem f3_r5_g13 : guardT f3_r5o 13 = some 34 := rfl
def f3_ac : AC :=
  (.seq (.reg 0 f3_r0o [0, 23, 24, 25, 26, 27, 30, 31, 32, 35, 36, 37]) (.seq (.seq (.reg 1 f3_r1o [0, 9, 23, 24, 25, 26, 27, 30, 31, 32, 35, 36, 37]) (.cond (.tmp 9) (.seq (.reg 2 f3_r2o [2]) .ret) .skip)) (.seq (.reg 3 f3_r3o [0, 3, 4, 23, 24, 25, 26, 27, 30, 31, 32, 35, 36, 37]) (.seq (.reg 4 f3_r4o [0, 3, 4, 5, 6, 23, 24, 25, 26, 27, 30, 31, 32, 35, 36, 37]) (.seq (.reg 5 f3_r5o [2]) .ret)))))
theorem f3_eq : Tryd.f3.body = some f3_ac.code := rfl
@[simp] theorem f3_nt : Tryd.f3.ntmps = 39 := rfl
theorem f3_fits : f3_ac.fits Tryd.f3.ntmps = true := by kernel_rfl
@[simp] theorem f3_res : Tryd.f3.results.toList = [.tmp 2] := rfl
@[simp] theorem f3_isb : Tryd.f3.body.isNone = false := rfl
/- F4 cinnabar/cinnabarlaw16.Few -/
def f4_r0l : List Oper := [⟨some 2, .assign (.const (.bool false)), 4, "law.go:22", #[], none⟩]
def f4_r0o : Array Oper := f4_r0l.toArray
@[simp] theorem f4_r0_l : f4_r0o.toList = f4_r0l := rfl
attribute [simp] f4_r0l
def f4_r1l : List Oper := [⟨some 3, .move (.tmp 0), 22, "law.go:23", #[], none⟩,
  ⟨some 4, .call ⟨.builtin .len, #[.tmp 3], #[22]⟩, 3, "law.go:23", #[⟨0, .data⟩], none⟩,
  ⟨some 5, .binOp .leq 3 (.tmp 4) (.const (.int .i64 12)) 3, 4, "law.go:23", #[⟨1, .data⟩], none⟩,
  ⟨some 6, .move (.tmp 5), 4, "law.go:23", #[⟨2, .data⟩], none⟩,
  ⟨some 7, .move (.tmp 0), 22, "law.go:23", #[⟨3, .guard⟩], some (3, true)⟩,
  ⟨some 8, .call ⟨.value (.func 11), #[.tmp 7, .func 12], #[22, 36]⟩, 4, "law.go:23", #[⟨4, .data⟩, ⟨3, .chain⟩, ⟨3, .guard⟩], some (3, true)⟩,
  ⟨some 9, .unOp .not 4 (.tmp 8), 4, "law.go:23", #[⟨5, .data⟩, ⟨3, .guard⟩], some (3, true)⟩,
  ⟨some 10, .pick (.tmp 6) (.tmp 9) (.const (.bool false)), 4, "law.go:23", #[⟨3, .data⟩, ⟨6, .data⟩], none⟩,
  ⟨some 2, .assign (.tmp 10), 4, "law.go:23", #[⟨7, .data⟩, ⟨5, .chain⟩, ⟨0, .phase⟩, ⟨1, .phase⟩, ⟨2, .phase⟩, ⟨3, .phase⟩, ⟨4, .phase⟩, ⟨5, .phase⟩, ⟨6, .phase⟩, ⟨7, .phase⟩], none⟩]
def f4_r1o : Array Oper := f4_r1l.toArray
@[simp] theorem f4_r1_l : f4_r1o.toList = f4_r1l := rfl
attribute [simp] f4_r1l
@[simp] theorem f4_r1_g3 : guardT f4_r1o 3 = some 6 := rfl
def f4_ac : AC :=
  (.seq (.reg 0 f4_r0o [0, 7, 8, 9]) (.seq (.reg 1 f4_r1o [2]) .ret))
theorem f4_eq : Tryd.f4.body = some f4_ac.code := rfl
@[simp] theorem f4_nt : Tryd.f4.ntmps = 11 := rfl
theorem f4_fits : f4_ac.fits Tryd.f4.ntmps = true := by kernel_rfl
@[simp] theorem f4_res : Tryd.f4.results.toList = [.tmp 2] := rfl
@[simp] theorem f4_isb : Tryd.f4.body.isNone = false := rfl
/- F6 cinnabar/insts.Valued -/
def f6_r0l : List Oper := [⟨some 2, .assign (.const (.slice none 0 0)), 25, "insts.go:403", #[], none⟩,
  ⟨some 3, .assign (.const (.int .i64 0)), 26, "insts.go:403", #[⟨0, .chain⟩], none⟩]
def f6_r0o : Array Oper := f6_r0l.toArray
@[simp] theorem f6_r0_l : f6_r0o.toList = f6_r0l := rfl
attribute [simp] f6_r0l
def f6_r1l : List Oper := [⟨some 5, .move (.tmp 0), 22, "insts.go:404", #[], none⟩,
  ⟨some 6, .call ⟨.value (.func 8), #[.tmp 5], #[22]⟩, 26, "insts.go:404", #[⟨0, .data⟩], none⟩,
  ⟨some 4, .assign (.tmp 6), 26, "insts.go:404", #[⟨1, .data⟩, ⟨1, .chain⟩, ⟨0, .phase⟩, ⟨1, .phase⟩], none⟩]
def f6_r1o : Array Oper := f6_r1l.toArray
@[simp] theorem f6_r1_l : f6_r1o.toList = f6_r1l := rfl
attribute [simp] f6_r1l
def f6_r2l : List Oper := [⟨some 7, .move (.tmp 4), 26, "insts.go:404", #[], none⟩,
  ⟨some 8, .binOp .neq 26 (.tmp 7) (.const (.int .i64 0)) 26, 4, "insts.go:404", #[⟨0, .data⟩], none⟩]
def f6_r2o : Array Oper := f6_r2l.toArray
@[simp] theorem f6_r2_l : f6_r2o.toList = f6_r2l := rfl
attribute [simp] f6_r2l
def f6_r3l : List Oper := [⟨some 9, .move (.tmp 4), 26, "insts.go:405", #[⟨1, .gcOnly .lateStores⟩], none⟩,
  ⟨some 2, .assign (.const (.slice none 0 0)), 25, "insts.go:405", #[⟨0, .textOnly .lateStores⟩], none⟩,
  ⟨some 3, .assign (.tmp 9), 26, "insts.go:405", #[⟨0, .data⟩, ⟨1, .chain⟩, ⟨0, .phase⟩, ⟨1, .phase⟩], none⟩]
def f6_r3o : Array Oper := f6_r3l.toArray
@[simp] theorem f6_r3_l : f6_r3o.toList = f6_r3l := rfl
attribute [simp] f6_r3l
def f6_r4l : List Oper := [⟨some 10, .move (.tmp 0), 22, "insts.go:407", #[], none⟩,
  ⟨some 11, .call ⟨.value (.func 16), #[.tmp 10], #[22]⟩, 25, "insts.go:407", #[⟨0, .data⟩], none⟩,
  ⟨some 2, .assign (.tmp 11), 25, "insts.go:407", #[⟨1, .data⟩, ⟨1, .chain⟩, ⟨0, .phase⟩, ⟨1, .phase⟩], none⟩,
  ⟨some 3, .assign (.const (.int .i64 0)), 26, "insts.go:407", #[⟨2, .chain⟩, ⟨0, .phase⟩, ⟨1, .phase⟩, ⟨2, .phase⟩], none⟩]
def f6_r4o : Array Oper := f6_r4l.toArray
@[simp] theorem f6_r4_l : f6_r4o.toList = f6_r4l := rfl
attribute [simp] f6_r4l
def f6_ac : AC :=
  (.seq (.reg 0 f6_r0o [0]) (.seq (.seq (.reg 1 f6_r1o [0, 4]) (.seq (.reg 2 f6_r2o [0, 4, 8]) (.cond (.tmp 8) (.seq (.reg 3 f6_r3o [2, 3]) .ret) .skip))) (.seq (.reg 4 f6_r4o [2, 3]) .ret)))
theorem f6_eq : Tryd.f6.body = some f6_ac.code := rfl
@[simp] theorem f6_nt : Tryd.f6.ntmps = 12 := rfl
theorem f6_fits : f6_ac.fits Tryd.f6.ntmps = true := by kernel_rfl
@[simp] theorem f6_res : Tryd.f6.results.toList = [.tmp 2, .tmp 3] := rfl
@[simp] theorem f6_isb : Tryd.f6.body.isNone = false := rfl
/- F7 cinnabar/cinnabarref16.Valued -/
def f7_r0l : List Oper := [⟨some 2, .assign (.const (.slice none 0 0)), 25, "ref.go:416", #[], none⟩,
  ⟨some 3, .assign (.const (.int .i64 0)), 26, "ref.go:416", #[⟨0, .chain⟩], none⟩]
def f7_r0o : Array Oper := f7_r0l.toArray
@[simp] theorem f7_r0_l : f7_r0o.toList = f7_r0l := rfl
attribute [simp] f7_r0l
def f7_r1l : List Oper := [⟨some 5, .move (.tmp 0), 22, "ref.go:417", #[], none⟩,
  ⟨some 6, .call ⟨.value (.func 9), #[.tmp 5], #[22]⟩, 26, "ref.go:417", #[⟨0, .data⟩], none⟩,
  ⟨some 4, .assign (.tmp 6), 26, "ref.go:417", #[⟨1, .data⟩, ⟨1, .chain⟩, ⟨0, .phase⟩, ⟨1, .phase⟩], none⟩]
def f7_r1o : Array Oper := f7_r1l.toArray
@[simp] theorem f7_r1_l : f7_r1o.toList = f7_r1l := rfl
attribute [simp] f7_r1l
def f7_r2l : List Oper := [⟨some 7, .move (.tmp 4), 26, "ref.go:417", #[], none⟩,
  ⟨some 8, .binOp .neq 26 (.tmp 7) (.const (.int .i64 0)) 26, 4, "ref.go:417", #[⟨0, .data⟩], none⟩]
def f7_r2o : Array Oper := f7_r2l.toArray
@[simp] theorem f7_r2_l : f7_r2o.toList = f7_r2l := rfl
attribute [simp] f7_r2l
def f7_r3l : List Oper := [⟨some 9, .move (.tmp 4), 26, "ref.go:418", #[⟨1, .gcOnly .lateStores⟩], none⟩,
  ⟨some 2, .assign (.const (.slice none 0 0)), 25, "ref.go:418", #[⟨0, .textOnly .lateStores⟩], none⟩,
  ⟨some 3, .assign (.tmp 9), 26, "ref.go:418", #[⟨0, .data⟩, ⟨1, .chain⟩, ⟨0, .phase⟩, ⟨1, .phase⟩], none⟩]
def f7_r3o : Array Oper := f7_r3l.toArray
@[simp] theorem f7_r3_l : f7_r3o.toList = f7_r3l := rfl
attribute [simp] f7_r3l
def f7_r4l : List Oper := [⟨some 10, .move (.tmp 0), 22, "ref.go:420", #[], none⟩,
  ⟨some 11, .call ⟨.value (.func 17), #[.tmp 10], #[22]⟩, 25, "ref.go:420", #[⟨0, .data⟩], none⟩,
  ⟨some 2, .assign (.tmp 11), 25, "ref.go:420", #[⟨1, .data⟩, ⟨1, .chain⟩, ⟨0, .phase⟩, ⟨1, .phase⟩], none⟩,
  ⟨some 3, .assign (.const (.int .i64 0)), 26, "ref.go:420", #[⟨2, .chain⟩, ⟨0, .phase⟩, ⟨1, .phase⟩, ⟨2, .phase⟩], none⟩]
def f7_r4o : Array Oper := f7_r4l.toArray
@[simp] theorem f7_r4_l : f7_r4o.toList = f7_r4l := rfl
attribute [simp] f7_r4l
def f7_ac : AC :=
  (.seq (.reg 0 f7_r0o [0]) (.seq (.seq (.reg 1 f7_r1o [0, 4]) (.seq (.reg 2 f7_r2o [0, 4, 8]) (.cond (.tmp 8) (.seq (.reg 3 f7_r3o [2, 3]) .ret) .skip))) (.seq (.reg 4 f7_r4o [2, 3]) .ret)))
theorem f7_eq : Tryd.f7.body = some f7_ac.code := rfl
@[simp] theorem f7_nt : Tryd.f7.ntmps = 12 := rfl
theorem f7_fits : f7_ac.fits Tryd.f7.ntmps = true := by kernel_rfl
@[simp] theorem f7_res : Tryd.f7.results.toList = [.tmp 2, .tmp 3] := rfl
@[simp] theorem f7_isb : Tryd.f7.body.isNone = false := rfl
/- F8 cinnabar/insts.Check -/
def f8_r0l : List Oper := [⟨some 2, .assign (.const (.int .i64 0)), 26, "insts.go:35", #[], none⟩]
def f8_r0o : Array Oper := f8_r0l.toArray
@[simp] theorem f8_r0_l : f8_r0o.toList = f8_r0l := rfl
attribute [simp] f8_r0l
def f8_r1l : List Oper := [⟨some 6, .move (.tmp 0), 22, "insts.go:36", #[], none⟩,
  ⟨some 7, .call ⟨.builtin .len, #[.tmp 6], #[22]⟩, 3, "insts.go:36", #[⟨0, .data⟩], none⟩,
  ⟨some 8, .binOp .gtr 3 (.tmp 7) (.const (.int .i64 2000)) 3, 4, "insts.go:36", #[⟨1, .data⟩], none⟩]
def f8_r1o : Array Oper := f8_r1l.toArray
@[simp] theorem f8_r1_l : f8_r1o.toList = f8_r1l := rfl
attribute [simp] f8_r1l
def f8_r2l : List Oper := [⟨some 2, .assign (.const (.int .i64 6)), 26, "insts.go:37", #[], none⟩]
def f8_r2o : Array Oper := f8_r2l.toArray
@[simp] theorem f8_r2_l : f8_r2o.toList = f8_r2l := rfl
attribute [simp] f8_r2l
def f8_r3l : List Oper := [⟨some 9, .move (.tmp 0), 22, "insts.go:39", #[], none⟩,
  ⟨some 10, .call ⟨.builtin .len, #[.tmp 9], #[22]⟩, 3, "insts.go:39", #[⟨0, .data⟩], none⟩,
  ⟨some 11, .move (.const (.int .i64 0)), 3, "insts.go:39", #[], none⟩]
def f8_r3o : Array Oper := f8_r3l.toArray
@[simp] theorem f8_r3_l : f8_r3o.toList = f8_r3l := rfl
attribute [simp] f8_r3l
def f8_r4l : List Oper := [⟨some 12, .binOp .lss 3 (.tmp 11) (.tmp 10) 3, 0, "insts.go:39", #[], none⟩]
def f8_r4o : Array Oper := f8_r4l.toArray
@[simp] theorem f8_r4_l : f8_r4o.toList = f8_r4l := rfl
attribute [simp] f8_r4l
def f8_r5l : List Oper := [⟨some 13, .indexAddr 22 (.tmp 9) (.tmp 11), 0, "insts.go:39", #[], none⟩,
  ⟨some 14, .load 35 (.tmp 13), 35, "insts.go:39", #[⟨0, .data⟩], none⟩,
  ⟨some 4, .alloc 35, 0, "insts.go:39", #[], none⟩,
  ⟨none, .store 35 (.tmp 4) (.tmp 14), 0, "insts.go:39", #[⟨2, .data⟩, ⟨1, .data⟩, ⟨0, .phase⟩, ⟨1, .phase⟩, ⟨2, .phase⟩], none⟩]
def f8_r5o : Array Oper := f8_r5l.toArray
@[simp] theorem f8_r5_l : f8_r5o.toList = f8_r5l := rfl
attribute [simp] f8_r5l
def f8_r6l : List Oper := [⟨some 15, .move (.tmp 0), 22, "insts.go:40", #[], none⟩,
  ⟨some 16, .load 35 (.tmp 4), 35, "insts.go:40", #[], none⟩,
  ⟨some 17, .call ⟨.value (.func 18), #[.tmp 15, .tmp 16], #[22, 35]⟩, 26, "insts.go:40", #[⟨0, .data⟩, ⟨1, .data⟩], none⟩,
  ⟨some 5, .assign (.tmp 17), 26, "insts.go:40", #[⟨2, .data⟩, ⟨2, .chain⟩, ⟨0, .phase⟩, ⟨1, .phase⟩, ⟨2, .phase⟩], none⟩]
def f8_r6o : Array Oper := f8_r6l.toArray
@[simp] theorem f8_r6_l : f8_r6o.toList = f8_r6l := rfl
attribute [simp] f8_r6l
def f8_r7l : List Oper := [⟨some 18, .move (.tmp 5), 26, "insts.go:40", #[], none⟩,
  ⟨some 19, .binOp .neq 26 (.tmp 18) (.const (.int .i64 0)) 26, 4, "insts.go:40", #[⟨0, .data⟩], none⟩]
def f8_r7o : Array Oper := f8_r7l.toArray
@[simp] theorem f8_r7_l : f8_r7o.toList = f8_r7l := rfl
attribute [simp] f8_r7l
def f8_r8l : List Oper := [⟨some 20, .move (.tmp 5), 26, "insts.go:41", #[], none⟩,
  ⟨some 2, .assign (.tmp 20), 26, "insts.go:41", #[⟨0, .data⟩, ⟨0, .phase⟩], none⟩]
def f8_r8o : Array Oper := f8_r8l.toArray
@[simp] theorem f8_r8_l : f8_r8o.toList = f8_r8l := rfl
attribute [simp] f8_r8l
def f8_r9l : List Oper := [⟨some 21, .binOp .add 3 (.tmp 11) (.const (.int .i64 1)) 3, 3, "insts.go:39", #[], none⟩,
  ⟨some 11, .move (.tmp 21), 3, "insts.go:39", #[⟨0, .data⟩], none⟩]
def f8_r9o : Array Oper := f8_r9l.toArray
@[simp] theorem f8_r9_l : f8_r9o.toList = f8_r9l := rfl
attribute [simp] f8_r9l
def f8_l0 : AC :=
  (.seq (.reg 4 f8_r4o [0, 9, 10, 11, 12]) (.seq (.cond (.tmp 12) .skip (.exit 0)) (.seq (.block 1 (.seq (.reg 5 f8_r5o [0, 4, 9, 10, 11]) (.seq (.reg 6 f8_r6o [0, 5, 9, 10, 11]) (.seq (.reg 7 f8_r7o [0, 5, 9, 10, 11, 19]) (.cond (.tmp 19) (.seq (.reg 8 f8_r8o [2]) .ret) .skip))))) (.reg 9 f8_r9o [0, 9, 10, 11]))))
theorem f8_l0_fits : f8_l0.fits 24 = true := by kernel_rfl
def f8_r10l : List Oper := [⟨some 22, .move (.tmp 0), 22, "insts.go:44", #[], none⟩,
  ⟨some 23, .call ⟨.value (.func 19), #[.tmp 22], #[22]⟩, 4, "insts.go:44", #[⟨0, .data⟩], none⟩]
def f8_r10o : Array Oper := f8_r10l.toArray
@[simp] theorem f8_r10_l : f8_r10o.toList = f8_r10l := rfl
attribute [simp] f8_r10l
def f8_r11l : List Oper := [⟨some 2, .assign (.const (.int .i64 13)), 26, "insts.go:45", #[], none⟩]
def f8_r11o : Array Oper := f8_r11l.toArray
@[simp] theorem f8_r11_l : f8_r11o.toList = f8_r11l := rfl
attribute [simp] f8_r11l
def f8_r12l : List Oper := [⟨some 2, .assign (.const (.int .i64 0)), 26, "insts.go:47", #[], none⟩]
def f8_r12o : Array Oper := f8_r12l.toArray
@[simp] theorem f8_r12_l : f8_r12o.toList = f8_r12l := rfl
attribute [simp] f8_r12l
def f8_ac : AC :=
  (.seq (.reg 0 f8_r0o [0]) (.seq (.seq (.reg 1 f8_r1o [0, 8]) (.cond (.tmp 8) (.seq (.reg 2 f8_r2o [2]) .ret) .skip)) (.seq (.seq (.reg 3 f8_r3o [0, 9, 10, 11]) (.block 0 (.loop f8_l0))) (.seq (.seq (.reg 10 f8_r10o [23]) (.cond (.tmp 23) (.seq (.reg 11 f8_r11o [2]) .ret) .skip)) (.seq (.reg 12 f8_r12o [2]) .ret)))))
theorem f8_eq : Tryd.f8.body = some f8_ac.code := rfl
@[simp] theorem f8_nt : Tryd.f8.ntmps = 24 := rfl
theorem f8_fits : f8_ac.fits Tryd.f8.ntmps = true := by kernel_rfl
@[simp] theorem f8_res : Tryd.f8.results.toList = [.tmp 2] := rfl
@[simp] theorem f8_isb : Tryd.f8.body.isNone = false := rfl
/- F9 cinnabar/cinnabarref16.Check -/
def f9_r0l : List Oper := [⟨some 2, .assign (.const (.int .i64 0)), 26, "ref.go:87", #[], none⟩]
def f9_r0o : Array Oper := f9_r0l.toArray
@[simp] theorem f9_r0_l : f9_r0o.toList = f9_r0l := rfl
attribute [simp] f9_r0l
def f9_r1l : List Oper := [⟨some 7, .move (.tmp 0), 22, "ref.go:88", #[], none⟩,
  ⟨some 8, .call ⟨.builtin .len, #[.tmp 7], #[22]⟩, 3, "ref.go:88", #[⟨0, .data⟩], none⟩,
  ⟨some 9, .binOp .gtr 3 (.tmp 8) (.const (.int .i64 2000)) 3, 4, "ref.go:88", #[⟨1, .data⟩], none⟩]
def f9_r1o : Array Oper := f9_r1l.toArray
@[simp] theorem f9_r1_l : f9_r1o.toList = f9_r1l := rfl
attribute [simp] f9_r1l
def f9_r2l : List Oper := [⟨some 2, .assign (.const (.int .i64 6)), 26, "ref.go:89", #[], none⟩]
def f9_r2o : Array Oper := f9_r2l.toArray
@[simp] theorem f9_r2_l : f9_r2o.toList = f9_r2l := rfl
attribute [simp] f9_r2l
def f9_r3l : List Oper := [⟨some 3, .assign (.const (.int .i64 0)), 3, "ref.go:91", #[], none⟩]
def f9_r3o : Array Oper := f9_r3l.toArray
@[simp] theorem f9_r3_l : f9_r3o.toList = f9_r3l := rfl
attribute [simp] f9_r3l
def f9_r4l : List Oper := [⟨some 10, .move (.tmp 3), 3, "ref.go:91", #[], none⟩,
  ⟨some 11, .move (.tmp 0), 22, "ref.go:91", #[], none⟩,
  ⟨some 12, .call ⟨.builtin .len, #[.tmp 11], #[22]⟩, 3, "ref.go:91", #[⟨1, .data⟩], none⟩,
  ⟨some 13, .binOp .lss 3 (.tmp 10) (.tmp 12) 3, 4, "ref.go:91", #[⟨0, .data⟩, ⟨2, .data⟩], none⟩]
def f9_r4o : Array Oper := f9_r4l.toArray
@[simp] theorem f9_r4_l : f9_r4o.toList = f9_r4l := rfl
attribute [simp] f9_r4l
def f9_r6l : List Oper := [⟨some 16, .move (.tmp 0), 22, "ref.go:92", #[], none⟩,
  ⟨some 17, .move (.tmp 0), 22, "ref.go:92", #[], none⟩,
  ⟨some 18, .move (.tmp 3), 3, "ref.go:92", #[], none⟩,
  ⟨some 19, .indexAddr 22 (.tmp 17) (.tmp 18), 0, "ref.go:92", #[⟨1, .data⟩, ⟨2, .data⟩], none⟩,
  ⟨some 20, .load 35 (.tmp 19), 35, "ref.go:92", #[⟨3, .data⟩], none⟩,
  ⟨some 21, .call ⟨.value (.func 20), #[.tmp 16, .tmp 20], #[22, 35]⟩, 26, "ref.go:92", #[⟨0, .data⟩, ⟨4, .data⟩], none⟩,
  ⟨some 4, .assign (.tmp 21), 26, "ref.go:92", #[⟨5, .data⟩, ⟨5, .chain⟩, ⟨0, .phase⟩, ⟨1, .phase⟩, ⟨2, .phase⟩, ⟨3, .phase⟩, ⟨4, .phase⟩, ⟨5, .phase⟩], none⟩]
def f9_r6o : Array Oper := f9_r6l.toArray
@[simp] theorem f9_r6_l : f9_r6o.toList = f9_r6l := rfl
attribute [simp] f9_r6l
def f9_r7l : List Oper := [⟨some 22, .move (.tmp 4), 26, "ref.go:92", #[], none⟩,
  ⟨some 23, .binOp .neq 26 (.tmp 22) (.const (.int .i64 0)) 26, 4, "ref.go:92", #[⟨0, .data⟩], none⟩]
def f9_r7o : Array Oper := f9_r7l.toArray
@[simp] theorem f9_r7_l : f9_r7o.toList = f9_r7l := rfl
attribute [simp] f9_r7l
def f9_r8l : List Oper := [⟨some 24, .move (.tmp 4), 26, "ref.go:93", #[], none⟩,
  ⟨some 2, .assign (.tmp 24), 26, "ref.go:93", #[⟨0, .data⟩, ⟨0, .phase⟩], none⟩]
def f9_r8o : Array Oper := f9_r8l.toArray
@[simp] theorem f9_r8_l : f9_r8o.toList = f9_r8l := rfl
attribute [simp] f9_r8l
def f9_r5l : List Oper := [⟨some 14, .move (.tmp 3), 3, "ref.go:91", #[], none⟩,
  ⟨some 15, .binOp .add 3 (.tmp 14) (.const (.int .i64 1)) 3, 3, "ref.go:91", #[⟨0, .data⟩], none⟩,
  ⟨some 3, .assign (.tmp 15), 3, "ref.go:91", #[⟨1, .data⟩, ⟨0, .phase⟩, ⟨1, .phase⟩], none⟩]
def f9_r5o : Array Oper := f9_r5l.toArray
@[simp] theorem f9_r5_l : f9_r5o.toList = f9_r5l := rfl
attribute [simp] f9_r5l
def f9_l0 : AC :=
  (.seq (.seq (.reg 4 f9_r4o [0, 3, 13]) (.cond (.tmp 13) .skip (.exit 0))) (.seq (.block 1 (.seq (.reg 6 f9_r6o [0, 3, 4]) (.seq (.reg 7 f9_r7o [0, 3, 4, 23]) (.cond (.tmp 23) (.seq (.reg 8 f9_r8o [2]) .ret) .skip)))) (.reg 5 f9_r5o [0, 3])))
theorem f9_l0_fits : f9_l0.fits 38 = true := by kernel_rfl
def f9_r9l : List Oper := [⟨some 25, .move (.tmp 0), 22, "ref.go:96", #[], none⟩,
  ⟨some 26, .call ⟨.builtin .len, #[.tmp 25], #[22]⟩, 3, "ref.go:96", #[⟨0, .data⟩], none⟩,
  ⟨some 27, .makeSlice 37 (.tmp 26) (.tmp 26), 37, "ref.go:96", #[⟨1, .data⟩, ⟨1, .data⟩], none⟩,
  ⟨some 5, .assign (.tmp 27), 37, "ref.go:96", #[⟨2, .data⟩, ⟨0, .phase⟩, ⟨1, .phase⟩, ⟨2, .phase⟩], none⟩]
def f9_r9o : Array Oper := f9_r9l.toArray
@[simp] theorem f9_r9_l : f9_r9o.toList = f9_r9l := rfl
attribute [simp] f9_r9l
def f9_r10l : List Oper := [⟨some 6, .assign (.const (.int .i64 0)), 3, "ref.go:97", #[], none⟩]
def f9_r10o : Array Oper := f9_r10l.toArray
@[simp] theorem f9_r10_l : f9_r10o.toList = f9_r10l := rfl
attribute [simp] f9_r10l
def f9_r11l : List Oper := [⟨some 28, .move (.tmp 6), 3, "ref.go:97", #[], none⟩,
  ⟨some 29, .move (.tmp 0), 22, "ref.go:97", #[], none⟩,
  ⟨some 30, .call ⟨.builtin .len, #[.tmp 29], #[22]⟩, 3, "ref.go:97", #[⟨1, .data⟩], none⟩,
  ⟨some 31, .binOp .lss 3 (.tmp 28) (.tmp 30) 3, 4, "ref.go:97", #[⟨0, .data⟩, ⟨2, .data⟩], none⟩]
def f9_r11o : Array Oper := f9_r11l.toArray
@[simp] theorem f9_r11_l : f9_r11o.toList = f9_r11l := rfl
attribute [simp] f9_r11l
def f9_r13l : List Oper := [⟨some 34, .move (.tmp 0), 22, "ref.go:98", #[], none⟩,
  ⟨some 35, .move (.tmp 6), 3, "ref.go:98", #[], none⟩,
  ⟨some 36, .move (.tmp 5), 37, "ref.go:98", #[], none⟩,
  ⟨some 37, .call ⟨.value (.func 21), #[.tmp 34, .tmp 35, .tmp 36], #[22, 3, 37]⟩, 4, "ref.go:98", #[⟨0, .data⟩, ⟨1, .data⟩, ⟨2, .data⟩], none⟩]
def f9_r13o : Array Oper := f9_r13l.toArray
@[simp] theorem f9_r13_l : f9_r13o.toList = f9_r13l := rfl
attribute [simp] f9_r13l
def f9_r14l : List Oper := [⟨some 2, .assign (.const (.int .i64 13)), 26, "ref.go:99", #[], none⟩]
def f9_r14o : Array Oper := f9_r14l.toArray
@[simp] theorem f9_r14_l : f9_r14o.toList = f9_r14l := rfl
attribute [simp] f9_r14l
def f9_r12l : List Oper := [⟨some 32, .move (.tmp 6), 3, "ref.go:97", #[], none⟩,
  ⟨some 33, .binOp .add 3 (.tmp 32) (.const (.int .i64 1)) 3, 3, "ref.go:97", #[⟨0, .data⟩], none⟩,
  ⟨some 6, .assign (.tmp 33), 3, "ref.go:97", #[⟨1, .data⟩, ⟨0, .phase⟩, ⟨1, .phase⟩], none⟩]
def f9_r12o : Array Oper := f9_r12l.toArray
@[simp] theorem f9_r12_l : f9_r12o.toList = f9_r12l := rfl
attribute [simp] f9_r12l
def f9_l1 : AC :=
  (.seq (.seq (.reg 11 f9_r11o [0, 5, 6, 31]) (.cond (.tmp 31) .skip (.exit 2))) (.seq (.block 3 (.seq (.reg 13 f9_r13o [0, 5, 6, 37]) (.cond (.tmp 37) (.seq (.reg 14 f9_r14o [2]) .ret) .skip))) (.reg 12 f9_r12o [0, 5, 6])))
theorem f9_l1_fits : f9_l1.fits 38 = true := by kernel_rfl
def f9_r15l : List Oper := [⟨some 2, .assign (.const (.int .i64 0)), 26, "ref.go:102", #[], none⟩]
def f9_r15o : Array Oper := f9_r15l.toArray
@[simp] theorem f9_r15_l : f9_r15o.toList = f9_r15l := rfl
attribute [simp] f9_r15l
def f9_ac : AC :=
  (.seq (.reg 0 f9_r0o [0]) (.seq (.seq (.reg 1 f9_r1o [0, 9]) (.cond (.tmp 9) (.seq (.reg 2 f9_r2o [2]) .ret) .skip)) (.seq (.seq (.reg 3 f9_r3o [0, 3]) (.block 0 (.loop f9_l0))) (.seq (.reg 9 f9_r9o [0, 5]) (.seq (.seq (.reg 10 f9_r10o [0, 5, 6]) (.block 2 (.loop f9_l1))) (.seq (.reg 15 f9_r15o [2]) .ret))))))
theorem f9_eq : Tryd.f9.body = some f9_ac.code := rfl
@[simp] theorem f9_nt : Tryd.f9.ntmps = 38 := rfl
theorem f9_fits : f9_ac.fits Tryd.f9.ntmps = true := by kernel_rfl
@[simp] theorem f9_res : Tryd.f9.results.toList = [.tmp 2] := rfl
@[simp] theorem f9_isb : Tryd.f9.body.isNone = false := rfl
/- F10 slices.Equal[[]bool,bool] -/
def f10_r0l : List Oper := [⟨some 4, .assign (.const (.bool false)), 4, "slices.go:20", #[], none⟩]
def f10_r0o : Array Oper := f10_r0l.toArray
@[simp] theorem f10_r0_l : f10_r0o.toList = f10_r0l := rfl
attribute [simp] f10_r0l
def f10_r1l : List Oper := [⟨some 6, .move (.tmp 0), 25, "slices.go:21", #[], none⟩,
  ⟨some 7, .call ⟨.builtin .len, #[.tmp 6], #[25]⟩, 3, "slices.go:21", #[⟨0, .data⟩], none⟩,
  ⟨some 8, .move (.tmp 1), 25, "slices.go:21", #[], none⟩,
  ⟨some 9, .call ⟨.builtin .len, #[.tmp 8], #[25]⟩, 3, "slices.go:21", #[⟨2, .data⟩], none⟩,
  ⟨some 10, .binOp .neq 3 (.tmp 7) (.tmp 9) 3, 4, "slices.go:21", #[⟨1, .data⟩, ⟨3, .data⟩], none⟩]
def f10_r1o : Array Oper := f10_r1l.toArray
@[simp] theorem f10_r1_l : f10_r1o.toList = f10_r1l := rfl
attribute [simp] f10_r1l
def f10_r2l : List Oper := [⟨some 4, .assign (.const (.bool false)), 4, "slices.go:22", #[], none⟩]
def f10_r2o : Array Oper := f10_r2l.toArray
@[simp] theorem f10_r2_l : f10_r2o.toList = f10_r2l := rfl
attribute [simp] f10_r2l
def f10_r3l : List Oper := [⟨some 11, .move (.tmp 0), 25, "slices.go:24", #[], none⟩,
  ⟨some 12, .call ⟨.builtin .len, #[.tmp 11], #[25]⟩, 3, "slices.go:24", #[⟨0, .data⟩], none⟩,
  ⟨some 13, .move (.const (.int .i64 0)), 3, "slices.go:24", #[], none⟩]
def f10_r3o : Array Oper := f10_r3l.toArray
@[simp] theorem f10_r3_l : f10_r3o.toList = f10_r3l := rfl
attribute [simp] f10_r3l
def f10_r4l : List Oper := [⟨some 14, .binOp .lss 3 (.tmp 13) (.tmp 12) 3, 0, "slices.go:24", #[], none⟩]
def f10_r4o : Array Oper := f10_r4l.toArray
@[simp] theorem f10_r4_l : f10_r4o.toList = f10_r4l := rfl
attribute [simp] f10_r4l
def f10_r5l : List Oper := [⟨some 15, .move (.tmp 13), 3, "slices.go:24", #[], none⟩,
  ⟨some 5, .assign (.tmp 15), 3, "slices.go:24", #[⟨0, .data⟩, ⟨0, .phase⟩], none⟩]
def f10_r5o : Array Oper := f10_r5l.toArray
@[simp] theorem f10_r5_l : f10_r5o.toList = f10_r5l := rfl
attribute [simp] f10_r5l
def f10_r6l : List Oper := [⟨some 16, .move (.tmp 0), 25, "slices.go:25", #[], none⟩,
  ⟨some 17, .move (.tmp 5), 3, "slices.go:25", #[], none⟩,
  ⟨some 18, .indexAddr 25 (.tmp 16) (.tmp 17), 0, "slices.go:25", #[⟨0, .data⟩, ⟨1, .data⟩], none⟩,
  ⟨some 19, .load 4 (.tmp 18), 4, "slices.go:25", #[⟨2, .data⟩], none⟩,
  ⟨some 20, .move (.tmp 1), 25, "slices.go:25", #[], none⟩,
  ⟨some 21, .move (.tmp 5), 3, "slices.go:25", #[], none⟩,
  ⟨some 22, .indexAddr 25 (.tmp 20) (.tmp 21), 0, "slices.go:25", #[⟨4, .data⟩, ⟨5, .data⟩], none⟩,
  ⟨some 23, .load 4 (.tmp 22), 4, "slices.go:25", #[⟨6, .data⟩], none⟩,
  ⟨some 24, .binOp .neq 4 (.tmp 19) (.tmp 23) 4, 4, "slices.go:25", #[⟨3, .data⟩, ⟨7, .data⟩], none⟩]
def f10_r6o : Array Oper := f10_r6l.toArray
@[simp] theorem f10_r6_l : f10_r6o.toList = f10_r6l := rfl
attribute [simp] f10_r6l
@[simp] theorem f10_r6_n : f10_r6o.size = 9 := rfl
def f10_r7l : List Oper := [⟨some 4, .assign (.const (.bool false)), 4, "slices.go:26", #[], none⟩]
def f10_r7o : Array Oper := f10_r7l.toArray
@[simp] theorem f10_r7_l : f10_r7o.toList = f10_r7l := rfl
attribute [simp] f10_r7l
def f10_r8l : List Oper := [⟨some 25, .binOp .add 3 (.tmp 13) (.const (.int .i64 1)) 3, 3, "slices.go:24", #[], none⟩,
  ⟨some 13, .move (.tmp 25), 3, "slices.go:24", #[⟨0, .data⟩], none⟩]
def f10_r8o : Array Oper := f10_r8l.toArray
@[simp] theorem f10_r8_l : f10_r8o.toList = f10_r8l := rfl
attribute [simp] f10_r8l
def f10_l0 : AC :=
  (.seq (.reg 4 f10_r4o [0, 1, 12, 13, 14]) (.seq (.cond (.tmp 14) .skip (.exit 0)) (.seq (.block 1 (.seq (.reg 5 f10_r5o [0, 1, 5, 12, 13]) (.seq (.draw 6 f10_r6o [0, 1, 12, 13, 24]) (.cond (.tmp 24) (.seq (.reg 7 f10_r7o [4]) .ret) .skip)))) (.reg 8 f10_r8o [0, 1, 12, 13]))))
theorem f10_l0_fits : f10_l0.fits 26 = true := by kernel_rfl
def f10_r9l : List Oper := [⟨some 4, .assign (.const (.bool true)), 4, "slices.go:29", #[], none⟩]
def f10_r9o : Array Oper := f10_r9l.toArray
@[simp] theorem f10_r9_l : f10_r9o.toList = f10_r9l := rfl
attribute [simp] f10_r9l
def f10_ac : AC :=
  (.seq (.reg 0 f10_r0o [0, 1]) (.seq (.seq (.reg 1 f10_r1o [0, 1, 10]) (.cond (.tmp 10) (.seq (.reg 2 f10_r2o [4]) .ret) .skip)) (.seq (.seq (.reg 3 f10_r3o [0, 1, 12, 13]) (.block 0 (.loop f10_l0))) (.seq (.reg 9 f10_r9o [4]) .ret))))
theorem f10_eq : Tryd.f10.body = some f10_ac.code := rfl
@[simp] theorem f10_nt : Tryd.f10.ntmps = 26 := rfl
theorem f10_fits : f10_ac.fits Tryd.f10.ntmps = true := by kernel_rfl
@[simp] theorem f10_res : Tryd.f10.results.toList = [.tmp 4] := rfl
@[simp] theorem f10_isb : Tryd.f10.body.isNone = false := rfl
@[simp] theorem f10_r6_s : drawSimple cfg0 f10_r6o = true := by kernel_rfl
@[simp] theorem f10_r6_d : drawOk cfg0 f10_r6o = true := by kernel_rfl
/- F11 slices.ContainsFunc[[]cinnabar/api.Inst,cinnabar/api.Inst] -/
def f11_r0l : List Oper := [⟨some 4, .assign (.const (.bool false)), 4, "slices.go:124", #[], none⟩]
def f11_r0o : Array Oper := f11_r0l.toArray
@[simp] theorem f11_r0_l : f11_r0o.toList = f11_r0l := rfl
attribute [simp] f11_r0l
def f11_r1l : List Oper := [⟨some 5, .move (.tmp 0), 22, "slices.go:125", #[], none⟩,
  ⟨some 6, .move (.tmp 1), 36, "slices.go:125", #[], none⟩,
  ⟨some 7, .call ⟨.value (.func 22), #[.tmp 5, .tmp 6], #[22, 36]⟩, 3, "slices.go:125", #[⟨0, .data⟩, ⟨1, .data⟩], none⟩,
  ⟨some 8, .binOp .geq 3 (.tmp 7) (.const (.int .i64 0)) 3, 4, "slices.go:125", #[⟨2, .data⟩], none⟩,
  ⟨some 4, .assign (.tmp 8), 4, "slices.go:125", #[⟨3, .data⟩, ⟨2, .chain⟩, ⟨0, .phase⟩, ⟨1, .phase⟩, ⟨2, .phase⟩, ⟨3, .phase⟩], none⟩]
def f11_r1o : Array Oper := f11_r1l.toArray
@[simp] theorem f11_r1_l : f11_r1o.toList = f11_r1l := rfl
attribute [simp] f11_r1l
def f11_ac : AC :=
  (.seq (.reg 0 f11_r0o [0, 1]) (.seq (.reg 1 f11_r1o [4]) .ret))
theorem f11_eq : Tryd.f11.body = some f11_ac.code := rfl
@[simp] theorem f11_nt : Tryd.f11.ntmps = 9 := rfl
theorem f11_fits : f11_ac.fits Tryd.f11.ntmps = true := by kernel_rfl
@[simp] theorem f11_res : Tryd.f11.results.toList = [.tmp 4] := rfl
@[simp] theorem f11_isb : Tryd.f11.body.isNone = false := rfl
/- F12 cinnabar/cinnabarlaw16.Few$1 -/
def f12_r0l : List Oper := [⟨some 1, .box 35 (.tmp 0), 0, "law.go:23", #[], none⟩,
  ⟨some 2, .assign (.const (.bool false)), 4, "law.go:23", #[], none⟩]
def f12_r0o : Array Oper := f12_r0l.toArray
@[simp] theorem f12_r0_l : f12_r0o.toList = f12_r0l := rfl
attribute [simp] f12_r0l
def f12_r1l : List Oper := [⟨some 3, .load 35 (.tmp 1), 35, "law.go:23", #[], none⟩,
  ⟨some 4, .call ⟨.value (.func 13), #[.tmp 3], #[35]⟩, 4, "law.go:23", #[⟨0, .data⟩], none⟩,
  ⟨some 5, .unOp .not 4 (.tmp 4), 4, "law.go:23", #[⟨1, .data⟩], none⟩,
  ⟨some 2, .assign (.tmp 5), 4, "law.go:23", #[⟨2, .data⟩, ⟨1, .chain⟩, ⟨0, .phase⟩, ⟨1, .phase⟩, ⟨2, .phase⟩], none⟩]
def f12_r1o : Array Oper := f12_r1l.toArray
@[simp] theorem f12_r1_l : f12_r1o.toList = f12_r1l := rfl
attribute [simp] f12_r1l
def f12_ac : AC :=
  (.seq (.reg 0 f12_r0o [1]) (.seq (.reg 1 f12_r1o [2]) .ret))
theorem f12_eq : Tryd.f12.body = some f12_ac.code := rfl
@[simp] theorem f12_nt : Tryd.f12.ntmps = 6 := rfl
theorem f12_fits : f12_ac.fits Tryd.f12.ntmps = true := by kernel_rfl
@[simp] theorem f12_res : Tryd.f12.results.toList = [.tmp 2] := rfl
@[simp] theorem f12_isb : Tryd.f12.body.isNone = false := rfl
/- F13 cinnabar/cinnabarlaw16.one -/
def f13_r0l : List Oper := [⟨some 1, .box 35 (.tmp 0), 0, "law.go:26", #[], none⟩,
  ⟨some 2, .assign (.const (.bool false)), 4, "law.go:26", #[], none⟩]
def f13_r0o : Array Oper := f13_r0l.toArray
@[simp] theorem f13_r0_l : f13_r0o.toList = f13_r0l := rfl
attribute [simp] f13_r0l
def f13_r1l : List Oper := [⟨some 3, .fieldAddr 35 (.tmp 1) 1, 0, "law.go:27", #[], none⟩,
  ⟨some 4, .load 32 (.tmp 3), 32, "law.go:27", #[⟨0, .data⟩], none⟩,
  ⟨some 5, .call ⟨.builtin .len, #[.tmp 4], #[32]⟩, 3, "law.go:27", #[⟨1, .data⟩], none⟩,
  ⟨some 6, .binOp .leq 3 (.tmp 5) (.const (.int .i64 4)) 3, 4, "law.go:27", #[⟨2, .data⟩], none⟩,
  ⟨some 7, .move (.tmp 6), 4, "law.go:27", #[⟨3, .data⟩], none⟩,
  ⟨some 8, .fieldAddr 35 (.tmp 1) 2, 0, "law.go:27", #[⟨4, .guard⟩], some (4, true)⟩,
  ⟨some 9, .load 33 (.tmp 8), 33, "law.go:27", #[⟨5, .data⟩, ⟨4, .guard⟩], some (4, true)⟩,
  ⟨some 10, .call ⟨.builtin .len, #[.tmp 9], #[33]⟩, 3, "law.go:27", #[⟨6, .data⟩, ⟨4, .guard⟩], some (4, true)⟩,
  ⟨some 11, .binOp .leq 3 (.tmp 10) (.const (.int .i64 4)) 3, 4, "law.go:27", #[⟨7, .data⟩, ⟨4, .guard⟩], some (4, true)⟩,
  ⟨some 12, .pick (.tmp 7) (.tmp 11) (.const (.bool false)), 4, "law.go:27", #[⟨4, .data⟩, ⟨8, .data⟩], none⟩,
  ⟨some 13, .move (.tmp 12), 4, "law.go:27", #[⟨9, .data⟩, ⟨4, .chain⟩], none⟩,
  ⟨some 14, .fieldAddr 35 (.tmp 1) 1, 0, "law.go:27", #[⟨10, .guard⟩], some (10, true)⟩,
  ⟨some 15, .load 32 (.tmp 14), 32, "law.go:27", #[⟨11, .data⟩, ⟨10, .guard⟩], some (10, true)⟩,
  ⟨some 16, .call ⟨.value (.func 23), #[.tmp 15, .func 24], #[32, 49]⟩, 4, "law.go:27", #[⟨12, .data⟩, ⟨10, .chain⟩, ⟨10, .guard⟩], some (10, true)⟩,
  ⟨some 17, .unOp .not 4 (.tmp 16), 4, "law.go:27", #[⟨13, .data⟩, ⟨10, .guard⟩], some (10, true)⟩,
  ⟨some 18, .pick (.tmp 13) (.tmp 17) (.const (.bool false)), 4, "law.go:27", #[⟨10, .data⟩, ⟨14, .data⟩], none⟩,
  ⟨some 2, .assign (.tmp 18), 4, "law.go:27", #[⟨15, .data⟩, ⟨13, .chain⟩, ⟨0, .phase⟩, ⟨1, .phase⟩, ⟨2, .phase⟩, ⟨3, .phase⟩, ⟨4, .phase⟩, ⟨5, .phase⟩, ⟨6, .phase⟩, ⟨7, .phase⟩, ⟨8, .phase⟩, ⟨9, .phase⟩, ⟨10, .phase⟩, ⟨11, .phase⟩, ⟨12, .phase⟩, ⟨13, .phase⟩, ⟨14, .phase⟩, ⟨15, .phase⟩], none⟩]
def f13_r1o : Array Oper := f13_r1l.toArray
@[simp] theorem f13_r1_l : f13_r1o.toList = f13_r1l := rfl
attribute [simp] f13_r1l
@[simp] theorem f13_r1_g4 : guardT f13_r1o 4 = some 7 := rfl
@[simp] theorem f13_r1_g10 : guardT f13_r1o 10 = some 13 := rfl
def f13_ac : AC :=
  (.seq (.reg 0 f13_r0o [1, 8, 9, 10, 11, 14, 15, 16, 17]) (.seq (.reg 1 f13_r1o [2]) .ret))
theorem f13_eq : Tryd.f13.body = some f13_ac.code := rfl
@[simp] theorem f13_nt : Tryd.f13.ntmps = 19 := rfl
theorem f13_fits : f13_ac.fits Tryd.f13.ntmps = true := by kernel_rfl
@[simp] theorem f13_res : Tryd.f13.results.toList = [.tmp 2] := rfl
@[simp] theorem f13_isb : Tryd.f13.body.isNone = false := rfl
/- F16 cinnabar/insts.valued -/
def f16_r0l : List Oper := [⟨some 2, .assign (.const (.slice none 0 0)), 25, "insts.go:410", #[], none⟩]
def f16_r0o : Array Oper := f16_r0l.toArray
@[simp] theorem f16_r0_l : f16_r0o.toList = f16_r0l := rfl
attribute [simp] f16_r0l
def f16_r1l : List Oper := [⟨some 8, .move (.tmp 0), 22, "insts.go:411", #[], none⟩,
  ⟨some 9, .call ⟨.builtin .len, #[.tmp 8], #[22]⟩, 3, "insts.go:411", #[⟨0, .data⟩], none⟩,
  ⟨some 10, .makeSlice 25 (.tmp 9) (.tmp 9), 25, "insts.go:411", #[⟨1, .data⟩, ⟨1, .data⟩], none⟩,
  ⟨some 3, .alloc 25, 0, "insts.go:411", #[], none⟩,
  ⟨none, .store 25 (.tmp 3) (.tmp 10), 0, "insts.go:411", #[⟨3, .data⟩, ⟨2, .data⟩, ⟨0, .phase⟩, ⟨1, .phase⟩, ⟨2, .phase⟩, ⟨3, .phase⟩], none⟩]
def f16_r1o : Array Oper := f16_r1l.toArray
@[simp] theorem f16_r1_l : f16_r1o.toList = f16_r1l := rfl
attribute [simp] f16_r1l
def f16_r2l : List Oper := [⟨some 4, .assign (.const (.bool true)), 4, "insts.go:412", #[], none⟩]
def f16_r2o : Array Oper := f16_r2l.toArray
@[simp] theorem f16_r2_l : f16_r2o.toList = f16_r2l := rfl
attribute [simp] f16_r2l
def f16_r3l : List Oper := [⟨some 11, .move (.tmp 4), 4, "insts.go:412", #[], none⟩]
def f16_r3o : Array Oper := f16_r3l.toArray
@[simp] theorem f16_r3_l : f16_r3o.toList = f16_r3l := rfl
attribute [simp] f16_r3l
def f16_r4l : List Oper := [⟨some 4, .assign (.const (.bool false)), 4, "insts.go:413", #[], none⟩]
def f16_r4o : Array Oper := f16_r4l.toArray
@[simp] theorem f16_r4_l : f16_r4o.toList = f16_r4l := rfl
attribute [simp] f16_r4l
def f16_r5l : List Oper := [⟨some 12, .move (.tmp 0), 22, "insts.go:414", #[], none⟩,
  ⟨some 13, .call ⟨.builtin .len, #[.tmp 12], #[22]⟩, 3, "insts.go:414", #[⟨0, .data⟩], none⟩,
  ⟨some 14, .move (.const (.int .i64 0)), 3, "insts.go:414", #[], none⟩]
def f16_r5o : Array Oper := f16_r5l.toArray
@[simp] theorem f16_r5_l : f16_r5o.toList = f16_r5l := rfl
attribute [simp] f16_r5l
def f16_r6l : List Oper := [⟨some 15, .binOp .lss 3 (.tmp 14) (.tmp 13) 3, 0, "insts.go:414", #[], none⟩]
def f16_r6o : Array Oper := f16_r6l.toArray
@[simp] theorem f16_r6_l : f16_r6o.toList = f16_r6l := rfl
attribute [simp] f16_r6l
def f16_r7l : List Oper := [⟨some 16, .move (.tmp 14), 3, "insts.go:414", #[], none⟩,
  ⟨some 17, .indexAddr 22 (.tmp 12) (.tmp 14), 0, "insts.go:414", #[], none⟩,
  ⟨some 18, .load 35 (.tmp 17), 35, "insts.go:414", #[⟨1, .data⟩], none⟩,
  ⟨some 6, .alloc 35, 0, "insts.go:414", #[], none⟩,
  ⟨some 5, .assign (.tmp 16), 3, "insts.go:414", #[⟨0, .data⟩, ⟨0, .phase⟩, ⟨1, .phase⟩, ⟨2, .phase⟩, ⟨3, .phase⟩], none⟩,
  ⟨none, .store 35 (.tmp 6) (.tmp 18), 0, "insts.go:414", #[⟨3, .data⟩, ⟨2, .data⟩, ⟨4, .chain⟩, ⟨0, .phase⟩, ⟨1, .phase⟩, ⟨2, .phase⟩, ⟨3, .phase⟩, ⟨4, .phase⟩], none⟩]
def f16_r7o : Array Oper := f16_r7l.toArray
@[simp] theorem f16_r7_l : f16_r7o.toList = f16_r7l := rfl
attribute [simp] f16_r7l
def f16_r8l : List Oper := [⟨some 19, .load 25 (.tmp 3), 25, "insts.go:415", #[], none⟩,
  ⟨some 20, .move (.tmp 5), 3, "insts.go:415", #[], none⟩,
  ⟨some 21, .indexAddr 25 (.tmp 19) (.tmp 20), 0, "insts.go:415", #[⟨0, .data⟩, ⟨1, .data⟩], none⟩,
  ⟨some 22, .load 4 (.tmp 21), 4, "insts.go:415", #[⟨2, .data⟩], none⟩,
  ⟨some 23, .move (.tmp 22), 4, "insts.go:415", #[⟨3, .data⟩], none⟩,
  ⟨some 24, .fieldAddr 35 (.tmp 6) 0, 0, "insts.go:415", #[⟨4, .guard⟩], some (4, false)⟩,
  ⟨some 25, .load 3 (.tmp 24), 3, "insts.go:415", #[⟨5, .data⟩, ⟨4, .guard⟩], some (4, false)⟩,
  ⟨some 26, .binOp .eql 3 (.tmp 25) (.const (.int .i64 6)) 3, 4, "insts.go:415", #[⟨6, .data⟩, ⟨4, .guard⟩], some (4, false)⟩,
  ⟨some 27, .pick (.tmp 23) (.const (.bool true)) (.tmp 26), 4, "insts.go:415", #[⟨4, .data⟩, ⟨7, .data⟩], none⟩]
def f16_r8o : Array Oper := f16_r8l.toArray
@[simp] theorem f16_r8_l : f16_r8o.toList = f16_r8l := rfl
attribute [simp] f16_r8l
@[simp] theorem f16_r8_g4 : guardT f16_r8o 4 = some 23 := rfl
def f16_r9l : List Oper := [⟨some 28, .makeFunc (.func 32) #[] #[.tmp 3], 49, "insts.go:418", #[], none⟩,
  ⟨some 7, .assign (.tmp 28), 49, "insts.go:418", #[⟨0, .data⟩, ⟨0, .phase⟩], none⟩]
def f16_r9o : Array Oper := f16_r9l.toArray
@[simp] theorem f16_r9_l : f16_r9o.toList = f16_r9l := rfl
attribute [simp] f16_r9l
def f16_r10l : List Oper := [⟨some 29, .fieldAddr 35 (.tmp 6) 0, 0, "insts.go:419", #[], none⟩,
  ⟨some 30, .load 3 (.tmp 29), 3, "insts.go:419", #[⟨0, .data⟩], none⟩,
  ⟨some 31, .binOp .neq 3 (.tmp 30) (.const (.int .i64 4)) 3, 4, "insts.go:419", #[⟨1, .data⟩], none⟩,
  ⟨some 32, .move (.tmp 31), 4, "insts.go:419", #[⟨2, .data⟩], none⟩,
  ⟨some 33, .fieldAddr 35 (.tmp 6) 1, 0, "insts.go:419", #[⟨3, .guard⟩], some (3, false)⟩,
  ⟨some 34, .load 32 (.tmp 33), 32, "insts.go:419", #[⟨4, .data⟩, ⟨3, .guard⟩], some (3, false)⟩,
  ⟨some 35, .move (.tmp 7), 49, "insts.go:419", #[⟨3, .guard⟩], some (3, false)⟩,
  ⟨some 36, .call ⟨.value (.func 23), #[.tmp 34, .tmp 35], #[32, 49]⟩, 4, "insts.go:419", #[⟨5, .data⟩, ⟨6, .data⟩, ⟨3, .chain⟩, ⟨3, .guard⟩], some (3, false)⟩,
  ⟨some 37, .pick (.tmp 32) (.const (.bool true)) (.tmp 36), 4, "insts.go:419", #[⟨3, .data⟩, ⟨7, .data⟩], none⟩]
def f16_r10o : Array Oper := f16_r10l.toArray
@[simp] theorem f16_r10_l : f16_r10o.toList = f16_r10l := rfl
attribute [simp] f16_r10l
@[simp] theorem f16_r10_g3 : guardT f16_r10o 3 = some 32 := rfl
def f16_r11l : List Oper := [⟨some 38, .load 25 (.tmp 3), 25, "insts.go:420", #[], none⟩,
  ⟨some 39, .move (.tmp 5), 3, "insts.go:420", #[], none⟩,
  ⟨some 40, .indexAddr 25 (.tmp 38) (.tmp 39), 0, "insts.go:420", #[⟨0, .data⟩, ⟨1, .data⟩, ⟨0, .phase⟩, ⟨1, .phase⟩], none⟩,
  ⟨none, .store 4 (.tmp 40) (.const (.bool true)), 0, "insts.go:420", #[⟨2, .data⟩, ⟨0, .phase⟩, ⟨1, .phase⟩], none⟩,
  ⟨some 4, .assign (.const (.bool true)), 4, "insts.go:420", #[⟨3, .chain⟩, ⟨0, .phase⟩, ⟨1, .phase⟩, ⟨2, .phase⟩, ⟨3, .phase⟩], none⟩]
def f16_r11o : Array Oper := f16_r11l.toArray
@[simp] theorem f16_r11_l : f16_r11o.toList = f16_r11l := rfl
attribute [simp] f16_r11l
def f16_r12l : List Oper := [⟨some 41, .binOp .add 3 (.tmp 14) (.const (.int .i64 1)) 3, 3, "insts.go:414", #[], none⟩,
  ⟨some 14, .move (.tmp 41), 3, "insts.go:414", #[⟨0, .data⟩], none⟩]
def f16_r12o : Array Oper := f16_r12l.toArray
@[simp] theorem f16_r12_l : f16_r12o.toList = f16_r12l := rfl
attribute [simp] f16_r12l
def f16_l0 : AC :=
  (.seq (.reg 6 f16_r6o [0, 3, 4, 12, 13, 14, 15, 24, 25, 26, 33, 34, 35, 36]) (.seq (.cond (.tmp 15) .skip (.exit 2)) (.seq (.block 3 (.seq (.reg 7 f16_r7o [0, 3, 4, 5, 6, 12, 13, 14, 24, 25, 26, 33, 34, 35, 36]) (.seq (.seq (.reg 8 f16_r8o [0, 3, 4, 5, 6, 12, 13, 14, 24, 25, 26, 27, 33, 34, 35, 36]) (.cond (.tmp 27) (.exit 3) .skip)) (.seq (.reg 9 f16_r9o [0, 3, 4, 5, 6, 7, 12, 13, 14, 24, 25, 26, 33, 34, 35, 36]) (.seq (.reg 10 f16_r10o [0, 3, 4, 5, 12, 13, 14, 24, 25, 26, 33, 34, 35, 36, 37]) (.cond (.tmp 37) (.reg 11 f16_r11o [0, 3, 4, 12, 13, 14, 24, 25, 26, 33, 34, 35, 36]) .skip)))))) (.reg 12 f16_r12o [0, 3, 4, 12, 13, 14, 24, 25, 26, 33, 34, 35, 36]))))
theorem f16_l0_fits : f16_l0.fits 43 = true := by kernel_rfl
def f16_l1 : AC :=
  (.seq (.seq (.reg 3 f16_r3o [0, 3, 11, 24, 25, 26, 33, 34, 35, 36]) (.cond (.tmp 11) .skip (.exit 0))) (.block 1 (.seq (.reg 4 f16_r4o [0, 3, 4, 24, 25, 26, 33, 34, 35, 36]) (.seq (.reg 5 f16_r5o [0, 3, 4, 12, 13, 14, 24, 25, 26, 33, 34, 35, 36]) (.block 2 (.loop f16_l0))))))
theorem f16_l1_fits : f16_l1.fits 43 = true := by kernel_rfl
def f16_r13l : List Oper := [⟨some 42, .load 25 (.tmp 3), 25, "insts.go:424", #[], none⟩,
  ⟨some 2, .assign (.tmp 42), 25, "insts.go:424", #[⟨0, .data⟩, ⟨0, .phase⟩], none⟩]
def f16_r13o : Array Oper := f16_r13l.toArray
@[simp] theorem f16_r13_l : f16_r13o.toList = f16_r13l := rfl
attribute [simp] f16_r13l
def f16_ac : AC :=
  (.seq (.reg 0 f16_r0o [0, 24, 25, 26, 33, 34, 35, 36]) (.seq (.reg 1 f16_r1o [0, 3, 24, 25, 26, 33, 34, 35, 36]) (.seq (.seq (.reg 2 f16_r2o [0, 3, 4, 24, 25, 26, 33, 34, 35, 36]) (.block 0 (.loop f16_l1))) (.seq (.reg 13 f16_r13o [2]) .ret))))
theorem f16_eq : Tryd.f16.body = some f16_ac.code := rfl
@[simp] theorem f16_nt : Tryd.f16.ntmps = 43 := rfl
theorem f16_fits : f16_ac.fits Tryd.f16.ntmps = true := by kernel_rfl
@[simp] theorem f16_res : Tryd.f16.results.toList = [.tmp 2] := rfl
@[simp] theorem f16_isb : Tryd.f16.body.isNone = false := rfl
/- F17 cinnabar/cinnabarref16.valued -/
def f17_r0l : List Oper := [⟨some 2, .assign (.const (.slice none 0 0)), 25, "ref.go:423", #[], none⟩]
def f17_r0o : Array Oper := f17_r0l.toArray
@[simp] theorem f17_r0_l : f17_r0o.toList = f17_r0l := rfl
attribute [simp] f17_r0l
def f17_r1l : List Oper := [⟨some 10, .move (.tmp 0), 22, "ref.go:424", #[], none⟩,
  ⟨some 11, .call ⟨.builtin .len, #[.tmp 10], #[22]⟩, 3, "ref.go:424", #[⟨0, .data⟩], none⟩,
  ⟨some 12, .makeSlice 25 (.tmp 11) (.tmp 11), 25, "ref.go:424", #[⟨1, .data⟩, ⟨1, .data⟩], none⟩,
  ⟨some 3, .assign (.tmp 12), 25, "ref.go:424", #[⟨2, .data⟩, ⟨0, .phase⟩, ⟨1, .phase⟩, ⟨2, .phase⟩], none⟩]
def f17_r1o : Array Oper := f17_r1l.toArray
@[simp] theorem f17_r1_l : f17_r1o.toList = f17_r1l := rfl
attribute [simp] f17_r1l
def f17_r2l : List Oper := [⟨some 4, .assign (.const (.int .i64 0)), 3, "ref.go:425", #[], none⟩]
def f17_r2o : Array Oper := f17_r2l.toArray
@[simp] theorem f17_r2_l : f17_r2o.toList = f17_r2l := rfl
attribute [simp] f17_r2l
def f17_r3l : List Oper := [⟨some 13, .move (.tmp 4), 3, "ref.go:425", #[], none⟩,
  ⟨some 14, .move (.tmp 0), 22, "ref.go:425", #[], none⟩,
  ⟨some 15, .call ⟨.builtin .len, #[.tmp 14], #[22]⟩, 3, "ref.go:425", #[⟨1, .data⟩], none⟩,
  ⟨some 16, .binOp .lss 3 (.tmp 13) (.tmp 15) 3, 4, "ref.go:425", #[⟨0, .data⟩, ⟨2, .data⟩], none⟩]
def f17_r3o : Array Oper := f17_r3l.toArray
@[simp] theorem f17_r3_l : f17_r3o.toList = f17_r3l := rfl
attribute [simp] f17_r3l
def f17_r5l : List Oper := [⟨some 19, .move (.tmp 3), 25, "ref.go:426", #[], none⟩,
  ⟨some 20, .move (.tmp 4), 3, "ref.go:426", #[], none⟩,
  ⟨some 21, .move (.tmp 0), 22, "ref.go:426", #[], none⟩,
  ⟨some 22, .move (.tmp 4), 3, "ref.go:426", #[], none⟩,
  ⟨some 23, .indexAddr 22 (.tmp 21) (.tmp 22), 0, "ref.go:426", #[⟨2, .data⟩, ⟨3, .data⟩], none⟩,
  ⟨some 24, .fieldAddr 35 (.tmp 23) 0, 0, "ref.go:426", #[⟨4, .data⟩], none⟩,
  ⟨some 25, .load 3 (.tmp 24), 3, "ref.go:426", #[⟨5, .data⟩], none⟩,
  ⟨some 26, .binOp .neq 3 (.tmp 25) (.const (.int .i64 4)) 3, 4, "ref.go:426", #[⟨6, .data⟩], none⟩,
  ⟨some 27, .move (.tmp 26), 4, "ref.go:426", #[⟨7, .data⟩], none⟩,
  ⟨some 28, .move (.tmp 0), 22, "ref.go:426", #[⟨8, .guard⟩], some (8, true)⟩,
  ⟨some 29, .move (.tmp 4), 3, "ref.go:426", #[⟨8, .guard⟩], some (8, true)⟩,
  ⟨some 30, .indexAddr 22 (.tmp 28) (.tmp 29), 0, "ref.go:426", #[⟨9, .data⟩, ⟨10, .data⟩, ⟨8, .guard⟩], some (8, true)⟩,
  ⟨some 31, .fieldAddr 35 (.tmp 30) 0, 0, "ref.go:426", #[⟨11, .data⟩, ⟨8, .guard⟩], some (8, true)⟩,
  ⟨some 32, .load 3 (.tmp 31), 3, "ref.go:426", #[⟨12, .data⟩, ⟨8, .guard⟩], some (8, true)⟩,
  ⟨some 33, .binOp .neq 3 (.tmp 32) (.const (.int .i64 6)) 3, 4, "ref.go:426", #[⟨13, .data⟩, ⟨8, .guard⟩], some (8, true)⟩,
  ⟨some 34, .pick (.tmp 27) (.tmp 33) (.const (.bool false)), 4, "ref.go:426", #[⟨8, .data⟩, ⟨14, .data⟩], none⟩,
  ⟨some 35, .indexAddr 25 (.tmp 19) (.tmp 20), 0, "ref.go:426", #[⟨0, .data⟩, ⟨1, .data⟩, ⟨0, .phase⟩, ⟨1, .phase⟩, ⟨2, .phase⟩, ⟨3, .phase⟩, ⟨4, .phase⟩, ⟨5, .phase⟩, ⟨6, .phase⟩, ⟨7, .phase⟩, ⟨8, .phase⟩, ⟨9, .phase⟩, ⟨10, .phase⟩, ⟨11, .phase⟩, ⟨12, .phase⟩, ⟨13, .phase⟩, ⟨14, .phase⟩, ⟨15, .phase⟩], none⟩,
  ⟨none, .store 4 (.tmp 35) (.tmp 34), 0, "ref.go:426", #[⟨16, .data⟩, ⟨15, .data⟩, ⟨8, .chain⟩, ⟨0, .phase⟩, ⟨1, .phase⟩, ⟨2, .phase⟩, ⟨3, .phase⟩, ⟨4, .phase⟩, ⟨5, .phase⟩, ⟨6, .phase⟩, ⟨7, .phase⟩, ⟨8, .phase⟩, ⟨9, .phase⟩, ⟨10, .phase⟩, ⟨11, .phase⟩, ⟨12, .phase⟩, ⟨13, .phase⟩, ⟨14, .phase⟩, ⟨15, .phase⟩], none⟩]
def f17_r5o : Array Oper := f17_r5l.toArray
@[simp] theorem f17_r5_l : f17_r5o.toList = f17_r5l := rfl
attribute [simp] f17_r5l
@[simp] theorem f17_r5_g8 : guardT f17_r5o 8 = some 27 := rfl
def f17_r4l : List Oper := [⟨some 17, .move (.tmp 4), 3, "ref.go:425", #[], none⟩,
  ⟨some 18, .binOp .add 3 (.tmp 17) (.const (.int .i64 1)) 3, 3, "ref.go:425", #[⟨0, .data⟩], none⟩,
  ⟨some 4, .assign (.tmp 18), 3, "ref.go:425", #[⟨1, .data⟩, ⟨0, .phase⟩, ⟨1, .phase⟩], none⟩]
def f17_r4o : Array Oper := f17_r4l.toArray
@[simp] theorem f17_r4_l : f17_r4o.toList = f17_r4l := rfl
attribute [simp] f17_r4l
def f17_l0 : AC :=
  (.seq (.seq (.reg 3 f17_r3o [0, 3, 4, 16, 28, 29, 30, 31, 32, 33, 52, 53, 54, 55, 56, 76, 77, 78, 79, 80, 81, 82, 83, 84, 85, 86, 87, 88, 89, 90]) (.cond (.tmp 16) .skip (.exit 0))) (.seq (.block 1 (.reg 5 f17_r5o [0, 3, 4, 28, 29, 30, 31, 32, 33, 52, 53, 54, 55, 56, 76, 77, 78, 79, 80, 81, 82, 83, 84, 85, 86, 87, 88, 89, 90])) (.reg 4 f17_r4o [0, 3, 4, 28, 29, 30, 31, 32, 33, 52, 53, 54, 55, 56, 76, 77, 78, 79, 80, 81, 82, 83, 84, 85, 86, 87, 88, 89, 90])))
theorem f17_l0_fits : f17_l0.fits 97 = true := by kernel_rfl
def f17_r6l : List Oper := [⟨some 5, .assign (.const (.bool true)), 4, "ref.go:428", #[], none⟩]
def f17_r6o : Array Oper := f17_r6l.toArray
@[simp] theorem f17_r6_l : f17_r6o.toList = f17_r6l := rfl
attribute [simp] f17_r6l
def f17_r7l : List Oper := [⟨some 36, .move (.tmp 5), 4, "ref.go:428", #[], none⟩]
def f17_r7o : Array Oper := f17_r7l.toArray
@[simp] theorem f17_r7_l : f17_r7o.toList = f17_r7l := rfl
attribute [simp] f17_r7l
def f17_r8l : List Oper := [⟨some 5, .assign (.const (.bool false)), 4, "ref.go:429", #[], none⟩]
def f17_r8o : Array Oper := f17_r8l.toArray
@[simp] theorem f17_r8_l : f17_r8o.toList = f17_r8l := rfl
attribute [simp] f17_r8l
def f17_r9l : List Oper := [⟨some 6, .assign (.const (.int .i64 0)), 3, "ref.go:430", #[], none⟩]
def f17_r9o : Array Oper := f17_r9l.toArray
@[simp] theorem f17_r9_l : f17_r9o.toList = f17_r9l := rfl
attribute [simp] f17_r9l
def f17_r10l : List Oper := [⟨some 37, .move (.tmp 6), 3, "ref.go:430", #[], none⟩,
  ⟨some 38, .move (.tmp 0), 22, "ref.go:430", #[], none⟩,
  ⟨some 39, .call ⟨.builtin .len, #[.tmp 38], #[22]⟩, 3, "ref.go:430", #[⟨1, .data⟩], none⟩,
  ⟨some 40, .binOp .lss 3 (.tmp 37) (.tmp 39) 3, 4, "ref.go:430", #[⟨0, .data⟩, ⟨2, .data⟩], none⟩]
def f17_r10o : Array Oper := f17_r10l.toArray
@[simp] theorem f17_r10_l : f17_r10o.toList = f17_r10l := rfl
attribute [simp] f17_r10l
def f17_r12l : List Oper := [⟨some 7, .assign (.const (.int .i64 0)), 3, "ref.go:431", #[], none⟩]
def f17_r12o : Array Oper := f17_r12l.toArray
@[simp] theorem f17_r12_l : f17_r12o.toList = f17_r12l := rfl
attribute [simp] f17_r12l
def f17_r13l : List Oper := [⟨some 43, .move (.tmp 7), 3, "ref.go:431", #[], none⟩,
  ⟨some 44, .move (.tmp 0), 22, "ref.go:431", #[], none⟩,
  ⟨some 45, .move (.tmp 6), 3, "ref.go:431", #[], none⟩,
  ⟨some 46, .indexAddr 22 (.tmp 44) (.tmp 45), 0, "ref.go:431", #[⟨1, .data⟩, ⟨2, .data⟩], none⟩,
  ⟨some 47, .fieldAddr 35 (.tmp 46) 1, 0, "ref.go:431", #[⟨3, .data⟩], none⟩,
  ⟨some 48, .load 32 (.tmp 47), 32, "ref.go:431", #[⟨4, .data⟩], none⟩,
  ⟨some 49, .call ⟨.builtin .len, #[.tmp 48], #[32]⟩, 3, "ref.go:431", #[⟨5, .data⟩], none⟩,
  ⟨some 50, .binOp .lss 3 (.tmp 43) (.tmp 49) 3, 4, "ref.go:431", #[⟨0, .data⟩, ⟨6, .data⟩], none⟩,
  ⟨some 51, .move (.tmp 50), 4, "ref.go:431", #[⟨7, .data⟩], none⟩,
  ⟨some 52, .move (.tmp 3), 25, "ref.go:431", #[⟨8, .guard⟩], some (8, true)⟩,
  ⟨some 53, .move (.tmp 6), 3, "ref.go:431", #[⟨8, .guard⟩], some (8, true)⟩,
  ⟨some 54, .indexAddr 25 (.tmp 52) (.tmp 53), 0, "ref.go:431", #[⟨9, .data⟩, ⟨10, .data⟩, ⟨8, .guard⟩], some (8, true)⟩,
  ⟨some 55, .load 4 (.tmp 54), 4, "ref.go:431", #[⟨11, .data⟩, ⟨8, .guard⟩], some (8, true)⟩,
  ⟨some 56, .unOp .not 4 (.tmp 55), 4, "ref.go:431", #[⟨12, .data⟩, ⟨8, .guard⟩], some (8, true)⟩,
  ⟨some 57, .pick (.tmp 51) (.tmp 56) (.const (.bool false)), 4, "ref.go:431", #[⟨8, .data⟩, ⟨13, .data⟩], none⟩]
def f17_r13o : Array Oper := f17_r13l.toArray
@[simp] theorem f17_r13_l : f17_r13o.toList = f17_r13l := rfl
attribute [simp] f17_r13l
@[simp] theorem f17_r13_g8 : guardT f17_r13o 8 = some 51 := rfl
def f17_r15l : List Oper := [⟨some 8, .assign (.const (.bool true)), 4, "ref.go:432", #[], none⟩]
def f17_r15o : Array Oper := f17_r15l.toArray
@[simp] theorem f17_r15_l : f17_r15o.toList = f17_r15l := rfl
attribute [simp] f17_r15l
def f17_r16l : List Oper := [⟨some 9, .assign (.const (.int .i64 0)), 3, "ref.go:433", #[], none⟩]
def f17_r16o : Array Oper := f17_r16l.toArray
@[simp] theorem f17_r16_l : f17_r16o.toList = f17_r16l := rfl
attribute [simp] f17_r16l
def f17_r17l : List Oper := [⟨some 60, .move (.tmp 9), 3, "ref.go:433", #[], none⟩,
  ⟨some 61, .move (.tmp 0), 22, "ref.go:433", #[], none⟩,
  ⟨some 62, .move (.tmp 6), 3, "ref.go:433", #[], none⟩,
  ⟨some 63, .indexAddr 22 (.tmp 61) (.tmp 62), 0, "ref.go:433", #[⟨1, .data⟩, ⟨2, .data⟩], none⟩,
  ⟨some 64, .fieldAddr 35 (.tmp 63) 1, 0, "ref.go:433", #[⟨3, .data⟩], none⟩,
  ⟨some 65, .load 32 (.tmp 64), 32, "ref.go:433", #[⟨4, .data⟩], none⟩,
  ⟨some 66, .move (.tmp 7), 3, "ref.go:433", #[], none⟩,
  ⟨some 67, .indexAddr 32 (.tmp 65) (.tmp 66), 0, "ref.go:433", #[⟨5, .data⟩, ⟨6, .data⟩], none⟩,
  ⟨some 68, .fieldAddr 39 (.tmp 67) 1, 0, "ref.go:433", #[⟨7, .data⟩], none⟩,
  ⟨some 69, .load 37 (.tmp 68), 37, "ref.go:433", #[⟨8, .data⟩], none⟩,
  ⟨some 70, .call ⟨.builtin .len, #[.tmp 69], #[37]⟩, 3, "ref.go:433", #[⟨9, .data⟩], none⟩,
  ⟨some 71, .binOp .lss 3 (.tmp 60) (.tmp 70) 3, 4, "ref.go:433", #[⟨0, .data⟩, ⟨10, .data⟩], none⟩]
def f17_r17o : Array Oper := f17_r17l.toArray
@[simp] theorem f17_r17_l : f17_r17o.toList = f17_r17l := rfl
attribute [simp] f17_r17l
def f17_r19l : List Oper := [⟨some 74, .move (.tmp 8), 4, "ref.go:434", #[], none⟩,
  ⟨some 75, .move (.tmp 74), 4, "ref.go:434", #[⟨0, .data⟩], none⟩,
  ⟨some 76, .move (.tmp 3), 25, "ref.go:434", #[⟨1, .guard⟩], some (1, true)⟩,
  ⟨some 77, .move (.tmp 0), 22, "ref.go:434", #[⟨1, .guard⟩], some (1, true)⟩,
  ⟨some 78, .move (.tmp 6), 3, "ref.go:434", #[⟨1, .guard⟩], some (1, true)⟩,
  ⟨some 79, .indexAddr 22 (.tmp 77) (.tmp 78), 0, "ref.go:434", #[⟨3, .data⟩, ⟨4, .data⟩, ⟨1, .guard⟩], some (1, true)⟩,
  ⟨some 80, .fieldAddr 35 (.tmp 79) 1, 0, "ref.go:434", #[⟨5, .data⟩, ⟨1, .guard⟩], some (1, true)⟩,
  ⟨some 81, .load 32 (.tmp 80), 32, "ref.go:434", #[⟨6, .data⟩, ⟨1, .guard⟩], some (1, true)⟩,
  ⟨some 82, .move (.tmp 7), 3, "ref.go:434", #[⟨1, .guard⟩], some (1, true)⟩,
  ⟨some 83, .indexAddr 32 (.tmp 81) (.tmp 82), 0, "ref.go:434", #[⟨7, .data⟩, ⟨8, .data⟩, ⟨1, .guard⟩], some (1, true)⟩,
  ⟨some 84, .fieldAddr 39 (.tmp 83) 1, 0, "ref.go:434", #[⟨9, .data⟩, ⟨1, .guard⟩], some (1, true)⟩,
  ⟨some 85, .load 37 (.tmp 84), 37, "ref.go:434", #[⟨10, .data⟩, ⟨1, .guard⟩], some (1, true)⟩,
  ⟨some 86, .move (.tmp 9), 3, "ref.go:434", #[⟨1, .guard⟩], some (1, true)⟩,
  ⟨some 87, .indexAddr 37 (.tmp 85) (.tmp 86), 0, "ref.go:434", #[⟨11, .data⟩, ⟨12, .data⟩, ⟨1, .guard⟩], some (1, true)⟩,
  ⟨some 88, .load 3 (.tmp 87), 3, "ref.go:434", #[⟨13, .data⟩, ⟨1, .guard⟩], some (1, true)⟩,
  ⟨some 89, .indexAddr 25 (.tmp 76) (.tmp 88), 0, "ref.go:434", #[⟨2, .data⟩, ⟨14, .data⟩, ⟨1, .guard⟩], some (1, true)⟩,
  ⟨some 90, .load 4 (.tmp 89), 4, "ref.go:434", #[⟨15, .data⟩, ⟨1, .guard⟩], some (1, true)⟩,
  ⟨some 91, .pick (.tmp 75) (.tmp 90) (.const (.bool false)), 4, "ref.go:434", #[⟨1, .data⟩, ⟨16, .data⟩], none⟩,
  ⟨some 8, .assign (.tmp 91), 4, "ref.go:434", #[⟨17, .data⟩, ⟨1, .chain⟩, ⟨0, .phase⟩, ⟨1, .phase⟩, ⟨2, .phase⟩, ⟨3, .phase⟩, ⟨4, .phase⟩, ⟨5, .phase⟩, ⟨6, .phase⟩, ⟨7, .phase⟩, ⟨8, .phase⟩, ⟨9, .phase⟩, ⟨10, .phase⟩, ⟨11, .phase⟩, ⟨12, .phase⟩, ⟨13, .phase⟩, ⟨14, .phase⟩, ⟨15, .phase⟩, ⟨16, .phase⟩, ⟨17, .phase⟩], none⟩]
def f17_r19o : Array Oper := f17_r19l.toArray
@[simp] theorem f17_r19_l : f17_r19o.toList = f17_r19l := rfl
attribute [simp] f17_r19l
@[simp] theorem f17_r19_g1 : guardT f17_r19o 1 = some 75 := rfl
def f17_r18l : List Oper := [⟨some 72, .move (.tmp 9), 3, "ref.go:433", #[], none⟩,
  ⟨some 73, .binOp .add 3 (.tmp 72) (.const (.int .i64 1)) 3, 3, "ref.go:433", #[⟨0, .data⟩], none⟩,
  ⟨some 9, .assign (.tmp 73), 3, "ref.go:433", #[⟨1, .data⟩, ⟨0, .phase⟩, ⟨1, .phase⟩], none⟩]
def f17_r18o : Array Oper := f17_r18l.toArray
@[simp] theorem f17_r18_l : f17_r18o.toList = f17_r18l := rfl
attribute [simp] f17_r18l
def f17_l1 : AC :=
  (.seq (.seq (.reg 17 f17_r17o [0, 3, 5, 6, 7, 8, 9, 52, 53, 54, 55, 56, 71, 76, 77, 78, 79, 80, 81, 82, 83, 84, 85, 86, 87, 88, 89, 90]) (.cond (.tmp 71) .skip (.exit 8))) (.seq (.block 9 (.reg 19 f17_r19o [0, 3, 5, 6, 7, 8, 9, 52, 53, 54, 55, 56, 76, 77, 78, 79, 80, 81, 82, 83, 84, 85, 86, 87, 88, 89, 90])) (.reg 18 f17_r18o [0, 3, 5, 6, 7, 8, 9, 52, 53, 54, 55, 56, 76, 77, 78, 79, 80, 81, 82, 83, 84, 85, 86, 87, 88, 89, 90])))
theorem f17_l1_fits : f17_l1.fits 97 = true := by kernel_rfl
def f17_r20l : List Oper := [⟨some 92, .move (.tmp 8), 4, "ref.go:436", #[], none⟩]
def f17_r20o : Array Oper := f17_r20l.toArray
@[simp] theorem f17_r20_l : f17_r20o.toList = f17_r20l := rfl
attribute [simp] f17_r20l
def f17_r21l : List Oper := [⟨some 93, .move (.tmp 3), 25, "ref.go:437", #[], none⟩,
  ⟨some 94, .move (.tmp 6), 3, "ref.go:437", #[], none⟩,
  ⟨some 95, .indexAddr 25 (.tmp 93) (.tmp 94), 0, "ref.go:437", #[⟨0, .data⟩, ⟨1, .data⟩, ⟨0, .phase⟩, ⟨1, .phase⟩], none⟩,
  ⟨none, .store 4 (.tmp 95) (.const (.bool true)), 0, "ref.go:437", #[⟨2, .data⟩, ⟨0, .phase⟩, ⟨1, .phase⟩], none⟩,
  ⟨some 5, .assign (.const (.bool true)), 4, "ref.go:437", #[⟨3, .chain⟩, ⟨0, .phase⟩, ⟨1, .phase⟩, ⟨2, .phase⟩, ⟨3, .phase⟩], none⟩]
def f17_r21o : Array Oper := f17_r21l.toArray
@[simp] theorem f17_r21_l : f17_r21o.toList = f17_r21l := rfl
attribute [simp] f17_r21l
def f17_r14l : List Oper := [⟨some 58, .move (.tmp 7), 3, "ref.go:431", #[], none⟩,
  ⟨some 59, .binOp .add 3 (.tmp 58) (.const (.int .i64 1)) 3, 3, "ref.go:431", #[⟨0, .data⟩], none⟩,
  ⟨some 7, .assign (.tmp 59), 3, "ref.go:431", #[⟨1, .data⟩, ⟨0, .phase⟩, ⟨1, .phase⟩], none⟩]
def f17_r14o : Array Oper := f17_r14l.toArray
@[simp] theorem f17_r14_l : f17_r14o.toList = f17_r14l := rfl
attribute [simp] f17_r14l
def f17_l2 : AC :=
  (.seq (.seq (.reg 13 f17_r13o [0, 3, 5, 6, 7, 52, 53, 54, 55, 56, 57, 76, 77, 78, 79, 80, 81, 82, 83, 84, 85, 86, 87, 88, 89, 90]) (.cond (.tmp 57) .skip (.exit 6))) (.seq (.block 7 (.seq (.reg 15 f17_r15o [0, 3, 5, 6, 7, 8, 52, 53, 54, 55, 56, 76, 77, 78, 79, 80, 81, 82, 83, 84, 85, 86, 87, 88, 89, 90]) (.seq (.seq (.reg 16 f17_r16o [0, 3, 5, 6, 7, 8, 9, 52, 53, 54, 55, 56, 76, 77, 78, 79, 80, 81, 82, 83, 84, 85, 86, 87, 88, 89, 90]) (.block 8 (.loop f17_l1))) (.seq (.reg 20 f17_r20o [0, 3, 5, 6, 7, 52, 53, 54, 55, 56, 76, 77, 78, 79, 80, 81, 82, 83, 84, 85, 86, 87, 88, 89, 90, 92]) (.cond (.tmp 92) (.reg 21 f17_r21o [0, 3, 5, 6, 7, 52, 53, 54, 55, 56, 76, 77, 78, 79, 80, 81, 82, 83, 84, 85, 86, 87, 88, 89, 90]) .skip))))) (.reg 14 f17_r14o [0, 3, 5, 6, 7, 52, 53, 54, 55, 56, 76, 77, 78, 79, 80, 81, 82, 83, 84, 85, 86, 87, 88, 89, 90])))
theorem f17_l2_fits : f17_l2.fits 97 = true := by kernel_rfl
def f17_r11l : List Oper := [⟨some 41, .move (.tmp 6), 3, "ref.go:430", #[], none⟩,
  ⟨some 42, .binOp .add 3 (.tmp 41) (.const (.int .i64 1)) 3, 3, "ref.go:430", #[⟨0, .data⟩], none⟩,
  ⟨some 6, .assign (.tmp 42), 3, "ref.go:430", #[⟨1, .data⟩, ⟨0, .phase⟩, ⟨1, .phase⟩], none⟩]
def f17_r11o : Array Oper := f17_r11l.toArray
@[simp] theorem f17_r11_l : f17_r11o.toList = f17_r11l := rfl
attribute [simp] f17_r11l
def f17_l3 : AC :=
  (.seq (.seq (.reg 10 f17_r10o [0, 3, 5, 6, 40, 52, 53, 54, 55, 56, 76, 77, 78, 79, 80, 81, 82, 83, 84, 85, 86, 87, 88, 89, 90]) (.cond (.tmp 40) .skip (.exit 4))) (.seq (.block 5 (.seq (.reg 12 f17_r12o [0, 3, 5, 6, 7, 52, 53, 54, 55, 56, 76, 77, 78, 79, 80, 81, 82, 83, 84, 85, 86, 87, 88, 89, 90]) (.block 6 (.loop f17_l2)))) (.reg 11 f17_r11o [0, 3, 5, 6, 52, 53, 54, 55, 56, 76, 77, 78, 79, 80, 81, 82, 83, 84, 85, 86, 87, 88, 89, 90])))
theorem f17_l3_fits : f17_l3.fits 97 = true := by kernel_rfl
def f17_l4 : AC :=
  (.seq (.seq (.reg 7 f17_r7o [0, 3, 36, 52, 53, 54, 55, 56, 76, 77, 78, 79, 80, 81, 82, 83, 84, 85, 86, 87, 88, 89, 90]) (.cond (.tmp 36) .skip (.exit 2))) (.block 3 (.seq (.reg 8 f17_r8o [0, 3, 5, 52, 53, 54, 55, 56, 76, 77, 78, 79, 80, 81, 82, 83, 84, 85, 86, 87, 88, 89, 90]) (.seq (.reg 9 f17_r9o [0, 3, 5, 6, 52, 53, 54, 55, 56, 76, 77, 78, 79, 80, 81, 82, 83, 84, 85, 86, 87, 88, 89, 90]) (.block 4 (.loop f17_l3))))))
theorem f17_l4_fits : f17_l4.fits 97 = true := by kernel_rfl
def f17_r22l : List Oper := [⟨some 96, .move (.tmp 3), 25, "ref.go:442", #[], none⟩,
  ⟨some 2, .assign (.tmp 96), 25, "ref.go:442", #[⟨0, .data⟩, ⟨0, .phase⟩], none⟩]
def f17_r22o : Array Oper := f17_r22l.toArray
@[simp] theorem f17_r22_l : f17_r22o.toList = f17_r22l := rfl
attribute [simp] f17_r22l
def f17_ac : AC :=
  (.seq (.reg 0 f17_r0o [0, 28, 29, 30, 31, 32, 33, 52, 53, 54, 55, 56, 76, 77, 78, 79, 80, 81, 82, 83, 84, 85, 86, 87, 88, 89, 90]) (.seq (.reg 1 f17_r1o [0, 3, 28, 29, 30, 31, 32, 33, 52, 53, 54, 55, 56, 76, 77, 78, 79, 80, 81, 82, 83, 84, 85, 86, 87, 88, 89, 90]) (.seq (.seq (.reg 2 f17_r2o [0, 3, 4, 28, 29, 30, 31, 32, 33, 52, 53, 54, 55, 56, 76, 77, 78, 79, 80, 81, 82, 83, 84, 85, 86, 87, 88, 89, 90]) (.block 0 (.loop f17_l0))) (.seq (.seq (.reg 6 f17_r6o [0, 3, 5, 52, 53, 54, 55, 56, 76, 77, 78, 79, 80, 81, 82, 83, 84, 85, 86, 87, 88, 89, 90]) (.block 2 (.loop f17_l4))) (.seq (.reg 22 f17_r22o [2]) .ret)))))
theorem f17_eq : Tryd.f17.body = some f17_ac.code := rfl
@[simp] theorem f17_nt : Tryd.f17.ntmps = 97 := rfl
theorem f17_fits : f17_ac.fits Tryd.f17.ntmps = true := by kernel_rfl
@[simp] theorem f17_res : Tryd.f17.results.toList = [.tmp 2] := rfl
@[simp] theorem f17_isb : Tryd.f17.body.isNone = false := rfl
/- F18 cinnabar/insts.check -/
def f18_r0l : List Oper := [⟨some 3, .box 35 (.tmp 1), 0, "insts.go:51", #[], none⟩,
  ⟨some 4, .assign (.const (.int .i64 0)), 26, "insts.go:51", #[], none⟩]
def f18_r0o : Array Oper := f18_r0l.toArray
@[simp] theorem f18_r0_l : f18_r0o.toList = f18_r0l := rfl
attribute [simp] f18_r0l
def f18_r1l : List Oper := [⟨some 13, .fieldAddr 35 (.tmp 3) 0, 0, "insts.go:53", #[], none⟩,
  ⟨some 14, .load 3 (.tmp 13), 3, "insts.go:53", #[⟨0, .data⟩], none⟩,
  ⟨some 15, .binOp .lss 3 (.tmp 14) (.const (.int .i64 0)) 3, 4, "insts.go:53", #[⟨1, .data⟩], none⟩,
  ⟨some 16, .move (.tmp 15), 4, "insts.go:53", #[⟨2, .data⟩], none⟩,
  ⟨some 17, .fieldAddr 35 (.tmp 3) 0, 0, "insts.go:53", #[⟨3, .guard⟩], some (3, false)⟩,
  ⟨some 18, .load 3 (.tmp 17), 3, "insts.go:53", #[⟨4, .data⟩, ⟨3, .guard⟩], some (3, false)⟩,
  ⟨some 19, .binOp .gtr 3 (.tmp 18) (.const (.int .i64 6)) 3, 4, "insts.go:53", #[⟨5, .data⟩, ⟨3, .guard⟩], some (3, false)⟩,
  ⟨some 20, .pick (.tmp 16) (.const (.bool true)) (.tmp 19), 4, "insts.go:53", #[⟨3, .data⟩, ⟨6, .data⟩], none⟩,
  ⟨some 12, .assign (.tmp 20), 4, "insts.go:53", #[⟨7, .data⟩, ⟨3, .chain⟩], none⟩]
def f18_r1o : Array Oper := f18_r1l.toArray
@[simp] theorem f18_r1_l : f18_r1o.toList = f18_r1l := rfl
attribute [simp] f18_r1l
@[simp] theorem f18_r1_g3 : guardT f18_r1o 3 = some 16 := rfl
def f18_r2l : List Oper := [⟨some 4, .assign (.const (.int .i64 3)), 26, "insts.go:54", #[], none⟩]
def f18_r2o : Array Oper := f18_r2l.toArray
@[simp] theorem f18_r2_l : f18_r2o.toList = f18_r2l := rfl
attribute [simp] f18_r2l
def f18_r3l : List Oper := [⟨some 22, .fieldAddr 35 (.tmp 3) 0, 0, "insts.go:55", #[], none⟩,
  ⟨some 23, .load 3 (.tmp 22), 3, "insts.go:55", #[⟨0, .data⟩], none⟩,
  ⟨some 24, .binOp .neq 3 (.tmp 23) (.const (.int .i64 4)) 3, 4, "insts.go:55", #[⟨1, .data⟩], none⟩,
  ⟨some 25, .move (.tmp 24), 4, "insts.go:55", #[⟨2, .data⟩], none⟩,
  ⟨some 26, .fieldAddr 35 (.tmp 3) 1, 0, "insts.go:55", #[⟨3, .guard⟩], some (3, true)⟩,
  ⟨some 27, .load 32 (.tmp 26), 32, "insts.go:55", #[⟨4, .data⟩, ⟨3, .guard⟩], some (3, true)⟩,
  ⟨some 28, .call ⟨.builtin .len, #[.tmp 27], #[32]⟩, 3, "insts.go:55", #[⟨5, .data⟩, ⟨3, .guard⟩], some (3, true)⟩,
  ⟨some 29, .binOp .gtr 3 (.tmp 28) (.const (.int .i64 0)) 3, 4, "insts.go:55", #[⟨6, .data⟩, ⟨3, .guard⟩], some (3, true)⟩,
  ⟨some 30, .pick (.tmp 25) (.tmp 29) (.const (.bool false)), 4, "insts.go:55", #[⟨3, .data⟩, ⟨7, .data⟩], none⟩,
  ⟨some 31, .move (.tmp 30), 4, "insts.go:55", #[⟨8, .data⟩, ⟨3, .chain⟩], none⟩,
  ⟨some 32, .fieldAddr 35 (.tmp 3) 0, 0, "insts.go:55", #[⟨9, .guard⟩], some (9, false)⟩,
  ⟨some 33, .load 3 (.tmp 32), 3, "insts.go:55", #[⟨10, .data⟩, ⟨9, .guard⟩], some (9, false)⟩,
  ⟨some 34, .binOp .neq 3 (.tmp 33) (.const (.int .i64 5)) 3, 4, "insts.go:55", #[⟨11, .data⟩, ⟨9, .guard⟩], some (9, false)⟩,
  ⟨some 35, .move (.tmp 34), 4, "insts.go:55", #[⟨12, .data⟩, ⟨9, .chain⟩, ⟨9, .guard⟩], some (9, false)⟩,
  ⟨some 36, .fieldAddr 35 (.tmp 3) 2, 0, "insts.go:55", #[⟨13, .guard⟩], some (13, true)⟩,
  ⟨some 37, .load 33 (.tmp 36), 33, "insts.go:55", #[⟨14, .data⟩, ⟨13, .guard⟩], some (13, true)⟩,
  ⟨some 38, .call ⟨.builtin .len, #[.tmp 37], #[33]⟩, 3, "insts.go:55", #[⟨15, .data⟩, ⟨13, .guard⟩], some (13, true)⟩,
  ⟨some 39, .binOp .gtr 3 (.tmp 38) (.const (.int .i64 0)) 3, 4, "insts.go:55", #[⟨16, .data⟩, ⟨13, .guard⟩], some (13, true)⟩,
  ⟨some 40, .move (.tmp 39), 4, "insts.go:55", #[⟨17, .data⟩, ⟨13, .chain⟩, ⟨13, .guard⟩], some (13, true)⟩,
  ⟨some 41, .fieldAddr 35 (.tmp 3) 3, 0, "insts.go:55", #[⟨18, .guard⟩], some (18, false)⟩,
  ⟨some 42, .load 3 (.tmp 41), 3, "insts.go:55", #[⟨19, .data⟩, ⟨18, .guard⟩], some (18, false)⟩,
  ⟨some 43, .binOp .neq 3 (.tmp 42) (.const (.int .i64 0)) 3, 4, "insts.go:55", #[⟨20, .data⟩, ⟨18, .guard⟩], some (18, false)⟩,
  ⟨some 44, .pick (.tmp 40) (.const (.bool true)) (.tmp 43), 4, "insts.go:55", #[⟨18, .data⟩, ⟨21, .data⟩, ⟨13, .guard⟩], some (13, true)⟩,
  ⟨some 45, .pick (.tmp 35) (.tmp 44) (.const (.bool false)), 4, "insts.go:55", #[⟨13, .data⟩, ⟨22, .data⟩, ⟨9, .guard⟩], some (9, false)⟩,
  ⟨some 46, .pick (.tmp 31) (.const (.bool true)) (.tmp 45), 4, "insts.go:55", #[⟨9, .data⟩, ⟨23, .data⟩], none⟩,
  ⟨some 21, .assign (.tmp 46), 4, "insts.go:55", #[⟨24, .data⟩, ⟨18, .chain⟩], none⟩]
def f18_r3o : Array Oper := f18_r3l.toArray
@[simp] theorem f18_r3_l : f18_r3o.toList = f18_r3l := rfl
attribute [simp] f18_r3l
@[simp] theorem f18_r3_g3 : guardT f18_r3o 3 = some 25 := rfl
@[simp] theorem f18_r3_g9 : guardT f18_r3o 9 = some 31 := rfl
@[simp] theorem f18_r3_g13 : guardT f18_r3o 13 = some 35 := rfl
@[simp] theorem f18_r3_g18 : guardT f18_r3o 18 = some 40 := rfl
def f18_r4l : List Oper := [⟨some 4, .assign (.const (.int .i64 4)), 26, "insts.go:56", #[], none⟩]
def f18_r4o : Array Oper := f18_r4l.toArray
@[simp] theorem f18_r4_l : f18_r4o.toList = f18_r4l := rfl
attribute [simp] f18_r4l
def f18_r5l : List Oper := [⟨some 48, .fieldAddr 35 (.tmp 3) 0, 0, "insts.go:57", #[], none⟩,
  ⟨some 49, .load 3 (.tmp 48), 3, "insts.go:57", #[⟨0, .data⟩], none⟩,
  ⟨some 50, .binOp .eql 3 (.tmp 49) (.const (.int .i64 4)) 3, 4, "insts.go:57", #[⟨1, .data⟩], none⟩,
  ⟨some 51, .move (.tmp 50), 4, "insts.go:57", #[⟨2, .data⟩], none⟩,
  ⟨some 52, .fieldAddr 35 (.tmp 3) 1, 0, "insts.go:57", #[⟨3, .guard⟩], some (3, true)⟩,
  ⟨some 53, .load 32 (.tmp 52), 32, "insts.go:57", #[⟨4, .data⟩, ⟨3, .guard⟩], some (3, true)⟩,
  ⟨some 54, .call ⟨.builtin .len, #[.tmp 53], #[32]⟩, 3, "insts.go:57", #[⟨5, .data⟩, ⟨3, .guard⟩], some (3, true)⟩,
  ⟨some 55, .binOp .eql 3 (.tmp 54) (.const (.int .i64 0)) 3, 4, "insts.go:57", #[⟨6, .data⟩, ⟨3, .guard⟩], some (3, true)⟩,
  ⟨some 56, .pick (.tmp 51) (.tmp 55) (.const (.bool false)), 4, "insts.go:57", #[⟨3, .data⟩, ⟨7, .data⟩], none⟩,
  ⟨some 47, .assign (.tmp 56), 4, "insts.go:57", #[⟨8, .data⟩, ⟨3, .chain⟩], none⟩]
def f18_r5o : Array Oper := f18_r5l.toArray
@[simp] theorem f18_r5_l : f18_r5o.toList = f18_r5l := rfl
attribute [simp] f18_r5l
@[simp] theorem f18_r5_g3 : guardT f18_r5o 3 = some 51 := rfl
def f18_r6l : List Oper := [⟨some 4, .assign (.const (.int .i64 7)), 26, "insts.go:58", #[], none⟩]
def f18_r6o : Array Oper := f18_r6l.toArray
@[simp] theorem f18_r6_l : f18_r6o.toList = f18_r6l := rfl
attribute [simp] f18_r6l
def f18_r7l : List Oper := [⟨some 58, .fieldAddr 35 (.tmp 3) 1, 0, "insts.go:59", #[], none⟩,
  ⟨some 59, .load 32 (.tmp 58), 32, "insts.go:59", #[⟨0, .data⟩], none⟩,
  ⟨some 60, .call ⟨.builtin .len, #[.tmp 59], #[32]⟩, 3, "insts.go:59", #[⟨1, .data⟩], none⟩,
  ⟨some 61, .binOp .gtr 3 (.tmp 60) (.const (.int .i64 64)) 3, 4, "insts.go:59", #[⟨2, .data⟩], none⟩,
  ⟨some 62, .move (.tmp 61), 4, "insts.go:59", #[⟨3, .data⟩], none⟩,
  ⟨some 63, .fieldAddr 35 (.tmp 3) 2, 0, "insts.go:59", #[⟨4, .guard⟩], some (4, false)⟩,
  ⟨some 64, .load 33 (.tmp 63), 33, "insts.go:59", #[⟨5, .data⟩, ⟨4, .guard⟩], some (4, false)⟩,
  ⟨some 65, .call ⟨.builtin .len, #[.tmp 64], #[33]⟩, 3, "insts.go:59", #[⟨6, .data⟩, ⟨4, .guard⟩], some (4, false)⟩,
  ⟨some 66, .binOp .gtr 3 (.tmp 65) (.const (.int .i64 32)) 3, 4, "insts.go:59", #[⟨7, .data⟩, ⟨4, .guard⟩], some (4, false)⟩,
  ⟨some 67, .pick (.tmp 62) (.const (.bool true)) (.tmp 66), 4, "insts.go:59", #[⟨4, .data⟩, ⟨8, .data⟩], none⟩,
  ⟨some 57, .assign (.tmp 67), 4, "insts.go:59", #[⟨9, .data⟩, ⟨4, .chain⟩], none⟩]
def f18_r7o : Array Oper := f18_r7l.toArray
@[simp] theorem f18_r7_l : f18_r7o.toList = f18_r7l := rfl
attribute [simp] f18_r7l
@[simp] theorem f18_r7_g4 : guardT f18_r7o 4 = some 62 := rfl
def f18_r8l : List Oper := [⟨some 4, .assign (.const (.int .i64 6)), 26, "insts.go:60", #[], none⟩]
def f18_r8o : Array Oper := f18_r8l.toArray
@[simp] theorem f18_r8_l : f18_r8o.toList = f18_r8l := rfl
attribute [simp] f18_r8l
def f18_r9l : List Oper := [⟨some 69, .fieldAddr 35 (.tmp 3) 3, 0, "insts.go:61", #[], none⟩,
  ⟨some 70, .load 3 (.tmp 69), 3, "insts.go:61", #[⟨0, .data⟩], none⟩,
  ⟨some 71, .binOp .lss 3 (.tmp 70) (.const (.int .i64 0)) 3, 4, "insts.go:61", #[⟨1, .data⟩], none⟩,
  ⟨some 72, .move (.tmp 71), 4, "insts.go:61", #[⟨2, .data⟩], none⟩,
  ⟨some 73, .fieldAddr 35 (.tmp 3) 3, 0, "insts.go:61", #[⟨3, .guard⟩], some (3, false)⟩,
  ⟨some 74, .load 3 (.tmp 73), 3, "insts.go:61", #[⟨4, .data⟩, ⟨3, .guard⟩], some (3, false)⟩,
  ⟨some 75, .binOp .geq 3 (.tmp 74) (.const (.int .i64 8)) 3, 4, "insts.go:61", #[⟨5, .data⟩, ⟨3, .guard⟩], some (3, false)⟩,
  ⟨some 76, .pick (.tmp 72) (.const (.bool true)) (.tmp 75), 4, "insts.go:61", #[⟨3, .data⟩, ⟨6, .data⟩], none⟩,
  ⟨some 68, .assign (.tmp 76), 4, "insts.go:61", #[⟨7, .data⟩, ⟨3, .chain⟩], none⟩]
def f18_r9o : Array Oper := f18_r9l.toArray
@[simp] theorem f18_r9_l : f18_r9o.toList = f18_r9l := rfl
attribute [simp] f18_r9l
@[simp] theorem f18_r9_g3 : guardT f18_r9o 3 = some 72 := rfl
def f18_r10l : List Oper := [⟨some 4, .assign (.const (.int .i64 5)), 26, "insts.go:62", #[], none⟩]
def f18_r10o : Array Oper := f18_r10l.toArray
@[simp] theorem f18_r10_l : f18_r10o.toList = f18_r10l := rfl
attribute [simp] f18_r10l
def f18_r11l : List Oper := [⟨some 77, .fieldAddr 35 (.tmp 3) 1, 0, "insts.go:64", #[], none⟩,
  ⟨some 78, .load 32 (.tmp 77), 32, "insts.go:64", #[⟨0, .data⟩], none⟩,
  ⟨some 79, .call ⟨.builtin .len, #[.tmp 78], #[32]⟩, 3, "insts.go:64", #[⟨1, .data⟩], none⟩,
  ⟨some 80, .move (.const (.int .i64 0)), 3, "insts.go:64", #[], none⟩]
def f18_r11o : Array Oper := f18_r11l.toArray
@[simp] theorem f18_r11_l : f18_r11o.toList = f18_r11l := rfl
attribute [simp] f18_r11l
def f18_r12l : List Oper := [⟨some 81, .binOp .lss 3 (.tmp 80) (.tmp 79) 3, 0, "insts.go:64", #[], none⟩]
def f18_r12o : Array Oper := f18_r12l.toArray
@[simp] theorem f18_r12_l : f18_r12o.toList = f18_r12l := rfl
attribute [simp] f18_r12l
def f18_r13l : List Oper := [⟨some 82, .move (.tmp 80), 3, "insts.go:64", #[], none⟩,
  ⟨some 83, .indexAddr 32 (.tmp 78) (.tmp 80), 0, "insts.go:64", #[], none⟩,
  ⟨some 84, .load 39 (.tmp 83), 39, "insts.go:64", #[⟨1, .data⟩], none⟩,
  ⟨some 6, .alloc 39, 0, "insts.go:64", #[], none⟩,
  ⟨some 5, .assign (.tmp 82), 3, "insts.go:64", #[⟨0, .data⟩, ⟨0, .phase⟩, ⟨1, .phase⟩, ⟨2, .phase⟩, ⟨3, .phase⟩], none⟩,
  ⟨none, .store 39 (.tmp 6) (.tmp 84), 0, "insts.go:64", #[⟨3, .data⟩, ⟨2, .data⟩, ⟨4, .chain⟩, ⟨0, .phase⟩, ⟨1, .phase⟩, ⟨2, .phase⟩, ⟨3, .phase⟩, ⟨4, .phase⟩], none⟩]
def f18_r13o : Array Oper := f18_r13l.toArray
@[simp] theorem f18_r13_l : f18_r13o.toList = f18_r13l := rfl
attribute [simp] f18_r13l
def f18_r14l : List Oper := [⟨some 86, .fieldAddr 39 (.tmp 6) 0, 0, "insts.go:66", #[], none⟩,
  ⟨some 87, .load 9 (.tmp 86), 9, "insts.go:66", #[⟨0, .data⟩], none⟩,
  ⟨some 88, .call ⟨.builtin .len, #[.tmp 87], #[9]⟩, 3, "insts.go:66", #[⟨1, .data⟩], none⟩,
  ⟨some 89, .binOp .eql 3 (.tmp 88) (.const (.int .i64 0)) 3, 4, "insts.go:66", #[⟨2, .data⟩], none⟩,
  ⟨some 90, .move (.tmp 89), 4, "insts.go:66", #[⟨3, .data⟩], none⟩,
  ⟨some 91, .fieldAddr 39 (.tmp 6) 0, 0, "insts.go:66", #[⟨4, .guard⟩], some (4, false)⟩,
  ⟨some 92, .load 9 (.tmp 91), 9, "insts.go:66", #[⟨5, .data⟩, ⟨4, .guard⟩], some (4, false)⟩,
  ⟨some 93, .call ⟨.builtin .len, #[.tmp 92], #[9]⟩, 3, "insts.go:66", #[⟨6, .data⟩, ⟨4, .guard⟩], some (4, false)⟩,
  ⟨some 94, .binOp .gtr 3 (.tmp 93) (.const (.int .i64 81)) 3, 4, "insts.go:66", #[⟨7, .data⟩, ⟨4, .guard⟩], some (4, false)⟩,
  ⟨some 95, .pick (.tmp 90) (.const (.bool true)) (.tmp 94), 4, "insts.go:66", #[⟨4, .data⟩, ⟨8, .data⟩], none⟩,
  ⟨some 85, .assign (.tmp 95), 4, "insts.go:66", #[⟨9, .data⟩, ⟨4, .chain⟩], none⟩]
def f18_r14o : Array Oper := f18_r14l.toArray
@[simp] theorem f18_r14_l : f18_r14o.toList = f18_r14l := rfl
attribute [simp] f18_r14l
@[simp] theorem f18_r14_g4 : guardT f18_r14o 4 = some 90 := rfl
def f18_r15l : List Oper := [⟨some 4, .assign (.const (.int .i64 10)), 26, "insts.go:67", #[], none⟩]
def f18_r15o : Array Oper := f18_r15l.toArray
@[simp] theorem f18_r15_l : f18_r15o.toList = f18_r15l := rfl
attribute [simp] f18_r15l
def f18_r16l : List Oper := [⟨some 97, .move (.tmp 5), 3, "insts.go:68", #[], none⟩,
  ⟨some 98, .binOp .gtr 3 (.tmp 97) (.const (.int .i64 0)) 3, 4, "insts.go:68", #[⟨0, .data⟩], none⟩,
  ⟨some 99, .move (.tmp 98), 4, "insts.go:68", #[⟨1, .data⟩], none⟩,
  ⟨some 100, .fieldAddr 35 (.tmp 3) 1, 0, "insts.go:68", #[⟨2, .guard⟩], some (2, true)⟩,
  ⟨some 101, .load 32 (.tmp 100), 32, "insts.go:68", #[⟨3, .data⟩, ⟨2, .guard⟩], some (2, true)⟩,
  ⟨some 102, .move (.tmp 5), 3, "insts.go:68", #[⟨2, .guard⟩], some (2, true)⟩,
  ⟨some 103, .binOp .sub 3 (.tmp 102) (.const (.int .i64 1)) 3, 3, "insts.go:68", #[⟨5, .data⟩, ⟨2, .guard⟩], some (2, true)⟩,
  ⟨some 104, .indexAddr 32 (.tmp 101) (.tmp 103), 0, "insts.go:68", #[⟨4, .data⟩, ⟨6, .data⟩, ⟨2, .guard⟩], some (2, true)⟩,
  ⟨some 105, .load 39 (.tmp 104), 39, "insts.go:68", #[⟨7, .data⟩, ⟨2, .guard⟩], some (2, true)⟩,
  ⟨some 106, .load 39 (.tmp 6), 39, "insts.go:68", #[⟨2, .guard⟩], some (2, true)⟩,
  ⟨some 107, .call ⟨.value (.func 35), #[.tmp 105, .tmp 106], #[39, 39]⟩, 3, "insts.go:68", #[⟨8, .data⟩, ⟨9, .data⟩, ⟨2, .chain⟩, ⟨2, .guard⟩], some (2, true)⟩,
  ⟨some 108, .binOp .geq 3 (.tmp 107) (.const (.int .i64 0)) 3, 4, "insts.go:68", #[⟨10, .data⟩, ⟨2, .guard⟩], some (2, true)⟩,
  ⟨some 109, .pick (.tmp 99) (.tmp 108) (.const (.bool false)), 4, "insts.go:68", #[⟨2, .data⟩, ⟨11, .data⟩], none⟩,
  ⟨some 96, .assign (.tmp 109), 4, "insts.go:68", #[⟨12, .data⟩, ⟨10, .chain⟩], none⟩]
def f18_r16o : Array Oper := f18_r16l.toArray
@[simp] theorem f18_r16_l : f18_r16o.toList = f18_r16l := rfl
attribute [simp] f18_r16l
@[simp] theorem f18_r16_g2 : guardT f18_r16o 2 = some 99 := rfl
@[simp] theorem f18_r16_n : f18_r16o.size = 14 := rfl
def f18_r17l : List Oper := [⟨some 4, .assign (.const (.int .i64 13)), 26, "insts.go:69", #[], none⟩]
def f18_r17o : Array Oper := f18_r17l.toArray
@[simp] theorem f18_r17_l : f18_r17o.toList = f18_r17l := rfl
attribute [simp] f18_r17l
def f18_r18l : List Oper := [⟨some 111, .fieldAddr 39 (.tmp 6) 1, 0, "insts.go:70", #[], none⟩,
  ⟨some 112, .load 37 (.tmp 111), 37, "insts.go:70", #[⟨0, .data⟩], none⟩,
  ⟨some 113, .call ⟨.builtin .len, #[.tmp 112], #[37]⟩, 3, "insts.go:70", #[⟨1, .data⟩], none⟩,
  ⟨some 114, .binOp .gtr 3 (.tmp 113) (.const (.int .i64 32)) 3, 4, "insts.go:70", #[⟨2, .data⟩], none⟩,
  ⟨some 110, .assign (.tmp 114), 4, "insts.go:70", #[⟨3, .data⟩], none⟩]
def f18_r18o : Array Oper := f18_r18l.toArray
@[simp] theorem f18_r18_l : f18_r18o.toList = f18_r18l := rfl
attribute [simp] f18_r18l
def f18_r19l : List Oper := [⟨some 4, .assign (.const (.int .i64 6)), 26, "insts.go:71", #[], none⟩]
def f18_r19o : Array Oper := f18_r19l.toArray
@[simp] theorem f18_r19_l : f18_r19o.toList = f18_r19l := rfl
attribute [simp] f18_r19l
def f18_r20l : List Oper := [⟨some 115, .fieldAddr 39 (.tmp 6) 1, 0, "insts.go:73", #[], none⟩,
  ⟨some 116, .load 37 (.tmp 115), 37, "insts.go:73", #[⟨0, .data⟩], none⟩,
  ⟨some 117, .call ⟨.builtin .len, #[.tmp 116], #[37]⟩, 3, "insts.go:73", #[⟨1, .data⟩], none⟩,
  ⟨some 118, .move (.const (.int .i64 0)), 3, "insts.go:73", #[], none⟩]
def f18_r20o : Array Oper := f18_r20l.toArray
@[simp] theorem f18_r20_l : f18_r20o.toList = f18_r20l := rfl
attribute [simp] f18_r20l
def f18_r21l : List Oper := [⟨some 119, .binOp .lss 3 (.tmp 118) (.tmp 117) 3, 0, "insts.go:73", #[], none⟩]
def f18_r21o : Array Oper := f18_r21l.toArray
@[simp] theorem f18_r21_l : f18_r21o.toList = f18_r21l := rfl
attribute [simp] f18_r21l
def f18_r22l : List Oper := [⟨some 120, .indexAddr 37 (.tmp 116) (.tmp 118), 0, "insts.go:73", #[], none⟩,
  ⟨some 121, .load 3 (.tmp 120), 3, "insts.go:73", #[⟨0, .data⟩], none⟩,
  ⟨some 8, .assign (.tmp 121), 3, "insts.go:73", #[⟨1, .data⟩, ⟨0, .phase⟩, ⟨1, .phase⟩], none⟩]
def f18_r22o : Array Oper := f18_r22l.toArray
@[simp] theorem f18_r22_l : f18_r22o.toList = f18_r22l := rfl
attribute [simp] f18_r22l
def f18_r23l : List Oper := [⟨some 122, .move (.tmp 0), 22, "insts.go:74", #[], none⟩,
  ⟨some 123, .move (.tmp 8), 3, "insts.go:74", #[], none⟩,
  ⟨some 124, .call ⟨.value (.func 36), #[.tmp 122, .tmp 123], #[22, 3]⟩, 4, "insts.go:74", #[⟨0, .data⟩, ⟨1, .data⟩], none⟩,
  ⟨some 125, .unOp .not 4 (.tmp 124), 4, "insts.go:74", #[⟨2, .data⟩], none⟩]
def f18_r23o : Array Oper := f18_r23l.toArray
@[simp] theorem f18_r23_l : f18_r23o.toList = f18_r23l := rfl
attribute [simp] f18_r23l
def f18_r24l : List Oper := [⟨some 4, .assign (.const (.int .i64 5)), 26, "insts.go:75", #[], none⟩]
def f18_r24o : Array Oper := f18_r24l.toArray
@[simp] theorem f18_r24_l : f18_r24o.toList = f18_r24l := rfl
attribute [simp] f18_r24l
def f18_r25l : List Oper := [⟨some 126, .move (.tmp 0), 22, "insts.go:77", #[], none⟩,
  ⟨some 127, .move (.tmp 8), 3, "insts.go:77", #[], none⟩,
  ⟨some 128, .indexAddr 22 (.tmp 126) (.tmp 127), 0, "insts.go:77", #[⟨0, .data⟩, ⟨1, .data⟩], none⟩,
  ⟨some 129, .load 35 (.tmp 128), 35, "insts.go:77", #[⟨2, .data⟩], none⟩,
  ⟨some 130, .call ⟨.value (.func 37), #[.tmp 129], #[35]⟩, 4, "insts.go:77", #[⟨3, .data⟩], none⟩,
  ⟨some 131, .unOp .not 4 (.tmp 130), 4, "insts.go:77", #[⟨4, .data⟩], none⟩]
def f18_r25o : Array Oper := f18_r25l.toArray
@[simp] theorem f18_r25_l : f18_r25o.toList = f18_r25l := rfl
attribute [simp] f18_r25l
def f18_r26l : List Oper := [⟨some 4, .assign (.const (.int .i64 18)), 26, "insts.go:78", #[], none⟩]
def f18_r26o : Array Oper := f18_r26l.toArray
@[simp] theorem f18_r26_l : f18_r26o.toList = f18_r26l := rfl
attribute [simp] f18_r26l
def f18_r27l : List Oper := [⟨some 132, .binOp .add 3 (.tmp 118) (.const (.int .i64 1)) 3, 3, "insts.go:73", #[], none⟩,
  ⟨some 118, .move (.tmp 132), 3, "insts.go:73", #[⟨0, .data⟩], none⟩]
def f18_r27o : Array Oper := f18_r27l.toArray
@[simp] theorem f18_r27_l : f18_r27o.toList = f18_r27l := rfl
attribute [simp] f18_r27l
def f18_l0 : AC :=
  (.seq (.reg 21 f18_r21o [0, 3, 78, 79, 80, 91, 92, 93, 94, 100, 101, 102, 103, 104, 105, 106, 107, 108, 116, 117, 118, 119, 147, 148, 149, 150, 151, 162, 163]) (.seq (.cond (.tmp 119) .skip (.exit 4)) (.seq (.block 5 (.seq (.reg 22 f18_r22o [0, 3, 8, 78, 79, 80, 91, 92, 93, 94, 100, 101, 102, 103, 104, 105, 106, 107, 108, 116, 117, 118, 147, 148, 149, 150, 151, 162, 163]) (.seq (.seq (.reg 23 f18_r23o [0, 3, 8, 78, 79, 80, 91, 92, 93, 94, 100, 101, 102, 103, 104, 105, 106, 107, 108, 116, 117, 118, 125, 147, 148, 149, 150, 151, 162, 163]) (.cond (.tmp 125) (.seq (.reg 24 f18_r24o [4]) .ret) .skip)) (.seq (.reg 25 f18_r25o [0, 3, 78, 79, 80, 91, 92, 93, 94, 100, 101, 102, 103, 104, 105, 106, 107, 108, 116, 117, 118, 131, 147, 148, 149, 150, 151, 162, 163]) (.cond (.tmp 131) (.seq (.reg 26 f18_r26o [4]) .ret) .skip))))) (.reg 27 f18_r27o [0, 3, 78, 79, 80, 91, 92, 93, 94, 100, 101, 102, 103, 104, 105, 106, 107, 108, 116, 117, 118, 147, 148, 149, 150, 151, 162, 163]))))
theorem f18_l0_fits : f18_l0.fits 166 = true := by kernel_rfl
def f18_r28l : List Oper := [⟨some 133, .binOp .add 3 (.tmp 80) (.const (.int .i64 1)) 3, 3, "insts.go:64", #[], none⟩,
  ⟨some 80, .move (.tmp 133), 3, "insts.go:64", #[⟨0, .data⟩], none⟩]
def f18_r28o : Array Oper := f18_r28l.toArray
@[simp] theorem f18_r28_l : f18_r28o.toList = f18_r28l := rfl
attribute [simp] f18_r28l
def f18_l1 : AC :=
  (.seq (.reg 12 f18_r12o [0, 3, 78, 79, 80, 81, 91, 92, 93, 94, 100, 101, 102, 103, 104, 105, 106, 107, 108, 147, 148, 149, 150, 151, 162, 163]) (.seq (.cond (.tmp 81) .skip (.exit 1)) (.seq (.block 2 (.seq (.reg 13 f18_r13o [0, 3, 5, 6, 78, 79, 80, 91, 92, 93, 94, 100, 101, 102, 103, 104, 105, 106, 107, 108, 147, 148, 149, 150, 151, 162, 163]) (.seq (.block 3 (.seq (.reg 14 f18_r14o [0, 3, 5, 6, 78, 79, 80, 85, 91, 92, 93, 94, 100, 101, 102, 103, 104, 105, 106, 107, 108, 147, 148, 149, 150, 151, 162, 163]) (.cond (.tmp 85) (.seq (.reg 15 f18_r15o [4]) .ret) (.seq (.draw 16 f18_r16o [0, 3, 6, 78, 79, 80, 91, 92, 93, 94, 96, 100, 101, 102, 103, 104, 105, 106, 107, 108, 147, 148, 149, 150, 151, 162, 163]) (.cond (.tmp 96) (.seq (.reg 17 f18_r17o [4]) .ret) (.seq (.reg 18 f18_r18o [0, 3, 6, 78, 79, 80, 91, 92, 93, 94, 100, 101, 102, 103, 104, 105, 106, 107, 108, 110, 147, 148, 149, 150, 151, 162, 163]) (.cond (.tmp 110) (.seq (.reg 19 f18_r19o [4]) .ret) .skip))))))) (.seq (.reg 20 f18_r20o [0, 3, 78, 79, 80, 91, 92, 93, 94, 100, 101, 102, 103, 104, 105, 106, 107, 108, 116, 117, 118, 147, 148, 149, 150, 151, 162, 163]) (.block 4 (.loop f18_l0)))))) (.reg 28 f18_r28o [0, 3, 78, 79, 80, 91, 92, 93, 94, 100, 101, 102, 103, 104, 105, 106, 107, 108, 147, 148, 149, 150, 151, 162, 163]))))
theorem f18_l1_fits : f18_l1.fits 166 = true := by kernel_rfl
def f18_r29l : List Oper := [⟨some 134, .fieldAddr 35 (.tmp 3) 2, 0, "insts.go:82", #[], none⟩,
  ⟨some 135, .load 33 (.tmp 134), 33, "insts.go:82", #[⟨0, .data⟩], none⟩,
  ⟨some 136, .call ⟨.builtin .len, #[.tmp 135], #[33]⟩, 3, "insts.go:82", #[⟨1, .data⟩], none⟩,
  ⟨some 137, .move (.const (.int .i64 0)), 3, "insts.go:82", #[], none⟩]
def f18_r29o : Array Oper := f18_r29l.toArray
@[simp] theorem f18_r29_l : f18_r29o.toList = f18_r29l := rfl
attribute [simp] f18_r29l
def f18_r30l : List Oper := [⟨some 138, .binOp .lss 3 (.tmp 137) (.tmp 136) 3, 0, "insts.go:82", #[], none⟩]
def f18_r30o : Array Oper := f18_r30l.toArray
@[simp] theorem f18_r30_l : f18_r30o.toList = f18_r30l := rfl
attribute [simp] f18_r30l
def f18_r31l : List Oper := [⟨some 139, .indexAddr 33 (.tmp 135) (.tmp 137), 0, "insts.go:82", #[], none⟩,
  ⟨some 140, .load 70 (.tmp 139), 70, "insts.go:82", #[⟨0, .data⟩], none⟩,
  ⟨some 10, .alloc 70, 0, "insts.go:82", #[], none⟩,
  ⟨none, .store 70 (.tmp 10) (.tmp 140), 0, "insts.go:82", #[⟨2, .data⟩, ⟨1, .data⟩, ⟨0, .phase⟩, ⟨1, .phase⟩, ⟨2, .phase⟩], none⟩]
def f18_r31o : Array Oper := f18_r31l.toArray
@[simp] theorem f18_r31_l : f18_r31o.toList = f18_r31l := rfl
attribute [simp] f18_r31l
def f18_r32l : List Oper := [⟨some 141, .move (.tmp 0), 22, "insts.go:83", #[], none⟩,
  ⟨some 142, .fieldAddr 70 (.tmp 10) 0, 0, "insts.go:83", #[], none⟩,
  ⟨some 143, .load 3 (.tmp 142), 3, "insts.go:83", #[⟨1, .data⟩], none⟩,
  ⟨some 144, .call ⟨.value (.func 36), #[.tmp 141, .tmp 143], #[22, 3]⟩, 4, "insts.go:83", #[⟨0, .data⟩, ⟨2, .data⟩], none⟩,
  ⟨some 145, .unOp .not 4 (.tmp 144), 4, "insts.go:83", #[⟨3, .data⟩], none⟩,
  ⟨some 146, .move (.tmp 145), 4, "insts.go:83", #[⟨4, .data⟩, ⟨3, .chain⟩], none⟩,
  ⟨some 147, .move (.tmp 0), 22, "insts.go:83", #[⟨5, .guard⟩], some (5, false)⟩,
  ⟨some 148, .fieldAddr 70 (.tmp 10) 1, 0, "insts.go:83", #[⟨5, .guard⟩], some (5, false)⟩,
  ⟨some 149, .load 3 (.tmp 148), 3, "insts.go:83", #[⟨7, .data⟩, ⟨5, .guard⟩], some (5, false)⟩,
  ⟨some 150, .call ⟨.value (.func 36), #[.tmp 147, .tmp 149], #[22, 3]⟩, 4, "insts.go:83", #[⟨6, .data⟩, ⟨8, .data⟩, ⟨5, .chain⟩, ⟨5, .guard⟩], some (5, false)⟩,
  ⟨some 151, .unOp .not 4 (.tmp 150), 4, "insts.go:83", #[⟨9, .data⟩, ⟨5, .guard⟩], some (5, false)⟩,
  ⟨some 152, .pick (.tmp 146) (.const (.bool true)) (.tmp 151), 4, "insts.go:83", #[⟨5, .data⟩, ⟨10, .data⟩], none⟩]
def f18_r32o : Array Oper := f18_r32l.toArray
@[simp] theorem f18_r32_l : f18_r32o.toList = f18_r32l := rfl
attribute [simp] f18_r32l
@[simp] theorem f18_r32_g5 : guardT f18_r32o 5 = some 146 := rfl
def f18_r33l : List Oper := [⟨some 4, .assign (.const (.int .i64 5)), 26, "insts.go:84", #[], none⟩]
def f18_r33o : Array Oper := f18_r33l.toArray
@[simp] theorem f18_r33_l : f18_r33o.toList = f18_r33l := rfl
attribute [simp] f18_r33l
def f18_r34l : List Oper := [⟨some 153, .move (.tmp 0), 22, "insts.go:86", #[], none⟩,
  ⟨some 154, .fieldAddr 70 (.tmp 10) 0, 0, "insts.go:86", #[], none⟩,
  ⟨some 155, .load 3 (.tmp 154), 3, "insts.go:86", #[⟨1, .data⟩], none⟩,
  ⟨some 156, .indexAddr 22 (.tmp 153) (.tmp 155), 0, "insts.go:86", #[⟨0, .data⟩, ⟨2, .data⟩], none⟩,
  ⟨some 157, .fieldAddr 35 (.tmp 156) 0, 0, "insts.go:86", #[⟨3, .data⟩], none⟩,
  ⟨some 158, .load 3 (.tmp 157), 3, "insts.go:86", #[⟨4, .data⟩], none⟩,
  ⟨some 11, .assign (.tmp 158), 3, "insts.go:86", #[⟨5, .data⟩, ⟨0, .phase⟩, ⟨1, .phase⟩, ⟨2, .phase⟩, ⟨3, .phase⟩, ⟨4, .phase⟩, ⟨5, .phase⟩], none⟩]
def f18_r34o : Array Oper := f18_r34l.toArray
@[simp] theorem f18_r34_l : f18_r34o.toList = f18_r34l := rfl
attribute [simp] f18_r34l
def f18_r35l : List Oper := [⟨some 159, .move (.tmp 11), 3, "insts.go:86", #[], none⟩,
  ⟨some 160, .binOp .eql 3 (.tmp 159) (.const (.int .i64 6)) 3, 4, "insts.go:86", #[⟨0, .data⟩], none⟩,
  ⟨some 161, .move (.tmp 160), 4, "insts.go:86", #[⟨1, .data⟩], none⟩,
  ⟨some 162, .move (.tmp 11), 3, "insts.go:86", #[⟨2, .guard⟩], some (2, false)⟩,
  ⟨some 163, .binOp .eql 3 (.tmp 162) (.const (.int .i64 3)) 3, 4, "insts.go:86", #[⟨3, .data⟩, ⟨2, .guard⟩], some (2, false)⟩,
  ⟨some 164, .pick (.tmp 161) (.const (.bool true)) (.tmp 163), 4, "insts.go:86", #[⟨2, .data⟩, ⟨4, .data⟩], none⟩]
def f18_r35o : Array Oper := f18_r35l.toArray
@[simp] theorem f18_r35_l : f18_r35o.toList = f18_r35l := rfl
attribute [simp] f18_r35l
@[simp] theorem f18_r35_g2 : guardT f18_r35o 2 = some 161 := rfl
def f18_r36l : List Oper := [⟨some 4, .assign (.const (.int .i64 18)), 26, "insts.go:87", #[], none⟩]
def f18_r36o : Array Oper := f18_r36l.toArray
@[simp] theorem f18_r36_l : f18_r36o.toList = f18_r36l := rfl
attribute [simp] f18_r36l
def f18_r37l : List Oper := [⟨some 165, .binOp .add 3 (.tmp 137) (.const (.int .i64 1)) 3, 3, "insts.go:82", #[], none⟩,
  ⟨some 137, .move (.tmp 165), 3, "insts.go:82", #[⟨0, .data⟩], none⟩]
def f18_r37o : Array Oper := f18_r37l.toArray
@[simp] theorem f18_r37_l : f18_r37o.toList = f18_r37l := rfl
attribute [simp] f18_r37l
def f18_l2 : AC :=
  (.seq (.reg 30 f18_r30o [0, 135, 136, 137, 138, 147, 148, 149, 150, 151, 162, 163]) (.seq (.cond (.tmp 138) .skip (.exit 6)) (.seq (.block 7 (.seq (.reg 31 f18_r31o [0, 10, 135, 136, 137, 147, 148, 149, 150, 151, 162, 163]) (.seq (.seq (.reg 32 f18_r32o [0, 10, 135, 136, 137, 147, 148, 149, 150, 151, 152, 162, 163]) (.cond (.tmp 152) (.seq (.reg 33 f18_r33o [4]) .ret) .skip)) (.seq (.reg 34 f18_r34o [0, 11, 135, 136, 137, 147, 148, 149, 150, 151, 162, 163]) (.seq (.reg 35 f18_r35o [0, 135, 136, 137, 147, 148, 149, 150, 151, 162, 163, 164]) (.cond (.tmp 164) (.seq (.reg 36 f18_r36o [4]) .ret) .skip)))))) (.reg 37 f18_r37o [0, 135, 136, 137, 147, 148, 149, 150, 151, 162, 163]))))
theorem f18_l2_fits : f18_l2.fits 166 = true := by kernel_rfl
def f18_r38l : List Oper := [⟨some 4, .assign (.const (.int .i64 0)), 26, "insts.go:90", #[], none⟩]
def f18_r38o : Array Oper := f18_r38l.toArray
@[simp] theorem f18_r38_l : f18_r38o.toList = f18_r38l := rfl
attribute [simp] f18_r38l
def f18_ac : AC :=
  (.seq (.reg 0 f18_r0o [0, 3, 17, 18, 19, 26, 27, 28, 29, 32, 33, 34, 35, 36, 37, 38, 39, 40, 41, 42, 43, 44, 45, 52, 53, 54, 55, 63, 64, 65, 66, 73, 74, 75, 91, 92, 93, 94, 100, 101, 102, 103, 104, 105, 106, 107, 108, 147, 148, 149, 150, 151, 162, 163]) (.seq (.block 0 (.seq (.reg 1 f18_r1o [0, 3, 12, 26, 27, 28, 29, 32, 33, 34, 35, 36, 37, 38, 39, 40, 41, 42, 43, 44, 45, 52, 53, 54, 55, 63, 64, 65, 66, 73, 74, 75, 91, 92, 93, 94, 100, 101, 102, 103, 104, 105, 106, 107, 108, 147, 148, 149, 150, 151, 162, 163]) (.cond (.tmp 12) (.seq (.reg 2 f18_r2o [4]) .ret) (.seq (.reg 3 f18_r3o [0, 3, 21, 52, 53, 54, 55, 63, 64, 65, 66, 73, 74, 75, 91, 92, 93, 94, 100, 101, 102, 103, 104, 105, 106, 107, 108, 147, 148, 149, 150, 151, 162, 163]) (.cond (.tmp 21) (.seq (.reg 4 f18_r4o [4]) .ret) (.seq (.reg 5 f18_r5o [0, 3, 47, 63, 64, 65, 66, 73, 74, 75, 91, 92, 93, 94, 100, 101, 102, 103, 104, 105, 106, 107, 108, 147, 148, 149, 150, 151, 162, 163]) (.cond (.tmp 47) (.seq (.reg 6 f18_r6o [4]) .ret) (.seq (.reg 7 f18_r7o [0, 3, 57, 73, 74, 75, 91, 92, 93, 94, 100, 101, 102, 103, 104, 105, 106, 107, 108, 147, 148, 149, 150, 151, 162, 163]) (.cond (.tmp 57) (.seq (.reg 8 f18_r8o [4]) .ret) (.seq (.reg 9 f18_r9o [0, 3, 68, 91, 92, 93, 94, 100, 101, 102, 103, 104, 105, 106, 107, 108, 147, 148, 149, 150, 151, 162, 163]) (.cond (.tmp 68) (.seq (.reg 10 f18_r10o [4]) .ret) .skip))))))))))) (.seq (.seq (.reg 11 f18_r11o [0, 3, 78, 79, 80, 91, 92, 93, 94, 100, 101, 102, 103, 104, 105, 106, 107, 108, 147, 148, 149, 150, 151, 162, 163]) (.block 1 (.loop f18_l1))) (.seq (.seq (.reg 29 f18_r29o [0, 135, 136, 137, 147, 148, 149, 150, 151, 162, 163]) (.block 6 (.loop f18_l2))) (.seq (.reg 38 f18_r38o [4]) .ret)))))
theorem f18_eq : Tryd.f18.body = some f18_ac.code := rfl
@[simp] theorem f18_nt : Tryd.f18.ntmps = 166 := rfl
theorem f18_fits : f18_ac.fits Tryd.f18.ntmps = true := by kernel_rfl
@[simp] theorem f18_res : Tryd.f18.results.toList = [.tmp 4] := rfl
@[simp] theorem f18_isb : Tryd.f18.body.isNone = false := rfl
@[simp] theorem f18_r16_s : drawSimple cfg0 f18_r16o = true := by kernel_rfl
@[simp] theorem f18_r16_d : drawOk cfg0 f18_r16o = true := by kernel_rfl
@[simp] theorem f18_r16_t10 : tailOk cfg0 f18_r16o 10 = true := by kernel_rfl
/- F19 cinnabar/insts.circular -/
def f19_r0l : List Oper := [⟨some 1, .box 22 (.tmp 0), 0, "insts.go:103", #[], none⟩,
  ⟨some 2, .assign (.const (.bool false)), 4, "insts.go:103", #[], none⟩]
def f19_r0o : Array Oper := f19_r0l.toArray
@[simp] theorem f19_r0_l : f19_r0o.toList = f19_r0l := rfl
attribute [simp] f19_r0l
def f19_r1l : List Oper := [⟨some 6, .load 22 (.tmp 1), 22, "insts.go:105", #[], none⟩,
  ⟨some 7, .call ⟨.builtin .len, #[.tmp 6], #[22]⟩, 3, "insts.go:105", #[⟨0, .data⟩], none⟩,
  ⟨some 8, .makeSlice 37 (.tmp 7) (.tmp 7), 37, "insts.go:105", #[⟨1, .data⟩, ⟨1, .data⟩], none⟩,
  ⟨some 3, .alloc 37, 0, "insts.go:105", #[], none⟩,
  ⟨none, .store 37 (.tmp 3) (.tmp 8), 0, "insts.go:105", #[⟨3, .data⟩, ⟨2, .data⟩, ⟨0, .phase⟩, ⟨1, .phase⟩, ⟨2, .phase⟩, ⟨3, .phase⟩], none⟩]
def f19_r1o : Array Oper := f19_r1l.toArray
@[simp] theorem f19_r1_l : f19_r1o.toList = f19_r1l := rfl
attribute [simp] f19_r1l
def f19_r2l : List Oper := [⟨some 4, .alloc 66, 0, "insts.go:106", #[], none⟩]
def f19_r2o : Array Oper := f19_r2l.toArray
@[simp] theorem f19_r2_l : f19_r2o.toList = f19_r2l := rfl
attribute [simp] f19_r2l
def f19_r3l : List Oper := [⟨some 9, .makeFunc (.func 38) #[] #[.tmp 1, .tmp 3, .tmp 4], 66, "insts.go:107", #[], none⟩,
  ⟨none, .store 66 (.tmp 4) (.tmp 9), 0, "insts.go:107", #[⟨0, .data⟩, ⟨0, .phase⟩], none⟩]
def f19_r3o : Array Oper := f19_r3l.toArray
@[simp] theorem f19_r3_l : f19_r3o.toList = f19_r3l := rfl
attribute [simp] f19_r3l
def f19_r4l : List Oper := [⟨some 10, .load 22 (.tmp 1), 22, "insts.go:121", #[], none⟩,
  ⟨some 11, .call ⟨.builtin .len, #[.tmp 10], #[22]⟩, 3, "insts.go:121", #[⟨0, .data⟩], none⟩,
  ⟨some 12, .move (.const (.int .i64 0)), 3, "insts.go:121", #[], none⟩]
def f19_r4o : Array Oper := f19_r4l.toArray
@[simp] theorem f19_r4_l : f19_r4o.toList = f19_r4l := rfl
attribute [simp] f19_r4l
def f19_r5l : List Oper := [⟨some 13, .binOp .lss 3 (.tmp 12) (.tmp 11) 3, 0, "insts.go:121", #[], none⟩]
def f19_r5o : Array Oper := f19_r5l.toArray
@[simp] theorem f19_r5_l : f19_r5o.toList = f19_r5l := rfl
attribute [simp] f19_r5l
def f19_r6l : List Oper := [⟨some 14, .move (.tmp 12), 3, "insts.go:121", #[], none⟩,
  ⟨some 5, .assign (.tmp 14), 3, "insts.go:121", #[⟨0, .data⟩, ⟨0, .phase⟩], none⟩]
def f19_r6o : Array Oper := f19_r6l.toArray
@[simp] theorem f19_r6_l : f19_r6o.toList = f19_r6l := rfl
attribute [simp] f19_r6l
def f19_r7l : List Oper := [⟨some 15, .load 66 (.tmp 4), 66, "insts.go:122", #[], none⟩,
  ⟨some 16, .move (.tmp 5), 3, "insts.go:122", #[], none⟩,
  ⟨some 17, .call ⟨.value (.tmp 15), #[.tmp 16], #[3]⟩, 4, "insts.go:122", #[⟨0, .data⟩, ⟨1, .data⟩], none⟩]
def f19_r7o : Array Oper := f19_r7l.toArray
@[simp] theorem f19_r7_l : f19_r7o.toList = f19_r7l := rfl
attribute [simp] f19_r7l
def f19_r8l : List Oper := [⟨some 2, .assign (.const (.bool true)), 4, "insts.go:123", #[], none⟩]
def f19_r8o : Array Oper := f19_r8l.toArray
@[simp] theorem f19_r8_l : f19_r8o.toList = f19_r8l := rfl
attribute [simp] f19_r8l
def f19_r9l : List Oper := [⟨some 18, .binOp .add 3 (.tmp 12) (.const (.int .i64 1)) 3, 3, "insts.go:121", #[], none⟩,
  ⟨some 12, .move (.tmp 18), 3, "insts.go:121", #[⟨0, .data⟩], none⟩]
def f19_r9o : Array Oper := f19_r9l.toArray
@[simp] theorem f19_r9_l : f19_r9o.toList = f19_r9l := rfl
attribute [simp] f19_r9l
def f19_l0 : AC :=
  (.seq (.reg 5 f19_r5o [4, 11, 12, 13]) (.seq (.cond (.tmp 13) .skip (.exit 0)) (.seq (.block 1 (.seq (.reg 6 f19_r6o [4, 5, 11, 12]) (.seq (.reg 7 f19_r7o [4, 11, 12, 17]) (.cond (.tmp 17) (.seq (.reg 8 f19_r8o [2]) .ret) .skip)))) (.reg 9 f19_r9o [4, 11, 12]))))
theorem f19_l0_fits : f19_l0.fits 19 = true := by kernel_rfl
def f19_r10l : List Oper := [⟨some 2, .assign (.const (.bool false)), 4, "insts.go:126", #[], none⟩]
def f19_r10o : Array Oper := f19_r10l.toArray
@[simp] theorem f19_r10_l : f19_r10o.toList = f19_r10l := rfl
attribute [simp] f19_r10l
def f19_ac : AC :=
  (.seq (.reg 0 f19_r0o [1]) (.seq (.reg 1 f19_r1o [1, 3]) (.seq (.reg 2 f19_r2o [1, 3, 4]) (.seq (.reg 3 f19_r3o [1, 4]) (.seq (.seq (.reg 4 f19_r4o [4, 11, 12]) (.block 0 (.loop f19_l0))) (.seq (.reg 10 f19_r10o [2]) .ret))))))
theorem f19_eq : Tryd.f19.body = some f19_ac.code := rfl
@[simp] theorem f19_nt : Tryd.f19.ntmps = 19 := rfl
theorem f19_fits : f19_ac.fits Tryd.f19.ntmps = true := by kernel_rfl
@[simp] theorem f19_res : Tryd.f19.results.toList = [.tmp 2] := rfl
@[simp] theorem f19_isb : Tryd.f19.body.isNone = false := rfl
/- F20 cinnabar/cinnabarref16.one -/
def f20_r0l : List Oper := [⟨some 3, .box 35 (.tmp 1), 0, "ref.go:7", #[], none⟩,
  ⟨some 4, .assign (.const (.int .i64 0)), 26, "ref.go:7", #[], none⟩]
def f20_r0o : Array Oper := f20_r0l.toArray
@[simp] theorem f20_r0_l : f20_r0o.toList = f20_r0l := rfl
attribute [simp] f20_r0l
def f20_r1l : List Oper := [⟨some 9, .fieldAddr 35 (.tmp 3) 0, 0, "ref.go:8", #[], none⟩,
  ⟨some 10, .load 3 (.tmp 9), 3, "ref.go:8", #[⟨0, .data⟩], none⟩,
  ⟨some 11, .binOp .lss 3 (.tmp 10) (.const (.int .i64 0)) 3, 4, "ref.go:8", #[⟨1, .data⟩], none⟩,
  ⟨some 12, .move (.tmp 11), 4, "ref.go:8", #[⟨2, .data⟩], none⟩,
  ⟨some 13, .fieldAddr 35 (.tmp 3) 0, 0, "ref.go:8", #[⟨3, .guard⟩], some (3, false)⟩,
  ⟨some 14, .load 3 (.tmp 13), 3, "ref.go:8", #[⟨4, .data⟩, ⟨3, .guard⟩], some (3, false)⟩,
  ⟨some 15, .binOp .gtr 3 (.tmp 14) (.const (.int .i64 6)) 3, 4, "ref.go:8", #[⟨5, .data⟩, ⟨3, .guard⟩], some (3, false)⟩,
  ⟨some 16, .pick (.tmp 12) (.const (.bool true)) (.tmp 15), 4, "ref.go:8", #[⟨3, .data⟩, ⟨6, .data⟩], none⟩]
def f20_r1o : Array Oper := f20_r1l.toArray
@[simp] theorem f20_r1_l : f20_r1o.toList = f20_r1l := rfl
attribute [simp] f20_r1l
@[simp] theorem f20_r1_g3 : guardT f20_r1o 3 = some 12 := rfl
def f20_r2l : List Oper := [⟨some 4, .assign (.const (.int .i64 3)), 26, "ref.go:9", #[], none⟩]
def f20_r2o : Array Oper := f20_r2l.toArray
@[simp] theorem f20_r2_l : f20_r2o.toList = f20_r2l := rfl
attribute [simp] f20_r2l
def f20_r3l : List Oper := [⟨some 17, .fieldAddr 35 (.tmp 3) 0, 0, "ref.go:11", #[], none⟩,
  ⟨some 18, .load 3 (.tmp 17), 3, "ref.go:11", #[⟨0, .data⟩], none⟩,
  ⟨some 19, .binOp .neq 3 (.tmp 18) (.const (.int .i64 4)) 3, 4, "ref.go:11", #[⟨1, .data⟩], none⟩,
  ⟨some 20, .move (.tmp 19), 4, "ref.go:11", #[⟨2, .data⟩], none⟩,
  ⟨some 21, .fieldAddr 35 (.tmp 3) 1, 0, "ref.go:11", #[⟨3, .guard⟩], some (3, true)⟩,
  ⟨some 22, .load 32 (.tmp 21), 32, "ref.go:11", #[⟨4, .data⟩, ⟨3, .guard⟩], some (3, true)⟩,
  ⟨some 23, .call ⟨.builtin .len, #[.tmp 22], #[32]⟩, 3, "ref.go:11", #[⟨5, .data⟩, ⟨3, .guard⟩], some (3, true)⟩,
  ⟨some 24, .binOp .gtr 3 (.tmp 23) (.const (.int .i64 0)) 3, 4, "ref.go:11", #[⟨6, .data⟩, ⟨3, .guard⟩], some (3, true)⟩,
  ⟨some 25, .pick (.tmp 20) (.tmp 24) (.const (.bool false)), 4, "ref.go:11", #[⟨3, .data⟩, ⟨7, .data⟩], none⟩,
  ⟨some 26, .move (.tmp 25), 4, "ref.go:11", #[⟨8, .data⟩, ⟨3, .chain⟩], none⟩,
  ⟨some 27, .fieldAddr 35 (.tmp 3) 0, 0, "ref.go:11", #[⟨9, .guard⟩], some (9, false)⟩,
  ⟨some 28, .load 3 (.tmp 27), 3, "ref.go:11", #[⟨10, .data⟩, ⟨9, .guard⟩], some (9, false)⟩,
  ⟨some 29, .binOp .neq 3 (.tmp 28) (.const (.int .i64 5)) 3, 4, "ref.go:11", #[⟨11, .data⟩, ⟨9, .guard⟩], some (9, false)⟩,
  ⟨some 30, .move (.tmp 29), 4, "ref.go:11", #[⟨12, .data⟩, ⟨9, .chain⟩, ⟨9, .guard⟩], some (9, false)⟩,
  ⟨some 31, .fieldAddr 35 (.tmp 3) 2, 0, "ref.go:11", #[⟨13, .guard⟩], some (13, true)⟩,
  ⟨some 32, .load 33 (.tmp 31), 33, "ref.go:11", #[⟨14, .data⟩, ⟨13, .guard⟩], some (13, true)⟩,
  ⟨some 33, .call ⟨.builtin .len, #[.tmp 32], #[33]⟩, 3, "ref.go:11", #[⟨15, .data⟩, ⟨13, .guard⟩], some (13, true)⟩,
  ⟨some 34, .binOp .gtr 3 (.tmp 33) (.const (.int .i64 0)) 3, 4, "ref.go:11", #[⟨16, .data⟩, ⟨13, .guard⟩], some (13, true)⟩,
  ⟨some 35, .move (.tmp 34), 4, "ref.go:11", #[⟨17, .data⟩, ⟨13, .chain⟩, ⟨13, .guard⟩], some (13, true)⟩,
  ⟨some 36, .fieldAddr 35 (.tmp 3) 3, 0, "ref.go:11", #[⟨18, .guard⟩], some (18, false)⟩,
  ⟨some 37, .load 3 (.tmp 36), 3, "ref.go:11", #[⟨19, .data⟩, ⟨18, .guard⟩], some (18, false)⟩,
  ⟨some 38, .binOp .neq 3 (.tmp 37) (.const (.int .i64 0)) 3, 4, "ref.go:11", #[⟨20, .data⟩, ⟨18, .guard⟩], some (18, false)⟩,
  ⟨some 39, .pick (.tmp 35) (.const (.bool true)) (.tmp 38), 4, "ref.go:11", #[⟨18, .data⟩, ⟨21, .data⟩, ⟨13, .guard⟩], some (13, true)⟩,
  ⟨some 40, .pick (.tmp 30) (.tmp 39) (.const (.bool false)), 4, "ref.go:11", #[⟨13, .data⟩, ⟨22, .data⟩, ⟨9, .guard⟩], some (9, false)⟩,
  ⟨some 41, .pick (.tmp 26) (.const (.bool true)) (.tmp 40), 4, "ref.go:11", #[⟨9, .data⟩, ⟨23, .data⟩], none⟩]
def f20_r3o : Array Oper := f20_r3l.toArray
@[simp] theorem f20_r3_l : f20_r3o.toList = f20_r3l := rfl
attribute [simp] f20_r3l
@[simp] theorem f20_r3_g3 : guardT f20_r3o 3 = some 20 := rfl
@[simp] theorem f20_r3_g9 : guardT f20_r3o 9 = some 26 := rfl
@[simp] theorem f20_r3_g13 : guardT f20_r3o 13 = some 30 := rfl
@[simp] theorem f20_r3_g18 : guardT f20_r3o 18 = some 35 := rfl
def f20_r4l : List Oper := [⟨some 4, .assign (.const (.int .i64 4)), 26, "ref.go:12", #[], none⟩]
def f20_r4o : Array Oper := f20_r4l.toArray
@[simp] theorem f20_r4_l : f20_r4o.toList = f20_r4l := rfl
attribute [simp] f20_r4l
def f20_r5l : List Oper := [⟨some 42, .fieldAddr 35 (.tmp 3) 0, 0, "ref.go:14", #[], none⟩,
  ⟨some 43, .load 3 (.tmp 42), 3, "ref.go:14", #[⟨0, .data⟩], none⟩,
  ⟨some 44, .binOp .eql 3 (.tmp 43) (.const (.int .i64 4)) 3, 4, "ref.go:14", #[⟨1, .data⟩], none⟩,
  ⟨some 45, .move (.tmp 44), 4, "ref.go:14", #[⟨2, .data⟩], none⟩,
  ⟨some 46, .fieldAddr 35 (.tmp 3) 1, 0, "ref.go:14", #[⟨3, .guard⟩], some (3, true)⟩,
  ⟨some 47, .load 32 (.tmp 46), 32, "ref.go:14", #[⟨4, .data⟩, ⟨3, .guard⟩], some (3, true)⟩,
  ⟨some 48, .call ⟨.builtin .len, #[.tmp 47], #[32]⟩, 3, "ref.go:14", #[⟨5, .data⟩, ⟨3, .guard⟩], some (3, true)⟩,
  ⟨some 49, .binOp .eql 3 (.tmp 48) (.const (.int .i64 0)) 3, 4, "ref.go:14", #[⟨6, .data⟩, ⟨3, .guard⟩], some (3, true)⟩,
  ⟨some 50, .pick (.tmp 45) (.tmp 49) (.const (.bool false)), 4, "ref.go:14", #[⟨3, .data⟩, ⟨7, .data⟩], none⟩]
def f20_r5o : Array Oper := f20_r5l.toArray
@[simp] theorem f20_r5_l : f20_r5o.toList = f20_r5l := rfl
attribute [simp] f20_r5l
@[simp] theorem f20_r5_g3 : guardT f20_r5o 3 = some 45 := rfl
def f20_r6l : List Oper := [⟨some 4, .assign (.const (.int .i64 7)), 26, "ref.go:15", #[], none⟩]
def f20_r6o : Array Oper := f20_r6l.toArray
@[simp] theorem f20_r6_l : f20_r6o.toList = f20_r6l := rfl
attribute [simp] f20_r6l
def f20_r7l : List Oper := [⟨some 51, .fieldAddr 35 (.tmp 3) 1, 0, "ref.go:17", #[], none⟩,
  ⟨some 52, .load 32 (.tmp 51), 32, "ref.go:17", #[⟨0, .data⟩], none⟩,
  ⟨some 53, .call ⟨.builtin .len, #[.tmp 52], #[32]⟩, 3, "ref.go:17", #[⟨1, .data⟩], none⟩,
  ⟨some 54, .binOp .gtr 3 (.tmp 53) (.const (.int .i64 64)) 3, 4, "ref.go:17", #[⟨2, .data⟩], none⟩,
  ⟨some 55, .move (.tmp 54), 4, "ref.go:17", #[⟨3, .data⟩], none⟩,
  ⟨some 56, .fieldAddr 35 (.tmp 3) 2, 0, "ref.go:17", #[⟨4, .guard⟩], some (4, false)⟩,
  ⟨some 57, .load 33 (.tmp 56), 33, "ref.go:17", #[⟨5, .data⟩, ⟨4, .guard⟩], some (4, false)⟩,
  ⟨some 58, .call ⟨.builtin .len, #[.tmp 57], #[33]⟩, 3, "ref.go:17", #[⟨6, .data⟩, ⟨4, .guard⟩], some (4, false)⟩,
  ⟨some 59, .binOp .gtr 3 (.tmp 58) (.const (.int .i64 32)) 3, 4, "ref.go:17", #[⟨7, .data⟩, ⟨4, .guard⟩], some (4, false)⟩,
  ⟨some 60, .pick (.tmp 55) (.const (.bool true)) (.tmp 59), 4, "ref.go:17", #[⟨4, .data⟩, ⟨8, .data⟩], none⟩]
def f20_r7o : Array Oper := f20_r7l.toArray
@[simp] theorem f20_r7_l : f20_r7o.toList = f20_r7l := rfl
attribute [simp] f20_r7l
@[simp] theorem f20_r7_g4 : guardT f20_r7o 4 = some 55 := rfl
def f20_r8l : List Oper := [⟨some 4, .assign (.const (.int .i64 6)), 26, "ref.go:18", #[], none⟩]
def f20_r8o : Array Oper := f20_r8l.toArray
@[simp] theorem f20_r8_l : f20_r8o.toList = f20_r8l := rfl
attribute [simp] f20_r8l
def f20_r9l : List Oper := [⟨some 61, .fieldAddr 35 (.tmp 3) 3, 0, "ref.go:20", #[], none⟩,
  ⟨some 62, .load 3 (.tmp 61), 3, "ref.go:20", #[⟨0, .data⟩], none⟩,
  ⟨some 63, .binOp .lss 3 (.tmp 62) (.const (.int .i64 0)) 3, 4, "ref.go:20", #[⟨1, .data⟩], none⟩,
  ⟨some 64, .move (.tmp 63), 4, "ref.go:20", #[⟨2, .data⟩], none⟩,
  ⟨some 65, .fieldAddr 35 (.tmp 3) 3, 0, "ref.go:20", #[⟨3, .guard⟩], some (3, false)⟩,
  ⟨some 66, .load 3 (.tmp 65), 3, "ref.go:20", #[⟨4, .data⟩, ⟨3, .guard⟩], some (3, false)⟩,
  ⟨some 67, .binOp .geq 3 (.tmp 66) (.const (.int .i64 8)) 3, 4, "ref.go:20", #[⟨5, .data⟩, ⟨3, .guard⟩], some (3, false)⟩,
  ⟨some 68, .pick (.tmp 64) (.const (.bool true)) (.tmp 67), 4, "ref.go:20", #[⟨3, .data⟩, ⟨6, .data⟩], none⟩]
def f20_r9o : Array Oper := f20_r9l.toArray
@[simp] theorem f20_r9_l : f20_r9o.toList = f20_r9l := rfl
attribute [simp] f20_r9l
@[simp] theorem f20_r9_g3 : guardT f20_r9o 3 = some 64 := rfl
def f20_r10l : List Oper := [⟨some 4, .assign (.const (.int .i64 5)), 26, "ref.go:21", #[], none⟩]
def f20_r10o : Array Oper := f20_r10l.toArray
@[simp] theorem f20_r10_l : f20_r10o.toList = f20_r10l := rfl
attribute [simp] f20_r10l
def f20_r11l : List Oper := [⟨some 5, .assign (.const (.int .i64 0)), 3, "ref.go:23", #[], none⟩]
def f20_r11o : Array Oper := f20_r11l.toArray
@[simp] theorem f20_r11_l : f20_r11o.toList = f20_r11l := rfl
attribute [simp] f20_r11l
def f20_r12l : List Oper := [⟨some 69, .move (.tmp 5), 3, "ref.go:23", #[], none⟩,
  ⟨some 70, .fieldAddr 35 (.tmp 3) 1, 0, "ref.go:23", #[], none⟩,
  ⟨some 71, .load 32 (.tmp 70), 32, "ref.go:23", #[⟨1, .data⟩], none⟩,
  ⟨some 72, .call ⟨.builtin .len, #[.tmp 71], #[32]⟩, 3, "ref.go:23", #[⟨2, .data⟩], none⟩,
  ⟨some 73, .binOp .lss 3 (.tmp 69) (.tmp 72) 3, 4, "ref.go:23", #[⟨0, .data⟩, ⟨3, .data⟩], none⟩]
def f20_r12o : Array Oper := f20_r12l.toArray
@[simp] theorem f20_r12_l : f20_r12o.toList = f20_r12l := rfl
attribute [simp] f20_r12l
def f20_r14l : List Oper := [⟨some 76, .move (.tmp 0), 22, "ref.go:24", #[], none⟩,
  ⟨some 77, .fieldAddr 35 (.tmp 3) 1, 0, "ref.go:24", #[], none⟩,
  ⟨some 78, .load 32 (.tmp 77), 32, "ref.go:24", #[⟨1, .data⟩], none⟩,
  ⟨some 79, .move (.tmp 5), 3, "ref.go:24", #[], none⟩,
  ⟨some 80, .call ⟨.value (.func 40), #[.tmp 76, .tmp 78, .tmp 79], #[22, 32, 3]⟩, 26, "ref.go:24", #[⟨0, .data⟩, ⟨2, .data⟩, ⟨3, .data⟩], none⟩,
  ⟨some 6, .assign (.tmp 80), 26, "ref.go:24", #[⟨4, .data⟩, ⟨4, .chain⟩, ⟨0, .phase⟩, ⟨1, .phase⟩, ⟨2, .phase⟩, ⟨3, .phase⟩, ⟨4, .phase⟩], none⟩]
def f20_r14o : Array Oper := f20_r14l.toArray
@[simp] theorem f20_r14_l : f20_r14o.toList = f20_r14l := rfl
attribute [simp] f20_r14l
def f20_r15l : List Oper := [⟨some 81, .move (.tmp 6), 26, "ref.go:24", #[], none⟩,
  ⟨some 82, .binOp .neq 26 (.tmp 81) (.const (.int .i64 0)) 26, 4, "ref.go:24", #[⟨0, .data⟩], none⟩]
def f20_r15o : Array Oper := f20_r15l.toArray
@[simp] theorem f20_r15_l : f20_r15o.toList = f20_r15l := rfl
attribute [simp] f20_r15l
def f20_r16l : List Oper := [⟨some 83, .move (.tmp 6), 26, "ref.go:25", #[], none⟩,
  ⟨some 4, .assign (.tmp 83), 26, "ref.go:25", #[⟨0, .data⟩, ⟨0, .phase⟩], none⟩]
def f20_r16o : Array Oper := f20_r16l.toArray
@[simp] theorem f20_r16_l : f20_r16o.toList = f20_r16l := rfl
attribute [simp] f20_r16l
def f20_r13l : List Oper := [⟨some 74, .move (.tmp 5), 3, "ref.go:23", #[], none⟩,
  ⟨some 75, .binOp .add 3 (.tmp 74) (.const (.int .i64 1)) 3, 3, "ref.go:23", #[⟨0, .data⟩], none⟩,
  ⟨some 5, .assign (.tmp 75), 3, "ref.go:23", #[⟨1, .data⟩, ⟨0, .phase⟩, ⟨1, .phase⟩], none⟩]
def f20_r13o : Array Oper := f20_r13l.toArray
@[simp] theorem f20_r13_l : f20_r13o.toList = f20_r13l := rfl
attribute [simp] f20_r13l
def f20_l0 : AC :=
  (.seq (.seq (.reg 12 f20_r12o [0, 3, 5, 73, 100, 101, 102, 103, 104, 107, 108, 109, 112, 113, 114, 115, 116, 126, 127, 128, 129, 130, 131, 132]) (.cond (.tmp 73) .skip (.exit 0))) (.seq (.block 1 (.seq (.reg 14 f20_r14o [0, 3, 5, 6, 100, 101, 102, 103, 104, 107, 108, 109, 112, 113, 114, 115, 116, 126, 127, 128, 129, 130, 131, 132]) (.seq (.reg 15 f20_r15o [0, 3, 5, 6, 82, 100, 101, 102, 103, 104, 107, 108, 109, 112, 113, 114, 115, 116, 126, 127, 128, 129, 130, 131, 132]) (.cond (.tmp 82) (.seq (.reg 16 f20_r16o [4]) .ret) .skip)))) (.reg 13 f20_r13o [0, 3, 5, 100, 101, 102, 103, 104, 107, 108, 109, 112, 113, 114, 115, 116, 126, 127, 128, 129, 130, 131, 132])))
theorem f20_l0_fits : f20_l0.fits 134 = true := by kernel_rfl
def f20_r17l : List Oper := [⟨some 7, .assign (.const (.int .i64 0)), 3, "ref.go:28", #[], none⟩]
def f20_r17o : Array Oper := f20_r17l.toArray
@[simp] theorem f20_r17_l : f20_r17o.toList = f20_r17l := rfl
attribute [simp] f20_r17l
def f20_r18l : List Oper := [⟨some 84, .move (.tmp 7), 3, "ref.go:28", #[], none⟩,
  ⟨some 85, .fieldAddr 35 (.tmp 3) 2, 0, "ref.go:28", #[], none⟩,
  ⟨some 86, .load 33 (.tmp 85), 33, "ref.go:28", #[⟨1, .data⟩], none⟩,
  ⟨some 87, .call ⟨.builtin .len, #[.tmp 86], #[33]⟩, 3, "ref.go:28", #[⟨2, .data⟩], none⟩,
  ⟨some 88, .binOp .lss 3 (.tmp 84) (.tmp 87) 3, 4, "ref.go:28", #[⟨0, .data⟩, ⟨3, .data⟩], none⟩]
def f20_r18o : Array Oper := f20_r18l.toArray
@[simp] theorem f20_r18_l : f20_r18o.toList = f20_r18l := rfl
attribute [simp] f20_r18l
def f20_r20l : List Oper := [⟨some 91, .fieldAddr 35 (.tmp 3) 2, 0, "ref.go:29", #[], none⟩,
  ⟨some 92, .load 33 (.tmp 91), 33, "ref.go:29", #[⟨0, .data⟩], none⟩,
  ⟨some 93, .move (.tmp 7), 3, "ref.go:29", #[], none⟩,
  ⟨some 94, .indexAddr 33 (.tmp 92) (.tmp 93), 0, "ref.go:29", #[⟨1, .data⟩, ⟨2, .data⟩], none⟩,
  ⟨some 95, .load 70 (.tmp 94), 70, "ref.go:29", #[⟨3, .data⟩], none⟩,
  ⟨some 8, .alloc 70, 0, "ref.go:29", #[], none⟩,
  ⟨none, .store 70 (.tmp 8) (.tmp 95), 0, "ref.go:29", #[⟨5, .data⟩, ⟨4, .data⟩, ⟨0, .phase⟩, ⟨1, .phase⟩, ⟨2, .phase⟩, ⟨3, .phase⟩, ⟨4, .phase⟩, ⟨5, .phase⟩], none⟩]
def f20_r20o : Array Oper := f20_r20l.toArray
@[simp] theorem f20_r20_l : f20_r20o.toList = f20_r20l := rfl
attribute [simp] f20_r20l
def f20_r21l : List Oper := [⟨some 96, .fieldAddr 70 (.tmp 8) 0, 0, "ref.go:30", #[], none⟩,
  ⟨some 97, .load 3 (.tmp 96), 3, "ref.go:30", #[⟨0, .data⟩], none⟩,
  ⟨some 98, .binOp .lss 3 (.tmp 97) (.const (.int .i64 0)) 3, 4, "ref.go:30", #[⟨1, .data⟩], none⟩,
  ⟨some 99, .move (.tmp 98), 4, "ref.go:30", #[⟨2, .data⟩], none⟩,
  ⟨some 100, .fieldAddr 70 (.tmp 8) 0, 0, "ref.go:30", #[⟨3, .guard⟩], some (3, false)⟩,
  ⟨some 101, .load 3 (.tmp 100), 3, "ref.go:30", #[⟨4, .data⟩, ⟨3, .guard⟩], some (3, false)⟩,
  ⟨some 102, .move (.tmp 0), 22, "ref.go:30", #[⟨3, .guard⟩], some (3, false)⟩,
  ⟨some 103, .call ⟨.builtin .len, #[.tmp 102], #[22]⟩, 3, "ref.go:30", #[⟨6, .data⟩, ⟨3, .guard⟩], some (3, false)⟩,
  ⟨some 104, .binOp .geq 3 (.tmp 101) (.tmp 103) 3, 4, "ref.go:30", #[⟨5, .data⟩, ⟨7, .data⟩, ⟨3, .guard⟩], some (3, false)⟩,
  ⟨some 105, .pick (.tmp 99) (.const (.bool true)) (.tmp 104), 4, "ref.go:30", #[⟨3, .data⟩, ⟨8, .data⟩], none⟩,
  ⟨some 106, .move (.tmp 105), 4, "ref.go:30", #[⟨9, .data⟩, ⟨3, .chain⟩], none⟩,
  ⟨some 107, .fieldAddr 70 (.tmp 8) 1, 0, "ref.go:30", #[⟨10, .guard⟩], some (10, false)⟩,
  ⟨some 108, .load 3 (.tmp 107), 3, "ref.go:30", #[⟨11, .data⟩, ⟨10, .guard⟩], some (10, false)⟩,
  ⟨some 109, .binOp .lss 3 (.tmp 108) (.const (.int .i64 0)) 3, 4, "ref.go:30", #[⟨12, .data⟩, ⟨10, .guard⟩], some (10, false)⟩,
  ⟨some 110, .pick (.tmp 106) (.const (.bool true)) (.tmp 109), 4, "ref.go:30", #[⟨10, .data⟩, ⟨13, .data⟩], none⟩,
  ⟨some 111, .move (.tmp 110), 4, "ref.go:30", #[⟨14, .data⟩, ⟨10, .chain⟩], none⟩,
  ⟨some 112, .fieldAddr 70 (.tmp 8) 1, 0, "ref.go:30", #[⟨15, .guard⟩], some (15, false)⟩,
  ⟨some 113, .load 3 (.tmp 112), 3, "ref.go:30", #[⟨16, .data⟩, ⟨15, .guard⟩], some (15, false)⟩,
  ⟨some 114, .move (.tmp 0), 22, "ref.go:30", #[⟨15, .guard⟩], some (15, false)⟩,
  ⟨some 115, .call ⟨.builtin .len, #[.tmp 114], #[22]⟩, 3, "ref.go:30", #[⟨18, .data⟩, ⟨15, .guard⟩], some (15, false)⟩,
  ⟨some 116, .binOp .geq 3 (.tmp 113) (.tmp 115) 3, 4, "ref.go:30", #[⟨17, .data⟩, ⟨19, .data⟩, ⟨15, .guard⟩], some (15, false)⟩,
  ⟨some 117, .pick (.tmp 111) (.const (.bool true)) (.tmp 116), 4, "ref.go:30", #[⟨15, .data⟩, ⟨20, .data⟩], none⟩]
def f20_r21o : Array Oper := f20_r21l.toArray
@[simp] theorem f20_r21_l : f20_r21o.toList = f20_r21l := rfl
attribute [simp] f20_r21l
@[simp] theorem f20_r21_g3 : guardT f20_r21o 3 = some 99 := rfl
@[simp] theorem f20_r21_g10 : guardT f20_r21o 10 = some 106 := rfl
@[simp] theorem f20_r21_g15 : guardT f20_r21o 15 = some 111 := rfl
def f20_r22l : List Oper := [⟨some 4, .assign (.const (.int .i64 5)), 26, "ref.go:31", #[], none⟩]
def f20_r22o : Array Oper := f20_r22l.toArray
@[simp] theorem f20_r22_l : f20_r22o.toList = f20_r22l := rfl
attribute [simp] f20_r22l
def f20_r23l : List Oper := [⟨some 118, .move (.tmp 0), 22, "ref.go:33", #[], none⟩,
  ⟨some 119, .fieldAddr 70 (.tmp 8) 0, 0, "ref.go:33", #[], none⟩,
  ⟨some 120, .load 3 (.tmp 119), 3, "ref.go:33", #[⟨1, .data⟩], none⟩,
  ⟨some 121, .indexAddr 22 (.tmp 118) (.tmp 120), 0, "ref.go:33", #[⟨0, .data⟩, ⟨2, .data⟩], none⟩,
  ⟨some 122, .fieldAddr 35 (.tmp 121) 0, 0, "ref.go:33", #[⟨3, .data⟩], none⟩,
  ⟨some 123, .load 3 (.tmp 122), 3, "ref.go:33", #[⟨4, .data⟩], none⟩,
  ⟨some 124, .binOp .eql 3 (.tmp 123) (.const (.int .i64 6)) 3, 4, "ref.go:33", #[⟨5, .data⟩], none⟩,
  ⟨some 125, .move (.tmp 124), 4, "ref.go:33", #[⟨6, .data⟩], none⟩,
  ⟨some 126, .move (.tmp 0), 22, "ref.go:33", #[⟨7, .guard⟩], some (7, false)⟩,
  ⟨some 127, .fieldAddr 70 (.tmp 8) 0, 0, "ref.go:33", #[⟨7, .guard⟩], some (7, false)⟩,
  ⟨some 128, .load 3 (.tmp 127), 3, "ref.go:33", #[⟨9, .data⟩, ⟨7, .guard⟩], some (7, false)⟩,
  ⟨some 129, .indexAddr 22 (.tmp 126) (.tmp 128), 0, "ref.go:33", #[⟨8, .data⟩, ⟨10, .data⟩, ⟨7, .guard⟩], some (7, false)⟩,
  ⟨some 130, .fieldAddr 35 (.tmp 129) 0, 0, "ref.go:33", #[⟨11, .data⟩, ⟨7, .guard⟩], some (7, false)⟩,
  ⟨some 131, .load 3 (.tmp 130), 3, "ref.go:33", #[⟨12, .data⟩, ⟨7, .guard⟩], some (7, false)⟩,
  ⟨some 132, .binOp .eql 3 (.tmp 131) (.const (.int .i64 3)) 3, 4, "ref.go:33", #[⟨13, .data⟩, ⟨7, .guard⟩], some (7, false)⟩,
  ⟨some 133, .pick (.tmp 125) (.const (.bool true)) (.tmp 132), 4, "ref.go:33", #[⟨7, .data⟩, ⟨14, .data⟩], none⟩]
def f20_r23o : Array Oper := f20_r23l.toArray
@[simp] theorem f20_r23_l : f20_r23o.toList = f20_r23l := rfl
attribute [simp] f20_r23l
@[simp] theorem f20_r23_g7 : guardT f20_r23o 7 = some 125 := rfl
def f20_r24l : List Oper := [⟨some 4, .assign (.const (.int .i64 18)), 26, "ref.go:34", #[], none⟩]
def f20_r24o : Array Oper := f20_r24l.toArray
@[simp] theorem f20_r24_l : f20_r24o.toList = f20_r24l := rfl
attribute [simp] f20_r24l
def f20_r19l : List Oper := [⟨some 89, .move (.tmp 7), 3, "ref.go:28", #[], none⟩,
  ⟨some 90, .binOp .add 3 (.tmp 89) (.const (.int .i64 1)) 3, 3, "ref.go:28", #[⟨0, .data⟩], none⟩,
  ⟨some 7, .assign (.tmp 90), 3, "ref.go:28", #[⟨1, .data⟩, ⟨0, .phase⟩, ⟨1, .phase⟩], none⟩]
def f20_r19o : Array Oper := f20_r19l.toArray
@[simp] theorem f20_r19_l : f20_r19o.toList = f20_r19l := rfl
attribute [simp] f20_r19l
def f20_l1 : AC :=
  (.seq (.seq (.reg 18 f20_r18o [0, 3, 7, 88, 100, 101, 102, 103, 104, 107, 108, 109, 112, 113, 114, 115, 116, 126, 127, 128, 129, 130, 131, 132]) (.cond (.tmp 88) .skip (.exit 2))) (.seq (.block 3 (.seq (.reg 20 f20_r20o [0, 3, 7, 8, 100, 101, 102, 103, 104, 107, 108, 109, 112, 113, 114, 115, 116, 126, 127, 128, 129, 130, 131, 132]) (.seq (.seq (.reg 21 f20_r21o [0, 3, 7, 8, 100, 101, 102, 103, 104, 107, 108, 109, 112, 113, 114, 115, 116, 117, 126, 127, 128, 129, 130, 131, 132]) (.cond (.tmp 117) (.seq (.reg 22 f20_r22o [4]) .ret) .skip)) (.seq (.reg 23 f20_r23o [0, 3, 7, 100, 101, 102, 103, 104, 107, 108, 109, 112, 113, 114, 115, 116, 126, 127, 128, 129, 130, 131, 132, 133]) (.cond (.tmp 133) (.seq (.reg 24 f20_r24o [4]) .ret) .skip))))) (.reg 19 f20_r19o [0, 3, 7, 100, 101, 102, 103, 104, 107, 108, 109, 112, 113, 114, 115, 116, 126, 127, 128, 129, 130, 131, 132])))
theorem f20_l1_fits : f20_l1.fits 134 = true := by kernel_rfl
def f20_r25l : List Oper := [⟨some 4, .assign (.const (.int .i64 0)), 26, "ref.go:37", #[], none⟩]
def f20_r25o : Array Oper := f20_r25l.toArray
@[simp] theorem f20_r25_l : f20_r25o.toList = f20_r25l := rfl
attribute [simp] f20_r25l
def f20_ac : AC :=
  (.seq (.reg 0 f20_r0o [0, 3, 13, 14, 15, 21, 22, 23, 24, 27, 28, 29, 30, 31, 32, 33, 34, 35, 36, 37, 38, 39, 40, 46, 47, 48, 49, 56, 57, 58, 59, 65, 66, 67, 100, 101, 102, 103, 104, 107, 108, 109, 112, 113, 114, 115, 116, 126, 127, 128, 129, 130, 131, 132]) (.seq (.seq (.reg 1 f20_r1o [0, 3, 16, 21, 22, 23, 24, 27, 28, 29, 30, 31, 32, 33, 34, 35, 36, 37, 38, 39, 40, 46, 47, 48, 49, 56, 57, 58, 59, 65, 66, 67, 100, 101, 102, 103, 104, 107, 108, 109, 112, 113, 114, 115, 116, 126, 127, 128, 129, 130, 131, 132]) (.cond (.tmp 16) (.seq (.reg 2 f20_r2o [4]) .ret) .skip)) (.seq (.seq (.reg 3 f20_r3o [0, 3, 41, 46, 47, 48, 49, 56, 57, 58, 59, 65, 66, 67, 100, 101, 102, 103, 104, 107, 108, 109, 112, 113, 114, 115, 116, 126, 127, 128, 129, 130, 131, 132]) (.cond (.tmp 41) (.seq (.reg 4 f20_r4o [4]) .ret) .skip)) (.seq (.seq (.reg 5 f20_r5o [0, 3, 50, 56, 57, 58, 59, 65, 66, 67, 100, 101, 102, 103, 104, 107, 108, 109, 112, 113, 114, 115, 116, 126, 127, 128, 129, 130, 131, 132]) (.cond (.tmp 50) (.seq (.reg 6 f20_r6o [4]) .ret) .skip)) (.seq (.seq (.reg 7 f20_r7o [0, 3, 60, 65, 66, 67, 100, 101, 102, 103, 104, 107, 108, 109, 112, 113, 114, 115, 116, 126, 127, 128, 129, 130, 131, 132]) (.cond (.tmp 60) (.seq (.reg 8 f20_r8o [4]) .ret) .skip)) (.seq (.seq (.reg 9 f20_r9o [0, 3, 68, 100, 101, 102, 103, 104, 107, 108, 109, 112, 113, 114, 115, 116, 126, 127, 128, 129, 130, 131, 132]) (.cond (.tmp 68) (.seq (.reg 10 f20_r10o [4]) .ret) .skip)) (.seq (.seq (.reg 11 f20_r11o [0, 3, 5, 100, 101, 102, 103, 104, 107, 108, 109, 112, 113, 114, 115, 116, 126, 127, 128, 129, 130, 131, 132]) (.block 0 (.loop f20_l0))) (.seq (.seq (.reg 17 f20_r17o [0, 3, 7, 100, 101, 102, 103, 104, 107, 108, 109, 112, 113, 114, 115, 116, 126, 127, 128, 129, 130, 131, 132]) (.block 2 (.loop f20_l1))) (.seq (.reg 25 f20_r25o [4]) .ret)))))))))
theorem f20_eq : Tryd.f20.body = some f20_ac.code := rfl
@[simp] theorem f20_nt : Tryd.f20.ntmps = 134 := rfl
theorem f20_fits : f20_ac.fits Tryd.f20.ntmps = true := by kernel_rfl
@[simp] theorem f20_res : Tryd.f20.results.toList = [.tmp 4] := rfl
@[simp] theorem f20_isb : Tryd.f20.body.isNone = false := rfl
/- F21 cinnabar/cinnabarref16.circle -/
def f21_r0l : List Oper := [⟨some 6, .assign (.const (.bool false)), 4, "ref.go:69", #[], none⟩]
def f21_r0o : Array Oper := f21_r0l.toArray
@[simp] theorem f21_r0_l : f21_r0o.toList = f21_r0l := rfl
attribute [simp] f21_r0l
def f21_r1l : List Oper := [⟨some 8, .move (.tmp 2), 37, "ref.go:70", #[], none⟩,
  ⟨some 9, .move (.tmp 1), 3, "ref.go:70", #[], none⟩,
  ⟨some 10, .indexAddr 37 (.tmp 8) (.tmp 9), 0, "ref.go:70", #[⟨0, .data⟩, ⟨1, .data⟩], none⟩,
  ⟨some 11, .load 3 (.tmp 10), 3, "ref.go:70", #[⟨2, .data⟩], none⟩,
  ⟨some 12, .binOp .gtr 3 (.tmp 11) (.const (.int .i64 0)) 3, 4, "ref.go:70", #[⟨3, .data⟩], none⟩]
def f21_r1o : Array Oper := f21_r1l.toArray
@[simp] theorem f21_r1_l : f21_r1o.toList = f21_r1l := rfl
attribute [simp] f21_r1l
def f21_r2l : List Oper := [⟨some 13, .move (.tmp 2), 37, "ref.go:71", #[], none⟩,
  ⟨some 14, .move (.tmp 1), 3, "ref.go:71", #[], none⟩,
  ⟨some 15, .indexAddr 37 (.tmp 13) (.tmp 14), 0, "ref.go:71", #[⟨0, .data⟩, ⟨1, .data⟩], none⟩,
  ⟨some 16, .load 3 (.tmp 15), 3, "ref.go:71", #[⟨2, .data⟩], none⟩,
  ⟨some 17, .binOp .eql 3 (.tmp 16) (.const (.int .i64 1)) 3, 4, "ref.go:71", #[⟨3, .data⟩], none⟩,
  ⟨some 6, .assign (.tmp 17), 4, "ref.go:71", #[⟨4, .data⟩, ⟨0, .phase⟩, ⟨1, .phase⟩, ⟨2, .phase⟩, ⟨3, .phase⟩, ⟨4, .phase⟩], none⟩]
def f21_r2o : Array Oper := f21_r2l.toArray
@[simp] theorem f21_r2_l : f21_r2o.toList = f21_r2l := rfl
attribute [simp] f21_r2l
def f21_r3l : List Oper := [⟨some 18, .move (.tmp 0), 22, "ref.go:73", #[], none⟩,
  ⟨some 19, .move (.tmp 1), 3, "ref.go:73", #[], none⟩,
  ⟨some 20, .indexAddr 22 (.tmp 18) (.tmp 19), 0, "ref.go:73", #[⟨0, .data⟩, ⟨1, .data⟩], none⟩,
  ⟨some 21, .fieldAddr 35 (.tmp 20) 0, 0, "ref.go:73", #[⟨2, .data⟩], none⟩,
  ⟨some 22, .load 3 (.tmp 21), 3, "ref.go:73", #[⟨3, .data⟩], none⟩,
  ⟨some 23, .binOp .neq 3 (.tmp 22) (.const (.int .i64 5)) 3, 4, "ref.go:73", #[⟨4, .data⟩], none⟩]
def f21_r3o : Array Oper := f21_r3l.toArray
@[simp] theorem f21_r3_l : f21_r3o.toList = f21_r3l := rfl
attribute [simp] f21_r3l
def f21_r4l : List Oper := [⟨some 6, .assign (.const (.bool false)), 4, "ref.go:74", #[], none⟩]
def f21_r4o : Array Oper := f21_r4l.toArray
@[simp] theorem f21_r4_l : f21_r4o.toList = f21_r4l := rfl
attribute [simp] f21_r4l
def f21_r5l : List Oper := [⟨some 24, .move (.tmp 2), 37, "ref.go:76", #[], none⟩,
  ⟨some 25, .move (.tmp 1), 3, "ref.go:76", #[], none⟩,
  ⟨some 26, .indexAddr 37 (.tmp 24) (.tmp 25), 0, "ref.go:76", #[⟨0, .data⟩, ⟨1, .data⟩, ⟨0, .phase⟩, ⟨1, .phase⟩], none⟩,
  ⟨none, .store 3 (.tmp 26) (.const (.int .i64 1)), 0, "ref.go:76", #[⟨2, .data⟩, ⟨0, .phase⟩, ⟨1, .phase⟩], none⟩]
def f21_r5o : Array Oper := f21_r5l.toArray
@[simp] theorem f21_r5_l : f21_r5o.toList = f21_r5l := rfl
attribute [simp] f21_r5l
def f21_r6l : List Oper := [⟨some 7, .assign (.const (.int .i64 0)), 3, "ref.go:77", #[], none⟩]
def f21_r6o : Array Oper := f21_r6l.toArray
@[simp] theorem f21_r6_l : f21_r6o.toList = f21_r6l := rfl
attribute [simp] f21_r6l
def f21_r7l : List Oper := [⟨some 27, .move (.tmp 7), 3, "ref.go:77", #[], none⟩,
  ⟨some 28, .move (.tmp 0), 22, "ref.go:77", #[], none⟩,
  ⟨some 29, .move (.tmp 1), 3, "ref.go:77", #[], none⟩,
  ⟨some 30, .indexAddr 22 (.tmp 28) (.tmp 29), 0, "ref.go:77", #[⟨1, .data⟩, ⟨2, .data⟩], none⟩,
  ⟨some 31, .fieldAddr 35 (.tmp 30) 2, 0, "ref.go:77", #[⟨3, .data⟩], none⟩,
  ⟨some 32, .load 33 (.tmp 31), 33, "ref.go:77", #[⟨4, .data⟩], none⟩,
  ⟨some 33, .call ⟨.builtin .len, #[.tmp 32], #[33]⟩, 3, "ref.go:77", #[⟨5, .data⟩], none⟩,
  ⟨some 34, .binOp .lss 3 (.tmp 27) (.tmp 33) 3, 4, "ref.go:77", #[⟨0, .data⟩, ⟨6, .data⟩], none⟩]
def f21_r7o : Array Oper := f21_r7l.toArray
@[simp] theorem f21_r7_l : f21_r7o.toList = f21_r7l := rfl
attribute [simp] f21_r7l
def f21_r9l : List Oper := [⟨some 37, .move (.tmp 0), 22, "ref.go:78", #[], none⟩,
  ⟨some 38, .move (.tmp 0), 22, "ref.go:78", #[], none⟩,
  ⟨some 39, .move (.tmp 1), 3, "ref.go:78", #[], none⟩,
  ⟨some 40, .indexAddr 22 (.tmp 38) (.tmp 39), 0, "ref.go:78", #[⟨1, .data⟩, ⟨2, .data⟩], none⟩,
  ⟨some 41, .fieldAddr 35 (.tmp 40) 2, 0, "ref.go:78", #[⟨3, .data⟩], none⟩,
  ⟨some 42, .load 33 (.tmp 41), 33, "ref.go:78", #[⟨4, .data⟩], none⟩,
  ⟨some 43, .move (.tmp 7), 3, "ref.go:78", #[], none⟩,
  ⟨some 44, .indexAddr 33 (.tmp 42) (.tmp 43), 0, "ref.go:78", #[⟨5, .data⟩, ⟨6, .data⟩], none⟩,
  ⟨some 45, .fieldAddr 70 (.tmp 44) 0, 0, "ref.go:78", #[⟨7, .data⟩], none⟩,
  ⟨some 46, .load 3 (.tmp 45), 3, "ref.go:78", #[⟨8, .data⟩], none⟩,
  ⟨some 47, .move (.tmp 2), 37, "ref.go:78", #[], none⟩,
  ⟨some 48, .call ⟨.value (.func 21), #[.tmp 37, .tmp 46, .tmp 47], #[22, 3, 37]⟩, 4, "ref.go:78", #[⟨0, .data⟩, ⟨9, .data⟩, ⟨10, .data⟩], none⟩,
  ⟨some 49, .move (.tmp 48), 4, "ref.go:78", #[⟨11, .data⟩, ⟨11, .chain⟩], none⟩,
  ⟨some 50, .move (.tmp 0), 22, "ref.go:78", #[⟨12, .guard⟩], some (12, false)⟩,
  ⟨some 51, .move (.tmp 0), 22, "ref.go:78", #[⟨12, .guard⟩], some (12, false)⟩,
  ⟨some 52, .move (.tmp 1), 3, "ref.go:78", #[⟨12, .guard⟩], some (12, false)⟩,
  ⟨some 53, .indexAddr 22 (.tmp 51) (.tmp 52), 0, "ref.go:78", #[⟨14, .data⟩, ⟨15, .data⟩, ⟨12, .guard⟩], some (12, false)⟩,
  ⟨some 54, .fieldAddr 35 (.tmp 53) 2, 0, "ref.go:78", #[⟨16, .data⟩, ⟨12, .guard⟩], some (12, false)⟩,
  ⟨some 55, .load 33 (.tmp 54), 33, "ref.go:78", #[⟨17, .data⟩, ⟨12, .guard⟩], some (12, false)⟩,
  ⟨some 56, .move (.tmp 7), 3, "ref.go:78", #[⟨12, .guard⟩], some (12, false)⟩,
  ⟨some 57, .indexAddr 33 (.tmp 55) (.tmp 56), 0, "ref.go:78", #[⟨18, .data⟩, ⟨19, .data⟩, ⟨12, .guard⟩], some (12, false)⟩,
  ⟨some 58, .fieldAddr 70 (.tmp 57) 1, 0, "ref.go:78", #[⟨20, .data⟩, ⟨12, .guard⟩], some (12, false)⟩,
  ⟨some 59, .load 3 (.tmp 58), 3, "ref.go:78", #[⟨21, .data⟩, ⟨12, .guard⟩], some (12, false)⟩,
  ⟨some 60, .move (.tmp 2), 37, "ref.go:78", #[⟨12, .guard⟩], some (12, false)⟩,
  ⟨some 61, .call ⟨.value (.func 21), #[.tmp 50, .tmp 59, .tmp 60], #[22, 3, 37]⟩, 4, "ref.go:78", #[⟨13, .data⟩, ⟨22, .data⟩, ⟨23, .data⟩, ⟨12, .chain⟩, ⟨12, .guard⟩], some (12, false)⟩,
  ⟨some 62, .pick (.tmp 49) (.const (.bool true)) (.tmp 61), 4, "ref.go:78", #[⟨12, .data⟩, ⟨24, .data⟩], none⟩]
def f21_r9o : Array Oper := f21_r9l.toArray
@[simp] theorem f21_r9_l : f21_r9o.toList = f21_r9l := rfl
attribute [simp] f21_r9l
@[simp] theorem f21_r9_g12 : guardT f21_r9o 12 = some 49 := rfl
def f21_r10l : List Oper := [⟨some 6, .assign (.const (.bool true)), 4, "ref.go:79", #[], none⟩]
def f21_r10o : Array Oper := f21_r10l.toArray
@[simp] theorem f21_r10_l : f21_r10o.toList = f21_r10l := rfl
attribute [simp] f21_r10l
def f21_r8l : List Oper := [⟨some 35, .move (.tmp 7), 3, "ref.go:77", #[], none⟩,
  ⟨some 36, .binOp .add 3 (.tmp 35) (.const (.int .i64 1)) 3, 3, "ref.go:77", #[⟨0, .data⟩], none⟩,
  ⟨some 7, .assign (.tmp 36), 3, "ref.go:77", #[⟨1, .data⟩, ⟨0, .phase⟩, ⟨1, .phase⟩], none⟩]
def f21_r8o : Array Oper := f21_r8l.toArray
@[simp] theorem f21_r8_l : f21_r8o.toList = f21_r8l := rfl
attribute [simp] f21_r8l
def f21_l0 : AC :=
  (.seq (.seq (.reg 7 f21_r7o [0, 1, 2, 7, 34, 50, 51, 52, 53, 54, 55, 56, 57, 58, 59, 60, 61]) (.cond (.tmp 34) .skip (.exit 0))) (.seq (.block 1 (.seq (.reg 9 f21_r9o [0, 1, 2, 7, 50, 51, 52, 53, 54, 55, 56, 57, 58, 59, 60, 61, 62]) (.cond (.tmp 62) (.seq (.reg 10 f21_r10o [6]) .ret) .skip))) (.reg 8 f21_r8o [0, 1, 2, 7, 50, 51, 52, 53, 54, 55, 56, 57, 58, 59, 60, 61])))
theorem f21_l0_fits : f21_l0.fits 66 = true := by kernel_rfl
def f21_r11l : List Oper := [⟨some 63, .move (.tmp 2), 37, "ref.go:82", #[], none⟩,
  ⟨some 64, .move (.tmp 1), 3, "ref.go:82", #[], none⟩,
  ⟨some 65, .indexAddr 37 (.tmp 63) (.tmp 64), 0, "ref.go:82", #[⟨0, .data⟩, ⟨1, .data⟩, ⟨0, .phase⟩, ⟨1, .phase⟩], none⟩,
  ⟨none, .store 3 (.tmp 65) (.const (.int .i64 2)), 0, "ref.go:82", #[⟨2, .data⟩, ⟨0, .phase⟩, ⟨1, .phase⟩], none⟩]
def f21_r11o : Array Oper := f21_r11l.toArray
@[simp] theorem f21_r11_l : f21_r11o.toList = f21_r11l := rfl
attribute [simp] f21_r11l
def f21_r12l : List Oper := [⟨some 6, .assign (.const (.bool false)), 4, "ref.go:83", #[], none⟩]
def f21_r12o : Array Oper := f21_r12l.toArray
@[simp] theorem f21_r12_l : f21_r12o.toList = f21_r12l := rfl
attribute [simp] f21_r12l
def f21_ac : AC :=
  (.seq (.reg 0 f21_r0o [0, 1, 2, 50, 51, 52, 53, 54, 55, 56, 57, 58, 59, 60, 61]) (.seq (.seq (.reg 1 f21_r1o [0, 1, 2, 12, 50, 51, 52, 53, 54, 55, 56, 57, 58, 59, 60, 61]) (.cond (.tmp 12) (.seq (.reg 2 f21_r2o [6]) .ret) .skip)) (.seq (.seq (.reg 3 f21_r3o [0, 1, 2, 23, 50, 51, 52, 53, 54, 55, 56, 57, 58, 59, 60, 61]) (.cond (.tmp 23) (.seq (.reg 4 f21_r4o [6]) .ret) .skip)) (.seq (.reg 5 f21_r5o [0, 1, 2, 50, 51, 52, 53, 54, 55, 56, 57, 58, 59, 60, 61]) (.seq (.seq (.reg 6 f21_r6o [0, 1, 2, 7, 50, 51, 52, 53, 54, 55, 56, 57, 58, 59, 60, 61]) (.block 0 (.loop f21_l0))) (.seq (.reg 11 f21_r11o []) (.seq (.reg 12 f21_r12o [6]) .ret)))))))
theorem f21_eq : Tryd.f21.body = some f21_ac.code := rfl
@[simp] theorem f21_nt : Tryd.f21.ntmps = 66 := rfl
theorem f21_fits : f21_ac.fits Tryd.f21.ntmps = true := by kernel_rfl
@[simp] theorem f21_res : Tryd.f21.results.toList = [.tmp 6] := rfl
@[simp] theorem f21_isb : Tryd.f21.body.isNone = false := rfl
/- F22 slices.IndexFunc[[]cinnabar/api.Inst,cinnabar/api.Inst] -/
def f22_r0l : List Oper := [⟨some 4, .assign (.const (.int .i64 0)), 3, "slices.go:107", #[], none⟩]
def f22_r0o : Array Oper := f22_r0l.toArray
@[simp] theorem f22_r0_l : f22_r0o.toList = f22_r0l := rfl
attribute [simp] f22_r0l
def f22_r1l : List Oper := [⟨some 6, .move (.tmp 0), 22, "slices.go:108", #[], none⟩,
  ⟨some 7, .call ⟨.builtin .len, #[.tmp 6], #[22]⟩, 3, "slices.go:108", #[⟨0, .data⟩], none⟩,
  ⟨some 8, .move (.const (.int .i64 0)), 3, "slices.go:108", #[], none⟩]
def f22_r1o : Array Oper := f22_r1l.toArray
@[simp] theorem f22_r1_l : f22_r1o.toList = f22_r1l := rfl
attribute [simp] f22_r1l
def f22_r2l : List Oper := [⟨some 9, .binOp .lss 3 (.tmp 8) (.tmp 7) 3, 0, "slices.go:108", #[], none⟩]
def f22_r2o : Array Oper := f22_r2l.toArray
@[simp] theorem f22_r2_l : f22_r2o.toList = f22_r2l := rfl
attribute [simp] f22_r2l
def f22_r3l : List Oper := [⟨some 10, .move (.tmp 8), 3, "slices.go:108", #[], none⟩,
  ⟨some 5, .assign (.tmp 10), 3, "slices.go:108", #[⟨0, .data⟩, ⟨0, .phase⟩], none⟩]
def f22_r3o : Array Oper := f22_r3l.toArray
@[simp] theorem f22_r3_l : f22_r3o.toList = f22_r3l := rfl
attribute [simp] f22_r3l
def f22_r4l : List Oper := [⟨some 11, .move (.tmp 1), 36, "slices.go:109", #[], none⟩,
  ⟨some 12, .move (.tmp 0), 22, "slices.go:109", #[], none⟩,
  ⟨some 13, .move (.tmp 5), 3, "slices.go:109", #[], none⟩,
  ⟨some 14, .indexAddr 22 (.tmp 12) (.tmp 13), 0, "slices.go:109", #[⟨1, .data⟩, ⟨2, .data⟩], none⟩,
  ⟨some 15, .load 35 (.tmp 14), 35, "slices.go:109", #[⟨3, .data⟩], none⟩,
  ⟨some 16, .call ⟨.value (.tmp 11), #[.tmp 15], #[35]⟩, 4, "slices.go:109", #[⟨0, .data⟩, ⟨4, .data⟩], none⟩]
def f22_r4o : Array Oper := f22_r4l.toArray
@[simp] theorem f22_r4_l : f22_r4o.toList = f22_r4l := rfl
attribute [simp] f22_r4l
def f22_r5l : List Oper := [⟨some 17, .move (.tmp 5), 3, "slices.go:110", #[], none⟩,
  ⟨some 4, .assign (.tmp 17), 3, "slices.go:110", #[⟨0, .data⟩, ⟨0, .phase⟩], none⟩]
def f22_r5o : Array Oper := f22_r5l.toArray
@[simp] theorem f22_r5_l : f22_r5o.toList = f22_r5l := rfl
attribute [simp] f22_r5l
def f22_r6l : List Oper := [⟨some 18, .binOp .add 3 (.tmp 8) (.const (.int .i64 1)) 3, 3, "slices.go:108", #[], none⟩,
  ⟨some 8, .move (.tmp 18), 3, "slices.go:108", #[⟨0, .data⟩], none⟩]
def f22_r6o : Array Oper := f22_r6l.toArray
@[simp] theorem f22_r6_l : f22_r6o.toList = f22_r6l := rfl
attribute [simp] f22_r6l
def f22_l0 : AC :=
  (.seq (.reg 2 f22_r2o [0, 1, 7, 8, 9]) (.seq (.cond (.tmp 9) .skip (.exit 0)) (.seq (.block 1 (.seq (.reg 3 f22_r3o [0, 1, 5, 7, 8]) (.seq (.reg 4 f22_r4o [0, 1, 5, 7, 8, 16]) (.cond (.tmp 16) (.seq (.reg 5 f22_r5o [4]) .ret) .skip)))) (.reg 6 f22_r6o [0, 1, 7, 8]))))
theorem f22_l0_fits : f22_l0.fits 19 = true := by kernel_rfl
def f22_r7l : List Oper := [⟨some 4, .assign (.const (.int .i64 (-1))), 3, "slices.go:113", #[], none⟩]
def f22_r7o : Array Oper := f22_r7l.toArray
@[simp] theorem f22_r7_l : f22_r7o.toList = f22_r7l := rfl
attribute [simp] f22_r7l
def f22_ac : AC :=
  (.seq (.reg 0 f22_r0o [0, 1]) (.seq (.seq (.reg 1 f22_r1o [0, 1, 7, 8]) (.block 0 (.loop f22_l0))) (.seq (.reg 7 f22_r7o [4]) .ret)))
theorem f22_eq : Tryd.f22.body = some f22_ac.code := rfl
@[simp] theorem f22_nt : Tryd.f22.ntmps = 19 := rfl
theorem f22_fits : f22_ac.fits Tryd.f22.ntmps = true := by kernel_rfl
@[simp] theorem f22_res : Tryd.f22.results.toList = [.tmp 4] := rfl
@[simp] theorem f22_isb : Tryd.f22.body.isNone = false := rfl
/- F23 slices.ContainsFunc[[]cinnabar/api.Alt,cinnabar/api.Alt] -/
def f23_r0l : List Oper := [⟨some 4, .assign (.const (.bool false)), 4, "slices.go:124", #[], none⟩]
def f23_r0o : Array Oper := f23_r0l.toArray
@[simp] theorem f23_r0_l : f23_r0o.toList = f23_r0l := rfl
attribute [simp] f23_r0l
def f23_r1l : List Oper := [⟨some 5, .move (.tmp 0), 32, "slices.go:125", #[], none⟩,
  ⟨some 6, .move (.tmp 1), 49, "slices.go:125", #[], none⟩,
  ⟨some 7, .call ⟨.value (.func 41), #[.tmp 5, .tmp 6], #[32, 49]⟩, 3, "slices.go:125", #[⟨0, .data⟩, ⟨1, .data⟩], none⟩,
  ⟨some 8, .binOp .geq 3 (.tmp 7) (.const (.int .i64 0)) 3, 4, "slices.go:125", #[⟨2, .data⟩], none⟩,
  ⟨some 4, .assign (.tmp 8), 4, "slices.go:125", #[⟨3, .data⟩, ⟨2, .chain⟩, ⟨0, .phase⟩, ⟨1, .phase⟩, ⟨2, .phase⟩, ⟨3, .phase⟩], none⟩]
def f23_r1o : Array Oper := f23_r1l.toArray
@[simp] theorem f23_r1_l : f23_r1o.toList = f23_r1l := rfl
attribute [simp] f23_r1l
def f23_ac : AC :=
  (.seq (.reg 0 f23_r0o [0, 1]) (.seq (.reg 1 f23_r1o [4]) .ret))
theorem f23_eq : Tryd.f23.body = some f23_ac.code := rfl
@[simp] theorem f23_nt : Tryd.f23.ntmps = 9 := rfl
theorem f23_fits : f23_ac.fits Tryd.f23.ntmps = true := by kernel_rfl
@[simp] theorem f23_res : Tryd.f23.results.toList = [.tmp 4] := rfl
@[simp] theorem f23_isb : Tryd.f23.body.isNone = false := rfl
/- F24 cinnabar/cinnabarlaw16.one$1 -/
def f24_r0l : List Oper := [⟨some 1, .box 39 (.tmp 0), 0, "law.go:27", #[], none⟩,
  ⟨some 2, .assign (.const (.bool false)), 4, "law.go:27", #[], none⟩]
def f24_r0o : Array Oper := f24_r0l.toArray
@[simp] theorem f24_r0_l : f24_r0o.toList = f24_r0l := rfl
attribute [simp] f24_r0l
def f24_r1l : List Oper := [⟨some 3, .fieldAddr 39 (.tmp 1) 1, 0, "law.go:27", #[], none⟩,
  ⟨some 4, .load 37 (.tmp 3), 37, "law.go:27", #[⟨0, .data⟩], none⟩,
  ⟨some 5, .call ⟨.builtin .len, #[.tmp 4], #[37]⟩, 3, "law.go:27", #[⟨1, .data⟩], none⟩,
  ⟨some 6, .binOp .gtr 3 (.tmp 5) (.const (.int .i64 4)) 3, 4, "law.go:27", #[⟨2, .data⟩], none⟩,
  ⟨some 7, .move (.tmp 6), 4, "law.go:27", #[⟨3, .data⟩], none⟩,
  ⟨some 8, .fieldAddr 39 (.tmp 1) 0, 0, "law.go:27", #[⟨4, .guard⟩], some (4, false)⟩,
  ⟨some 9, .load 9 (.tmp 8), 9, "law.go:27", #[⟨5, .data⟩, ⟨4, .guard⟩], some (4, false)⟩,
  ⟨some 10, .call ⟨.builtin .len, #[.tmp 9], #[9]⟩, 3, "law.go:27", #[⟨6, .data⟩, ⟨4, .guard⟩], some (4, false)⟩,
  ⟨some 11, .binOp .gtr 3 (.tmp 10) (.const (.int .i64 100)) 3, 4, "law.go:27", #[⟨7, .data⟩, ⟨4, .guard⟩], some (4, false)⟩,
  ⟨some 12, .pick (.tmp 7) (.const (.bool true)) (.tmp 11), 4, "law.go:27", #[⟨4, .data⟩, ⟨8, .data⟩], none⟩,
  ⟨some 2, .assign (.tmp 12), 4, "law.go:27", #[⟨9, .data⟩, ⟨4, .chain⟩, ⟨0, .phase⟩, ⟨1, .phase⟩, ⟨2, .phase⟩, ⟨3, .phase⟩, ⟨4, .phase⟩, ⟨5, .phase⟩, ⟨6, .phase⟩, ⟨7, .phase⟩, ⟨8, .phase⟩, ⟨9, .phase⟩], none⟩]
def f24_r1o : Array Oper := f24_r1l.toArray
@[simp] theorem f24_r1_l : f24_r1o.toList = f24_r1l := rfl
attribute [simp] f24_r1l
@[simp] theorem f24_r1_g4 : guardT f24_r1o 4 = some 7 := rfl
def f24_ac : AC :=
  (.seq (.reg 0 f24_r0o [1, 8, 9, 10, 11]) (.seq (.reg 1 f24_r1o [2]) .ret))
theorem f24_eq : Tryd.f24.body = some f24_ac.code := rfl
@[simp] theorem f24_nt : Tryd.f24.ntmps = 13 := rfl
theorem f24_fits : f24_ac.fits Tryd.f24.ntmps = true := by kernel_rfl
@[simp] theorem f24_res : Tryd.f24.results.toList = [.tmp 2] := rfl
@[simp] theorem f24_isb : Tryd.f24.body.isNone = false := rfl
/- F32 cinnabar/insts.valued$1 -/
def f32_r0l : List Oper := [⟨some 2, .box 39 (.tmp 0), 0, "insts.go:418", #[], none⟩,
  ⟨some 3, .assign (.const (.bool false)), 4, "insts.go:418", #[], none⟩]
def f32_r0o : Array Oper := f32_r0l.toArray
@[simp] theorem f32_r0_l : f32_r0o.toList = f32_r0l := rfl
attribute [simp] f32_r0l
def f32_r1l : List Oper := [⟨some 4, .fieldAddr 39 (.tmp 2) 1, 0, "insts.go:418", #[], none⟩,
  ⟨some 5, .load 37 (.tmp 4), 37, "insts.go:418", #[⟨0, .data⟩], none⟩,
  ⟨some 6, .makeFunc (.func 34) #[] #[.tmp 1], 66, "insts.go:418", #[], none⟩,
  ⟨some 7, .call ⟨.value (.func 33), #[.tmp 5, .tmp 6], #[37, 66]⟩, 4, "insts.go:418", #[⟨1, .data⟩, ⟨2, .data⟩], none⟩,
  ⟨some 8, .unOp .not 4 (.tmp 7), 4, "insts.go:418", #[⟨3, .data⟩], none⟩,
  ⟨some 3, .assign (.tmp 8), 4, "insts.go:418", #[⟨4, .data⟩, ⟨3, .chain⟩, ⟨0, .phase⟩, ⟨1, .phase⟩, ⟨2, .phase⟩, ⟨3, .phase⟩, ⟨4, .phase⟩], none⟩]
def f32_r1o : Array Oper := f32_r1l.toArray
@[simp] theorem f32_r1_l : f32_r1o.toList = f32_r1l := rfl
attribute [simp] f32_r1l
def f32_ac : AC :=
  (.seq (.reg 0 f32_r0o [1, 2]) (.seq (.reg 1 f32_r1o [3]) .ret))
theorem f32_eq : Tryd.f32.body = some f32_ac.code := rfl
@[simp] theorem f32_nt : Tryd.f32.ntmps = 9 := rfl
theorem f32_fits : f32_ac.fits Tryd.f32.ntmps = true := by kernel_rfl
@[simp] theorem f32_res : Tryd.f32.results.toList = [.tmp 3] := rfl
@[simp] theorem f32_isb : Tryd.f32.body.isNone = false := rfl
/- F33 slices.ContainsFunc[[]int,int] -/
def f33_r0l : List Oper := [⟨some 4, .assign (.const (.bool false)), 4, "slices.go:124", #[], none⟩]
def f33_r0o : Array Oper := f33_r0l.toArray
@[simp] theorem f33_r0_l : f33_r0o.toList = f33_r0l := rfl
attribute [simp] f33_r0l
def f33_r1l : List Oper := [⟨some 5, .move (.tmp 0), 37, "slices.go:125", #[], none⟩,
  ⟨some 6, .move (.tmp 1), 66, "slices.go:125", #[], none⟩,
  ⟨some 7, .call ⟨.value (.func 60), #[.tmp 5, .tmp 6], #[37, 66]⟩, 3, "slices.go:125", #[⟨0, .data⟩, ⟨1, .data⟩], none⟩,
  ⟨some 8, .binOp .geq 3 (.tmp 7) (.const (.int .i64 0)) 3, 4, "slices.go:125", #[⟨2, .data⟩], none⟩,
  ⟨some 4, .assign (.tmp 8), 4, "slices.go:125", #[⟨3, .data⟩, ⟨2, .chain⟩, ⟨0, .phase⟩, ⟨1, .phase⟩, ⟨2, .phase⟩, ⟨3, .phase⟩], none⟩]
def f33_r1o : Array Oper := f33_r1l.toArray
@[simp] theorem f33_r1_l : f33_r1o.toList = f33_r1l := rfl
attribute [simp] f33_r1l
def f33_ac : AC :=
  (.seq (.reg 0 f33_r0o [0, 1]) (.seq (.reg 1 f33_r1o [4]) .ret))
theorem f33_eq : Tryd.f33.body = some f33_ac.code := rfl
@[simp] theorem f33_nt : Tryd.f33.ntmps = 9 := rfl
theorem f33_fits : f33_ac.fits Tryd.f33.ntmps = true := by kernel_rfl
@[simp] theorem f33_res : Tryd.f33.results.toList = [.tmp 4] := rfl
@[simp] theorem f33_isb : Tryd.f33.body.isNone = false := rfl
/- F34 cinnabar/insts.valued$1$1 -/
def f34_r0l : List Oper := [⟨some 3, .assign (.const (.bool false)), 4, "insts.go:418", #[], none⟩]
def f34_r0o : Array Oper := f34_r0l.toArray
@[simp] theorem f34_r0_l : f34_r0o.toList = f34_r0l := rfl
attribute [simp] f34_r0l
def f34_r1l : List Oper := [⟨some 4, .load 25 (.tmp 1), 25, "insts.go:418", #[], none⟩,
  ⟨some 5, .move (.tmp 0), 3, "insts.go:418", #[], none⟩,
  ⟨some 6, .indexAddr 25 (.tmp 4) (.tmp 5), 0, "insts.go:418", #[⟨0, .data⟩, ⟨1, .data⟩], none⟩,
  ⟨some 7, .load 4 (.tmp 6), 4, "insts.go:418", #[⟨2, .data⟩], none⟩,
  ⟨some 8, .unOp .not 4 (.tmp 7), 4, "insts.go:418", #[⟨3, .data⟩], none⟩,
  ⟨some 3, .assign (.tmp 8), 4, "insts.go:418", #[⟨4, .data⟩, ⟨0, .phase⟩, ⟨1, .phase⟩, ⟨2, .phase⟩, ⟨3, .phase⟩, ⟨4, .phase⟩], none⟩]
def f34_r1o : Array Oper := f34_r1l.toArray
@[simp] theorem f34_r1_l : f34_r1o.toList = f34_r1l := rfl
attribute [simp] f34_r1l
def f34_ac : AC :=
  (.seq (.reg 0 f34_r0o [0, 1]) (.seq (.reg 1 f34_r1o [3]) .ret))
theorem f34_eq : Tryd.f34.body = some f34_ac.code := rfl
@[simp] theorem f34_nt : Tryd.f34.ntmps = 9 := rfl
theorem f34_fits : f34_ac.fits Tryd.f34.ntmps = true := by kernel_rfl
@[simp] theorem f34_res : Tryd.f34.results.toList = [.tmp 3] := rfl
@[simp] theorem f34_isb : Tryd.f34.body.isNone = false := rfl
/- F35 cinnabar/insts.compareAlts -/
def f35_r0l : List Oper := [⟨some 2, .box 39 (.tmp 0), 0, "insts.go:30", #[], none⟩,
  ⟨some 3, .box 39 (.tmp 1), 0, "insts.go:30", #[], none⟩,
  ⟨some 4, .assign (.const (.int .i64 0)), 3, "insts.go:30", #[], none⟩]
def f35_r0o : Array Oper := f35_r0l.toArray
@[simp] theorem f35_r0_l : f35_r0o.toList = f35_r0l := rfl
attribute [simp] f35_r0l
def f35_r1l : List Oper := [⟨some 5, .fieldAddr 39 (.tmp 2) 0, 0, "insts.go:31", #[], none⟩,
  ⟨some 6, .load 9 (.tmp 5), 9, "insts.go:31", #[⟨0, .data⟩], none⟩,
  ⟨some 7, .fieldAddr 39 (.tmp 3) 0, 0, "insts.go:31", #[], none⟩,
  ⟨some 8, .load 9 (.tmp 7), 9, "insts.go:31", #[⟨2, .data⟩], none⟩,
  ⟨some 9, .call ⟨.value (.func 62), #[.tmp 6, .tmp 8], #[9, 9]⟩, 3, "insts.go:31", #[⟨1, .data⟩, ⟨3, .data⟩], none⟩,
  ⟨some 10, .fieldAddr 39 (.tmp 2) 1, 0, "insts.go:31", #[], none⟩,
  ⟨some 11, .load 37 (.tmp 10), 37, "insts.go:31", #[⟨5, .data⟩], none⟩,
  ⟨some 12, .call ⟨.builtin .len, #[.tmp 11], #[37]⟩, 3, "insts.go:31", #[⟨6, .data⟩], none⟩,
  ⟨some 13, .fieldAddr 39 (.tmp 3) 1, 0, "insts.go:31", #[], none⟩,
  ⟨some 14, .load 37 (.tmp 13), 37, "insts.go:31", #[⟨8, .data⟩], none⟩,
  ⟨some 15, .call ⟨.builtin .len, #[.tmp 14], #[37]⟩, 3, "insts.go:31", #[⟨9, .data⟩], none⟩,
  ⟨some 16, .call ⟨.value (.func 63), #[.tmp 12, .tmp 15], #[3, 3]⟩, 3, "insts.go:31", #[⟨7, .data⟩, ⟨10, .data⟩, ⟨4, .chain⟩], none⟩,
  ⟨some 17, .buildSlice 37 2 #[(0, .tmp 9), (1, .tmp 16)], 37, "insts.go:31", #[⟨4, .data⟩, ⟨11, .data⟩], none⟩,
  ⟨some 18, .call ⟨.value (.func 61), #[.tmp 17], #[37]⟩, 3, "insts.go:31", #[⟨12, .data⟩, ⟨11, .chain⟩], none⟩,
  ⟨some 4, .assign (.tmp 18), 3, "insts.go:31", #[⟨13, .data⟩, ⟨13, .chain⟩, ⟨0, .phase⟩, ⟨1, .phase⟩, ⟨2, .phase⟩, ⟨3, .phase⟩, ⟨4, .phase⟩, ⟨5, .phase⟩, ⟨6, .phase⟩, ⟨7, .phase⟩, ⟨8, .phase⟩, ⟨9, .phase⟩, ⟨10, .phase⟩, ⟨11, .phase⟩, ⟨12, .phase⟩, ⟨13, .phase⟩], none⟩]
def f35_r1o : Array Oper := f35_r1l.toArray
@[simp] theorem f35_r1_l : f35_r1o.toList = f35_r1l := rfl
attribute [simp] f35_r1l
@[simp] theorem f35_r1_n : f35_r1o.size = 15 := rfl
def f35_ac : AC :=
  (.seq (.reg 0 f35_r0o [2, 3]) (.seq (.draw 1 f35_r1o [4]) .ret))
theorem f35_eq : Tryd.f35.body = some f35_ac.code := rfl
@[simp] theorem f35_nt : Tryd.f35.ntmps = 19 := rfl
theorem f35_fits : f35_ac.fits Tryd.f35.ntmps = true := by kernel_rfl
@[simp] theorem f35_res : Tryd.f35.results.toList = [.tmp 4] := rfl
@[simp] theorem f35_isb : Tryd.f35.body.isNone = false := rfl
@[simp] theorem f35_r1_s : drawSimple cfg0 f35_r1o = true := by kernel_rfl
@[simp] theorem f35_r1_d : drawOk cfg0 f35_r1o = true := by kernel_rfl
@[simp] theorem f35_r1_t4 : tailOk cfg0 f35_r1o 4 = false := by kernel_rfl
@[simp] theorem f35_r1_t11 : tailOk cfg0 f35_r1o 11 = true := by kernel_rfl
@[simp] theorem f35_r1_t13 : tailOk cfg0 f35_r1o 13 = true := by kernel_rfl
/- F36 cinnabar/insts.has -/
def f36_r0l : List Oper := [⟨some 4, .assign (.const (.bool false)), 4, "insts.go:22", #[], none⟩]
def f36_r0o : Array Oper := f36_r0l.toArray
@[simp] theorem f36_r0_l : f36_r0o.toList = f36_r0l := rfl
attribute [simp] f36_r0l
def f36_r1l : List Oper := [⟨some 5, .move (.tmp 1), 3, "insts.go:22", #[], none⟩,
  ⟨some 6, .binOp .geq 3 (.tmp 5) (.const (.int .i64 0)) 3, 4, "insts.go:22", #[⟨0, .data⟩], none⟩,
  ⟨some 7, .move (.tmp 6), 4, "insts.go:22", #[⟨1, .data⟩], none⟩,
  ⟨some 8, .move (.tmp 1), 3, "insts.go:22", #[⟨2, .guard⟩], some (2, true)⟩,
  ⟨some 9, .move (.tmp 0), 22, "insts.go:22", #[⟨2, .guard⟩], some (2, true)⟩,
  ⟨some 10, .call ⟨.builtin .len, #[.tmp 9], #[22]⟩, 3, "insts.go:22", #[⟨4, .data⟩, ⟨2, .guard⟩], some (2, true)⟩,
  ⟨some 11, .binOp .lss 3 (.tmp 8) (.tmp 10) 3, 4, "insts.go:22", #[⟨3, .data⟩, ⟨5, .data⟩, ⟨2, .guard⟩], some (2, true)⟩,
  ⟨some 12, .pick (.tmp 7) (.tmp 11) (.const (.bool false)), 4, "insts.go:22", #[⟨2, .data⟩, ⟨6, .data⟩], none⟩,
  ⟨some 4, .assign (.tmp 12), 4, "insts.go:22", #[⟨7, .data⟩, ⟨2, .chain⟩, ⟨0, .phase⟩, ⟨1, .phase⟩, ⟨2, .phase⟩, ⟨3, .phase⟩, ⟨4, .phase⟩, ⟨5, .phase⟩, ⟨6, .phase⟩, ⟨7, .phase⟩], none⟩]
def f36_r1o : Array Oper := f36_r1l.toArray
@[simp] theorem f36_r1_l : f36_r1o.toList = f36_r1l := rfl
attribute [simp] f36_r1l
@[simp] theorem f36_r1_g2 : guardT f36_r1o 2 = some 7 := rfl
def f36_ac : AC :=
  (.seq (.reg 0 f36_r0o [0, 1, 8, 9, 10, 11]) (.seq (.reg 1 f36_r1o [4]) .ret))
theorem f36_eq : Tryd.f36.body = some f36_ac.code := rfl
@[simp] theorem f36_nt : Tryd.f36.ntmps = 13 := rfl
theorem f36_fits : f36_ac.fits Tryd.f36.ntmps = true := by kernel_rfl
@[simp] theorem f36_res : Tryd.f36.results.toList = [.tmp 4] := rfl
@[simp] theorem f36_isb : Tryd.f36.body.isNone = false := rfl
/- F37 cinnabar/insts.value -/
def f37_r0l : List Oper := [⟨some 1, .box 35 (.tmp 0), 0, "insts.go:25", #[], none⟩,
  ⟨some 2, .assign (.const (.bool false)), 4, "insts.go:25", #[], none⟩]
def f37_r0o : Array Oper := f37_r0l.toArray
@[simp] theorem f37_r0_l : f37_r0o.toList = f37_r0l := rfl
attribute [simp] f37_r0l
def f37_r1l : List Oper := [⟨some 3, .fieldAddr 35 (.tmp 1) 0, 0, "insts.go:26", #[], none⟩,
  ⟨some 4, .load 3 (.tmp 3), 3, "insts.go:26", #[⟨0, .data⟩], none⟩,
  ⟨some 5, .binOp .eql 3 (.tmp 4) (.const (.int .i64 1)) 3, 4, "insts.go:26", #[⟨1, .data⟩], none⟩,
  ⟨some 6, .move (.tmp 5), 4, "insts.go:26", #[⟨2, .data⟩], none⟩,
  ⟨some 7, .fieldAddr 35 (.tmp 1) 0, 0, "insts.go:26", #[⟨3, .guard⟩], some (3, false)⟩,
  ⟨some 8, .load 3 (.tmp 7), 3, "insts.go:26", #[⟨4, .data⟩, ⟨3, .guard⟩], some (3, false)⟩,
  ⟨some 9, .binOp .eql 3 (.tmp 8) (.const (.int .i64 4)) 3, 4, "insts.go:26", #[⟨5, .data⟩, ⟨3, .guard⟩], some (3, false)⟩,
  ⟨some 10, .pick (.tmp 6) (.const (.bool true)) (.tmp 9), 4, "insts.go:26", #[⟨3, .data⟩, ⟨6, .data⟩], none⟩,
  ⟨some 11, .move (.tmp 10), 4, "insts.go:26", #[⟨7, .data⟩, ⟨3, .chain⟩], none⟩,
  ⟨some 12, .fieldAddr 35 (.tmp 1) 0, 0, "insts.go:26", #[⟨8, .guard⟩], some (8, false)⟩,
  ⟨some 13, .load 3 (.tmp 12), 3, "insts.go:26", #[⟨9, .data⟩, ⟨8, .guard⟩], some (8, false)⟩,
  ⟨some 14, .binOp .eql 3 (.tmp 13) (.const (.int .i64 5)) 3, 4, "insts.go:26", #[⟨10, .data⟩, ⟨8, .guard⟩], some (8, false)⟩,
  ⟨some 15, .pick (.tmp 11) (.const (.bool true)) (.tmp 14), 4, "insts.go:26", #[⟨8, .data⟩, ⟨11, .data⟩], none⟩,
  ⟨some 2, .assign (.tmp 15), 4, "insts.go:26", #[⟨12, .data⟩, ⟨8, .chain⟩, ⟨0, .phase⟩, ⟨1, .phase⟩, ⟨2, .phase⟩, ⟨3, .phase⟩, ⟨4, .phase⟩, ⟨5, .phase⟩, ⟨6, .phase⟩, ⟨7, .phase⟩, ⟨8, .phase⟩, ⟨9, .phase⟩, ⟨10, .phase⟩, ⟨11, .phase⟩, ⟨12, .phase⟩], none⟩]
def f37_r1o : Array Oper := f37_r1l.toArray
@[simp] theorem f37_r1_l : f37_r1o.toList = f37_r1l := rfl
attribute [simp] f37_r1l
@[simp] theorem f37_r1_g3 : guardT f37_r1o 3 = some 6 := rfl
@[simp] theorem f37_r1_g8 : guardT f37_r1o 8 = some 11 := rfl
def f37_ac : AC :=
  (.seq (.reg 0 f37_r0o [1, 7, 8, 9, 12, 13, 14]) (.seq (.reg 1 f37_r1o [2]) .ret))
theorem f37_eq : Tryd.f37.body = some f37_ac.code := rfl
@[simp] theorem f37_nt : Tryd.f37.ntmps = 16 := rfl
theorem f37_fits : f37_ac.fits Tryd.f37.ntmps = true := by kernel_rfl
@[simp] theorem f37_res : Tryd.f37.results.toList = [.tmp 2] := rfl
@[simp] theorem f37_isb : Tryd.f37.body.isNone = false := rfl
/- F38 cinnabar/insts.circular$1 -/
def f38_r0l : List Oper := [⟨some 5, .assign (.const (.bool false)), 4, "insts.go:107", #[], none⟩]
def f38_r0o : Array Oper := f38_r0l.toArray
@[simp] theorem f38_r0_l : f38_r0o.toList = f38_r0l := rfl
attribute [simp] f38_r0l
def f38_r1l : List Oper := [⟨some 6, .load 22 (.tmp 1), 22, "insts.go:108", #[], none⟩,
  ⟨some 7, .move (.tmp 0), 3, "insts.go:108", #[], none⟩,
  ⟨some 8, .indexAddr 22 (.tmp 6) (.tmp 7), 0, "insts.go:108", #[⟨0, .data⟩, ⟨1, .data⟩], none⟩,
  ⟨some 9, .fieldAddr 35 (.tmp 8) 0, 0, "insts.go:108", #[⟨2, .data⟩], none⟩,
  ⟨some 10, .load 3 (.tmp 9), 3, "insts.go:108", #[⟨3, .data⟩], none⟩,
  ⟨some 11, .binOp .neq 3 (.tmp 10) (.const (.int .i64 5)) 3, 4, "insts.go:108", #[⟨4, .data⟩], none⟩,
  ⟨some 12, .move (.tmp 11), 4, "insts.go:108", #[⟨5, .data⟩], none⟩,
  ⟨some 13, .load 37 (.tmp 2), 37, "insts.go:108", #[⟨6, .guard⟩], some (6, false)⟩,
  ⟨some 14, .move (.tmp 0), 3, "insts.go:108", #[⟨6, .guard⟩], some (6, false)⟩,
  ⟨some 15, .indexAddr 37 (.tmp 13) (.tmp 14), 0, "insts.go:108", #[⟨7, .data⟩, ⟨8, .data⟩, ⟨6, .guard⟩], some (6, false)⟩,
  ⟨some 16, .load 3 (.tmp 15), 3, "insts.go:108", #[⟨9, .data⟩, ⟨6, .guard⟩], some (6, false)⟩,
  ⟨some 17, .binOp .eql 3 (.tmp 16) (.const (.int .i64 2)) 3, 4, "insts.go:108", #[⟨10, .data⟩, ⟨6, .guard⟩], some (6, false)⟩,
  ⟨some 18, .pick (.tmp 12) (.const (.bool true)) (.tmp 17), 4, "insts.go:108", #[⟨6, .data⟩, ⟨11, .data⟩], none⟩]
def f38_r1o : Array Oper := f38_r1l.toArray
@[simp] theorem f38_r1_l : f38_r1o.toList = f38_r1l := rfl
attribute [simp] f38_r1l
@[simp] theorem f38_r1_g6 : guardT f38_r1o 6 = some 12 := rfl
def f38_r2l : List Oper := [⟨some 5, .assign (.const (.bool false)), 4, "insts.go:109", #[], none⟩]
def f38_r2o : Array Oper := f38_r2l.toArray
@[simp] theorem f38_r2_l : f38_r2o.toList = f38_r2l := rfl
attribute [simp] f38_r2l
def f38_r3l : List Oper := [⟨some 19, .load 37 (.tmp 2), 37, "insts.go:111", #[], none⟩,
  ⟨some 20, .move (.tmp 0), 3, "insts.go:111", #[], none⟩,
  ⟨some 21, .indexAddr 37 (.tmp 19) (.tmp 20), 0, "insts.go:111", #[⟨0, .data⟩, ⟨1, .data⟩], none⟩,
  ⟨some 22, .load 3 (.tmp 21), 3, "insts.go:111", #[⟨2, .data⟩], none⟩,
  ⟨some 23, .binOp .eql 3 (.tmp 22) (.const (.int .i64 1)) 3, 4, "insts.go:111", #[⟨3, .data⟩], none⟩]
def f38_r3o : Array Oper := f38_r3l.toArray
@[simp] theorem f38_r3_l : f38_r3o.toList = f38_r3l := rfl
attribute [simp] f38_r3l
def f38_r4l : List Oper := [⟨some 5, .assign (.const (.bool true)), 4, "insts.go:112", #[], none⟩]
def f38_r4o : Array Oper := f38_r4l.toArray
@[simp] theorem f38_r4_l : f38_r4o.toList = f38_r4l := rfl
attribute [simp] f38_r4l
def f38_r5l : List Oper := [⟨some 24, .load 37 (.tmp 2), 37, "insts.go:114", #[], none⟩,
  ⟨some 25, .move (.tmp 0), 3, "insts.go:114", #[], none⟩,
  ⟨some 26, .indexAddr 37 (.tmp 24) (.tmp 25), 0, "insts.go:114", #[⟨0, .data⟩, ⟨1, .data⟩, ⟨0, .phase⟩, ⟨1, .phase⟩], none⟩,
  ⟨none, .store 3 (.tmp 26) (.const (.int .i64 1)), 0, "insts.go:114", #[⟨2, .data⟩, ⟨0, .phase⟩, ⟨1, .phase⟩], none⟩]
def f38_r5o : Array Oper := f38_r5l.toArray
@[simp] theorem f38_r5_l : f38_r5o.toList = f38_r5l := rfl
attribute [simp] f38_r5l
def f38_r6l : List Oper := [⟨some 27, .load 22 (.tmp 1), 22, "insts.go:115", #[], none⟩,
  ⟨some 28, .move (.tmp 0), 3, "insts.go:115", #[], none⟩,
  ⟨some 29, .indexAddr 22 (.tmp 27) (.tmp 28), 0, "insts.go:115", #[⟨0, .data⟩, ⟨1, .data⟩], none⟩,
  ⟨some 30, .load 35 (.tmp 29), 35, "insts.go:115", #[⟨2, .data⟩], none⟩,
  ⟨some 31, .call ⟨.value (.func 39), #[.tmp 30], #[35]⟩, 37, "insts.go:115", #[⟨3, .data⟩], none⟩,
  ⟨some 32, .load 66 (.tmp 3), 66, "insts.go:115", #[], none⟩,
  ⟨some 33, .call ⟨.value (.func 33), #[.tmp 31, .tmp 32], #[37, 66]⟩, 4, "insts.go:115", #[⟨4, .data⟩, ⟨5, .data⟩, ⟨4, .chain⟩], none⟩]
def f38_r6o : Array Oper := f38_r6l.toArray
@[simp] theorem f38_r6_l : f38_r6o.toList = f38_r6l := rfl
attribute [simp] f38_r6l
@[simp] theorem f38_r6_n : f38_r6o.size = 7 := rfl
def f38_r7l : List Oper := [⟨some 5, .assign (.const (.bool true)), 4, "insts.go:116", #[], none⟩]
def f38_r7o : Array Oper := f38_r7l.toArray
@[simp] theorem f38_r7_l : f38_r7o.toList = f38_r7l := rfl
attribute [simp] f38_r7l
def f38_r8l : List Oper := [⟨some 34, .load 37 (.tmp 2), 37, "insts.go:118", #[], none⟩,
  ⟨some 35, .move (.tmp 0), 3, "insts.go:118", #[], none⟩,
  ⟨some 36, .indexAddr 37 (.tmp 34) (.tmp 35), 0, "insts.go:118", #[⟨0, .data⟩, ⟨1, .data⟩, ⟨0, .phase⟩, ⟨1, .phase⟩], none⟩,
  ⟨none, .store 3 (.tmp 36) (.const (.int .i64 2)), 0, "insts.go:118", #[⟨2, .data⟩, ⟨0, .phase⟩, ⟨1, .phase⟩], none⟩]
def f38_r8o : Array Oper := f38_r8l.toArray
@[simp] theorem f38_r8_l : f38_r8o.toList = f38_r8l := rfl
attribute [simp] f38_r8l
def f38_r9l : List Oper := [⟨some 5, .assign (.const (.bool false)), 4, "insts.go:119", #[], none⟩]
def f38_r9o : Array Oper := f38_r9l.toArray
@[simp] theorem f38_r9_l : f38_r9o.toList = f38_r9l := rfl
attribute [simp] f38_r9l
def f38_ac : AC :=
  (.seq (.reg 0 f38_r0o [0, 1, 2, 3, 13, 14, 15, 16, 17]) (.seq (.seq (.reg 1 f38_r1o [0, 1, 2, 3, 18]) (.cond (.tmp 18) (.seq (.reg 2 f38_r2o [5]) .ret) .skip)) (.seq (.seq (.reg 3 f38_r3o [0, 1, 2, 3, 23]) (.cond (.tmp 23) (.seq (.reg 4 f38_r4o [5]) .ret) .skip)) (.seq (.reg 5 f38_r5o [0, 1, 2, 3]) (.seq (.seq (.draw 6 f38_r6o [0, 2, 33]) (.cond (.tmp 33) (.seq (.reg 7 f38_r7o [5]) .ret) .skip)) (.seq (.reg 8 f38_r8o []) (.seq (.reg 9 f38_r9o [5]) .ret)))))))
theorem f38_eq : Tryd.f38.body = some f38_ac.code := rfl
@[simp] theorem f38_nt : Tryd.f38.ntmps = 37 := rfl
theorem f38_fits : f38_ac.fits Tryd.f38.ntmps = true := by kernel_rfl
@[simp] theorem f38_res : Tryd.f38.results.toList = [.tmp 5] := rfl
@[simp] theorem f38_isb : Tryd.f38.body.isNone = false := rfl
@[simp] theorem f38_r6_s : drawSimple cfg0 f38_r6o = true := by kernel_rfl
@[simp] theorem f38_r6_d : drawOk cfg0 f38_r6o = true := by kernel_rfl
@[simp] theorem f38_r6_t4 : tailOk cfg0 f38_r6o 4 = false := by kernel_rfl
@[simp] theorem f38_r6_t6 : tailOk cfg0 f38_r6o 6 = true := by kernel_rfl
/- F39 cinnabar/insts.ends -/
def f39_r0l : List Oper := [⟨some 1, .box 35 (.tmp 0), 0, "insts.go:94", #[], none⟩,
  ⟨some 2, .assign (.const (.slice none 0 0)), 37, "insts.go:94", #[], none⟩]
def f39_r0o : Array Oper := f39_r0l.toArray
@[simp] theorem f39_r0_l : f39_r0o.toList = f39_r0l := rfl
attribute [simp] f39_r0l
def f39_r1l : List Oper := [⟨some 3, .assign (.const (.slice none 0 0)), 37, "insts.go:95", #[], none⟩]
def f39_r1o : Array Oper := f39_r1l.toArray
@[simp] theorem f39_r1_l : f39_r1o.toList = f39_r1l := rfl
attribute [simp] f39_r1l
def f39_r2l : List Oper := [⟨some 6, .fieldAddr 35 (.tmp 1) 2, 0, "insts.go:96", #[], none⟩,
  ⟨some 7, .load 33 (.tmp 6), 33, "insts.go:96", #[⟨0, .data⟩], none⟩,
  ⟨some 8, .call ⟨.builtin .len, #[.tmp 7], #[33]⟩, 3, "insts.go:96", #[⟨1, .data⟩], none⟩,
  ⟨some 9, .move (.const (.int .i64 0)), 3, "insts.go:96", #[], none⟩]
def f39_r2o : Array Oper := f39_r2l.toArray
@[simp] theorem f39_r2_l : f39_r2o.toList = f39_r2l := rfl
attribute [simp] f39_r2l
def f39_r3l : List Oper := [⟨some 10, .binOp .lss 3 (.tmp 9) (.tmp 8) 3, 0, "insts.go:96", #[], none⟩]
def f39_r3o : Array Oper := f39_r3l.toArray
@[simp] theorem f39_r3_l : f39_r3o.toList = f39_r3l := rfl
attribute [simp] f39_r3l
def f39_r4l : List Oper := [⟨some 11, .indexAddr 33 (.tmp 7) (.tmp 9), 0, "insts.go:96", #[], none⟩,
  ⟨some 12, .load 70 (.tmp 11), 70, "insts.go:96", #[⟨0, .data⟩], none⟩,
  ⟨some 5, .alloc 70, 0, "insts.go:96", #[], none⟩,
  ⟨none, .store 70 (.tmp 5) (.tmp 12), 0, "insts.go:96", #[⟨2, .data⟩, ⟨1, .data⟩, ⟨0, .phase⟩, ⟨1, .phase⟩, ⟨2, .phase⟩], none⟩]
def f39_r4o : Array Oper := f39_r4l.toArray
@[simp] theorem f39_r4_l : f39_r4o.toList = f39_r4l := rfl
attribute [simp] f39_r4l
def f39_r5l : List Oper := [⟨some 13, .move (.tmp 3), 37, "insts.go:97", #[], none⟩,
  ⟨some 14, .fieldAddr 70 (.tmp 5) 0, 0, "insts.go:97", #[], none⟩,
  ⟨some 15, .load 3 (.tmp 14), 3, "insts.go:97", #[⟨1, .data⟩], none⟩,
  ⟨some 16, .fieldAddr 70 (.tmp 5) 1, 0, "insts.go:97", #[], none⟩,
  ⟨some 17, .load 3 (.tmp 16), 3, "insts.go:97", #[⟨3, .data⟩], none⟩,
  ⟨some 18, .buildSlice 37 2 #[(0, .tmp 15), (1, .tmp 17)], 37, "insts.go:97", #[⟨2, .data⟩, ⟨4, .data⟩], none⟩,
  ⟨some 19, .call ⟨.builtin .append, #[.tmp 13, .tmp 18], #[37, 37]⟩, 37, "insts.go:97", #[⟨0, .data⟩, ⟨5, .data⟩], none⟩,
  ⟨some 3, .assign (.tmp 19), 37, "insts.go:97", #[⟨6, .data⟩, ⟨6, .chain⟩, ⟨0, .phase⟩, ⟨1, .phase⟩, ⟨2, .phase⟩, ⟨3, .phase⟩, ⟨4, .phase⟩, ⟨5, .phase⟩, ⟨6, .phase⟩], none⟩]
def f39_r5o : Array Oper := f39_r5l.toArray
@[simp] theorem f39_r5_l : f39_r5o.toList = f39_r5l := rfl
attribute [simp] f39_r5l
def f39_r6l : List Oper := [⟨some 20, .binOp .add 3 (.tmp 9) (.const (.int .i64 1)) 3, 3, "insts.go:96", #[], none⟩,
  ⟨some 9, .move (.tmp 20), 3, "insts.go:96", #[⟨0, .data⟩], none⟩]
def f39_r6o : Array Oper := f39_r6l.toArray
@[simp] theorem f39_r6_l : f39_r6o.toList = f39_r6l := rfl
attribute [simp] f39_r6l
def f39_l0 : AC :=
  (.seq (.reg 3 f39_r3o [3, 7, 8, 9, 10]) (.seq (.cond (.tmp 10) .skip (.exit 0)) (.seq (.block 1 (.seq (.reg 4 f39_r4o [3, 5, 7, 8, 9]) (.reg 5 f39_r5o [3, 7, 8, 9]))) (.reg 6 f39_r6o [3, 7, 8, 9]))))
theorem f39_l0_fits : f39_l0.fits 22 = true := by kernel_rfl
def f39_r7l : List Oper := [⟨some 21, .move (.tmp 3), 37, "insts.go:99", #[], none⟩,
  ⟨some 2, .assign (.tmp 21), 37, "insts.go:99", #[⟨0, .data⟩, ⟨0, .phase⟩], none⟩]
def f39_r7o : Array Oper := f39_r7l.toArray
@[simp] theorem f39_r7_l : f39_r7o.toList = f39_r7l := rfl
attribute [simp] f39_r7l
def f39_ac : AC :=
  (.seq (.reg 0 f39_r0o [1]) (.seq (.reg 1 f39_r1o [1, 3]) (.seq (.seq (.reg 2 f39_r2o [3, 7, 8, 9]) (.block 0 (.loop f39_l0))) (.seq (.reg 7 f39_r7o [2]) .ret))))
theorem f39_eq : Tryd.f39.body = some f39_ac.code := rfl
@[simp] theorem f39_nt : Tryd.f39.ntmps = 22 := rfl
theorem f39_fits : f39_ac.fits Tryd.f39.ntmps = true := by kernel_rfl
@[simp] theorem f39_res : Tryd.f39.results.toList = [.tmp 2] := rfl
@[simp] theorem f39_isb : Tryd.f39.body.isNone = false := rfl
/- F40 cinnabar/cinnabarref16.alt -/
def f40_r0l : List Oper := [⟨some 6, .assign (.const (.int .i64 0)), 26, "ref.go:41", #[], none⟩]
def f40_r0o : Array Oper := f40_r0l.toArray
@[simp] theorem f40_r0_l : f40_r0o.toList = f40_r0l := rfl
attribute [simp] f40_r0l
def f40_r1l : List Oper := [⟨some 10, .move (.tmp 1), 32, "ref.go:42", #[], none⟩,
  ⟨some 11, .move (.tmp 2), 3, "ref.go:42", #[], none⟩,
  ⟨some 12, .indexAddr 32 (.tmp 10) (.tmp 11), 0, "ref.go:42", #[⟨0, .data⟩, ⟨1, .data⟩], none⟩,
  ⟨some 13, .load 39 (.tmp 12), 39, "ref.go:42", #[⟨2, .data⟩], none⟩,
  ⟨some 7, .alloc 39, 0, "ref.go:42", #[], none⟩,
  ⟨none, .store 39 (.tmp 7) (.tmp 13), 0, "ref.go:42", #[⟨4, .data⟩, ⟨3, .data⟩, ⟨0, .phase⟩, ⟨1, .phase⟩, ⟨2, .phase⟩, ⟨3, .phase⟩, ⟨4, .phase⟩], none⟩]
def f40_r1o : Array Oper := f40_r1l.toArray
@[simp] theorem f40_r1_l : f40_r1o.toList = f40_r1l := rfl
attribute [simp] f40_r1l
def f40_r2l : List Oper := [⟨some 14, .fieldAddr 39 (.tmp 7) 0, 0, "ref.go:43", #[], none⟩,
  ⟨some 15, .load 9 (.tmp 14), 9, "ref.go:43", #[⟨0, .data⟩], none⟩,
  ⟨some 16, .call ⟨.builtin .len, #[.tmp 15], #[9]⟩, 3, "ref.go:43", #[⟨1, .data⟩], none⟩,
  ⟨some 17, .binOp .lss 3 (.tmp 16) (.const (.int .i64 1)) 3, 4, "ref.go:43", #[⟨2, .data⟩], none⟩,
  ⟨some 18, .move (.tmp 17), 4, "ref.go:43", #[⟨3, .data⟩], none⟩,
  ⟨some 19, .fieldAddr 39 (.tmp 7) 0, 0, "ref.go:43", #[⟨4, .guard⟩], some (4, false)⟩,
  ⟨some 20, .load 9 (.tmp 19), 9, "ref.go:43", #[⟨5, .data⟩, ⟨4, .guard⟩], some (4, false)⟩,
  ⟨some 21, .call ⟨.builtin .len, #[.tmp 20], #[9]⟩, 3, "ref.go:43", #[⟨6, .data⟩, ⟨4, .guard⟩], some (4, false)⟩,
  ⟨some 22, .binOp .gtr 3 (.tmp 21) (.const (.int .i64 81)) 3, 4, "ref.go:43", #[⟨7, .data⟩, ⟨4, .guard⟩], some (4, false)⟩,
  ⟨some 23, .pick (.tmp 18) (.const (.bool true)) (.tmp 22), 4, "ref.go:43", #[⟨4, .data⟩, ⟨8, .data⟩], none⟩]
def f40_r2o : Array Oper := f40_r2l.toArray
@[simp] theorem f40_r2_l : f40_r2o.toList = f40_r2l := rfl
attribute [simp] f40_r2l
@[simp] theorem f40_r2_g4 : guardT f40_r2o 4 = some 18 := rfl
def f40_r3l : List Oper := [⟨some 6, .assign (.const (.int .i64 10)), 26, "ref.go:44", #[], none⟩]
def f40_r3o : Array Oper := f40_r3l.toArray
@[simp] theorem f40_r3_l : f40_r3o.toList = f40_r3l := rfl
attribute [simp] f40_r3l
def f40_r4l : List Oper := [⟨some 24, .move (.tmp 2), 3, "ref.go:46", #[], none⟩,
  ⟨some 25, .binOp .gtr 3 (.tmp 24) (.const (.int .i64 0)) 3, 4, "ref.go:46", #[⟨0, .data⟩], none⟩,
  ⟨some 26, .move (.tmp 25), 4, "ref.go:46", #[⟨1, .data⟩], none⟩,
  ⟨some 27, .move (.tmp 1), 32, "ref.go:46", #[⟨2, .guard⟩], some (2, true)⟩,
  ⟨some 28, .move (.tmp 2), 3, "ref.go:46", #[⟨2, .guard⟩], some (2, true)⟩,
  ⟨some 29, .binOp .sub 3 (.tmp 28) (.const (.int .i64 1)) 3, 3, "ref.go:46", #[⟨4, .data⟩, ⟨2, .guard⟩], some (2, true)⟩,
  ⟨some 30, .indexAddr 32 (.tmp 27) (.tmp 29), 0, "ref.go:46", #[⟨3, .data⟩, ⟨5, .data⟩, ⟨2, .guard⟩], some (2, true)⟩,
  ⟨some 31, .load 39 (.tmp 30), 39, "ref.go:46", #[⟨6, .data⟩, ⟨2, .guard⟩], some (2, true)⟩,
  ⟨some 32, .load 39 (.tmp 7), 39, "ref.go:46", #[⟨2, .guard⟩], some (2, true)⟩,
  ⟨some 33, .call ⟨.value (.func 64), #[.tmp 31, .tmp 32], #[39, 39]⟩, 4, "ref.go:46", #[⟨7, .data⟩, ⟨8, .data⟩, ⟨2, .chain⟩, ⟨2, .guard⟩], some (2, true)⟩,
  ⟨some 34, .unOp .not 4 (.tmp 33), 4, "ref.go:46", #[⟨9, .data⟩, ⟨2, .guard⟩], some (2, true)⟩,
  ⟨some 35, .pick (.tmp 26) (.tmp 34) (.const (.bool false)), 4, "ref.go:46", #[⟨2, .data⟩, ⟨10, .data⟩], none⟩]
def f40_r4o : Array Oper := f40_r4l.toArray
@[simp] theorem f40_r4_l : f40_r4o.toList = f40_r4l := rfl
attribute [simp] f40_r4l
@[simp] theorem f40_r4_g2 : guardT f40_r4o 2 = some 26 := rfl
@[simp] theorem f40_r4_n : f40_r4o.size = 12 := rfl
def f40_r5l : List Oper := [⟨some 6, .assign (.const (.int .i64 13)), 26, "ref.go:47", #[], none⟩]
def f40_r5o : Array Oper := f40_r5l.toArray
@[simp] theorem f40_r5_l : f40_r5o.toList = f40_r5l := rfl
attribute [simp] f40_r5l
def f40_r6l : List Oper := [⟨some 36, .fieldAddr 39 (.tmp 7) 1, 0, "ref.go:49", #[], none⟩,
  ⟨some 37, .load 37 (.tmp 36), 37, "ref.go:49", #[⟨0, .data⟩], none⟩,
  ⟨some 38, .call ⟨.builtin .len, #[.tmp 37], #[37]⟩, 3, "ref.go:49", #[⟨1, .data⟩], none⟩,
  ⟨some 39, .binOp .gtr 3 (.tmp 38) (.const (.int .i64 32)) 3, 4, "ref.go:49", #[⟨2, .data⟩], none⟩]
def f40_r6o : Array Oper := f40_r6l.toArray
@[simp] theorem f40_r6_l : f40_r6o.toList = f40_r6l := rfl
attribute [simp] f40_r6l
def f40_r7l : List Oper := [⟨some 6, .assign (.const (.int .i64 6)), 26, "ref.go:50", #[], none⟩]
def f40_r7o : Array Oper := f40_r7l.toArray
@[simp] theorem f40_r7_l : f40_r7o.toList = f40_r7l := rfl
attribute [simp] f40_r7l
def f40_r8l : List Oper := [⟨some 8, .assign (.const (.int .i64 0)), 3, "ref.go:52", #[], none⟩]
def f40_r8o : Array Oper := f40_r8l.toArray
@[simp] theorem f40_r8_l : f40_r8o.toList = f40_r8l := rfl
attribute [simp] f40_r8l
def f40_r9l : List Oper := [⟨some 40, .move (.tmp 8), 3, "ref.go:52", #[], none⟩,
  ⟨some 41, .fieldAddr 39 (.tmp 7) 1, 0, "ref.go:52", #[], none⟩,
  ⟨some 42, .load 37 (.tmp 41), 37, "ref.go:52", #[⟨1, .data⟩], none⟩,
  ⟨some 43, .call ⟨.builtin .len, #[.tmp 42], #[37]⟩, 3, "ref.go:52", #[⟨2, .data⟩], none⟩,
  ⟨some 44, .binOp .lss 3 (.tmp 40) (.tmp 43) 3, 4, "ref.go:52", #[⟨0, .data⟩, ⟨3, .data⟩], none⟩]
def f40_r9o : Array Oper := f40_r9l.toArray
@[simp] theorem f40_r9_l : f40_r9o.toList = f40_r9l := rfl
attribute [simp] f40_r9l
def f40_r11l : List Oper := [⟨some 47, .fieldAddr 39 (.tmp 7) 1, 0, "ref.go:53", #[], none⟩,
  ⟨some 48, .load 37 (.tmp 47), 37, "ref.go:53", #[⟨0, .data⟩], none⟩,
  ⟨some 49, .move (.tmp 8), 3, "ref.go:53", #[], none⟩,
  ⟨some 50, .indexAddr 37 (.tmp 48) (.tmp 49), 0, "ref.go:53", #[⟨1, .data⟩, ⟨2, .data⟩], none⟩,
  ⟨some 51, .load 3 (.tmp 50), 3, "ref.go:53", #[⟨3, .data⟩], none⟩,
  ⟨some 52, .binOp .lss 3 (.tmp 51) (.const (.int .i64 0)) 3, 4, "ref.go:53", #[⟨4, .data⟩], none⟩,
  ⟨some 53, .move (.tmp 52), 4, "ref.go:53", #[⟨5, .data⟩], none⟩,
  ⟨some 54, .fieldAddr 39 (.tmp 7) 1, 0, "ref.go:53", #[⟨6, .guard⟩], some (6, false)⟩,
  ⟨some 55, .load 37 (.tmp 54), 37, "ref.go:53", #[⟨7, .data⟩, ⟨6, .guard⟩], some (6, false)⟩,
  ⟨some 56, .move (.tmp 8), 3, "ref.go:53", #[⟨6, .guard⟩], some (6, false)⟩,
  ⟨some 57, .indexAddr 37 (.tmp 55) (.tmp 56), 0, "ref.go:53", #[⟨8, .data⟩, ⟨9, .data⟩, ⟨6, .guard⟩], some (6, false)⟩,
  ⟨some 58, .load 3 (.tmp 57), 3, "ref.go:53", #[⟨10, .data⟩, ⟨6, .guard⟩], some (6, false)⟩,
  ⟨some 59, .move (.tmp 0), 22, "ref.go:53", #[⟨6, .guard⟩], some (6, false)⟩,
  ⟨some 60, .call ⟨.builtin .len, #[.tmp 59], #[22]⟩, 3, "ref.go:53", #[⟨12, .data⟩, ⟨6, .guard⟩], some (6, false)⟩,
  ⟨some 61, .binOp .geq 3 (.tmp 58) (.tmp 60) 3, 4, "ref.go:53", #[⟨11, .data⟩, ⟨13, .data⟩, ⟨6, .guard⟩], some (6, false)⟩,
  ⟨some 62, .pick (.tmp 53) (.const (.bool true)) (.tmp 61), 4, "ref.go:53", #[⟨6, .data⟩, ⟨14, .data⟩], none⟩]
def f40_r11o : Array Oper := f40_r11l.toArray
@[simp] theorem f40_r11_l : f40_r11o.toList = f40_r11l := rfl
attribute [simp] f40_r11l
@[simp] theorem f40_r11_g6 : guardT f40_r11o 6 = some 53 := rfl
def f40_r12l : List Oper := [⟨some 6, .assign (.const (.int .i64 5)), 26, "ref.go:54", #[], none⟩]
def f40_r12o : Array Oper := f40_r12l.toArray
@[simp] theorem f40_r12_l : f40_r12o.toList = f40_r12l := rfl
attribute [simp] f40_r12l
def f40_r13l : List Oper := [⟨some 63, .move (.tmp 0), 22, "ref.go:56", #[], none⟩,
  ⟨some 64, .fieldAddr 39 (.tmp 7) 1, 0, "ref.go:56", #[], none⟩,
  ⟨some 65, .load 37 (.tmp 64), 37, "ref.go:56", #[⟨1, .data⟩], none⟩,
  ⟨some 66, .move (.tmp 8), 3, "ref.go:56", #[], none⟩,
  ⟨some 67, .indexAddr 37 (.tmp 65) (.tmp 66), 0, "ref.go:56", #[⟨2, .data⟩, ⟨3, .data⟩], none⟩,
  ⟨some 68, .load 3 (.tmp 67), 3, "ref.go:56", #[⟨4, .data⟩], none⟩,
  ⟨some 69, .indexAddr 22 (.tmp 63) (.tmp 68), 0, "ref.go:56", #[⟨0, .data⟩, ⟨5, .data⟩], none⟩,
  ⟨some 70, .fieldAddr 35 (.tmp 69) 0, 0, "ref.go:56", #[⟨6, .data⟩], none⟩,
  ⟨some 71, .load 3 (.tmp 70), 3, "ref.go:56", #[⟨7, .data⟩], none⟩,
  ⟨some 9, .assign (.tmp 71), 3, "ref.go:56", #[⟨8, .data⟩, ⟨0, .phase⟩, ⟨1, .phase⟩, ⟨2, .phase⟩, ⟨3, .phase⟩, ⟨4, .phase⟩, ⟨5, .phase⟩, ⟨6, .phase⟩, ⟨7, .phase⟩, ⟨8, .phase⟩], none⟩]
def f40_r13o : Array Oper := f40_r13l.toArray
@[simp] theorem f40_r13_l : f40_r13o.toList = f40_r13l := rfl
attribute [simp] f40_r13l
def f40_r14l : List Oper := [⟨some 72, .move (.tmp 9), 3, "ref.go:56", #[], none⟩,
  ⟨some 73, .binOp .neq 3 (.tmp 72) (.const (.int .i64 1)) 3, 4, "ref.go:56", #[⟨0, .data⟩], none⟩,
  ⟨some 74, .move (.tmp 73), 4, "ref.go:56", #[⟨1, .data⟩], none⟩,
  ⟨some 75, .move (.tmp 9), 3, "ref.go:56", #[⟨2, .guard⟩], some (2, true)⟩,
  ⟨some 76, .binOp .neq 3 (.tmp 75) (.const (.int .i64 4)) 3, 4, "ref.go:56", #[⟨3, .data⟩, ⟨2, .guard⟩], some (2, true)⟩,
  ⟨some 77, .pick (.tmp 74) (.tmp 76) (.const (.bool false)), 4, "ref.go:56", #[⟨2, .data⟩, ⟨4, .data⟩], none⟩,
  ⟨some 78, .move (.tmp 77), 4, "ref.go:56", #[⟨5, .data⟩, ⟨2, .chain⟩], none⟩,
  ⟨some 79, .move (.tmp 9), 3, "ref.go:56", #[⟨6, .guard⟩], some (6, true)⟩,
  ⟨some 80, .binOp .neq 3 (.tmp 79) (.const (.int .i64 5)) 3, 4, "ref.go:56", #[⟨7, .data⟩, ⟨6, .guard⟩], some (6, true)⟩,
  ⟨some 81, .pick (.tmp 78) (.tmp 80) (.const (.bool false)), 4, "ref.go:56", #[⟨6, .data⟩, ⟨8, .data⟩], none⟩]
def f40_r14o : Array Oper := f40_r14l.toArray
@[simp] theorem f40_r14_l : f40_r14o.toList = f40_r14l := rfl
attribute [simp] f40_r14l
@[simp] theorem f40_r14_g2 : guardT f40_r14o 2 = some 74 := rfl
@[simp] theorem f40_r14_g6 : guardT f40_r14o 6 = some 78 := rfl
def f40_r15l : List Oper := [⟨some 6, .assign (.const (.int .i64 18)), 26, "ref.go:57", #[], none⟩]
def f40_r15o : Array Oper := f40_r15l.toArray
@[simp] theorem f40_r15_l : f40_r15o.toList = f40_r15l := rfl
attribute [simp] f40_r15l
def f40_r10l : List Oper := [⟨some 45, .move (.tmp 8), 3, "ref.go:52", #[], none⟩,
  ⟨some 46, .binOp .add 3 (.tmp 45) (.const (.int .i64 1)) 3, 3, "ref.go:52", #[⟨0, .data⟩], none⟩,
  ⟨some 8, .assign (.tmp 46), 3, "ref.go:52", #[⟨1, .data⟩, ⟨0, .phase⟩, ⟨1, .phase⟩], none⟩]
def f40_r10o : Array Oper := f40_r10l.toArray
@[simp] theorem f40_r10_l : f40_r10o.toList = f40_r10l := rfl
attribute [simp] f40_r10l
def f40_l0 : AC :=
  (.seq (.seq (.reg 9 f40_r9o [0, 7, 8, 44, 54, 55, 56, 57, 58, 59, 60, 61, 75, 76, 79, 80]) (.cond (.tmp 44) .skip (.exit 0))) (.seq (.block 1 (.seq (.seq (.reg 11 f40_r11o [0, 7, 8, 54, 55, 56, 57, 58, 59, 60, 61, 62, 75, 76, 79, 80]) (.cond (.tmp 62) (.seq (.reg 12 f40_r12o [6]) .ret) .skip)) (.seq (.reg 13 f40_r13o [0, 7, 8, 9, 54, 55, 56, 57, 58, 59, 60, 61, 75, 76, 79, 80]) (.seq (.reg 14 f40_r14o [0, 7, 8, 54, 55, 56, 57, 58, 59, 60, 61, 75, 76, 79, 80, 81]) (.cond (.tmp 81) (.seq (.reg 15 f40_r15o [6]) .ret) .skip))))) (.reg 10 f40_r10o [0, 7, 8, 54, 55, 56, 57, 58, 59, 60, 61, 75, 76, 79, 80])))
theorem f40_l0_fits : f40_l0.fits 82 = true := by kernel_rfl
def f40_r16l : List Oper := [⟨some 6, .assign (.const (.int .i64 0)), 26, "ref.go:60", #[], none⟩]
def f40_r16o : Array Oper := f40_r16l.toArray
@[simp] theorem f40_r16_l : f40_r16o.toList = f40_r16l := rfl
attribute [simp] f40_r16l
def f40_ac : AC :=
  (.seq (.reg 0 f40_r0o [0, 1, 2, 19, 20, 21, 22, 27, 28, 29, 30, 31, 32, 33, 34, 54, 55, 56, 57, 58, 59, 60, 61, 75, 76, 79, 80]) (.seq (.reg 1 f40_r1o [0, 1, 2, 7, 19, 20, 21, 22, 27, 28, 29, 30, 31, 32, 33, 34, 54, 55, 56, 57, 58, 59, 60, 61, 75, 76, 79, 80]) (.seq (.seq (.reg 2 f40_r2o [0, 1, 2, 7, 23, 27, 28, 29, 30, 31, 32, 33, 34, 54, 55, 56, 57, 58, 59, 60, 61, 75, 76, 79, 80]) (.cond (.tmp 23) (.seq (.reg 3 f40_r3o [6]) .ret) .skip)) (.seq (.seq (.draw 4 f40_r4o [0, 7, 35, 54, 55, 56, 57, 58, 59, 60, 61, 75, 76, 79, 80]) (.cond (.tmp 35) (.seq (.reg 5 f40_r5o [6]) .ret) .skip)) (.seq (.seq (.reg 6 f40_r6o [0, 7, 39, 54, 55, 56, 57, 58, 59, 60, 61, 75, 76, 79, 80]) (.cond (.tmp 39) (.seq (.reg 7 f40_r7o [6]) .ret) .skip)) (.seq (.seq (.reg 8 f40_r8o [0, 7, 8, 54, 55, 56, 57, 58, 59, 60, 61, 75, 76, 79, 80]) (.block 0 (.loop f40_l0))) (.seq (.reg 16 f40_r16o [6]) .ret)))))))
theorem f40_eq : Tryd.f40.body = some f40_ac.code := rfl
@[simp] theorem f40_nt : Tryd.f40.ntmps = 82 := rfl
theorem f40_fits : f40_ac.fits Tryd.f40.ntmps = true := by kernel_rfl
@[simp] theorem f40_res : Tryd.f40.results.toList = [.tmp 6] := rfl
@[simp] theorem f40_isb : Tryd.f40.body.isNone = false := rfl
@[simp] theorem f40_r4_s : drawSimple cfg0 f40_r4o = true := by kernel_rfl
@[simp] theorem f40_r4_d : drawOk cfg0 f40_r4o = true := by kernel_rfl
@[simp] theorem f40_r4_t9 : tailOk cfg0 f40_r4o 9 = true := by kernel_rfl
/- F41 slices.IndexFunc[[]cinnabar/api.Alt,cinnabar/api.Alt] -/
def f41_r0l : List Oper := [⟨some 4, .assign (.const (.int .i64 0)), 3, "slices.go:107", #[], none⟩]
def f41_r0o : Array Oper := f41_r0l.toArray
@[simp] theorem f41_r0_l : f41_r0o.toList = f41_r0l := rfl
attribute [simp] f41_r0l
def f41_r1l : List Oper := [⟨some 6, .move (.tmp 0), 32, "slices.go:108", #[], none⟩,
  ⟨some 7, .call ⟨.builtin .len, #[.tmp 6], #[32]⟩, 3, "slices.go:108", #[⟨0, .data⟩], none⟩,
  ⟨some 8, .move (.const (.int .i64 0)), 3, "slices.go:108", #[], none⟩]
def f41_r1o : Array Oper := f41_r1l.toArray
@[simp] theorem f41_r1_l : f41_r1o.toList = f41_r1l := rfl
attribute [simp] f41_r1l
def f41_r2l : List Oper := [⟨some 9, .binOp .lss 3 (.tmp 8) (.tmp 7) 3, 0, "slices.go:108", #[], none⟩]
def f41_r2o : Array Oper := f41_r2l.toArray
@[simp] theorem f41_r2_l : f41_r2o.toList = f41_r2l := rfl
attribute [simp] f41_r2l
def f41_r3l : List Oper := [⟨some 10, .move (.tmp 8), 3, "slices.go:108", #[], none⟩,
  ⟨some 5, .assign (.tmp 10), 3, "slices.go:108", #[⟨0, .data⟩, ⟨0, .phase⟩], none⟩]
def f41_r3o : Array Oper := f41_r3l.toArray
@[simp] theorem f41_r3_l : f41_r3o.toList = f41_r3l := rfl
attribute [simp] f41_r3l
def f41_r4l : List Oper := [⟨some 11, .move (.tmp 1), 49, "slices.go:109", #[], none⟩,
  ⟨some 12, .move (.tmp 0), 32, "slices.go:109", #[], none⟩,
  ⟨some 13, .move (.tmp 5), 3, "slices.go:109", #[], none⟩,
  ⟨some 14, .indexAddr 32 (.tmp 12) (.tmp 13), 0, "slices.go:109", #[⟨1, .data⟩, ⟨2, .data⟩], none⟩,
  ⟨some 15, .load 39 (.tmp 14), 39, "slices.go:109", #[⟨3, .data⟩], none⟩,
  ⟨some 16, .call ⟨.value (.tmp 11), #[.tmp 15], #[39]⟩, 4, "slices.go:109", #[⟨0, .data⟩, ⟨4, .data⟩], none⟩]
def f41_r4o : Array Oper := f41_r4l.toArray
@[simp] theorem f41_r4_l : f41_r4o.toList = f41_r4l := rfl
attribute [simp] f41_r4l
def f41_r5l : List Oper := [⟨some 17, .move (.tmp 5), 3, "slices.go:110", #[], none⟩,
  ⟨some 4, .assign (.tmp 17), 3, "slices.go:110", #[⟨0, .data⟩, ⟨0, .phase⟩], none⟩]
def f41_r5o : Array Oper := f41_r5l.toArray
@[simp] theorem f41_r5_l : f41_r5o.toList = f41_r5l := rfl
attribute [simp] f41_r5l
def f41_r6l : List Oper := [⟨some 18, .binOp .add 3 (.tmp 8) (.const (.int .i64 1)) 3, 3, "slices.go:108", #[], none⟩,
  ⟨some 8, .move (.tmp 18), 3, "slices.go:108", #[⟨0, .data⟩], none⟩]
def f41_r6o : Array Oper := f41_r6l.toArray
@[simp] theorem f41_r6_l : f41_r6o.toList = f41_r6l := rfl
attribute [simp] f41_r6l
def f41_l0 : AC :=
  (.seq (.reg 2 f41_r2o [0, 1, 7, 8, 9]) (.seq (.cond (.tmp 9) .skip (.exit 0)) (.seq (.block 1 (.seq (.reg 3 f41_r3o [0, 1, 5, 7, 8]) (.seq (.reg 4 f41_r4o [0, 1, 5, 7, 8, 16]) (.cond (.tmp 16) (.seq (.reg 5 f41_r5o [4]) .ret) .skip)))) (.reg 6 f41_r6o [0, 1, 7, 8]))))
theorem f41_l0_fits : f41_l0.fits 19 = true := by kernel_rfl
def f41_r7l : List Oper := [⟨some 4, .assign (.const (.int .i64 (-1))), 3, "slices.go:113", #[], none⟩]
def f41_r7o : Array Oper := f41_r7l.toArray
@[simp] theorem f41_r7_l : f41_r7o.toList = f41_r7l := rfl
attribute [simp] f41_r7l
def f41_ac : AC :=
  (.seq (.reg 0 f41_r0o [0, 1]) (.seq (.seq (.reg 1 f41_r1o [0, 1, 7, 8]) (.block 0 (.loop f41_l0))) (.seq (.reg 7 f41_r7o [4]) .ret)))
theorem f41_eq : Tryd.f41.body = some f41_ac.code := rfl
@[simp] theorem f41_nt : Tryd.f41.ntmps = 19 := rfl
theorem f41_fits : f41_ac.fits Tryd.f41.ntmps = true := by kernel_rfl
@[simp] theorem f41_res : Tryd.f41.results.toList = [.tmp 4] := rfl
@[simp] theorem f41_isb : Tryd.f41.body.isNone = false := rfl
/- F60 slices.IndexFunc[[]int,int] -/
def f60_r0l : List Oper := [⟨some 4, .assign (.const (.int .i64 0)), 3, "slices.go:107", #[], none⟩]
def f60_r0o : Array Oper := f60_r0l.toArray
@[simp] theorem f60_r0_l : f60_r0o.toList = f60_r0l := rfl
attribute [simp] f60_r0l
def f60_r1l : List Oper := [⟨some 6, .move (.tmp 0), 37, "slices.go:108", #[], none⟩,
  ⟨some 7, .call ⟨.builtin .len, #[.tmp 6], #[37]⟩, 3, "slices.go:108", #[⟨0, .data⟩], none⟩,
  ⟨some 8, .move (.const (.int .i64 0)), 3, "slices.go:108", #[], none⟩]
def f60_r1o : Array Oper := f60_r1l.toArray
@[simp] theorem f60_r1_l : f60_r1o.toList = f60_r1l := rfl
attribute [simp] f60_r1l
def f60_r2l : List Oper := [⟨some 9, .binOp .lss 3 (.tmp 8) (.tmp 7) 3, 0, "slices.go:108", #[], none⟩]
def f60_r2o : Array Oper := f60_r2l.toArray
@[simp] theorem f60_r2_l : f60_r2o.toList = f60_r2l := rfl
attribute [simp] f60_r2l
def f60_r3l : List Oper := [⟨some 10, .move (.tmp 8), 3, "slices.go:108", #[], none⟩,
  ⟨some 5, .assign (.tmp 10), 3, "slices.go:108", #[⟨0, .data⟩, ⟨0, .phase⟩], none⟩]
def f60_r3o : Array Oper := f60_r3l.toArray
@[simp] theorem f60_r3_l : f60_r3o.toList = f60_r3l := rfl
attribute [simp] f60_r3l
def f60_r4l : List Oper := [⟨some 11, .move (.tmp 1), 66, "slices.go:109", #[], none⟩,
  ⟨some 12, .move (.tmp 0), 37, "slices.go:109", #[], none⟩,
  ⟨some 13, .move (.tmp 5), 3, "slices.go:109", #[], none⟩,
  ⟨some 14, .indexAddr 37 (.tmp 12) (.tmp 13), 0, "slices.go:109", #[⟨1, .data⟩, ⟨2, .data⟩], none⟩,
  ⟨some 15, .load 3 (.tmp 14), 3, "slices.go:109", #[⟨3, .data⟩], none⟩,
  ⟨some 16, .call ⟨.value (.tmp 11), #[.tmp 15], #[3]⟩, 4, "slices.go:109", #[⟨0, .data⟩, ⟨4, .data⟩], none⟩]
def f60_r4o : Array Oper := f60_r4l.toArray
@[simp] theorem f60_r4_l : f60_r4o.toList = f60_r4l := rfl
attribute [simp] f60_r4l
def f60_r5l : List Oper := [⟨some 17, .move (.tmp 5), 3, "slices.go:110", #[], none⟩,
  ⟨some 4, .assign (.tmp 17), 3, "slices.go:110", #[⟨0, .data⟩, ⟨0, .phase⟩], none⟩]
def f60_r5o : Array Oper := f60_r5l.toArray
@[simp] theorem f60_r5_l : f60_r5o.toList = f60_r5l := rfl
attribute [simp] f60_r5l
def f60_r6l : List Oper := [⟨some 18, .binOp .add 3 (.tmp 8) (.const (.int .i64 1)) 3, 3, "slices.go:108", #[], none⟩,
  ⟨some 8, .move (.tmp 18), 3, "slices.go:108", #[⟨0, .data⟩], none⟩]
def f60_r6o : Array Oper := f60_r6l.toArray
@[simp] theorem f60_r6_l : f60_r6o.toList = f60_r6l := rfl
attribute [simp] f60_r6l
def f60_l0 : AC :=
  (.seq (.reg 2 f60_r2o [0, 1, 7, 8, 9]) (.seq (.cond (.tmp 9) .skip (.exit 0)) (.seq (.block 1 (.seq (.reg 3 f60_r3o [0, 1, 5, 7, 8]) (.seq (.reg 4 f60_r4o [0, 1, 5, 7, 8, 16]) (.cond (.tmp 16) (.seq (.reg 5 f60_r5o [4]) .ret) .skip)))) (.reg 6 f60_r6o [0, 1, 7, 8]))))
theorem f60_l0_fits : f60_l0.fits 19 = true := by kernel_rfl
def f60_r7l : List Oper := [⟨some 4, .assign (.const (.int .i64 (-1))), 3, "slices.go:113", #[], none⟩]
def f60_r7o : Array Oper := f60_r7l.toArray
@[simp] theorem f60_r7_l : f60_r7o.toList = f60_r7l := rfl
attribute [simp] f60_r7l
def f60_ac : AC :=
  (.seq (.reg 0 f60_r0o [0, 1]) (.seq (.seq (.reg 1 f60_r1o [0, 1, 7, 8]) (.block 0 (.loop f60_l0))) (.seq (.reg 7 f60_r7o [4]) .ret)))
theorem f60_eq : Tryd.f60.body = some f60_ac.code := rfl
@[simp] theorem f60_nt : Tryd.f60.ntmps = 19 := rfl
theorem f60_fits : f60_ac.fits Tryd.f60.ntmps = true := by kernel_rfl
@[simp] theorem f60_res : Tryd.f60.results.toList = [.tmp 4] := rfl
@[simp] theorem f60_isb : Tryd.f60.body.isNone = false := rfl
/- F61 cmp.Or[int] -/
def f61_r0l : List Oper := [⟨some 2, .assign (.const (.int .i64 0)), 3, "cmp.go:69", #[], none⟩]
def f61_r0o : Array Oper := f61_r0l.toArray
@[simp] theorem f61_r0_l : f61_r0o.toList = f61_r0l := rfl
attribute [simp] f61_r0l
def f61_r1l : List Oper := [⟨some 3, .assign (.const (.int .i64 0)), 3, "cmp.go:70", #[], none⟩]
def f61_r1o : Array Oper := f61_r1l.toArray
@[simp] theorem f61_r1_l : f61_r1o.toList = f61_r1l := rfl
attribute [simp] f61_r1l
def f61_r2l : List Oper := [⟨some 6, .move (.tmp 0), 37, "cmp.go:71", #[], none⟩,
  ⟨some 7, .call ⟨.builtin .len, #[.tmp 6], #[37]⟩, 3, "cmp.go:71", #[⟨0, .data⟩], none⟩,
  ⟨some 8, .move (.const (.int .i64 0)), 3, "cmp.go:71", #[], none⟩]
def f61_r2o : Array Oper := f61_r2l.toArray
@[simp] theorem f61_r2_l : f61_r2o.toList = f61_r2l := rfl
attribute [simp] f61_r2l
def f61_r3l : List Oper := [⟨some 9, .binOp .lss 3 (.tmp 8) (.tmp 7) 3, 0, "cmp.go:71", #[], none⟩]
def f61_r3o : Array Oper := f61_r3l.toArray
@[simp] theorem f61_r3_l : f61_r3o.toList = f61_r3l := rfl
attribute [simp] f61_r3l
def f61_r4l : List Oper := [⟨some 10, .indexAddr 37 (.tmp 6) (.tmp 8), 0, "cmp.go:71", #[], none⟩,
  ⟨some 11, .load 3 (.tmp 10), 3, "cmp.go:71", #[⟨0, .data⟩], none⟩,
  ⟨some 5, .assign (.tmp 11), 3, "cmp.go:71", #[⟨1, .data⟩, ⟨0, .phase⟩, ⟨1, .phase⟩], none⟩]
def f61_r4o : Array Oper := f61_r4l.toArray
@[simp] theorem f61_r4_l : f61_r4o.toList = f61_r4l := rfl
attribute [simp] f61_r4l
def f61_r5l : List Oper := [⟨some 12, .move (.tmp 5), 3, "cmp.go:72", #[], none⟩,
  ⟨some 13, .move (.tmp 3), 3, "cmp.go:72", #[], none⟩,
  ⟨some 14, .binOp .neq 3 (.tmp 12) (.tmp 13) 3, 4, "cmp.go:72", #[⟨0, .data⟩, ⟨1, .data⟩], none⟩]
def f61_r5o : Array Oper := f61_r5l.toArray
@[simp] theorem f61_r5_l : f61_r5o.toList = f61_r5l := rfl
attribute [simp] f61_r5l
def f61_r6l : List Oper := [⟨some 15, .move (.tmp 5), 3, "cmp.go:73", #[], none⟩,
  ⟨some 2, .assign (.tmp 15), 3, "cmp.go:73", #[⟨0, .data⟩, ⟨0, .phase⟩], none⟩]
def f61_r6o : Array Oper := f61_r6l.toArray
@[simp] theorem f61_r6_l : f61_r6o.toList = f61_r6l := rfl
attribute [simp] f61_r6l
def f61_r7l : List Oper := [⟨some 16, .binOp .add 3 (.tmp 8) (.const (.int .i64 1)) 3, 3, "cmp.go:71", #[], none⟩,
  ⟨some 8, .move (.tmp 16), 3, "cmp.go:71", #[⟨0, .data⟩], none⟩]
def f61_r7o : Array Oper := f61_r7l.toArray
@[simp] theorem f61_r7_l : f61_r7o.toList = f61_r7l := rfl
attribute [simp] f61_r7l
def f61_l0 : AC :=
  (.seq (.reg 3 f61_r3o [3, 6, 7, 8, 9]) (.seq (.cond (.tmp 9) .skip (.exit 0)) (.seq (.block 1 (.seq (.reg 4 f61_r4o [3, 5, 6, 7, 8]) (.seq (.reg 5 f61_r5o [3, 5, 6, 7, 8, 14]) (.cond (.tmp 14) (.seq (.reg 6 f61_r6o [2]) .ret) .skip)))) (.reg 7 f61_r7o [3, 6, 7, 8]))))
theorem f61_l0_fits : f61_l0.fits 18 = true := by kernel_rfl
def f61_r8l : List Oper := [⟨some 17, .move (.tmp 3), 3, "cmp.go:76", #[], none⟩,
  ⟨some 2, .assign (.tmp 17), 3, "cmp.go:76", #[⟨0, .data⟩, ⟨0, .phase⟩], none⟩]
def f61_r8o : Array Oper := f61_r8l.toArray
@[simp] theorem f61_r8_l : f61_r8o.toList = f61_r8l := rfl
attribute [simp] f61_r8l
def f61_ac : AC :=
  (.seq (.reg 0 f61_r0o [0]) (.seq (.reg 1 f61_r1o [0, 3]) (.seq (.seq (.reg 2 f61_r2o [3, 6, 7, 8]) (.block 0 (.loop f61_l0))) (.seq (.reg 8 f61_r8o [2]) .ret))))
theorem f61_eq : Tryd.f61.body = some f61_ac.code := rfl
@[simp] theorem f61_nt : Tryd.f61.ntmps = 18 := rfl
theorem f61_fits : f61_ac.fits Tryd.f61.ntmps = true := by kernel_rfl
@[simp] theorem f61_res : Tryd.f61.results.toList = [.tmp 2] := rfl
@[simp] theorem f61_isb : Tryd.f61.body.isNone = false := rfl
/- F62 strings.Compare -/
def f62_r0l : List Oper := [⟨some 4, .assign (.const (.int .i64 0)), 3, "compare.go:15", #[], none⟩]
def f62_r0o : Array Oper := f62_r0l.toArray
@[simp] theorem f62_r0_l : f62_r0o.toList = f62_r0l := rfl
attribute [simp] f62_r0l
def f62_r1l : List Oper := [⟨some 5, .move (.tmp 0), 9, "compare.go:16", #[], none⟩,
  ⟨some 6, .move (.tmp 1), 9, "compare.go:16", #[], none⟩,
  ⟨some 7, .call ⟨.value (.func 71), #[.tmp 5, .tmp 6], #[9, 9]⟩, 3, "compare.go:16", #[⟨0, .data⟩, ⟨1, .data⟩], none⟩,
  ⟨some 4, .assign (.tmp 7), 3, "compare.go:16", #[⟨2, .data⟩, ⟨2, .chain⟩, ⟨0, .phase⟩, ⟨1, .phase⟩, ⟨2, .phase⟩], none⟩]
def f62_r1o : Array Oper := f62_r1l.toArray
@[simp] theorem f62_r1_l : f62_r1o.toList = f62_r1l := rfl
attribute [simp] f62_r1l
def f62_ac : AC :=
  (.seq (.reg 0 f62_r0o [0, 1]) (.seq (.reg 1 f62_r1o [4]) .ret))
theorem f62_eq : Tryd.f62.body = some f62_ac.code := rfl
@[simp] theorem f62_nt : Tryd.f62.ntmps = 8 := rfl
theorem f62_fits : f62_ac.fits Tryd.f62.ntmps = true := by kernel_rfl
@[simp] theorem f62_res : Tryd.f62.results.toList = [.tmp 4] := rfl
@[simp] theorem f62_isb : Tryd.f62.body.isNone = false := rfl
/- F63 cmp.Compare[int] -/
def f63_r0l : List Oper := [⟨some 4, .assign (.const (.int .i64 0)), 3, "cmp.go:40", #[], none⟩]
def f63_r0o : Array Oper := f63_r0l.toArray
@[simp] theorem f63_r0_l : f63_r0o.toList = f63_r0l := rfl
attribute [simp] f63_r0l
def f63_r1l : List Oper := [⟨some 7, .move (.tmp 0), 3, "cmp.go:41", #[], none⟩,
  ⟨some 8, .call ⟨.value (.func 72), #[.tmp 7], #[3]⟩, 4, "cmp.go:41", #[⟨0, .data⟩], none⟩,
  ⟨some 5, .assign (.tmp 8), 4, "cmp.go:41", #[⟨1, .data⟩, ⟨1, .chain⟩, ⟨0, .phase⟩, ⟨1, .phase⟩], none⟩]
def f63_r1o : Array Oper := f63_r1l.toArray
@[simp] theorem f63_r1_l : f63_r1o.toList = f63_r1l := rfl
attribute [simp] f63_r1l
def f63_r2l : List Oper := [⟨some 9, .move (.tmp 1), 3, "cmp.go:42", #[], none⟩,
  ⟨some 10, .call ⟨.value (.func 72), #[.tmp 9], #[3]⟩, 4, "cmp.go:42", #[⟨0, .data⟩], none⟩,
  ⟨some 6, .assign (.tmp 10), 4, "cmp.go:42", #[⟨1, .data⟩, ⟨1, .chain⟩, ⟨0, .phase⟩, ⟨1, .phase⟩], none⟩]
def f63_r2o : Array Oper := f63_r2l.toArray
@[simp] theorem f63_r2_l : f63_r2o.toList = f63_r2l := rfl
attribute [simp] f63_r2l
def f63_r3l : List Oper := [⟨some 11, .move (.tmp 5), 4, "cmp.go:43", #[], none⟩]
def f63_r3o : Array Oper := f63_r3l.toArray
@[simp] theorem f63_r3_l : f63_r3o.toList = f63_r3l := rfl
attribute [simp] f63_r3l
def f63_r4l : List Oper := [⟨some 12, .move (.tmp 6), 4, "cmp.go:44", #[], none⟩]
def f63_r4o : Array Oper := f63_r4l.toArray
@[simp] theorem f63_r4_l : f63_r4o.toList = f63_r4l := rfl
attribute [simp] f63_r4l
def f63_r5l : List Oper := [⟨some 4, .assign (.const (.int .i64 0)), 3, "cmp.go:45", #[], none⟩]
def f63_r5o : Array Oper := f63_r5l.toArray
@[simp] theorem f63_r5_l : f63_r5o.toList = f63_r5l := rfl
attribute [simp] f63_r5l
def f63_r6l : List Oper := [⟨some 4, .assign (.const (.int .i64 (-1))), 3, "cmp.go:47", #[], none⟩]
def f63_r6o : Array Oper := f63_r6l.toArray
@[simp] theorem f63_r6_l : f63_r6o.toList = f63_r6l := rfl
attribute [simp] f63_r6l
def f63_r7l : List Oper := [⟨some 13, .move (.tmp 6), 4, "cmp.go:49", #[], none⟩]
def f63_r7o : Array Oper := f63_r7l.toArray
@[simp] theorem f63_r7_l : f63_r7o.toList = f63_r7l := rfl
attribute [simp] f63_r7l
def f63_r8l : List Oper := [⟨some 4, .assign (.const (.int .i64 1)), 3, "cmp.go:50", #[], none⟩]
def f63_r8o : Array Oper := f63_r8l.toArray
@[simp] theorem f63_r8_l : f63_r8o.toList = f63_r8l := rfl
attribute [simp] f63_r8l
def f63_r9l : List Oper := [⟨some 14, .move (.tmp 0), 3, "cmp.go:52", #[], none⟩,
  ⟨some 15, .move (.tmp 1), 3, "cmp.go:52", #[], none⟩,
  ⟨some 16, .binOp .lss 3 (.tmp 14) (.tmp 15) 3, 4, "cmp.go:52", #[⟨0, .data⟩, ⟨1, .data⟩], none⟩]
def f63_r9o : Array Oper := f63_r9l.toArray
@[simp] theorem f63_r9_l : f63_r9o.toList = f63_r9l := rfl
attribute [simp] f63_r9l
def f63_r10l : List Oper := [⟨some 4, .assign (.const (.int .i64 (-1))), 3, "cmp.go:53", #[], none⟩]
def f63_r10o : Array Oper := f63_r10l.toArray
@[simp] theorem f63_r10_l : f63_r10o.toList = f63_r10l := rfl
attribute [simp] f63_r10l
def f63_r11l : List Oper := [⟨some 17, .move (.tmp 0), 3, "cmp.go:55", #[], none⟩,
  ⟨some 18, .move (.tmp 1), 3, "cmp.go:55", #[], none⟩,
  ⟨some 19, .binOp .gtr 3 (.tmp 17) (.tmp 18) 3, 4, "cmp.go:55", #[⟨0, .data⟩, ⟨1, .data⟩], none⟩]
def f63_r11o : Array Oper := f63_r11l.toArray
@[simp] theorem f63_r11_l : f63_r11o.toList = f63_r11l := rfl
attribute [simp] f63_r11l
def f63_r12l : List Oper := [⟨some 4, .assign (.const (.int .i64 1)), 3, "cmp.go:56", #[], none⟩]
def f63_r12o : Array Oper := f63_r12l.toArray
@[simp] theorem f63_r12_l : f63_r12o.toList = f63_r12l := rfl
attribute [simp] f63_r12l
def f63_r13l : List Oper := [⟨some 4, .assign (.const (.int .i64 0)), 3, "cmp.go:58", #[], none⟩]
def f63_r13o : Array Oper := f63_r13l.toArray
@[simp] theorem f63_r13_l : f63_r13o.toList = f63_r13l := rfl
attribute [simp] f63_r13l
def f63_ac : AC :=
  (.seq (.reg 0 f63_r0o [0, 1]) (.seq (.reg 1 f63_r1o [0, 1, 5]) (.seq (.reg 2 f63_r2o [0, 1, 5, 6]) (.seq (.seq (.reg 3 f63_r3o [0, 1, 6, 11]) (.cond (.tmp 11) (.seq (.seq (.reg 4 f63_r4o [12]) (.cond (.tmp 12) (.seq (.reg 5 f63_r5o [4]) .ret) .skip)) (.seq (.reg 6 f63_r6o [4]) .ret)) .skip)) (.seq (.seq (.reg 7 f63_r7o [0, 1, 13]) (.cond (.tmp 13) (.seq (.reg 8 f63_r8o [4]) .ret) .skip)) (.seq (.seq (.reg 9 f63_r9o [0, 1, 16]) (.cond (.tmp 16) (.seq (.reg 10 f63_r10o [4]) .ret) .skip)) (.seq (.seq (.reg 11 f63_r11o [19]) (.cond (.tmp 19) (.seq (.reg 12 f63_r12o [4]) .ret) .skip)) (.seq (.reg 13 f63_r13o [4]) .ret))))))))
theorem f63_eq : Tryd.f63.body = some f63_ac.code := rfl
@[simp] theorem f63_nt : Tryd.f63.ntmps = 20 := rfl
theorem f63_fits : f63_ac.fits Tryd.f63.ntmps = true := by kernel_rfl
@[simp] theorem f63_res : Tryd.f63.results.toList = [.tmp 4] := rfl
@[simp] theorem f63_isb : Tryd.f63.body.isNone = false := rfl
/- F64 cinnabar/cinnabarref16.before -/
def f64_r0l : List Oper := [⟨some 2, .box 39 (.tmp 0), 0, "ref.go:64", #[], none⟩,
  ⟨some 3, .box 39 (.tmp 1), 0, "ref.go:64", #[], none⟩,
  ⟨some 4, .assign (.const (.bool false)), 4, "ref.go:64", #[], none⟩]
def f64_r0o : Array Oper := f64_r0l.toArray
@[simp] theorem f64_r0_l : f64_r0o.toList = f64_r0l := rfl
attribute [simp] f64_r0l
def f64_r1l : List Oper := [⟨some 5, .fieldAddr 39 (.tmp 2) 0, 0, "ref.go:65", #[], none⟩,
  ⟨some 6, .load 9 (.tmp 5), 9, "ref.go:65", #[⟨0, .data⟩], none⟩,
  ⟨some 7, .fieldAddr 39 (.tmp 3) 0, 0, "ref.go:65", #[], none⟩,
  ⟨some 8, .load 9 (.tmp 7), 9, "ref.go:65", #[⟨2, .data⟩], none⟩,
  ⟨some 9, .binOp .lss 9 (.tmp 6) (.tmp 8) 9, 4, "ref.go:65", #[⟨1, .data⟩, ⟨3, .data⟩], none⟩,
  ⟨some 10, .move (.tmp 9), 4, "ref.go:65", #[⟨4, .data⟩], none⟩,
  ⟨some 11, .fieldAddr 39 (.tmp 2) 0, 0, "ref.go:65", #[⟨5, .guard⟩], some (5, false)⟩,
  ⟨some 12, .load 9 (.tmp 11), 9, "ref.go:65", #[⟨6, .data⟩, ⟨5, .guard⟩], some (5, false)⟩,
  ⟨some 13, .fieldAddr 39 (.tmp 3) 0, 0, "ref.go:65", #[⟨5, .guard⟩], some (5, false)⟩,
  ⟨some 14, .load 9 (.tmp 13), 9, "ref.go:65", #[⟨8, .data⟩, ⟨5, .guard⟩], some (5, false)⟩,
  ⟨some 15, .binOp .eql 9 (.tmp 12) (.tmp 14) 9, 4, "ref.go:65", #[⟨7, .data⟩, ⟨9, .data⟩, ⟨5, .guard⟩], some (5, false)⟩,
  ⟨some 16, .move (.tmp 15), 4, "ref.go:65", #[⟨10, .data⟩, ⟨5, .chain⟩, ⟨5, .guard⟩], some (5, false)⟩,
  ⟨some 17, .fieldAddr 39 (.tmp 2) 1, 0, "ref.go:65", #[⟨11, .guard⟩], some (11, true)⟩,
  ⟨some 18, .load 37 (.tmp 17), 37, "ref.go:65", #[⟨12, .data⟩, ⟨11, .guard⟩], some (11, true)⟩,
  ⟨some 19, .call ⟨.builtin .len, #[.tmp 18], #[37]⟩, 3, "ref.go:65", #[⟨13, .data⟩, ⟨11, .guard⟩], some (11, true)⟩,
  ⟨some 20, .fieldAddr 39 (.tmp 3) 1, 0, "ref.go:65", #[⟨11, .guard⟩], some (11, true)⟩,
  ⟨some 21, .load 37 (.tmp 20), 37, "ref.go:65", #[⟨15, .data⟩, ⟨11, .guard⟩], some (11, true)⟩,
  ⟨some 22, .call ⟨.builtin .len, #[.tmp 21], #[37]⟩, 3, "ref.go:65", #[⟨16, .data⟩, ⟨11, .guard⟩], some (11, true)⟩,
  ⟨some 23, .binOp .lss 3 (.tmp 19) (.tmp 22) 3, 4, "ref.go:65", #[⟨14, .data⟩, ⟨17, .data⟩, ⟨11, .guard⟩], some (11, true)⟩,
  ⟨some 24, .pick (.tmp 16) (.tmp 23) (.const (.bool false)), 4, "ref.go:65", #[⟨11, .data⟩, ⟨18, .data⟩, ⟨5, .guard⟩], some (5, false)⟩,
  ⟨some 25, .pick (.tmp 10) (.const (.bool true)) (.tmp 24), 4, "ref.go:65", #[⟨5, .data⟩, ⟨19, .data⟩], none⟩,
  ⟨some 4, .assign (.tmp 25), 4, "ref.go:65", #[⟨20, .data⟩, ⟨11, .chain⟩, ⟨0, .phase⟩, ⟨1, .phase⟩, ⟨2, .phase⟩, ⟨3, .phase⟩, ⟨4, .phase⟩, ⟨5, .phase⟩, ⟨6, .phase⟩, ⟨7, .phase⟩, ⟨8, .phase⟩, ⟨9, .phase⟩, ⟨10, .phase⟩, ⟨11, .phase⟩, ⟨12, .phase⟩, ⟨13, .phase⟩, ⟨14, .phase⟩, ⟨15, .phase⟩, ⟨16, .phase⟩, ⟨17, .phase⟩, ⟨18, .phase⟩, ⟨19, .phase⟩, ⟨20, .phase⟩], none⟩]
def f64_r1o : Array Oper := f64_r1l.toArray
@[simp] theorem f64_r1_l : f64_r1o.toList = f64_r1l := rfl
attribute [simp] f64_r1l
@[simp] theorem f64_r1_g5 : guardT f64_r1o 5 = some 10 := rfl
@[simp] theorem f64_r1_g11 : guardT f64_r1o 11 = some 16 := rfl
def f64_ac : AC :=
  (.seq (.reg 0 f64_r0o [2, 3, 11, 12, 13, 14, 15, 16, 17, 18, 19, 20, 21, 22, 23, 24]) (.seq (.reg 1 f64_r1o [4]) .ret))
theorem f64_eq : Tryd.f64.body = some f64_ac.code := rfl
@[simp] theorem f64_nt : Tryd.f64.ntmps = 26 := rfl
theorem f64_fits : f64_ac.fits Tryd.f64.ntmps = true := by kernel_rfl
@[simp] theorem f64_res : Tryd.f64.results.toList = [.tmp 4] := rfl
@[simp] theorem f64_isb : Tryd.f64.body.isNone = false := rfl
/- F71 internal/bytealg.CompareString -/
def f71_r0l : List Oper := [⟨some 4, .assign (.const (.int .i64 0)), 3, "compare_native.go:14", #[], none⟩]
def f71_r0o : Array Oper := f71_r0l.toArray
@[simp] theorem f71_r0_l : f71_r0o.toList = f71_r0l := rfl
attribute [simp] f71_r0l
def f71_r1l : List Oper := [⟨some 5, .move (.tmp 0), 9, "compare_native.go:15", #[], none⟩,
  ⟨some 6, .move (.tmp 1), 9, "compare_native.go:15", #[], none⟩,
  ⟨some 7, .call ⟨.value (.func 76), #[.tmp 5, .tmp 6], #[9, 9]⟩, 3, "compare_native.go:15", #[⟨0, .data⟩, ⟨1, .data⟩], none⟩,
  ⟨some 4, .assign (.tmp 7), 3, "compare_native.go:15", #[⟨2, .data⟩, ⟨2, .chain⟩, ⟨0, .phase⟩, ⟨1, .phase⟩, ⟨2, .phase⟩], none⟩]
def f71_r1o : Array Oper := f71_r1l.toArray
@[simp] theorem f71_r1_l : f71_r1o.toList = f71_r1l := rfl
attribute [simp] f71_r1l
def f71_ac : AC :=
  (.seq (.reg 0 f71_r0o [0, 1]) (.seq (.reg 1 f71_r1o [4]) .ret))
theorem f71_eq : Tryd.f71.body = some f71_ac.code := rfl
@[simp] theorem f71_nt : Tryd.f71.ntmps = 8 := rfl
theorem f71_fits : f71_ac.fits Tryd.f71.ntmps = true := by kernel_rfl
@[simp] theorem f71_res : Tryd.f71.results.toList = [.tmp 4] := rfl
@[simp] theorem f71_isb : Tryd.f71.body.isNone = false := rfl
/- F72 cmp.isNaN[int] -/
def f72_r0l : List Oper := [⟨some 2, .assign (.const (.bool false)), 4, "cmp.go:63", #[], none⟩]
def f72_r0o : Array Oper := f72_r0l.toArray
@[simp] theorem f72_r0_l : f72_r0o.toList = f72_r0l := rfl
attribute [simp] f72_r0l
def f72_r1l : List Oper := [⟨some 3, .move (.tmp 0), 3, "cmp.go:64", #[], none⟩,
  ⟨some 4, .move (.tmp 0), 3, "cmp.go:64", #[], none⟩,
  ⟨some 5, .binOp .neq 3 (.tmp 3) (.tmp 4) 3, 4, "cmp.go:64", #[⟨0, .data⟩, ⟨1, .data⟩], none⟩,
  ⟨some 2, .assign (.tmp 5), 4, "cmp.go:64", #[⟨2, .data⟩, ⟨0, .phase⟩, ⟨1, .phase⟩, ⟨2, .phase⟩], none⟩]
def f72_r1o : Array Oper := f72_r1l.toArray
@[simp] theorem f72_r1_l : f72_r1o.toList = f72_r1l := rfl
attribute [simp] f72_r1l
def f72_ac : AC :=
  (.seq (.reg 0 f72_r0o [0]) (.seq (.reg 1 f72_r1o [2]) .ret))
theorem f72_eq : Tryd.f72.body = some f72_ac.code := rfl
@[simp] theorem f72_nt : Tryd.f72.ntmps = 6 := rfl
theorem f72_fits : f72_ac.fits Tryd.f72.ntmps = true := by kernel_rfl
@[simp] theorem f72_res : Tryd.f72.results.toList = [.tmp 2] := rfl
@[simp] theorem f72_isb : Tryd.f72.body.isNone = false := rfl
end Go.Proofs.YtedphjbgimkmlaaDoor.Ai

