/- Part of a reckoning of a Go program over abstract values, proved sound against the model. -/
import Derived.Test.YtcmcedphaipgkaaGreatDoorAiVA2
set_option linter.unusedSimpArgs false
set_option linter.unusedVariables false
namespace Go.Proofs.YtcmcedphaipgkaaGreatDoor.Ai
noncomputable section
open Go.Proofs
set_option maxRecDepth 100000
noncomputable def T3 : ATy := (cfg0.ty 3).getD ⟨.bool, 0, 0, .nils, false⟩
@[simp] theorem ty_3 : cfg0.ty 3 = some T3 := by kernel_rfl
@[simp] theorem und_3 : T3.und = .int .i64 := by kernel_rfl
@[simp] theorem size_3 : T3.size = 1 := by kernel_rfl
@[simp] theorem bytes_3 : T3.bytes = 8 := by kernel_rfl
@[simp] theorem zero_3 : T3.zero = .int .i64 0 := by kernel_rfl
noncomputable def T22 : ATy := (cfg0.ty 22).getD ⟨.bool, 0, 0, .nils, false⟩
@[simp] theorem ty_22 : cfg0.ty 22 = some T22 := by kernel_rfl
@[simp] theorem und_22 : T22.und = .slice 3 := by kernel_rfl
@[simp] theorem size_22 : T22.size = 1 := by kernel_rfl
@[simp] theorem bytes_22 : T22.bytes = 24 := by kernel_rfl
@[simp] theorem zero_22 : T22.zero = .nils := by kernel_rfl
noncomputable def T24 : ATy := (cfg0.ty 24).getD ⟨.bool, 0, 0, .nils, false⟩
@[simp] theorem ty_24 : cfg0.ty 24 = some T24 := by kernel_rfl
@[simp] theorem agg_24 : isAggD T24.und = true := by kernel_rfl
@[simp] theorem fld_24_0 : fieldOf cfg0 24 0 = some (0, 1, false) := by kernel_rfl
@[simp] theorem fld_24_1 : fieldOf cfg0 24 1 = some (1, 1, false) := by kernel_rfl
@[simp] theorem bld_24 (ps : List (Nat × V)) : aBuild cfg0 24 ps = (fillV (fun i => ([(0, 1), (1, 1)] : List (Nat × Nat))[i]?) [.nils, .int .i64 0] ps).map V.agg := by kernel_rfl
@[simp] theorem size_24 : T24.size = 2 := by kernel_rfl
@[simp] theorem bytes_24 : T24.bytes = 32 := by kernel_rfl
@[simp] theorem zero_24 : T24.zero = .agg [.nils, .int .i64 0] := by kernel_rfl
noncomputable def T25 : ATy := (cfg0.ty 25).getD ⟨.bool, 0, 0, .nils, false⟩
@[simp] theorem ty_25 : cfg0.ty 25 = some T25 := by kernel_rfl
@[simp] theorem und_25 : T25.und = .array 3 24 := by kernel_rfl
@[simp] theorem size_25 : T25.size = 6 := by kernel_rfl
@[simp] theorem bytes_25 : T25.bytes = 96 := by kernel_rfl
@[simp] theorem zero_25 : T25.zero = .agg [.nils, .int .i64 0, .nils, .int .i64 0, .nils, .int .i64 0] := by kernel_rfl
noncomputable def T27 : ATy := (cfg0.ty 27).getD ⟨.bool, 0, 0, .nils, false⟩
@[simp] theorem ty_27 : cfg0.ty 27 = some T27 := by kernel_rfl
@[simp] theorem und_27 : T27.und = .int .i64 := by kernel_rfl
@[simp] theorem size_27 : T27.size = 1 := by kernel_rfl
@[simp] theorem bytes_27 : T27.bytes = 8 := by kernel_rfl
@[simp] theorem zero_27 : T27.zero = .int .i64 0 := by kernel_rfl
@[simp] theorem fn_3 : cfg0.fn 3 = some Tryz.f3 := by kernel_rfl
@[simp] theorem fn_4 : cfg0.fn 4 = some Tryz.f4 := by kernel_rfl
@[simp] theorem fn_5 : cfg0.fn 5 = some Tryz.f5 := by kernel_rfl
@[simp] theorem fn_6 : cfg0.fn 6 = some Tryz.f6 := by kernel_rfl
@[simp] theorem fn_10 : cfg0.fn 10 = some Tryz.f10 := by kernel_rfl
@[simp] theorem fn_17 : cfg0.fn 17 = some Tryz.f17 := by kernel_rfl
@[simp] theorem fn_43 : cfg0.fn 43 = some Tryz.f43 := by kernel_rfl
/- F3 cinnabar/cinnabarlaw35.VerifyJoins -/
def f3_r0l : List Oper := [⟨some 1, .box 25 (.tmp 0), 0, "law.go:129", #[], none⟩,
  ⟨some 2, .assign (.const (.bool false)), 4, "law.go:129", #[], none⟩]
def f3_r0o : Array Oper := f3_r0l.toArray
@[simp] theorem f3_r0_l : f3_r0o.toList = f3_r0l := rfl
attribute [simp] f3_r0l
def f3_r1l : List Oper := [⟨some 13, .call ⟨.value (.func 4), #[], #[]⟩, 4, "law.go:130", #[], none⟩,
  ⟨some 14, .unOp .not 4 (.tmp 13), 4, "law.go:130", #[⟨0, .data⟩], none⟩]
def f3_r1o : Array Oper := f3_r1l.toArray
@[simp] theorem f3_r1_l : f3_r1o.toList = f3_r1l := rfl
attribute [simp] f3_r1l
def f3_r2l : List Oper := [⟨some 2, .assign (.const (.bool false)), 4, "law.go:131", #[], none⟩]
def f3_r2o : Array Oper := f3_r2l.toArray
@[simp] theorem f3_r2_l : f3_r2o.toList = f3_r2l := rfl
attribute [simp] f3_r2l
def f3_r3l : List Oper := [⟨some 15, .load 25 (.tmp 1), 25, "law.go:133", #[], none⟩,
  ⟨some 16, .move (.const (.int .i64 0)), 3, "law.go:133", #[], none⟩]
def f3_r3o : Array Oper := f3_r3l.toArray
@[simp] theorem f3_r3_l : f3_r3o.toList = f3_r3l := rfl
attribute [simp] f3_r3l
def f3_r4l : List Oper := [⟨some 17, .binOp .lss 3 (.tmp 16) (.const (.int .i64 3)) 3, 0, "law.go:133", #[], none⟩]
def f3_r4o : Array Oper := f3_r4l.toArray
@[simp] theorem f3_r4_l : f3_r4o.toList = f3_r4l := rfl
attribute [simp] f3_r4l
def f3_r5l : List Oper := [⟨some 18, .index 25 (.tmp 15) (.tmp 16), 24, "law.go:133", #[], none⟩,
  ⟨some 4, .alloc 24, 0, "law.go:133", #[], none⟩,
  ⟨none, .store 24 (.tmp 4) (.tmp 18), 0, "law.go:133", #[⟨1, .data⟩, ⟨0, .data⟩, ⟨0, .phase⟩, ⟨1, .phase⟩], none⟩]
def f3_r5o : Array Oper := f3_r5l.toArray
@[simp] theorem f3_r5_l : f3_r5o.toList = f3_r5l := rfl
attribute [simp] f3_r5l
def f3_r6l : List Oper := [⟨some 19, .fieldAddr 24 (.tmp 4) 0, 0, "law.go:134", #[], none⟩,
  ⟨some 20, .load 22 (.tmp 19), 22, "law.go:134", #[⟨0, .data⟩], none⟩,
  ⟨some 21, .call ⟨.builtin .len, #[.tmp 20], #[22]⟩, 3, "law.go:134", #[⟨1, .data⟩], none⟩,
  ⟨some 22, .binOp .gtr 3 (.tmp 21) (.const (.int .i64 100)) 3, 4, "law.go:134", #[⟨2, .data⟩], none⟩]
def f3_r6o : Array Oper := f3_r6l.toArray
@[simp] theorem f3_r6_l : f3_r6o.toList = f3_r6l := rfl
attribute [simp] f3_r6l
def f3_r7l : List Oper := [⟨some 2, .assign (.const (.bool true)), 4, "law.go:135", #[], none⟩]
def f3_r7o : Array Oper := f3_r7l.toArray
@[simp] theorem f3_r7_l : f3_r7o.toList = f3_r7l := rfl
attribute [simp] f3_r7l
def f3_r8l : List Oper := [⟨some 23, .binOp .add 3 (.tmp 16) (.const (.int .i64 1)) 3, 3, "law.go:133", #[], none⟩,
  ⟨some 16, .move (.tmp 23), 3, "law.go:133", #[⟨0, .data⟩], none⟩]
def f3_r8o : Array Oper := f3_r8l.toArray
@[simp] theorem f3_r8_l : f3_r8o.toList = f3_r8l := rfl
attribute [simp] f3_r8l
def f3_l0 : AC :=
  (.seq (.reg 4 f3_r4o [1, 15, 16, 17, 52, 53, 54, 55, 56, 59, 60, 61, 62, 63, 64, 67, 68, 71, 72, 73, 74, 75, 76, 79, 80, 81, 82, 83, 84, 85, 105, 106, 109, 110, 111, 112, 113, 114, 115, 116, 117, 120, 121, 122, 123, 124, 125, 126, 138, 139, 140, 141, 142, 145, 146, 147, 148, 149]) (.seq (.cond (.tmp 17) .skip (.exit 0)) (.seq (.block 1 (.seq (.reg 5 f3_r5o [1, 4, 15, 16, 52, 53, 54, 55, 56, 59, 60, 61, 62, 63, 64, 67, 68, 71, 72, 73, 74, 75, 76, 79, 80, 81, 82, 83, 84, 85, 105, 106, 109, 110, 111, 112, 113, 114, 115, 116, 117, 120, 121, 122, 123, 124, 125, 126, 138, 139, 140, 141, 142, 145, 146, 147, 148, 149]) (.seq (.reg 6 f3_r6o [1, 15, 16, 22, 52, 53, 54, 55, 56, 59, 60, 61, 62, 63, 64, 67, 68, 71, 72, 73, 74, 75, 76, 79, 80, 81, 82, 83, 84, 85, 105, 106, 109, 110, 111, 112, 113, 114, 115, 116, 117, 120, 121, 122, 123, 124, 125, 126, 138, 139, 140, 141, 142, 145, 146, 147, 148, 149]) (.cond (.tmp 22) (.seq (.reg 7 f3_r7o [2]) .ret) .skip)))) (.reg 8 f3_r8o [1, 15, 16, 52, 53, 54, 55, 56, 59, 60, 61, 62, 63, 64, 67, 68, 71, 72, 73, 74, 75, 76, 79, 80, 81, 82, 83, 84, 85, 105, 106, 109, 110, 111, 112, 113, 114, 115, 116, 117, 120, 121, 122, 123, 124, 125, 126, 138, 139, 140, 141, 142, 145, 146, 147, 148, 149]))))
theorem f3_l0_fits : f3_l0.fits 151 = true := by kernel_rfl
def f3_r9l : List Oper := [⟨some 25, .indexAddr 25 (.tmp 1) (.const (.int .i64 0)), 0, "law.go:138", #[], none⟩,
  ⟨some 26, .load 24 (.tmp 25), 24, "law.go:138", #[⟨0, .data⟩], none⟩,
  ⟨some 27, .indexAddr 25 (.tmp 1) (.const (.int .i64 1)), 0, "law.go:138", #[], none⟩,
  ⟨some 28, .load 24 (.tmp 27), 24, "law.go:138", #[⟨2, .data⟩], none⟩,
  ⟨some 29, .call ⟨.value (.func 5), #[.tmp 26, .tmp 28], #[24, 24]⟩, 28, "law.go:138", #[⟨1, .data⟩, ⟨3, .data⟩], none⟩,
  ⟨some 24, .move (.tmp 29), 28, "law.go:138", #[⟨4, .data⟩], none⟩,
  ⟨some 30, .extract (.tmp 24) 0, 24, "law.go:138", #[⟨5, .data⟩], none⟩,
  ⟨some 31, .extract (.tmp 24) 1, 27, "law.go:138", #[⟨5, .data⟩, ⟨9, .gcOnly .lateStores⟩], none⟩,
  ⟨some 5, .alloc 24, 0, "law.go:138", #[], none⟩,
  ⟨none, .store 24 (.tmp 5) (.tmp 30), 0, "law.go:138", #[⟨8, .data⟩, ⟨6, .data⟩, ⟨4, .chain⟩, ⟨0, .phase⟩, ⟨1, .phase⟩, ⟨2, .phase⟩, ⟨3, .phase⟩, ⟨4, .phase⟩, ⟨5, .phase⟩, ⟨6, .phase⟩, ⟨7, .textOnly .lateStores⟩, ⟨8, .phase⟩], none⟩,
  ⟨some 6, .assign (.tmp 31), 27, "law.go:138", #[⟨7, .data⟩, ⟨9, .chain⟩, ⟨0, .phase⟩, ⟨1, .phase⟩, ⟨2, .phase⟩, ⟨3, .phase⟩, ⟨4, .phase⟩, ⟨5, .phase⟩, ⟨6, .phase⟩, ⟨7, .phase⟩, ⟨8, .phase⟩, ⟨9, .phase⟩], none⟩]
def f3_r9o : Array Oper := f3_r9l.toArray
@[simp] theorem f3_r9_l : f3_r9o.toList = f3_r9l := rfl
attribute [simp] f3_r9l
def f3_r10l : List Oper := [⟨some 33, .indexAddr 25 (.tmp 1) (.const (.int .i64 1)), 0, "law.go:139", #[], none⟩,
  ⟨some 34, .load 24 (.tmp 33), 24, "law.go:139", #[⟨0, .data⟩], none⟩,
  ⟨some 35, .indexAddr 25 (.tmp 1) (.const (.int .i64 0)), 0, "law.go:139", #[], none⟩,
  ⟨some 36, .load 24 (.tmp 35), 24, "law.go:139", #[⟨2, .data⟩], none⟩,
  ⟨some 37, .call ⟨.value (.func 5), #[.tmp 34, .tmp 36], #[24, 24]⟩, 28, "law.go:139", #[⟨1, .data⟩, ⟨3, .data⟩], none⟩,
  ⟨some 32, .move (.tmp 37), 28, "law.go:139", #[⟨4, .data⟩], none⟩,
  ⟨some 38, .extract (.tmp 32) 0, 24, "law.go:139", #[⟨5, .data⟩], none⟩,
  ⟨some 39, .extract (.tmp 32) 1, 27, "law.go:139", #[⟨5, .data⟩, ⟨9, .gcOnly .lateStores⟩], none⟩,
  ⟨some 7, .alloc 24, 0, "law.go:139", #[], none⟩,
  ⟨none, .store 24 (.tmp 7) (.tmp 38), 0, "law.go:139", #[⟨8, .data⟩, ⟨6, .data⟩, ⟨4, .chain⟩, ⟨0, .phase⟩, ⟨1, .phase⟩, ⟨2, .phase⟩, ⟨3, .phase⟩, ⟨4, .phase⟩, ⟨5, .phase⟩, ⟨6, .phase⟩, ⟨7, .textOnly .lateStores⟩, ⟨8, .phase⟩], none⟩,
  ⟨some 8, .assign (.tmp 39), 27, "law.go:139", #[⟨7, .data⟩, ⟨9, .chain⟩, ⟨0, .phase⟩, ⟨1, .phase⟩, ⟨2, .phase⟩, ⟨3, .phase⟩, ⟨4, .phase⟩, ⟨5, .phase⟩, ⟨6, .phase⟩, ⟨7, .phase⟩, ⟨8, .phase⟩, ⟨9, .phase⟩], none⟩]
def f3_r10o : Array Oper := f3_r10l.toArray
@[simp] theorem f3_r10_l : f3_r10o.toList = f3_r10l := rfl
attribute [simp] f3_r10l
def f3_r11l : List Oper := [⟨some 41, .indexAddr 25 (.tmp 1) (.const (.int .i64 0)), 0, "law.go:140", #[], none⟩,
  ⟨some 42, .load 24 (.tmp 41), 24, "law.go:140", #[⟨0, .data⟩], none⟩,
  ⟨some 43, .indexAddr 25 (.tmp 1) (.const (.int .i64 0)), 0, "law.go:140", #[], none⟩,
  ⟨some 44, .load 24 (.tmp 43), 24, "law.go:140", #[⟨2, .data⟩], none⟩,
  ⟨some 45, .call ⟨.value (.func 5), #[.tmp 42, .tmp 44], #[24, 24]⟩, 28, "law.go:140", #[⟨1, .data⟩, ⟨3, .data⟩], none⟩,
  ⟨some 40, .move (.tmp 45), 28, "law.go:140", #[⟨4, .data⟩], none⟩,
  ⟨some 46, .extract (.tmp 40) 0, 24, "law.go:140", #[⟨5, .data⟩], none⟩,
  ⟨some 47, .extract (.tmp 40) 1, 27, "law.go:140", #[⟨5, .data⟩, ⟨9, .gcOnly .lateStores⟩], none⟩,
  ⟨some 9, .alloc 24, 0, "law.go:140", #[], none⟩,
  ⟨none, .store 24 (.tmp 9) (.tmp 46), 0, "law.go:140", #[⟨8, .data⟩, ⟨6, .data⟩, ⟨4, .chain⟩, ⟨0, .phase⟩, ⟨1, .phase⟩, ⟨2, .phase⟩, ⟨3, .phase⟩, ⟨4, .phase⟩, ⟨5, .phase⟩, ⟨6, .phase⟩, ⟨7, .textOnly .lateStores⟩, ⟨8, .phase⟩], none⟩,
  ⟨some 10, .assign (.tmp 47), 27, "law.go:140", #[⟨7, .data⟩, ⟨9, .chain⟩, ⟨0, .phase⟩, ⟨1, .phase⟩, ⟨2, .phase⟩, ⟨3, .phase⟩, ⟨4, .phase⟩, ⟨5, .phase⟩, ⟨6, .phase⟩, ⟨7, .phase⟩, ⟨8, .phase⟩, ⟨9, .phase⟩], none⟩]
def f3_r11o : Array Oper := f3_r11l.toArray
@[simp] theorem f3_r11_l : f3_r11o.toList = f3_r11l := rfl
attribute [simp] f3_r11l
def f3_r12l : List Oper := [⟨some 48, .move (.tmp 6), 27, "law.go:141", #[], none⟩,
  ⟨some 49, .move (.tmp 8), 27, "law.go:141", #[], none⟩,
  ⟨some 50, .binOp .neq 27 (.tmp 48) (.tmp 49) 27, 4, "law.go:141", #[⟨0, .data⟩, ⟨1, .data⟩], none⟩,
  ⟨some 51, .move (.tmp 50), 4, "law.go:141", #[⟨2, .data⟩], none⟩,
  ⟨some 52, .fieldAddr 24 (.tmp 5) 1, 0, "law.go:141", #[⟨3, .guard⟩], some (3, false)⟩,
  ⟨some 53, .load 3 (.tmp 52), 3, "law.go:141", #[⟨4, .data⟩, ⟨3, .guard⟩], some (3, false)⟩,
  ⟨some 54, .fieldAddr 24 (.tmp 7) 1, 0, "law.go:141", #[⟨3, .guard⟩], some (3, false)⟩,
  ⟨some 55, .load 3 (.tmp 54), 3, "law.go:141", #[⟨6, .data⟩, ⟨3, .guard⟩], some (3, false)⟩,
  ⟨some 56, .binOp .neq 3 (.tmp 53) (.tmp 55) 3, 4, "law.go:141", #[⟨5, .data⟩, ⟨7, .data⟩, ⟨3, .guard⟩], some (3, false)⟩,
  ⟨some 57, .pick (.tmp 51) (.const (.bool true)) (.tmp 56), 4, "law.go:141", #[⟨3, .data⟩, ⟨8, .data⟩], none⟩,
  ⟨some 58, .move (.tmp 57), 4, "law.go:141", #[⟨9, .data⟩, ⟨3, .chain⟩], none⟩,
  ⟨some 59, .fieldAddr 24 (.tmp 5) 0, 0, "law.go:141", #[⟨10, .guard⟩], some (10, false)⟩,
  ⟨some 60, .load 22 (.tmp 59), 22, "law.go:141", #[⟨11, .data⟩, ⟨10, .guard⟩], some (10, false)⟩,
  ⟨some 61, .fieldAddr 24 (.tmp 7) 0, 0, "law.go:141", #[⟨10, .guard⟩], some (10, false)⟩,
  ⟨some 62, .load 22 (.tmp 61), 22, "law.go:141", #[⟨13, .data⟩, ⟨10, .guard⟩], some (10, false)⟩,
  ⟨some 63, .call ⟨.value (.func 6), #[.tmp 60, .tmp 62], #[22, 22]⟩, 4, "law.go:141", #[⟨12, .data⟩, ⟨14, .data⟩, ⟨10, .chain⟩, ⟨10, .guard⟩], some (10, false)⟩,
  ⟨some 64, .unOp .not 4 (.tmp 63), 4, "law.go:141", #[⟨15, .data⟩, ⟨10, .guard⟩], some (10, false)⟩,
  ⟨some 65, .pick (.tmp 58) (.const (.bool true)) (.tmp 64), 4, "law.go:141", #[⟨10, .data⟩, ⟨16, .data⟩], none⟩,
  ⟨some 66, .move (.tmp 65), 4, "law.go:141", #[⟨17, .data⟩, ⟨15, .chain⟩], none⟩,
  ⟨some 67, .move (.tmp 10), 27, "law.go:141", #[⟨18, .guard⟩], some (18, false)⟩,
  ⟨some 68, .binOp .neq 27 (.tmp 67) (.const (.int .i64 0)) 27, 4, "law.go:141", #[⟨19, .data⟩, ⟨18, .guard⟩], some (18, false)⟩,
  ⟨some 69, .pick (.tmp 66) (.const (.bool true)) (.tmp 68), 4, "law.go:141", #[⟨18, .data⟩, ⟨20, .data⟩], none⟩,
  ⟨some 70, .move (.tmp 69), 4, "law.go:141", #[⟨21, .data⟩, ⟨18, .chain⟩], none⟩,
  ⟨some 71, .fieldAddr 24 (.tmp 9) 1, 0, "law.go:141", #[⟨22, .guard⟩], some (22, false)⟩,
  ⟨some 72, .load 3 (.tmp 71), 3, "law.go:141", #[⟨23, .data⟩, ⟨22, .guard⟩], some (22, false)⟩,
  ⟨some 73, .indexAddr 25 (.tmp 1) (.const (.int .i64 0)), 0, "law.go:141", #[⟨22, .guard⟩], some (22, false)⟩,
  ⟨some 74, .fieldAddr 24 (.tmp 73) 1, 0, "law.go:141", #[⟨25, .data⟩, ⟨22, .guard⟩], some (22, false)⟩,
  ⟨some 75, .load 3 (.tmp 74), 3, "law.go:141", #[⟨26, .data⟩, ⟨22, .guard⟩], some (22, false)⟩,
  ⟨some 76, .binOp .neq 3 (.tmp 72) (.tmp 75) 3, 4, "law.go:141", #[⟨24, .data⟩, ⟨27, .data⟩, ⟨22, .guard⟩], some (22, false)⟩,
  ⟨some 77, .pick (.tmp 70) (.const (.bool true)) (.tmp 76), 4, "law.go:141", #[⟨22, .data⟩, ⟨28, .data⟩], none⟩,
  ⟨some 78, .move (.tmp 77), 4, "law.go:141", #[⟨29, .data⟩, ⟨22, .chain⟩], none⟩,
  ⟨some 79, .fieldAddr 24 (.tmp 9) 0, 0, "law.go:141", #[⟨30, .guard⟩], some (30, false)⟩,
  ⟨some 80, .load 22 (.tmp 79), 22, "law.go:141", #[⟨31, .data⟩, ⟨30, .guard⟩], some (30, false)⟩,
  ⟨some 81, .indexAddr 25 (.tmp 1) (.const (.int .i64 0)), 0, "law.go:141", #[⟨30, .guard⟩], some (30, false)⟩,
  ⟨some 82, .fieldAddr 24 (.tmp 81) 0, 0, "law.go:141", #[⟨33, .data⟩, ⟨30, .guard⟩], some (30, false)⟩,
  ⟨some 83, .load 22 (.tmp 82), 22, "law.go:141", #[⟨34, .data⟩, ⟨30, .guard⟩], some (30, false)⟩,
  ⟨some 84, .call ⟨.value (.func 6), #[.tmp 80, .tmp 83], #[22, 22]⟩, 4, "law.go:141", #[⟨32, .data⟩, ⟨35, .data⟩, ⟨30, .chain⟩, ⟨30, .guard⟩], some (30, false)⟩,
  ⟨some 85, .unOp .not 4 (.tmp 84), 4, "law.go:141", #[⟨36, .data⟩, ⟨30, .guard⟩], some (30, false)⟩,
  ⟨some 86, .pick (.tmp 78) (.const (.bool true)) (.tmp 85), 4, "law.go:141", #[⟨30, .data⟩, ⟨37, .data⟩], none⟩]
def f3_r12o : Array Oper := f3_r12l.toArray
@[simp] theorem f3_r12_l : f3_r12o.toList = f3_r12l := rfl
attribute [simp] f3_r12l
@[simp] theorem f3_r12_g3 : guardT f3_r12o 3 = some 51 := rfl
@[simp] theorem f3_r12_g10 : guardT f3_r12o 10 = some 58 := rfl
@[simp] theorem f3_r12_g18 : guardT f3_r12o 18 = some 66 := rfl
@[simp] theorem f3_r12_g22 : guardT f3_r12o 22 = some 70 := rfl
@[simp] theorem f3_r12_g30 : guardT f3_r12o 30 = some 78 := rfl
def f3_r13l : List Oper := [⟨some 2, .assign (.const (.bool false)), 4, "law.go:142", #[], none⟩]
def f3_r13o : Array Oper := f3_r13l.toArray
@[simp] theorem f3_r13_l : f3_r13o.toList = f3_r13l := rfl
attribute [simp] f3_r13l
def f3_r14l : List Oper := [⟨some 88, .load 24 (.tmp 5), 24, "law.go:144", #[], none⟩,
  ⟨some 89, .indexAddr 25 (.tmp 1) (.const (.int .i64 2)), 0, "law.go:144", #[], none⟩,
  ⟨some 90, .load 24 (.tmp 89), 24, "law.go:144", #[⟨1, .data⟩], none⟩,
  ⟨some 91, .call ⟨.value (.func 5), #[.tmp 88, .tmp 90], #[24, 24]⟩, 28, "law.go:144", #[⟨0, .data⟩, ⟨2, .data⟩], none⟩,
  ⟨some 87, .move (.tmp 91), 28, "law.go:144", #[⟨3, .data⟩], none⟩,
  ⟨some 92, .extract (.tmp 87) 0, 24, "law.go:144", #[⟨4, .data⟩], none⟩,
  ⟨some 93, .extract (.tmp 87) 1, 27, "law.go:144", #[⟨4, .data⟩, ⟨8, .gcOnly .lateStores⟩], none⟩,
  ⟨some 11, .alloc 24, 0, "law.go:144", #[], none⟩,
  ⟨none, .store 24 (.tmp 11) (.tmp 92), 0, "law.go:144", #[⟨7, .data⟩, ⟨5, .data⟩, ⟨3, .chain⟩, ⟨0, .phase⟩, ⟨1, .phase⟩, ⟨2, .phase⟩, ⟨3, .phase⟩, ⟨4, .phase⟩, ⟨5, .phase⟩, ⟨6, .textOnly .lateStores⟩, ⟨7, .phase⟩], none⟩,
  ⟨some 6, .assign (.tmp 93), 27, "law.go:144", #[⟨6, .data⟩, ⟨8, .chain⟩, ⟨0, .phase⟩, ⟨1, .phase⟩, ⟨2, .phase⟩, ⟨3, .phase⟩, ⟨4, .phase⟩, ⟨5, .phase⟩, ⟨6, .phase⟩, ⟨7, .phase⟩, ⟨8, .phase⟩], none⟩]
def f3_r14o : Array Oper := f3_r14l.toArray
@[simp] theorem f3_r14_l : f3_r14o.toList = f3_r14l := rfl
attribute [simp] f3_r14l
def f3_r15l : List Oper := [⟨some 95, .indexAddr 25 (.tmp 1) (.const (.int .i64 1)), 0, "law.go:145", #[], none⟩,
  ⟨some 96, .load 24 (.tmp 95), 24, "law.go:145", #[⟨0, .data⟩], none⟩,
  ⟨some 97, .indexAddr 25 (.tmp 1) (.const (.int .i64 2)), 0, "law.go:145", #[], none⟩,
  ⟨some 98, .load 24 (.tmp 97), 24, "law.go:145", #[⟨2, .data⟩], none⟩,
  ⟨some 99, .call ⟨.value (.func 5), #[.tmp 96, .tmp 98], #[24, 24]⟩, 28, "law.go:145", #[⟨1, .data⟩, ⟨3, .data⟩], none⟩,
  ⟨some 94, .move (.tmp 99), 28, "law.go:145", #[⟨4, .data⟩], none⟩,
  ⟨some 100, .extract (.tmp 94) 0, 24, "law.go:145", #[⟨5, .data⟩], none⟩,
  ⟨some 101, .extract (.tmp 94) 1, 27, "law.go:145", #[⟨5, .data⟩, ⟨9, .gcOnly .lateStores⟩], none⟩,
  ⟨some 12, .alloc 24, 0, "law.go:145", #[], none⟩,
  ⟨none, .store 24 (.tmp 12) (.tmp 100), 0, "law.go:145", #[⟨8, .data⟩, ⟨6, .data⟩, ⟨4, .chain⟩, ⟨0, .phase⟩, ⟨1, .phase⟩, ⟨2, .phase⟩, ⟨3, .phase⟩, ⟨4, .phase⟩, ⟨5, .phase⟩, ⟨6, .phase⟩, ⟨7, .textOnly .lateStores⟩, ⟨8, .phase⟩], none⟩,
  ⟨some 8, .assign (.tmp 101), 27, "law.go:145", #[⟨7, .data⟩, ⟨9, .chain⟩, ⟨0, .phase⟩, ⟨1, .phase⟩, ⟨2, .phase⟩, ⟨3, .phase⟩, ⟨4, .phase⟩, ⟨5, .phase⟩, ⟨6, .phase⟩, ⟨7, .phase⟩, ⟨8, .phase⟩, ⟨9, .phase⟩], none⟩]
def f3_r15o : Array Oper := f3_r15l.toArray
@[simp] theorem f3_r15_l : f3_r15o.toList = f3_r15l := rfl
attribute [simp] f3_r15l
def f3_r16l : List Oper := [⟨some 102, .move (.tmp 6), 27, "law.go:146", #[], none⟩,
  ⟨some 103, .binOp .neq 27 (.tmp 102) (.const (.int .i64 0)) 27, 4, "law.go:146", #[⟨0, .data⟩], none⟩,
  ⟨some 104, .move (.tmp 103), 4, "law.go:146", #[⟨1, .data⟩], none⟩,
  ⟨some 105, .move (.tmp 8), 27, "law.go:146", #[⟨2, .guard⟩], some (2, false)⟩,
  ⟨some 106, .binOp .neq 27 (.tmp 105) (.const (.int .i64 0)) 27, 4, "law.go:146", #[⟨3, .data⟩, ⟨2, .guard⟩], some (2, false)⟩,
  ⟨some 107, .pick (.tmp 104) (.const (.bool true)) (.tmp 106), 4, "law.go:146", #[⟨2, .data⟩, ⟨4, .data⟩], none⟩,
  ⟨some 108, .move (.tmp 107), 4, "law.go:146", #[⟨5, .data⟩, ⟨2, .chain⟩], none⟩,
  ⟨some 109, .indexAddr 25 (.tmp 1) (.const (.int .i64 0)), 0, "law.go:146", #[⟨6, .guard⟩], some (6, false)⟩,
  ⟨some 110, .fieldAddr 24 (.tmp 109) 0, 0, "law.go:146", #[⟨7, .data⟩, ⟨6, .guard⟩], some (6, false)⟩,
  ⟨some 111, .load 22 (.tmp 110), 22, "law.go:146", #[⟨8, .data⟩, ⟨6, .guard⟩], some (6, false)⟩,
  ⟨some 112, .call ⟨.builtin .len, #[.tmp 111], #[22]⟩, 3, "law.go:146", #[⟨9, .data⟩, ⟨6, .guard⟩], some (6, false)⟩,
  ⟨some 113, .indexAddr 25 (.tmp 1) (.const (.int .i64 1)), 0, "law.go:146", #[⟨6, .guard⟩], some (6, false)⟩,
  ⟨some 114, .fieldAddr 24 (.tmp 113) 0, 0, "law.go:146", #[⟨11, .data⟩, ⟨6, .guard⟩], some (6, false)⟩,
  ⟨some 115, .load 22 (.tmp 114), 22, "law.go:146", #[⟨12, .data⟩, ⟨6, .guard⟩], some (6, false)⟩,
  ⟨some 116, .call ⟨.builtin .len, #[.tmp 115], #[22]⟩, 3, "law.go:146", #[⟨13, .data⟩, ⟨6, .guard⟩], some (6, false)⟩,
  ⟨some 117, .binOp .neq 3 (.tmp 112) (.tmp 116) 3, 4, "law.go:146", #[⟨10, .data⟩, ⟨14, .data⟩, ⟨6, .guard⟩], some (6, false)⟩,
  ⟨some 118, .pick (.tmp 108) (.const (.bool true)) (.tmp 117), 4, "law.go:146", #[⟨6, .data⟩, ⟨15, .data⟩], none⟩,
  ⟨some 119, .move (.tmp 118), 4, "law.go:146", #[⟨16, .data⟩, ⟨6, .chain⟩], none⟩,
  ⟨some 120, .indexAddr 25 (.tmp 1) (.const (.int .i64 0)), 0, "law.go:146", #[⟨17, .guard⟩], some (17, false)⟩,
  ⟨some 121, .fieldAddr 24 (.tmp 120) 1, 0, "law.go:146", #[⟨18, .data⟩, ⟨17, .guard⟩], some (17, false)⟩,
  ⟨some 122, .load 3 (.tmp 121), 3, "law.go:146", #[⟨19, .data⟩, ⟨17, .guard⟩], some (17, false)⟩,
  ⟨some 123, .indexAddr 25 (.tmp 1) (.const (.int .i64 1)), 0, "law.go:146", #[⟨17, .guard⟩], some (17, false)⟩,
  ⟨some 124, .fieldAddr 24 (.tmp 123) 1, 0, "law.go:146", #[⟨21, .data⟩, ⟨17, .guard⟩], some (17, false)⟩,
  ⟨some 125, .load 3 (.tmp 124), 3, "law.go:146", #[⟨22, .data⟩, ⟨17, .guard⟩], some (17, false)⟩,
  ⟨some 126, .binOp .neq 3 (.tmp 122) (.tmp 125) 3, 4, "law.go:146", #[⟨20, .data⟩, ⟨23, .data⟩, ⟨17, .guard⟩], some (17, false)⟩,
  ⟨some 127, .pick (.tmp 119) (.const (.bool true)) (.tmp 126), 4, "law.go:146", #[⟨17, .data⟩, ⟨24, .data⟩], none⟩]
def f3_r16o : Array Oper := f3_r16l.toArray
@[simp] theorem f3_r16_l : f3_r16o.toList = f3_r16l := rfl
attribute [simp] f3_r16l
@[simp] theorem f3_r16_g2 : guardT f3_r16o 2 = some 104 := rfl
@[simp] theorem f3_r16_g6 : guardT f3_r16o 6 = some 108 := rfl
@[simp] theorem f3_r16_g17 : guardT f3_r16o 17 = some 119 := rfl
def f3_r17l : List Oper := [⟨some 2, .assign (.const (.bool true)), 4, "law.go:147", #[], none⟩]
def f3_r17o : Array Oper := f3_r17l.toArray
@[simp] theorem f3_r17_l : f3_r17o.toList = f3_r17l := rfl
attribute [simp] f3_r17l
def f3_r18l : List Oper := [⟨some 129, .indexAddr 25 (.tmp 1) (.const (.int .i64 0)), 0, "law.go:149", #[], none⟩,
  ⟨some 130, .load 24 (.tmp 129), 24, "law.go:149", #[⟨0, .data⟩], none⟩,
  ⟨some 131, .load 24 (.tmp 12), 24, "law.go:149", #[], none⟩,
  ⟨some 132, .call ⟨.value (.func 5), #[.tmp 130, .tmp 131], #[24, 24]⟩, 28, "law.go:149", #[⟨1, .data⟩, ⟨2, .data⟩], none⟩,
  ⟨some 128, .move (.tmp 132), 28, "law.go:149", #[⟨3, .data⟩], none⟩,
  ⟨some 133, .extract (.tmp 128) 0, 24, "law.go:149", #[⟨4, .data⟩], none⟩,
  ⟨some 134, .extract (.tmp 128) 1, 27, "law.go:149", #[⟨4, .data⟩, ⟨7, .gcOnly .lateStores⟩], none⟩,
  ⟨none, .store 24 (.tmp 12) (.tmp 133), 0, "law.go:149", #[⟨5, .data⟩, ⟨3, .chain⟩, ⟨0, .phase⟩, ⟨1, .phase⟩, ⟨2, .phase⟩, ⟨3, .phase⟩, ⟨4, .phase⟩, ⟨5, .phase⟩, ⟨6, .textOnly .lateStores⟩], none⟩,
  ⟨some 8, .assign (.tmp 134), 27, "law.go:149", #[⟨6, .data⟩, ⟨7, .chain⟩, ⟨0, .phase⟩, ⟨1, .phase⟩, ⟨2, .phase⟩, ⟨3, .phase⟩, ⟨4, .phase⟩, ⟨5, .phase⟩, ⟨6, .phase⟩, ⟨7, .phase⟩], none⟩]
def f3_r18o : Array Oper := f3_r18l.toArray
@[simp] theorem f3_r18_l : f3_r18o.toList = f3_r18l := rfl
attribute [simp] f3_r18l
def f3_r19l : List Oper := [⟨some 135, .move (.tmp 8), 27, "law.go:150", #[], none⟩,
  ⟨some 136, .binOp .eql 27 (.tmp 135) (.const (.int .i64 0)) 27, 4, "law.go:150", #[⟨0, .data⟩], none⟩,
  ⟨some 137, .move (.tmp 136), 4, "law.go:150", #[⟨1, .data⟩], none⟩,
  ⟨some 138, .fieldAddr 24 (.tmp 11) 1, 0, "law.go:150", #[⟨2, .guard⟩], some (2, true)⟩,
  ⟨some 139, .load 3 (.tmp 138), 3, "law.go:150", #[⟨3, .data⟩, ⟨2, .guard⟩], some (2, true)⟩,
  ⟨some 140, .fieldAddr 24 (.tmp 12) 1, 0, "law.go:150", #[⟨2, .guard⟩], some (2, true)⟩,
  ⟨some 141, .load 3 (.tmp 140), 3, "law.go:150", #[⟨5, .data⟩, ⟨2, .guard⟩], some (2, true)⟩,
  ⟨some 142, .binOp .eql 3 (.tmp 139) (.tmp 141) 3, 4, "law.go:150", #[⟨4, .data⟩, ⟨6, .data⟩, ⟨2, .guard⟩], some (2, true)⟩,
  ⟨some 143, .pick (.tmp 137) (.tmp 142) (.const (.bool false)), 4, "law.go:150", #[⟨2, .data⟩, ⟨7, .data⟩], none⟩,
  ⟨some 144, .move (.tmp 143), 4, "law.go:150", #[⟨8, .data⟩, ⟨2, .chain⟩], none⟩,
  ⟨some 145, .fieldAddr 24 (.tmp 11) 0, 0, "law.go:150", #[⟨9, .guard⟩], some (9, true)⟩,
  ⟨some 146, .load 22 (.tmp 145), 22, "law.go:150", #[⟨10, .data⟩, ⟨9, .guard⟩], some (9, true)⟩,
  ⟨some 147, .fieldAddr 24 (.tmp 12) 0, 0, "law.go:150", #[⟨9, .guard⟩], some (9, true)⟩,
  ⟨some 148, .load 22 (.tmp 147), 22, "law.go:150", #[⟨12, .data⟩, ⟨9, .guard⟩], some (9, true)⟩,
  ⟨some 149, .call ⟨.value (.func 6), #[.tmp 146, .tmp 148], #[22, 22]⟩, 4, "law.go:150", #[⟨11, .data⟩, ⟨13, .data⟩, ⟨9, .chain⟩, ⟨9, .guard⟩], some (9, true)⟩,
  ⟨some 150, .pick (.tmp 144) (.tmp 149) (.const (.bool false)), 4, "law.go:150", #[⟨9, .data⟩, ⟨14, .data⟩], none⟩,
  ⟨some 2, .assign (.tmp 150), 4, "law.go:150", #[⟨15, .data⟩, ⟨14, .chain⟩, ⟨0, .phase⟩, ⟨1, .phase⟩, ⟨2, .phase⟩, ⟨3, .phase⟩, ⟨4, .phase⟩, ⟨5, .phase⟩, ⟨6, .phase⟩, ⟨7, .phase⟩, ⟨8, .phase⟩, ⟨9, .phase⟩, ⟨10, .phase⟩, ⟨11, .phase⟩, ⟨12, .phase⟩, ⟨13, .phase⟩, ⟨14, .phase⟩, ⟨15, .phase⟩], none⟩]
def f3_r19o : Array Oper := f3_r19l.toArray
@[simp] theorem f3_r19_l : f3_r19o.toList = f3_r19l := rfl
attribute [simp] f3_r19l
@[simp] theorem f3_r19_g2 : guardT f3_r19o 2 = some 137 := rfl
@[simp] theorem f3_r19_g9 : guardT f3_r19o 9 = some 144 := rfl
def f3_ac : AC :=
  (.seq (.reg 0 f3_r0o [1, 52, 53, 54, 55, 56, 59, 60, 61, 62, 63, 64, 67, 68, 71, 72, 73, 74, 75, 76, 79, 80, 81, 82, 83, 84, 85, 105, 106, 109, 110, 111, 112, 113, 114, 115, 116, 117, 120, 121, 122, 123, 124, 125, 126, 138, 139, 140, 141, 142, 145, 146, 147, 148, 149]) (.seq (.seq (.reg 1 f3_r1o [1, 14, 52, 53, 54, 55, 56, 59, 60, 61, 62, 63, 64, 67, 68, 71, 72, 73, 74, 75, 76, 79, 80, 81, 82, 83, 84, 85, 105, 106, 109, 110, 111, 112, 113, 114, 115, 116, 117, 120, 121, 122, 123, 124, 125, 126, 138, 139, 140, 141, 142, 145, 146, 147, 148, 149]) (.cond (.tmp 14) (.seq (.reg 2 f3_r2o [2]) .ret) .skip)) (.seq (.seq (.reg 3 f3_r3o [1, 15, 16, 52, 53, 54, 55, 56, 59, 60, 61, 62, 63, 64, 67, 68, 71, 72, 73, 74, 75, 76, 79, 80, 81, 82, 83, 84, 85, 105, 106, 109, 110, 111, 112, 113, 114, 115, 116, 117, 120, 121, 122, 123, 124, 125, 126, 138, 139, 140, 141, 142, 145, 146, 147, 148, 149]) (.block 0 (.loop f3_l0))) (.seq (.reg 9 f3_r9o [1, 5, 6, 52, 53, 54, 55, 56, 59, 60, 61, 62, 63, 64, 67, 68, 71, 72, 73, 74, 75, 76, 79, 80, 81, 82, 83, 84, 85, 105, 106, 109, 110, 111, 112, 113, 114, 115, 116, 117, 120, 121, 122, 123, 124, 125, 126, 138, 139, 140, 141, 142, 145, 146, 147, 148, 149]) (.seq (.reg 10 f3_r10o [1, 5, 6, 7, 8, 52, 53, 54, 55, 56, 59, 60, 61, 62, 63, 64, 67, 68, 71, 72, 73, 74, 75, 76, 79, 80, 81, 82, 83, 84, 85, 105, 106, 109, 110, 111, 112, 113, 114, 115, 116, 117, 120, 121, 122, 123, 124, 125, 126, 138, 139, 140, 141, 142, 145, 146, 147, 148, 149]) (.seq (.reg 11 f3_r11o [1, 5, 6, 7, 8, 9, 10, 52, 53, 54, 55, 56, 59, 60, 61, 62, 63, 64, 67, 68, 71, 72, 73, 74, 75, 76, 79, 80, 81, 82, 83, 84, 85, 105, 106, 109, 110, 111, 112, 113, 114, 115, 116, 117, 120, 121, 122, 123, 124, 125, 126, 138, 139, 140, 141, 142, 145, 146, 147, 148, 149]) (.seq (.seq (.reg 12 f3_r12o [1, 5, 86, 105, 106, 109, 110, 111, 112, 113, 114, 115, 116, 117, 120, 121, 122, 123, 124, 125, 126, 138, 139, 140, 141, 142, 145, 146, 147, 148, 149]) (.cond (.tmp 86) (.seq (.reg 13 f3_r13o [2]) .ret) .skip)) (.seq (.reg 14 f3_r14o [1, 6, 11, 105, 106, 109, 110, 111, 112, 113, 114, 115, 116, 117, 120, 121, 122, 123, 124, 125, 126, 138, 139, 140, 141, 142, 145, 146, 147, 148, 149]) (.seq (.reg 15 f3_r15o [1, 6, 8, 11, 12, 105, 106, 109, 110, 111, 112, 113, 114, 115, 116, 117, 120, 121, 122, 123, 124, 125, 126, 138, 139, 140, 141, 142, 145, 146, 147, 148, 149]) (.seq (.seq (.reg 16 f3_r16o [1, 11, 12, 127, 138, 139, 140, 141, 142, 145, 146, 147, 148, 149]) (.cond (.tmp 127) (.seq (.reg 17 f3_r17o [2]) .ret) .skip)) (.seq (.reg 18 f3_r18o [8, 11, 12, 138, 139, 140, 141, 142, 145, 146, 147, 148, 149]) (.seq (.reg 19 f3_r19o [2]) .ret))))))))))))
theorem f3_eq : Tryz.f3.body = some f3_ac.code := rfl
@[simp] theorem f3_nt : Tryz.f3.ntmps = 151 := rfl
theorem f3_fits : f3_ac.fits Tryz.f3.ntmps = true := by kernel_rfl
@[simp] theorem f3_res : Tryz.f3.results.toList = [.tmp 2] := rfl
@[simp] theorem f3_isb : Tryz.f3.body.isNone = false := rfl
/- F5 cinnabar/verify.Join -/
def f5_r0l : List Oper := [⟨some 2, .box 24 (.tmp 0), 0, "verify.go:393", #[], none⟩,
  ⟨some 3, .box 24 (.tmp 1), 0, "verify.go:393", #[], none⟩,
  ⟨some 4, .alloc 24, 0, "verify.go:393", #[], none⟩,
  ⟨some 5, .assign (.const (.int .i64 0)), 27, "verify.go:393", #[], none⟩]
def f5_r0o : Array Oper := f5_r0l.toArray
@[simp] theorem f5_r0_l : f5_r0o.toList = f5_r0l := rfl
attribute [simp] f5_r0l
def f5_r1l : List Oper := [⟨some 7, .fieldAddr 24 (.tmp 2) 0, 0, "verify.go:395", #[], none⟩,
  ⟨some 8, .load 22 (.tmp 7), 22, "verify.go:395", #[⟨0, .data⟩], none⟩,
  ⟨some 9, .call ⟨.builtin .len, #[.tmp 8], #[22]⟩, 3, "verify.go:395", #[⟨1, .data⟩], none⟩,
  ⟨some 10, .fieldAddr 24 (.tmp 3) 0, 0, "verify.go:395", #[], none⟩,
  ⟨some 11, .load 22 (.tmp 10), 22, "verify.go:395", #[⟨3, .data⟩], none⟩,
  ⟨some 12, .call ⟨.builtin .len, #[.tmp 11], #[22]⟩, 3, "verify.go:395", #[⟨4, .data⟩], none⟩,
  ⟨some 13, .binOp .neq 3 (.tmp 9) (.tmp 12) 3, 4, "verify.go:395", #[⟨2, .data⟩, ⟨5, .data⟩], none⟩,
  ⟨some 6, .assign (.tmp 13), 4, "verify.go:395", #[⟨6, .data⟩], none⟩]
def f5_r1o : Array Oper := f5_r1l.toArray
@[simp] theorem f5_r1_l : f5_r1o.toList = f5_r1l := rfl
attribute [simp] f5_r1l
def f5_r2l : List Oper := [⟨some 14, .build 24 #[], 24, "verify.go:396", #[], none⟩,
  ⟨none, .store 24 (.tmp 4) (.tmp 14), 0, "verify.go:396", #[⟨0, .data⟩, ⟨0, .phase⟩], none⟩,
  ⟨some 5, .assign (.const (.int .i64 4)), 27, "verify.go:396", #[⟨1, .chain⟩, ⟨0, .phase⟩, ⟨1, .phase⟩], none⟩]
def f5_r2o : Array Oper := f5_r2l.toArray
@[simp] theorem f5_r2_l : f5_r2o.toList = f5_r2l := rfl
attribute [simp] f5_r2l
def f5_r3l : List Oper := [⟨some 16, .fieldAddr 24 (.tmp 2) 1, 0, "verify.go:397", #[], none⟩,
  ⟨some 17, .load 3 (.tmp 16), 3, "verify.go:397", #[⟨0, .data⟩], none⟩,
  ⟨some 18, .fieldAddr 24 (.tmp 3) 1, 0, "verify.go:397", #[], none⟩,
  ⟨some 19, .load 3 (.tmp 18), 3, "verify.go:397", #[⟨2, .data⟩], none⟩,
  ⟨some 20, .binOp .neq 3 (.tmp 17) (.tmp 19) 3, 4, "verify.go:397", #[⟨1, .data⟩, ⟨3, .data⟩], none⟩,
  ⟨some 15, .assign (.tmp 20), 4, "verify.go:397", #[⟨4, .data⟩], none⟩]
def f5_r3o : Array Oper := f5_r3l.toArray
@[simp] theorem f5_r3_l : f5_r3o.toList = f5_r3l := rfl
attribute [simp] f5_r3l
def f5_r4l : List Oper := [⟨some 21, .build 24 #[], 24, "verify.go:398", #[], none⟩,
  ⟨none, .store 24 (.tmp 4) (.tmp 21), 0, "verify.go:398", #[⟨0, .data⟩, ⟨0, .phase⟩], none⟩,
  ⟨some 5, .assign (.const (.int .i64 13)), 27, "verify.go:398", #[⟨1, .chain⟩, ⟨0, .phase⟩, ⟨1, .phase⟩], none⟩]
def f5_r4o : Array Oper := f5_r4l.toArray
@[simp] theorem f5_r4_l : f5_r4o.toList = f5_r4l := rfl
attribute [simp] f5_r4l
def f5_r5l : List Oper := [⟨some 22, .load 24 (.tmp 2), 24, "verify.go:400", #[], none⟩,
  ⟨some 23, .load 24 (.tmp 3), 24, "verify.go:400", #[], none⟩,
  ⟨some 24, .call ⟨.value (.func 10), #[.tmp 22, .tmp 23], #[24, 24]⟩, 24, "verify.go:400", #[⟨0, .data⟩, ⟨1, .data⟩], none⟩,
  ⟨none, .store 24 (.tmp 4) (.tmp 24), 0, "verify.go:400", #[⟨2, .data⟩, ⟨2, .chain⟩, ⟨0, .phase⟩, ⟨1, .phase⟩, ⟨2, .phase⟩], none⟩,
  ⟨some 5, .assign (.const (.int .i64 0)), 27, "verify.go:400", #[⟨3, .chain⟩, ⟨0, .phase⟩, ⟨1, .phase⟩, ⟨2, .phase⟩, ⟨3, .phase⟩], none⟩]
def f5_r5o : Array Oper := f5_r5l.toArray
@[simp] theorem f5_r5_l : f5_r5o.toList = f5_r5l := rfl
attribute [simp] f5_r5l
def f5_ac : AC :=
  (.seq (.reg 0 f5_r0o [2, 3, 4]) (.seq (.block 0 (.seq (.reg 1 f5_r1o [2, 3, 4, 6]) (.cond (.tmp 6) (.seq (.reg 2 f5_r2o [4, 5]) .ret) (.seq (.reg 3 f5_r3o [2, 3, 4, 15]) (.cond (.tmp 15) (.seq (.reg 4 f5_r4o [4, 5]) .ret) .skip))))) (.seq (.reg 5 f5_r5o [4, 5]) .ret)))
theorem f5_eq : Tryz.f5.body = some f5_ac.code := rfl
@[simp] theorem f5_nt : Tryz.f5.ntmps = 25 := rfl
theorem f5_fits : f5_ac.fits Tryz.f5.ntmps = true := by kernel_rfl
@[simp] theorem f5_res : Tryz.f5.results.toList = [.cell 4 24, .tmp 5] := rfl
@[simp] theorem f5_isb : Tryz.f5.body.isNone = false := rfl
/- F10 cinnabar/verify.join -/
def f10_r0l : List Oper := [⟨some 2, .box 24 (.tmp 0), 0, "verify.go:242", #[], none⟩,
  ⟨some 3, .box 24 (.tmp 1), 0, "verify.go:242", #[], none⟩,
  ⟨some 4, .alloc 24, 0, "verify.go:242", #[], none⟩]
def f10_r0o : Array Oper := f10_r0l.toArray
@[simp] theorem f10_r0_l : f10_r0o.toList = f10_r0l := rfl
attribute [simp] f10_r0l
def f10_r1l : List Oper := [⟨some 8, .load 24 (.tmp 2), 24, "verify.go:243", #[], none⟩,
  ⟨some 9, .call ⟨.value (.func 17), #[.tmp 8], #[24]⟩, 24, "verify.go:243", #[⟨0, .data⟩], none⟩,
  ⟨some 5, .alloc 24, 0, "verify.go:243", #[], none⟩,
  ⟨none, .store 24 (.tmp 5) (.tmp 9), 0, "verify.go:243", #[⟨2, .data⟩, ⟨1, .data⟩, ⟨1, .chain⟩, ⟨0, .phase⟩, ⟨1, .phase⟩, ⟨2, .phase⟩], none⟩]
def f10_r1o : Array Oper := f10_r1l.toArray
@[simp] theorem f10_r1_l : f10_r1o.toList = f10_r1l := rfl
attribute [simp] f10_r1l
def f10_r2l : List Oper := [⟨some 10, .fieldAddr 24 (.tmp 3) 0, 0, "verify.go:244", #[], none⟩,
  ⟨some 11, .load 22 (.tmp 10), 22, "verify.go:244", #[⟨0, .data⟩], none⟩,
  ⟨some 12, .call ⟨.builtin .len, #[.tmp 11], #[22]⟩, 3, "verify.go:244", #[⟨1, .data⟩], none⟩,
  ⟨some 13, .move (.const (.int .i64 0)), 3, "verify.go:244", #[], none⟩]
def f10_r2o : Array Oper := f10_r2l.toArray
@[simp] theorem f10_r2_l : f10_r2o.toList = f10_r2l := rfl
attribute [simp] f10_r2l
def f10_r3l : List Oper := [⟨some 14, .binOp .lss 3 (.tmp 13) (.tmp 12) 3, 0, "verify.go:244", #[], none⟩]
def f10_r3o : Array Oper := f10_r3l.toArray
@[simp] theorem f10_r3_l : f10_r3o.toList = f10_r3l := rfl
attribute [simp] f10_r3l
def f10_r4l : List Oper := [⟨some 15, .move (.tmp 13), 3, "verify.go:244", #[], none⟩,
  ⟨some 16, .indexAddr 22 (.tmp 11) (.tmp 13), 0, "verify.go:244", #[], none⟩,
  ⟨some 17, .load 3 (.tmp 16), 3, "verify.go:244", #[⟨1, .data⟩], none⟩,
  ⟨some 6, .assign (.tmp 15), 3, "verify.go:244", #[⟨0, .data⟩, ⟨0, .phase⟩, ⟨1, .phase⟩, ⟨2, .phase⟩], none⟩,
  ⟨some 7, .assign (.tmp 17), 3, "verify.go:244", #[⟨2, .data⟩, ⟨3, .chain⟩, ⟨0, .phase⟩, ⟨1, .phase⟩, ⟨2, .phase⟩, ⟨3, .phase⟩], none⟩]
def f10_r4o : Array Oper := f10_r4l.toArray
@[simp] theorem f10_r4_l : f10_r4o.toList = f10_r4l := rfl
attribute [simp] f10_r4l
def f10_r5l : List Oper := [⟨some 18, .fieldAddr 24 (.tmp 5) 0, 0, "verify.go:245", #[], none⟩,
  ⟨some 19, .load 22 (.tmp 18), 22, "verify.go:245", #[⟨0, .data⟩], none⟩,
  ⟨some 20, .move (.tmp 6), 3, "verify.go:245", #[], none⟩,
  ⟨some 21, .indexAddr 22 (.tmp 19) (.tmp 20), 0, "verify.go:245", #[⟨1, .data⟩, ⟨2, .data⟩], none⟩,
  ⟨some 22, .load 3 (.tmp 21), 3, "verify.go:245", #[⟨3, .data⟩], none⟩,
  ⟨some 23, .move (.tmp 7), 3, "verify.go:245", #[], none⟩,
  ⟨some 24, .binOp .neq 3 (.tmp 22) (.tmp 23) 3, 4, "verify.go:245", #[⟨4, .data⟩, ⟨5, .data⟩], none⟩]
def f10_r5o : Array Oper := f10_r5l.toArray
@[simp] theorem f10_r5_l : f10_r5o.toList = f10_r5l := rfl
attribute [simp] f10_r5l
def f10_r6l : List Oper := [⟨some 25, .fieldAddr 24 (.tmp 5) 0, 0, "verify.go:246", #[], none⟩,
  ⟨some 26, .load 22 (.tmp 25), 22, "verify.go:246", #[⟨0, .data⟩], none⟩,
  ⟨some 27, .move (.tmp 6), 3, "verify.go:246", #[], none⟩,
  ⟨some 28, .indexAddr 22 (.tmp 26) (.tmp 27), 0, "verify.go:246", #[⟨1, .data⟩, ⟨2, .data⟩, ⟨0, .phase⟩, ⟨1, .phase⟩, ⟨2, .phase⟩], none⟩,
  ⟨none, .store 3 (.tmp 28) (.const (.int .i64 0)), 0, "verify.go:246", #[⟨3, .data⟩, ⟨0, .phase⟩, ⟨1, .phase⟩, ⟨2, .phase⟩], none⟩]
def f10_r6o : Array Oper := f10_r6l.toArray
@[simp] theorem f10_r6_l : f10_r6o.toList = f10_r6l := rfl
attribute [simp] f10_r6l
def f10_r7l : List Oper := [⟨some 29, .binOp .add 3 (.tmp 13) (.const (.int .i64 1)) 3, 3, "verify.go:244", #[], none⟩,
  ⟨some 13, .move (.tmp 29), 3, "verify.go:244", #[⟨0, .data⟩], none⟩]
def f10_r7o : Array Oper := f10_r7l.toArray
@[simp] theorem f10_r7_l : f10_r7o.toList = f10_r7l := rfl
attribute [simp] f10_r7l
def f10_l0 : AC :=
  (.seq (.reg 3 f10_r3o [4, 5, 11, 12, 13, 14]) (.seq (.cond (.tmp 14) .skip (.exit 0)) (.seq (.block 1 (.seq (.reg 4 f10_r4o [4, 5, 6, 7, 11, 12, 13]) (.seq (.reg 5 f10_r5o [4, 5, 6, 11, 12, 13, 24]) (.cond (.tmp 24) (.reg 6 f10_r6o [4, 5, 11, 12, 13]) .skip)))) (.reg 7 f10_r7o [4, 5, 11, 12, 13]))))
theorem f10_l0_fits : f10_l0.fits 31 = true := by kernel_rfl
def f10_r8l : List Oper := [⟨some 30, .load 24 (.tmp 5), 24, "verify.go:249", #[], none⟩,
  ⟨none, .store 24 (.tmp 4) (.tmp 30), 0, "verify.go:249", #[⟨0, .data⟩, ⟨0, .phase⟩], none⟩]
def f10_r8o : Array Oper := f10_r8l.toArray
@[simp] theorem f10_r8_l : f10_r8o.toList = f10_r8l := rfl
attribute [simp] f10_r8l
def f10_ac : AC :=
  (.seq (.reg 0 f10_r0o [2, 3, 4]) (.seq (.reg 1 f10_r1o [3, 4, 5]) (.seq (.seq (.reg 2 f10_r2o [4, 5, 11, 12, 13]) (.block 0 (.loop f10_l0))) (.seq (.reg 8 f10_r8o [4]) .ret))))
theorem f10_eq : Tryz.f10.body = some f10_ac.code := rfl
@[simp] theorem f10_nt : Tryz.f10.ntmps = 31 := rfl
theorem f10_fits : f10_ac.fits Tryz.f10.ntmps = true := by kernel_rfl
@[simp] theorem f10_res : Tryz.f10.results.toList = [.cell 4 24] := rfl
@[simp] theorem f10_isb : Tryz.f10.body.isNone = false := rfl
/- F17 cinnabar/verify.clone -/
def f17_r0l : List Oper := [⟨some 1, .box 24 (.tmp 0), 0, "verify.go:220", #[], none⟩,
  ⟨some 2, .alloc 24, 0, "verify.go:220", #[], none⟩]
def f17_r0o : Array Oper := f17_r0l.toArray
@[simp] theorem f17_r0_l : f17_r0o.toList = f17_r0l := rfl
attribute [simp] f17_r0l
def f17_r1l : List Oper := [⟨some 3, .fieldAddr 24 (.tmp 1) 0, 0, "verify.go:220", #[], none⟩,
  ⟨some 4, .load 22 (.tmp 3), 22, "verify.go:220", #[⟨0, .data⟩], none⟩,
  ⟨some 5, .call ⟨.value (.func 43), #[.tmp 4], #[22]⟩, 22, "verify.go:220", #[⟨1, .data⟩], none⟩,
  ⟨some 6, .fieldAddr 24 (.tmp 1) 1, 0, "verify.go:220", #[], none⟩,
  ⟨some 7, .load 3 (.tmp 6), 3, "verify.go:220", #[⟨3, .data⟩], none⟩,
  ⟨some 8, .build 24 #[(0, .tmp 5), (1, .tmp 7)], 24, "verify.go:220", #[⟨2, .data⟩, ⟨4, .data⟩], none⟩,
  ⟨none, .store 24 (.tmp 2) (.tmp 8), 0, "verify.go:220", #[⟨5, .data⟩, ⟨2, .chain⟩, ⟨0, .phase⟩, ⟨1, .phase⟩, ⟨2, .phase⟩, ⟨3, .phase⟩, ⟨4, .phase⟩, ⟨5, .phase⟩], none⟩]
def f17_r1o : Array Oper := f17_r1l.toArray
@[simp] theorem f17_r1_l : f17_r1o.toList = f17_r1l := rfl
attribute [simp] f17_r1l
@[simp] theorem f17_r1_n : f17_r1o.size = 7 := rfl
def f17_ac : AC :=
  (.seq (.reg 0 f17_r0o [1, 2]) (.seq (.draw 1 f17_r1o [2]) .ret))
theorem f17_eq : Tryz.f17.body = some f17_ac.code := rfl
@[simp] theorem f17_nt : Tryz.f17.ntmps = 9 := rfl
theorem f17_fits : f17_ac.fits Tryz.f17.ntmps = true := by kernel_rfl
@[simp] theorem f17_res : Tryz.f17.results.toList = [.cell 2 24] := rfl
@[simp] theorem f17_isb : Tryz.f17.body.isNone = false := rfl
@[simp] theorem f17_r1_s : drawSimple cfg0 f17_r1o = true := by kernel_rfl
@[simp] theorem f17_r1_d : drawOk cfg0 f17_r1o = true := by kernel_rfl
@[simp] theorem f17_r1_t2 : tailOk cfg0 f17_r1o 2 = false := by kernel_rfl
@[simp] theorem f17_r1_t6 : tailOk cfg0 f17_r1o 6 = true := by kernel_rfl
/- F43 slices.Clone[[]int,int] -/
def f43_r0l : List Oper := [⟨some 2, .assign (.const (.slice none 0 0)), 22, "slices.go:355", #[], none⟩]
def f43_r0o : Array Oper := f43_r0l.toArray
@[simp] theorem f43_r0_l : f43_r0o.toList = f43_r0l := rfl
attribute [simp] f43_r0l
def f43_r1l : List Oper := [⟨some 3, .move (.tmp 0), 22, "slices.go:357", #[], none⟩,
  ⟨some 4, .binOp .eql 22 (.tmp 3) (.const (.slice none 0 0)) 22, 4, "slices.go:357", #[⟨0, .data⟩], none⟩]
def f43_r1o : Array Oper := f43_r1l.toArray
@[simp] theorem f43_r1_l : f43_r1o.toList = f43_r1l := rfl
attribute [simp] f43_r1l
def f43_r2l : List Oper := [⟨some 2, .assign (.const (.slice none 0 0)), 22, "slices.go:358", #[], none⟩]
def f43_r2o : Array Oper := f43_r2l.toArray
@[simp] theorem f43_r2_l : f43_r2o.toList = f43_r2l := rfl
attribute [simp] f43_r2l
def f43_r3l : List Oper := [⟨some 5, .buildSlice 22 0 #[], 22, "slices.go:362", #[], none⟩,
  ⟨some 6, .move (.tmp 0), 22, "slices.go:362", #[], none⟩,
  ⟨some 7, .call ⟨.builtin .append, #[.tmp 5, .tmp 6], #[22, 22]⟩, 22, "slices.go:362", #[⟨0, .data⟩, ⟨1, .data⟩], none⟩,
  ⟨some 2, .assign (.tmp 7), 22, "slices.go:362", #[⟨2, .data⟩, ⟨2, .chain⟩, ⟨0, .phase⟩, ⟨1, .phase⟩, ⟨2, .phase⟩], none⟩]
def f43_r3o : Array Oper := f43_r3l.toArray
@[simp] theorem f43_r3_l : f43_r3o.toList = f43_r3l := rfl
attribute [simp] f43_r3l
def f43_ac : AC :=
  (.seq (.reg 0 f43_r0o [0]) (.seq (.seq (.reg 1 f43_r1o [0, 4]) (.cond (.tmp 4) (.seq (.reg 2 f43_r2o [2]) .ret) .skip)) (.seq (.reg 3 f43_r3o [2]) .ret)))
theorem f43_eq : Tryz.f43.body = some f43_ac.code := rfl
@[simp] theorem f43_nt : Tryz.f43.ntmps = 8 := rfl
theorem f43_fits : f43_ac.fits Tryz.f43.ntmps = true := by kernel_rfl
@[simp] theorem f43_res : Tryz.f43.results.toList = [.tmp 2] := rfl
@[simp] theorem f43_isb : Tryz.f43.body.isNone = false := rfl
/- F6 slices.Equal[[]int,int] -/
def f6_r0l : List Oper := [⟨some 4, .assign (.const (.bool false)), 4, "slices.go:20", #[], none⟩]
def f6_r0o : Array Oper := f6_r0l.toArray
@[simp] theorem f6_r0_l : f6_r0o.toList = f6_r0l := rfl
attribute [simp] f6_r0l
def f6_r1l : List Oper := [⟨some 6, .move (.tmp 0), 22, "slices.go:21", #[], none⟩,
  ⟨some 7, .call ⟨.builtin .len, #[.tmp 6], #[22]⟩, 3, "slices.go:21", #[⟨0, .data⟩], none⟩,
  ⟨some 8, .move (.tmp 1), 22, "slices.go:21", #[], none⟩,
  ⟨some 9, .call ⟨.builtin .len, #[.tmp 8], #[22]⟩, 3, "slices.go:21", #[⟨2, .data⟩], none⟩,
  ⟨some 10, .binOp .neq 3 (.tmp 7) (.tmp 9) 3, 4, "slices.go:21", #[⟨1, .data⟩, ⟨3, .data⟩], none⟩]
def f6_r1o : Array Oper := f6_r1l.toArray
@[simp] theorem f6_r1_l : f6_r1o.toList = f6_r1l := rfl
attribute [simp] f6_r1l
def f6_r2l : List Oper := [⟨some 4, .assign (.const (.bool false)), 4, "slices.go:22", #[], none⟩]
def f6_r2o : Array Oper := f6_r2l.toArray
@[simp] theorem f6_r2_l : f6_r2o.toList = f6_r2l := rfl
attribute [simp] f6_r2l
def f6_r3l : List Oper := [⟨some 11, .move (.tmp 0), 22, "slices.go:24", #[], none⟩,
  ⟨some 12, .call ⟨.builtin .len, #[.tmp 11], #[22]⟩, 3, "slices.go:24", #[⟨0, .data⟩], none⟩,
  ⟨some 13, .move (.const (.int .i64 0)), 3, "slices.go:24", #[], none⟩]
def f6_r3o : Array Oper := f6_r3l.toArray
@[simp] theorem f6_r3_l : f6_r3o.toList = f6_r3l := rfl
attribute [simp] f6_r3l
def f6_r4l : List Oper := [⟨some 14, .binOp .lss 3 (.tmp 13) (.tmp 12) 3, 0, "slices.go:24", #[], none⟩]
def f6_r4o : Array Oper := f6_r4l.toArray
@[simp] theorem f6_r4_l : f6_r4o.toList = f6_r4l := rfl
attribute [simp] f6_r4l
def f6_r5l : List Oper := [⟨some 15, .move (.tmp 13), 3, "slices.go:24", #[], none⟩,
  ⟨some 5, .assign (.tmp 15), 3, "slices.go:24", #[⟨0, .data⟩, ⟨0, .phase⟩], none⟩]
def f6_r5o : Array Oper := f6_r5l.toArray
@[simp] theorem f6_r5_l : f6_r5o.toList = f6_r5l := rfl
attribute [simp] f6_r5l
def f6_r6l : List Oper := [⟨some 16, .move (.tmp 0), 22, "slices.go:25", #[], none⟩,
  ⟨some 17, .move (.tmp 5), 3, "slices.go:25", #[], none⟩,
  ⟨some 18, .indexAddr 22 (.tmp 16) (.tmp 17), 0, "slices.go:25", #[⟨0, .data⟩, ⟨1, .data⟩], none⟩,
  ⟨some 19, .load 3 (.tmp 18), 3, "slices.go:25", #[⟨2, .data⟩], none⟩,
  ⟨some 20, .move (.tmp 1), 22, "slices.go:25", #[], none⟩,
  ⟨some 21, .move (.tmp 5), 3, "slices.go:25", #[], none⟩,
  ⟨some 22, .indexAddr 22 (.tmp 20) (.tmp 21), 0, "slices.go:25", #[⟨4, .data⟩, ⟨5, .data⟩], none⟩,
  ⟨some 23, .load 3 (.tmp 22), 3, "slices.go:25", #[⟨6, .data⟩], none⟩,
  ⟨some 24, .binOp .neq 3 (.tmp 19) (.tmp 23) 3, 4, "slices.go:25", #[⟨3, .data⟩, ⟨7, .data⟩], none⟩]
def f6_r6o : Array Oper := f6_r6l.toArray
@[simp] theorem f6_r6_l : f6_r6o.toList = f6_r6l := rfl
attribute [simp] f6_r6l
@[simp] theorem f6_r6_n : f6_r6o.size = 9 := rfl
def f6_r7l : List Oper := [⟨some 4, .assign (.const (.bool false)), 4, "slices.go:26", #[], none⟩]
def f6_r7o : Array Oper := f6_r7l.toArray
@[simp] theorem f6_r7_l : f6_r7o.toList = f6_r7l := rfl
attribute [simp] f6_r7l
def f6_r8l : List Oper := [⟨some 25, .binOp .add 3 (.tmp 13) (.const (.int .i64 1)) 3, 3, "slices.go:24", #[], none⟩,
  ⟨some 13, .move (.tmp 25), 3, "slices.go:24", #[⟨0, .data⟩], none⟩]
def f6_r8o : Array Oper := f6_r8l.toArray
@[simp] theorem f6_r8_l : f6_r8o.toList = f6_r8l := rfl
attribute [simp] f6_r8l
def f6_l0 : AC :=
  (.seq (.reg 4 f6_r4o [0, 1, 12, 13, 14]) (.seq (.cond (.tmp 14) .skip (.exit 0)) (.seq (.block 1 (.seq (.reg 5 f6_r5o [0, 1, 5, 12, 13]) (.seq (.draw 6 f6_r6o [0, 1, 12, 13, 24]) (.cond (.tmp 24) (.seq (.reg 7 f6_r7o [4]) .ret) .skip)))) (.reg 8 f6_r8o [0, 1, 12, 13]))))
theorem f6_l0_fits : f6_l0.fits 26 = true := by kernel_rfl
def f6_r9l : List Oper := [⟨some 4, .assign (.const (.bool true)), 4, "slices.go:29", #[], none⟩]
def f6_r9o : Array Oper := f6_r9l.toArray
@[simp] theorem f6_r9_l : f6_r9o.toList = f6_r9l := rfl
attribute [simp] f6_r9l
def f6_ac : AC :=
  (.seq (.reg 0 f6_r0o [0, 1]) (.seq (.seq (.reg 1 f6_r1o [0, 1, 10]) (.cond (.tmp 10) (.seq (.reg 2 f6_r2o [4]) .ret) .skip)) (.seq (.seq (.reg 3 f6_r3o [0, 1, 12, 13]) (.block 0 (.loop f6_l0))) (.seq (.reg 9 f6_r9o [4]) .ret))))
theorem f6_eq : Tryz.f6.body = some f6_ac.code := rfl
@[simp] theorem f6_nt : Tryz.f6.ntmps = 26 := rfl
theorem f6_fits : f6_ac.fits Tryz.f6.ntmps = true := by kernel_rfl
@[simp] theorem f6_res : Tryz.f6.results.toList = [.tmp 4] := rfl
@[simp] theorem f6_isb : Tryz.f6.body.isNone = false := rfl
@[simp] theorem f6_r6_s : drawSimple cfg0 f6_r6o = true := by kernel_rfl
@[simp] theorem f6_r6_d : drawOk cfg0 f6_r6o = true := by kernel_rfl
end
end Go.Proofs.YtcmcedphaipgkaaGreatDoor.Ai

