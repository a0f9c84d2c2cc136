/- Part of a reckoning of a Go program over abstract values, proved sound against the model. -/
import Derived.Test.YtchlfjhbijmdiaaGreatDoorAiJA2
set_option linter.unusedSimpArgs false
set_option linter.unusedVariables false
namespace Go.Proofs.YtchlfjhbijmdiaaGreatDoor.Ai
open Go.Proofs
set_option maxRecDepth 100000
def gG:Nat→Ground
 | 0=>.data
 | 1=>.chain
 | 2=>.guard
 | 3=>.phase
 | 4=>.gcOnly .lateStores
 | 5=>.textOnly .lateStores
 | _=>.textOnly .lateStoresUnsure
def gE (l:List Nat):Array Edge:=(l.map fun n=>⟨n/8,gG (n%8)⟩).toArray
noncomputable def T3:ATy:=(zB.ty 3).getD ⟨.bool,0,0,.nils,false⟩
@[simp] theorem ty_3:zB.ty 3=some T3:=by kernel_rfl
@[simp] theorem und_3:T3.und=.int .i64:=by kernel_rfl
@[simp] theorem size_3:T3.size=1:=by kernel_rfl
@[simp] theorem bytes_3:T3.bytes=8:=by kernel_rfl
@[simp] theorem zero_3:T3.zero=.int .i64 0:=by kernel_rfl
noncomputable def T4:ATy:=(zB.ty 4).getD ⟨.bool,0,0,.nils,false⟩
@[simp] theorem ty_4:zB.ty 4=some T4:=by kernel_rfl
@[simp] theorem und_4:T4.und=.bool:=by kernel_rfl
@[simp] theorem size_4:T4.size=1:=by kernel_rfl
@[simp] theorem bytes_4:T4.bytes=1:=by kernel_rfl
@[simp] theorem zero_4:T4.zero=.bool false:=by kernel_rfl
noncomputable def T5:ATy:=(zB.ty 5).getD ⟨.bool,0,0,.nils,false⟩
@[simp] theorem ty_5:zB.ty 5=some T5:=by kernel_rfl
@[simp] theorem und_5:T5.und=.int .u8:=by kernel_rfl
@[simp] theorem size_5:T5.size=1:=by kernel_rfl
@[simp] theorem bytes_5:T5.bytes=1:=by kernel_rfl
@[simp] theorem zero_5:T5.zero=.int .u8 0:=by kernel_rfl
noncomputable def T9:ATy:=(zB.ty 9).getD ⟨.bool,0,0,.nils,false⟩
@[simp] theorem ty_9:zB.ty 9=some T9:=by kernel_rfl
@[simp] theorem und_9:T9.und=.string:=by kernel_rfl
@[simp] theorem size_9:T9.size=1:=by kernel_rfl
@[simp] theorem bytes_9:T9.bytes=16:=by kernel_rfl
@[simp] theorem zero_9:T9.zero=.str .empty:=by kernel_rfl
noncomputable def T22:ATy:=(zB.ty 22).getD ⟨.bool,0,0,.nils,false⟩
@[simp] theorem ty_22:zB.ty 22=some T22:=by kernel_rfl
@[simp] theorem und_22:T22.und=.slice 26:=by kernel_rfl
@[simp] theorem size_22:T22.size=1:=by kernel_rfl
@[simp] theorem bytes_22:T22.bytes=24:=by kernel_rfl
@[simp] theorem zero_22:T22.zero=.nils:=by kernel_rfl
noncomputable def T32:ATy:=(zB.ty 23).getD ⟨.bool,0,0,.nils,false⟩
@[simp] theorem ty_32:zB.ty 23=some T32:=by kernel_rfl
@[simp] theorem und_32:T32.und=.slice 39:=by kernel_rfl
@[simp] theorem size_32:T32.size=1:=by kernel_rfl
@[simp] theorem bytes_32:T32.bytes=24:=by kernel_rfl
@[simp] theorem zero_32:T32.zero=.nils:=by kernel_rfl
noncomputable def T33:ATy:=(zB.ty 24).getD ⟨.bool,0,0,.nils,false⟩
@[simp] theorem ty_33:zB.ty 24=some T33:=by kernel_rfl
@[simp] theorem und_33:T33.und=.slice 55:=by kernel_rfl
@[simp] theorem size_33:T33.size=1:=by kernel_rfl
@[simp] theorem bytes_33:T33.bytes=24:=by kernel_rfl
@[simp] theorem zero_33:T33.zero=.nils:=by kernel_rfl
noncomputable def T35:ATy:=(zB.ty 26).getD ⟨.bool,0,0,.nils,false⟩
@[simp] theorem ty_35:zB.ty 26=some T35:=by kernel_rfl
@[simp] theorem agg_35:zS T35.und=true:=by kernel_rfl
@[simp] theorem fld_35_0:yC zB 26 0=some (0,1,false):=by kernel_rfl
@[simp] theorem fld_35_1:yC zB 26 1=some (1,1,false):=by kernel_rfl
@[simp] theorem fld_35_2:yC zB 26 2=some (2,1,false):=by kernel_rfl
@[simp] theorem fld_35_3:yC zB 26 3=some (3,1,false):=by kernel_rfl
@[simp] theorem bld_35 (ps:List (Nat×V)):xh zB 26 ps=(zu (fun i=>([(0,1),(1,1),(2,1),(3,1)]:List (Nat×Nat))[i]?) [.int .i64 0,.nils,.nils,.int .i64 0] ps).map V.agg:=by kernel_rfl
@[simp] theorem size_35:T35.size=4:=by kernel_rfl
@[simp] theorem bytes_35:T35.bytes=64:=by kernel_rfl
@[simp] theorem zero_35:T35.zero=.agg [.int .i64 0,.nils,.nils,.int .i64 0]:=by kernel_rfl
noncomputable def T26:ATy:=(zB.ty 30).getD ⟨.bool,0,0,.nils,false⟩
@[simp] theorem ty_26:zB.ty 30=some T26:=by kernel_rfl
@[simp] theorem und_26:T26.und=.int .i64:=by kernel_rfl
@[simp] theorem size_26:T26.size=1:=by kernel_rfl
@[simp] theorem bytes_26:T26.bytes=8:=by kernel_rfl
@[simp] theorem zero_26:T26.zero=.int .i64 0:=by kernel_rfl
noncomputable def T37:ATy:=(zB.ty 37).getD ⟨.bool,0,0,.nils,false⟩
@[simp] theorem ty_37:zB.ty 37=some T37:=by kernel_rfl
@[simp] theorem und_37:T37.und=.slice 3:=by kernel_rfl
@[simp] theorem size_37:T37.size=1:=by kernel_rfl
@[simp] theorem bytes_37:T37.bytes=24:=by kernel_rfl
@[simp] theorem zero_37:T37.zero=.nils:=by kernel_rfl
noncomputable def T39:ATy:=(zB.ty 39).getD ⟨.bool,0,0,.nils,false⟩
@[simp] theorem ty_39:zB.ty 39=some T39:=by kernel_rfl
@[simp] theorem agg_39:zS T39.und=true:=by kernel_rfl
@[simp] theorem fld_39_0:yC zB 39 0=some (0,1,false):=by kernel_rfl
@[simp] theorem fld_39_1:yC zB 39 1=some (1,1,false):=by kernel_rfl
@[simp] theorem bld_39 (ps:List (Nat×V)):xh zB 39 ps=(zu (fun i=>([(0,1),(1,1)]:List (Nat×Nat))[i]?) [.str .empty,.nils] ps).map V.agg:=by kernel_rfl
@[simp] theorem size_39:T39.size=2:=by kernel_rfl
@[simp] theorem bytes_39:T39.bytes=40:=by kernel_rfl
@[simp] theorem zero_39:T39.zero=.agg [.str .empty,.nils]:=by kernel_rfl
noncomputable def T70:ATy:=(zB.ty 55).getD ⟨.bool,0,0,.nils,false⟩
@[simp] theorem ty_70:zB.ty 55=some T70:=by kernel_rfl
@[simp] theorem agg_70:zS T70.und=true:=by kernel_rfl
@[simp] theorem fld_70_0:yC zB 55 0=some (0,1,false):=by kernel_rfl
@[simp] theorem fld_70_1:yC zB 55 1=some (1,1,false):=by kernel_rfl
@[simp] theorem bld_70 (ps:List (Nat×V)):xh zB 55 ps=(zu (fun i=>([(0,1),(1,1)]:List (Nat×Nat))[i]?) [.int .i64 0,.int .i64 0] ps).map V.agg:=by kernel_rfl
@[simp] theorem size_70:T70.size=2:=by kernel_rfl
@[simp] theorem bytes_70:T70.bytes=16:=by kernel_rfl
@[simp] theorem zero_70:T70.zero=.agg [.int .i64 0,.int .i64 0]:=by kernel_rfl
noncomputable def T54:ATy:=(zB.ty 65).getD ⟨.bool,0,0,.nils,false⟩
@[simp] theorem ty_54:zB.ty 65=some T54:=by kernel_rfl
@[simp] theorem und_54:T54.und=.slice 5:=by kernel_rfl
@[simp] theorem size_54:T54.size=1:=by kernel_rfl
@[simp] theorem bytes_54:T54.bytes=24:=by kernel_rfl
@[simp] theorem zero_54:T54.zero=.nils:=by kernel_rfl
noncomputable def T213:ATy:=(zB.ty 81).getD ⟨.bool,0,0,.nils,false⟩
@[simp] theorem ty_213:zB.ty 81=some T213:=by kernel_rfl
@[simp] theorem und_213:T213.und=.map 9 3:=by kernel_rfl
@[simp] theorem size_213:T213.size=1:=by kernel_rfl
@[simp] theorem bytes_213:T213.bytes=8:=by kernel_rfl
@[simp] theorem zero_213:T213.zero=.nilm:=by kernel_rfl
noncomputable def T66:ATy:=(zB.ty 86).getD ⟨.bool,0,0,.nils,false⟩
@[simp] theorem ty_66:zB.ty 86=some T66:=by kernel_rfl
@[simp] theorem size_66:T66.size=1:=by kernel_rfl
@[simp] theorem bytes_66:T66.bytes=8:=by kernel_rfl
@[simp] theorem zero_66:T66.zero=.nilf:=by kernel_rfl
noncomputable def T96:ATy:=(zB.ty 108).getD ⟨.bool,0,0,.nils,false⟩
@[simp] theorem ty_96:zB.ty 108=some T96:=by kernel_rfl
@[simp] theorem agg_96:zS T96.und=true:=by kernel_rfl
@[simp] theorem fld_96_0:yC zB 108 0=some (0,1,false):=by kernel_rfl
@[simp] theorem fld_96_1:yC zB 108 1=some (1,1,false):=by kernel_rfl
@[simp] theorem bld_96 (ps:List (Nat×V)):xh zB 108 ps=(zu (fun i=>([(0,1),(1,1)]:List (Nat×Nat))[i]?) [.int .i64 0,.int .i64 0] ps).map V.agg:=by kernel_rfl
@[simp] theorem size_96:T96.size=2:=by kernel_rfl
@[simp] theorem bytes_96:T96.bytes=16:=by kernel_rfl
@[simp] theorem zero_96:T96.zero=.agg [.int .i64 0,.int .i64 0]:=by kernel_rfl
noncomputable def T97:ATy:=(zB.ty 109).getD ⟨.bool,0,0,.nils,false⟩
@[simp] theorem ty_97:zB.ty 109=some T97:=by kernel_rfl
@[simp] theorem und_97:T97.und=.map 108 4:=by kernel_rfl
@[simp] theorem size_97:T97.size=1:=by kernel_rfl
@[simp] theorem bytes_97:T97.bytes=8:=by kernel_rfl
@[simp] theorem zero_97:T97.zero=.nilm:=by kernel_rfl
noncomputable def T98:ATy:=(zB.ty 110).getD ⟨.bool,0,0,.nils,false⟩
@[simp] theorem ty_98:zB.ty 110=some T98:=by kernel_rfl
@[simp] theorem und_98:T98.und=.slice 108:=by kernel_rfl
@[simp] theorem size_98:T98.size=1:=by kernel_rfl
@[simp] theorem bytes_98:T98.bytes=24:=by kernel_rfl
@[simp] theorem zero_98:T98.zero=.nils:=by kernel_rfl
@[simp] theorem fn_200:zB.fn 3=some Tryz.f3:=by kernel_rfl
@[simp] theorem fn_4:zB.fn 4=some Tryz.f4:=by kernel_rfl
@[simp] theorem fn_13:zB.fn 5=some Tryz.f5:=by kernel_rfl
@[simp] theorem fn_5:zB.fn 6=some Tryz.f6:=by kernel_rfl
@[simp] theorem fn_201:zB.fn 7=some Tryz.f7:=by kernel_rfl
@[simp] theorem fn_202:zB.fn 8=some Tryz.f8:=by kernel_rfl
@[simp] theorem fn_203:zB.fn 9=some Tryz.f9:=by kernel_rfl
@[simp] theorem fn_11:zB.fn 10=some Tryz.f10:=by kernel_rfl
@[simp] theorem fn_12:zB.fn 11=some Tryz.f11:=by kernel_rfl
@[simp] theorem fn_23:zB.fn 12=some Tryz.f12:=by kernel_rfl
@[simp] theorem fn_24:zB.fn 13=some Tryz.f13:=by kernel_rfl
@[simp] theorem fn_8:zB.fn 16=some Tryz.f16:=by kernel_rfl
@[simp] theorem fn_204:zB.fn 17=some Tryz.f17:=by kernel_rfl
@[simp] theorem fn_205:zB.fn 18=some Tryz.f18:=by kernel_rfl
@[simp] theorem fn_206:zB.fn 19=some Tryz.f19:=by kernel_rfl
@[simp] theorem fn_18:zB.fn 20=some Tryz.f20:=by kernel_rfl
@[simp] theorem fn_207:zB.fn 21=some Tryz.f21:=by kernel_rfl
@[simp] theorem fn_9:zB.fn 22=some Tryz.f22:=by kernel_rfl
@[simp] theorem fn_208:zB.fn 23=some Tryz.f23:=by kernel_rfl
@[simp] theorem fn_20:zB.fn 24=some Tryz.f24:=by kernel_rfl
@[simp] theorem fn_209:zB.fn 25=some Tryz.f25:=by kernel_rfl
@[simp] theorem fn_210:zB.fn 26=some Tryz.f26:=by kernel_rfl
@[simp] theorem fn_211:zB.fn 27=some Tryz.f27:=by kernel_rfl
@[simp] theorem fn_212:zB.fn 28=some Tryz.f28:=by kernel_rfl
@[simp] theorem fn_213:zB.fn 29=some Tryz.f29:=by kernel_rfl
@[simp] theorem fn_214:zB.fn 30=some Tryz.f30:=by kernel_rfl
@[simp] theorem fn_215:zB.fn 31=some Tryz.f31:=by kernel_rfl
@[simp] theorem fn_22:zB.fn 32=some Tryz.f32:=by kernel_rfl
@[simp] theorem fn_41:zB.fn 33=some Tryz.f33:=by kernel_rfl
@[simp] theorem fn_30:zB.fn 39=some Tryz.f39:=by kernel_rfl
@[simp] theorem fn_19:zB.fn 41=some Tryz.f41:=by kernel_rfl
@[simp] theorem fn_216:zB.fn 42=some Tryz.f42:=by kernel_rfl
@[simp] theorem fn_35:zB.fn 43=some Tryz.f43:=by kernel_rfl
@[simp] theorem fn_36:zB.fn 44=some Tryz.f44:=by kernel_rfl
@[simp] theorem fn_37:zB.fn 45=some Tryz.f45:=by kernel_rfl
@[simp] theorem fn_217:zB.fn 46=some Tryz.f46:=by kernel_rfl
@[simp] theorem fn_21:zB.fn 47=some Tryz.f47:=by kernel_rfl
@[simp] theorem fn_218:zB.fn 48=some Tryz.f48:=by kernel_rfl
@[simp] theorem fn_40:zB.fn 49=some Tryz.f49:=by kernel_rfl
@[simp] theorem fn_219:zB.fn 50=some Tryz.f50:=by kernel_rfl
@[simp] theorem fn_220:zB.fn 51=some Tryz.f51:=by kernel_rfl
@[simp] theorem fn_221:zB.fn 52=some Tryz.f52:=by kernel_rfl
@[simp] theorem fn_33:zB.fn 53=some Tryz.f53:=by kernel_rfl
@[simp] theorem fn_39:zB.fn 59=some Tryz.f59:=by kernel_rfl
@[simp] theorem fn_38:zB.fn 73=some Tryz.f73:=by kernel_rfl
@[simp] theorem fn_61:zB.fn 74=some Tryz.f74:=by kernel_rfl
@[simp] theorem fn_62:zB.fn 75=some Tryz.f75:=by kernel_rfl
@[simp] theorem fn_63:zB.fn 76=some Tryz.f76:=by kernel_rfl
@[simp] theorem fn_222:zB.fn 77=some Tryz.f77:=by kernel_rfl
@[simp] theorem fn_223:zB.fn 78=some Tryz.f78:=by kernel_rfl
@[simp] theorem fn_69:zB.fn 79=some Tryz.f79:=by kernel_rfl
@[simp] theorem fn_64:zB.fn 80=some Tryz.f80:=by kernel_rfl
@[simp] theorem fn_60:zB.fn 81=some Tryz.f81:=by kernel_rfl
@[simp] theorem fn_71:zB.fn 87=some Tryz.f87:=by kernel_rfl
@[simp] theorem fn_72:zB.fn 88=some Tryz.f88:=by kernel_rfl
@[simp] theorem fn_76:zB.fn 92=some Tryz.f92:=by kernel_rfl
/- F4 cinnabar/cinnabarlaw16.Few -/
@[simp] def f4_r0l:List Oper:=[⟨some 2,.assign (.const (.bool false)),4,"law.go:22",#[],none⟩]
def f4_r0o:Array Oper:=f4_r0l.toArray
@[simp] theorem f4_r0_l:f4_r0o.toList=f4_r0l:=rfl

@[simp] def f4_r1l:List Oper:=[⟨some 3,.move (.tmp 0),22,"law.go:23",#[],none⟩,
 ⟨some 4,.call ⟨.builtin .len,#[.tmp 3],#[22]⟩,3,"law.go:23",(gE [0]),none⟩,
 ⟨some 5,.binOp .leq 3 (.tmp 4) (.const (.int .i64 12)) 3,4,"law.go:23",(gE [8]),none⟩,
 ⟨some 6,.move (.tmp 5),4,"law.go:23",(gE [16]),none⟩,
 ⟨some 7,.move (.tmp 0),22,"law.go:23",(gE [26]),some (3,true)⟩,
 ⟨some 8,.call ⟨.value (.func 10),#[.tmp 7,.func 11],#[22,28]⟩,4,"law.go:23",(gE [32,25,26]),some (3,true)⟩,
 ⟨some 9,.unOp .not 4 (.tmp 8),4,"law.go:23",(gE [40,26]),some (3,true)⟩,
 ⟨some 10,.pick (.tmp 6) (.tmp 9) (.const (.bool false)),4,"law.go:23",(gE [24,48]),none⟩,
 ⟨some 2,.assign (.tmp 10),4,"law.go:23",(gE [56,41,3,11,19,27,35,43,51,59]),none⟩]
def f4_r1o:Array Oper:=f4_r1l.toArray
@[simp] theorem f4_r1_l:f4_r1o.toList=f4_r1l:=rfl

@[simp] theorem f4_r1_g3:zL f4_r1o 3=some 6:=rfl
def f4_ac:AC :=
 (.seq (.reg 0 f4_r0o [0,7,8,9]) (.seq (.reg 1 f4_r1o [2]) .ret))
theorem f4_eq:Tryz.f4.body=some f4_ac.code:=by kernel_rfl
@[simp] theorem f4_nt:Tryz.f4.ntmps=11:=rfl
theorem f4_fits:f4_ac.fits Tryz.f4.ntmps=true:=by kernel_rfl
@[simp] theorem f4_res:Tryz.f4.results.toList=[.tmp 2]:=rfl
@[simp] theorem f4_isb:Tryz.f4.body.isNone=false:=rfl
/- F16 cinnabar/insts.Check -/
@[simp] def f8_r0l:List Oper:=[⟨some 2,.assign (.const (.int .i64 0)),30,"insts.go:35",#[],none⟩]
def f8_r0o:Array Oper:=f8_r0l.toArray
@[simp] theorem f8_r0_l:f8_r0o.toList=f8_r0l:=rfl

@[simp] def f8_r1l:List Oper:=[⟨some 6,.move (.tmp 0),22,"insts.go:36",#[],none⟩,
 ⟨some 7,.call ⟨.builtin .len,#[.tmp 6],#[22]⟩,3,"insts.go:36",(gE [0]),none⟩,
 ⟨some 8,.binOp .gtr 3 (.tmp 7) (.const (.int .i64 2000)) 3,4,"insts.go:36",(gE [8]),none⟩]
def f8_r1o:Array Oper:=f8_r1l.toArray
@[simp] theorem f8_r1_l:f8_r1o.toList=f8_r1l:=rfl

@[simp] def f8_r2l:List Oper:=[⟨some 2,.assign (.const (.int .i64 6)),30,"insts.go:37",#[],none⟩]
def f8_r2o:Array Oper:=f8_r2l.toArray
@[simp] theorem f8_r2_l:f8_r2o.toList=f8_r2l:=rfl

@[simp] def f8_r3l:List Oper:=[⟨some 9,.move (.tmp 0),22,"insts.go:39",#[],none⟩,
 ⟨some 10,.call ⟨.builtin .len,#[.tmp 9],#[22]⟩,3,"insts.go:39",(gE [0]),none⟩,
 ⟨some 11,.move (.const (.int .i64 0)),3,"insts.go:39",#[],none⟩]
def f8_r3o:Array Oper:=f8_r3l.toArray
@[simp] theorem f8_r3_l:f8_r3o.toList=f8_r3l:=rfl

@[simp] def f8_r4l:List Oper:=[⟨some 12,.binOp .lss 3 (.tmp 11) (.tmp 10) 3,0,"insts.go:39",#[],none⟩]
def f8_r4o:Array Oper:=f8_r4l.toArray
@[simp] theorem f8_r4_l:f8_r4o.toList=f8_r4l:=rfl

@[simp] def f8_r5l:List Oper:=[⟨some 13,.indexAddr 22 (.tmp 9) (.tmp 11),0,"insts.go:39",#[],none⟩,
 ⟨some 14,.load 26 (.tmp 13),26,"insts.go:39",(gE [0]),none⟩,
 ⟨some 4,.alloc 26,0,"insts.go:39",#[],none⟩,
 ⟨none,.store 26 (.tmp 4) (.tmp 14),0,"insts.go:39",(gE [16,8,3,11,19]),none⟩]
def f8_r5o:Array Oper:=f8_r5l.toArray
@[simp] theorem f8_r5_l:f8_r5o.toList=f8_r5l:=rfl

@[simp] def f8_r6l:List Oper:=[⟨some 15,.move (.tmp 0),22,"insts.go:40",#[],none⟩,
 ⟨some 16,.load 26 (.tmp 4),26,"insts.go:40",#[],none⟩,
 ⟨some 17,.call ⟨.value (.func 20),#[.tmp 15,.tmp 16],#[22,26]⟩,30,"insts.go:40",(gE [0,8]),none⟩,
 ⟨some 5,.assign (.tmp 17),30,"insts.go:40",(gE [16,17,3,11,19]),none⟩]
def f8_r6o:Array Oper:=f8_r6l.toArray
@[simp] theorem f8_r6_l:f8_r6o.toList=f8_r6l:=rfl

@[simp] def f8_r7l:List Oper:=[⟨some 18,.move (.tmp 5),30,"insts.go:40",#[],none⟩,
 ⟨some 19,.binOp .neq 30 (.tmp 18) (.const (.int .i64 0)) 30,4,"insts.go:40",(gE [0]),none⟩]
def f8_r7o:Array Oper:=f8_r7l.toArray
@[simp] theorem f8_r7_l:f8_r7o.toList=f8_r7l:=rfl

@[simp] def f8_r8l:List Oper:=[⟨some 20,.move (.tmp 5),30,"insts.go:41",#[],none⟩,
 ⟨some 2,.assign (.tmp 20),30,"insts.go:41",(gE [0,3]),none⟩]
def f8_r8o:Array Oper:=f8_r8l.toArray
@[simp] theorem f8_r8_l:f8_r8o.toList=f8_r8l:=rfl

@[simp] def f8_r9l:List Oper:=[⟨some 21,.binOp .add 3 (.tmp 11) (.const (.int .i64 1)) 3,3,"insts.go:39",#[],none⟩,
 ⟨some 11,.move (.tmp 21),3,"insts.go:39",(gE [0]),none⟩]
def f8_r9o:Array Oper:=f8_r9l.toArray
@[simp] theorem f8_r9_l:f8_r9o.toList=f8_r9l:=rfl

def f8_l0:AC :=
 (.seq (.reg 4 f8_r4o [0,9,10,11,12]) (.seq (.cond (.tmp 12) .skip (.exit 0)) (.seq (.block 1 (.seq (.reg 5 f8_r5o [0,4,9,10,11]) (.seq (.reg 6 f8_r6o [0,5,9,10,11]) (.seq (.reg 7 f8_r7o [0,5,9,10,11,19]) (.cond (.tmp 19) (.seq (.reg 8 f8_r8o [2]) .ret) .skip))))) (.reg 9 f8_r9o [0,9,10,11]))))
theorem f8_l0_fits:f8_l0.fits 24=true:=by kernel_rfl
@[simp] def f8_r10l:List Oper:=[⟨some 22,.move (.tmp 0),22,"insts.go:44",#[],none⟩,
 ⟨some 23,.call ⟨.value (.func 41),#[.tmp 22],#[22]⟩,4,"insts.go:44",(gE [0]),none⟩]
def f8_r10o:Array Oper:=f8_r10l.toArray
@[simp] theorem f8_r10_l:f8_r10o.toList=f8_r10l:=rfl

@[simp] def f8_r11l:List Oper:=[⟨some 2,.assign (.const (.int .i64 13)),30,"insts.go:45",#[],none⟩]
def f8_r11o:Array Oper:=f8_r11l.toArray
@[simp] theorem f8_r11_l:f8_r11o.toList=f8_r11l:=rfl

@[simp] def f8_r12l:List Oper:=[⟨some 2,.assign (.const (.int .i64 0)),30,"insts.go:47",#[],none⟩]
def f8_r12o:Array Oper:=f8_r12l.toArray
@[simp] theorem f8_r12_l:f8_r12o.toList=f8_r12l:=rfl

def f8_ac:AC :=
 (.seq (.reg 0 f8_r0o [0]) (.seq (.seq (.reg 1 f8_r1o [0,8]) (.cond (.tmp 8) (.seq (.reg 2 f8_r2o [2]) .ret) .skip)) (.seq (.seq (.reg 3 f8_r3o [0,9,10,11]) (.block 0 (.loop f8_l0))) (.seq (.seq (.reg 10 f8_r10o [23]) (.cond (.tmp 23) (.seq (.reg 11 f8_r11o [2]) .ret) .skip)) (.seq (.reg 12 f8_r12o [2]) .ret)))))
theorem f8_eq:Tryz.f16.body=some f8_ac.code:=by kernel_rfl
@[simp] theorem f8_nt:Tryz.f16.ntmps=24:=rfl
theorem f8_fits:f8_ac.fits Tryz.f16.ntmps=true:=by kernel_rfl
@[simp] theorem f8_res:Tryz.f16.results.toList=[.tmp 2]:=rfl
@[simp] theorem f8_isb:Tryz.f16.body.isNone=false:=rfl
/- F22 cinnabar/cinnabarref16.Check -/
@[simp] def f9_r0l:List Oper:=[⟨some 2,.assign (.const (.int .i64 0)),30,"ref.go:87",#[],none⟩]
def f9_r0o:Array Oper:=f9_r0l.toArray
@[simp] theorem f9_r0_l:f9_r0o.toList=f9_r0l:=rfl

@[simp] def f9_r1l:List Oper:=[⟨some 7,.move (.tmp 0),22,"ref.go:88",#[],none⟩,
 ⟨some 8,.call ⟨.builtin .len,#[.tmp 7],#[22]⟩,3,"ref.go:88",(gE [0]),none⟩,
 ⟨some 9,.binOp .gtr 3 (.tmp 8) (.const (.int .i64 2000)) 3,4,"ref.go:88",(gE [8]),none⟩]
def f9_r1o:Array Oper:=f9_r1l.toArray
@[simp] theorem f9_r1_l:f9_r1o.toList=f9_r1l:=rfl

@[simp] def f9_r2l:List Oper:=[⟨some 2,.assign (.const (.int .i64 6)),30,"ref.go:89",#[],none⟩]
def f9_r2o:Array Oper:=f9_r2l.toArray
@[simp] theorem f9_r2_l:f9_r2o.toList=f9_r2l:=rfl

@[simp] def f9_r3l:List Oper:=[⟨some 3,.assign (.const (.int .i64 0)),3,"ref.go:91",#[],none⟩]
def f9_r3o:Array Oper:=f9_r3l.toArray
@[simp] theorem f9_r3_l:f9_r3o.toList=f9_r3l:=rfl

@[simp] def f9_r4l:List Oper:=[⟨some 10,.move (.tmp 3),3,"ref.go:91",#[],none⟩,
 ⟨some 11,.move (.tmp 0),22,"ref.go:91",#[],none⟩,
 ⟨some 12,.call ⟨.builtin .len,#[.tmp 11],#[22]⟩,3,"ref.go:91",(gE [8]),none⟩,
 ⟨some 13,.binOp .lss 3 (.tmp 10) (.tmp 12) 3,4,"ref.go:91",(gE [0,16]),none⟩]
def f9_r4o:Array Oper:=f9_r4l.toArray
@[simp] theorem f9_r4_l:f9_r4o.toList=f9_r4l:=rfl

@[simp] def f9_r6l:List Oper:=[⟨some 16,.move (.tmp 0),22,"ref.go:92",#[],none⟩,
 ⟨some 17,.move (.tmp 0),22,"ref.go:92",#[],none⟩,
 ⟨some 18,.move (.tmp 3),3,"ref.go:92",#[],none⟩,
 ⟨some 19,.indexAddr 22 (.tmp 17) (.tmp 18),0,"ref.go:92",(gE [8,16]),none⟩,
 ⟨some 20,.load 26 (.tmp 19),26,"ref.go:92",(gE [24]),none⟩,
 ⟨some 21,.call ⟨.value (.func 24),#[.tmp 16,.tmp 20],#[22,26]⟩,30,"ref.go:92",(gE [0,32]),none⟩,
 ⟨some 4,.assign (.tmp 21),30,"ref.go:92",(gE [40,41,3,11,19,27,35,43]),none⟩]
def f9_r6o:Array Oper:=f9_r6l.toArray
@[simp] theorem f9_r6_l:f9_r6o.toList=f9_r6l:=rfl

@[simp] def f9_r7l:List Oper:=[⟨some 22,.move (.tmp 4),30,"ref.go:92",#[],none⟩,
 ⟨some 23,.binOp .neq 30 (.tmp 22) (.const (.int .i64 0)) 30,4,"ref.go:92",(gE [0]),none⟩]
def f9_r7o:Array Oper:=f9_r7l.toArray
@[simp] theorem f9_r7_l:f9_r7o.toList=f9_r7l:=rfl

@[simp] def f9_r8l:List Oper:=[⟨some 24,.move (.tmp 4),30,"ref.go:93",#[],none⟩,
 ⟨some 2,.assign (.tmp 24),30,"ref.go:93",(gE [0,3]),none⟩]
def f9_r8o:Array Oper:=f9_r8l.toArray
@[simp] theorem f9_r8_l:f9_r8o.toList=f9_r8l:=rfl

@[simp] def f9_r5l:List Oper:=[⟨some 14,.move (.tmp 3),3,"ref.go:91",#[],none⟩,
 ⟨some 15,.binOp .add 3 (.tmp 14) (.const (.int .i64 1)) 3,3,"ref.go:91",(gE [0]),none⟩,
 ⟨some 3,.assign (.tmp 15),3,"ref.go:91",(gE [8,3,11]),none⟩]
def f9_r5o:Array Oper:=f9_r5l.toArray
@[simp] theorem f9_r5_l:f9_r5o.toList=f9_r5l:=rfl

def f9_l0:AC :=
 (.seq (.seq (.reg 4 f9_r4o [0,3,13]) (.cond (.tmp 13) .skip (.exit 0))) (.seq (.block 1 (.seq (.reg 6 f9_r6o [0,3,4]) (.seq (.reg 7 f9_r7o [0,3,4,23]) (.cond (.tmp 23) (.seq (.reg 8 f9_r8o [2]) .ret) .skip)))) (.reg 5 f9_r5o [0,3])))
theorem f9_l0_fits:f9_l0.fits 38=true:=by kernel_rfl
@[simp] def f9_r9l:List Oper:=[⟨some 25,.move (.tmp 0),22,"ref.go:96",#[],none⟩,
 ⟨some 26,.call ⟨.builtin .len,#[.tmp 25],#[22]⟩,3,"ref.go:96",(gE [0]),none⟩,
 ⟨some 27,.makeSlice 37 (.tmp 26) (.tmp 26),37,"ref.go:96",(gE [8,8]),none⟩,
 ⟨some 5,.assign (.tmp 27),37,"ref.go:96",(gE [16,3,11,19]),none⟩]
def f9_r9o:Array Oper:=f9_r9l.toArray
@[simp] theorem f9_r9_l:f9_r9o.toList=f9_r9l:=rfl

@[simp] def f9_r10l:List Oper:=[⟨some 6,.assign (.const (.int .i64 0)),3,"ref.go:97",#[],none⟩]
def f9_r10o:Array Oper:=f9_r10l.toArray
@[simp] theorem f9_r10_l:f9_r10o.toList=f9_r10l:=rfl

@[simp] def f9_r11l:List Oper:=[⟨some 28,.move (.tmp 6),3,"ref.go:97",#[],none⟩,
 ⟨some 29,.move (.tmp 0),22,"ref.go:97",#[],none⟩,
 ⟨some 30,.call ⟨.builtin .len,#[.tmp 29],#[22]⟩,3,"ref.go:97",(gE [8]),none⟩,
 ⟨some 31,.binOp .lss 3 (.tmp 28) (.tmp 30) 3,4,"ref.go:97",(gE [0,16]),none⟩]
def f9_r11o:Array Oper:=f9_r11l.toArray
@[simp] theorem f9_r11_l:f9_r11o.toList=f9_r11l:=rfl

@[simp] def f9_r13l:List Oper:=[⟨some 34,.move (.tmp 0),22,"ref.go:98",#[],none⟩,
 ⟨some 35,.move (.tmp 6),3,"ref.go:98",#[],none⟩,
 ⟨some 36,.move (.tmp 5),37,"ref.go:98",#[],none⟩,
 ⟨some 37,.call ⟨.value (.func 47),#[.tmp 34,.tmp 35,.tmp 36],#[22,3,37]⟩,4,"ref.go:98",(gE [0,8,16]),none⟩]
def f9_r13o:Array Oper:=f9_r13l.toArray
@[simp] theorem f9_r13_l:f9_r13o.toList=f9_r13l:=rfl

@[simp] def f9_r14l:List Oper:=[⟨some 2,.assign (.const (.int .i64 13)),30,"ref.go:99",#[],none⟩]
def f9_r14o:Array Oper:=f9_r14l.toArray
@[simp] theorem f9_r14_l:f9_r14o.toList=f9_r14l:=rfl

@[simp] def f9_r12l:List Oper:=[⟨some 32,.move (.tmp 6),3,"ref.go:97",#[],none⟩,
 ⟨some 33,.binOp .add 3 (.tmp 32) (.const (.int .i64 1)) 3,3,"ref.go:97",(gE [0]),none⟩,
 ⟨some 6,.assign (.tmp 33),3,"ref.go:97",(gE [8,3,11]),none⟩]
def f9_r12o:Array Oper:=f9_r12l.toArray
@[simp] theorem f9_r12_l:f9_r12o.toList=f9_r12l:=rfl

def f9_l1:AC :=
 (.seq (.seq (.reg 11 f9_r11o [0,5,6,31]) (.cond (.tmp 31) .skip (.exit 2))) (.seq (.block 3 (.seq (.reg 13 f9_r13o [0,5,6,37]) (.cond (.tmp 37) (.seq (.reg 14 f9_r14o [2]) .ret) .skip))) (.reg 12 f9_r12o [0,5,6])))
theorem f9_l1_fits:f9_l1.fits 38=true:=by kernel_rfl
@[simp] def f9_r15l:List Oper:=[⟨some 2,.assign (.const (.int .i64 0)),30,"ref.go:102",#[],none⟩]
def f9_r15o:Array Oper:=f9_r15l.toArray
@[simp] theorem f9_r15_l:f9_r15o.toList=f9_r15l:=rfl

def f9_ac:AC :=
 (.seq (.reg 0 f9_r0o [0]) (.seq (.seq (.reg 1 f9_r1o [0,9]) (.cond (.tmp 9) (.seq (.reg 2 f9_r2o [2]) .ret) .skip)) (.seq (.seq (.reg 3 f9_r3o [0,3]) (.block 0 (.loop f9_l0))) (.seq (.reg 9 f9_r9o [0,5]) (.seq (.seq (.reg 10 f9_r10o [0,5,6]) (.block 2 (.loop f9_l1))) (.seq (.reg 15 f9_r15o [2]) .ret))))))
theorem f9_eq:Tryz.f22.body=some f9_ac.code:=by kernel_rfl
@[simp] theorem f9_nt:Tryz.f22.ntmps=38:=rfl
theorem f9_fits:f9_ac.fits Tryz.f22.ntmps=true:=by kernel_rfl
@[simp] theorem f9_res:Tryz.f22.results.toList=[.tmp 2]:=rfl
@[simp] theorem f9_isb:Tryz.f22.body.isNone=false:=rfl
/- F10 slices.ContainsFunc[[]cinnabar/api.Inst,cinnabar/api.Inst] -/
@[simp] def f11_r0l:List Oper:=[⟨some 4,.assign (.const (.bool false)),4,"slices.go:124",#[],none⟩]
def f11_r0o:Array Oper:=f11_r0l.toArray
@[simp] theorem f11_r0_l:f11_r0o.toList=f11_r0l:=rfl

@[simp] def f11_r1l:List Oper:=[⟨some 5,.move (.tmp 0),22,"slices.go:125",#[],none⟩,
 ⟨some 6,.move (.tmp 1),28,"slices.go:125",#[],none⟩,
 ⟨some 7,.call ⟨.value (.func 32),#[.tmp 5,.tmp 6],#[22,28]⟩,3,"slices.go:125",(gE [0,8]),none⟩,
 ⟨some 8,.binOp .geq 3 (.tmp 7) (.const (.int .i64 0)) 3,4,"slices.go:125",(gE [16]),none⟩,
 ⟨some 4,.assign (.tmp 8),4,"slices.go:125",(gE [24,17,3,11,19,27]),none⟩]
def f11_r1o:Array Oper:=f11_r1l.toArray
@[simp] theorem f11_r1_l:f11_r1o.toList=f11_r1l:=rfl

def f11_ac:AC :=
 (.seq (.reg 0 f11_r0o [0,1]) (.seq (.reg 1 f11_r1o [4]) .ret))
theorem f11_eq:Tryz.f10.body=some f11_ac.code:=by kernel_rfl
@[simp] theorem f11_nt:Tryz.f10.ntmps=9:=rfl
theorem f11_fits:f11_ac.fits Tryz.f10.ntmps=true:=by kernel_rfl
@[simp] theorem f11_res:Tryz.f10.results.toList=[.tmp 4]:=rfl
@[simp] theorem f11_isb:Tryz.f10.body.isNone=false:=rfl
/- F11 cinnabar/cinnabarlaw16.Few$1 -/
@[simp] def f12_r0l:List Oper:=[⟨some 1,.box 26 (.tmp 0),0,"law.go:23",#[],none⟩,
 ⟨some 2,.assign (.const (.bool false)),4,"law.go:23",#[],none⟩]
def f12_r0o:Array Oper:=f12_r0l.toArray
@[simp] theorem f12_r0_l:f12_r0o.toList=f12_r0l:=rfl

@[simp] def f12_r1l:List Oper:=[⟨some 3,.load 26 (.tmp 1),26,"law.go:23",#[],none⟩,
 ⟨some 4,.call ⟨.value (.func 5),#[.tmp 3],#[26]⟩,4,"law.go:23",(gE [0]),none⟩,
 ⟨some 5,.unOp .not 4 (.tmp 4),4,"law.go:23",(gE [8]),none⟩,
 ⟨some 2,.assign (.tmp 5),4,"law.go:23",(gE [16,9,3,11,19]),none⟩]
def f12_r1o:Array Oper:=f12_r1l.toArray
@[simp] theorem f12_r1_l:f12_r1o.toList=f12_r1l:=rfl

def f12_ac:AC :=
 (.seq (.reg 0 f12_r0o [1]) (.seq (.reg 1 f12_r1o [2]) .ret))
theorem f12_eq:Tryz.f11.body=some f12_ac.code:=by kernel_rfl
@[simp] theorem f12_nt:Tryz.f11.ntmps=6:=rfl
theorem f12_fits:f12_ac.fits Tryz.f11.ntmps=true:=by kernel_rfl
@[simp] theorem f12_res:Tryz.f11.results.toList=[.tmp 2]:=rfl
@[simp] theorem f12_isb:Tryz.f11.body.isNone=false:=rfl
/- F5 cinnabar/cinnabarlaw16.one -/
@[simp] def f13_r0l:List Oper:=[⟨some 1,.box 26 (.tmp 0),0,"law.go:26",#[],none⟩,
 ⟨some 2,.assign (.const (.bool false)),4,"law.go:26",#[],none⟩]
def f13_r0o:Array Oper:=f13_r0l.toArray
@[simp] theorem f13_r0_l:f13_r0o.toList=f13_r0l:=rfl

@[simp] def f13_r1l:List Oper:=[⟨some 3,.fieldAddr 26 (.tmp 1) 1,0,"law.go:27",#[],none⟩,
 ⟨some 4,.load 23 (.tmp 3),23,"law.go:27",(gE [0]),none⟩,
 ⟨some 5,.call ⟨.builtin .len,#[.tmp 4],#[23]⟩,3,"law.go:27",(gE [8]),none⟩,
 ⟨some 6,.binOp .leq 3 (.tmp 5) (.const (.int .i64 4)) 3,4,"law.go:27",(gE [16]),none⟩,
 ⟨some 7,.move (.tmp 6),4,"law.go:27",(gE [24]),none⟩,
 ⟨some 8,.fieldAddr 26 (.tmp 1) 2,0,"law.go:27",(gE [34]),some (4,true)⟩,
 ⟨some 9,.load 24 (.tmp 8),24,"law.go:27",(gE [40,34]),some (4,true)⟩,
 ⟨some 10,.call ⟨.builtin .len,#[.tmp 9],#[24]⟩,3,"law.go:27",(gE [48,34]),some (4,true)⟩,
 ⟨some 11,.binOp .leq 3 (.tmp 10) (.const (.int .i64 4)) 3,4,"law.go:27",(gE [56,34]),some (4,true)⟩,
 ⟨some 12,.pick (.tmp 7) (.tmp 11) (.const (.bool false)),4,"law.go:27",(gE [32,64]),none⟩,
 ⟨some 13,.move (.tmp 12),4,"law.go:27",(gE [72,33]),none⟩,
 ⟨some 14,.fieldAddr 26 (.tmp 1) 1,0,"law.go:27",(gE [82]),some (10,true)⟩,
 ⟨some 15,.load 23 (.tmp 14),23,"law.go:27",(gE [88,82]),some (10,true)⟩,
 ⟨some 16,.call ⟨.value (.func 12),#[.tmp 15,.func 13],#[23,40]⟩,4,"law.go:27",(gE [96,81,82]),some (10,true)⟩,
 ⟨some 17,.unOp .not 4 (.tmp 16),4,"law.go:27",(gE [104,82]),some (10,true)⟩,
 ⟨some 18,.pick (.tmp 13) (.tmp 17) (.const (.bool false)),4,"law.go:27",(gE [80,112]),none⟩,
 ⟨some 2,.assign (.tmp 18),4,"law.go:27",(gE [120,105,3,11,19,27,35,43,51,59,67,75,83,91,99,107,115,123]),none⟩]
def f13_r1o:Array Oper:=f13_r1l.toArray
@[simp] theorem f13_r1_l:f13_r1o.toList=f13_r1l:=rfl

@[simp] theorem f13_r1_g4:zL f13_r1o 4=some 7:=rfl
@[simp] theorem f13_r1_g10:zL f13_r1o 10=some 13:=rfl
def f13_ac:AC :=
 (.seq (.reg 0 f13_r0o [1,8,9,10,11,14,15,16,17]) (.seq (.reg 1 f13_r1o [2]) .ret))
theorem f13_eq:Tryz.f5.body=some f13_ac.code:=by kernel_rfl
@[simp] theorem f13_nt:Tryz.f5.ntmps=19:=rfl
theorem f13_fits:f13_ac.fits Tryz.f5.ntmps=true:=by kernel_rfl
@[simp] theorem f13_res:Tryz.f5.results.toList=[.tmp 2]:=rfl
@[simp] theorem f13_isb:Tryz.f5.body.isNone=false:=rfl
/- F20 cinnabar/insts.check -/
@[simp] def f18_r0l:List Oper:=[⟨some 3,.box 26 (.tmp 1),0,"insts.go:51",#[],none⟩,
 ⟨some 4,.assign (.const (.int .i64 0)),30,"insts.go:51",#[],none⟩]
def f18_r0o:Array Oper:=f18_r0l.toArray
@[simp] theorem f18_r0_l:f18_r0o.toList=f18_r0l:=rfl

@[simp] def f18_r1l:List Oper:=[⟨some 13,.fieldAddr 26 (.tmp 3) 0,0,"insts.go:53",#[],none⟩,
 ⟨some 14,.load 3 (.tmp 13),3,"insts.go:53",(gE [0]),none⟩,
 ⟨some 15,.binOp .lss 3 (.tmp 14) (.const (.int .i64 0)) 3,4,"insts.go:53",(gE [8]),none⟩,
 ⟨some 16,.move (.tmp 15),4,"insts.go:53",(gE [16]),none⟩,
 ⟨some 17,.fieldAddr 26 (.tmp 3) 0,0,"insts.go:53",(gE [26]),some (3,false)⟩,
 ⟨some 18,.load 3 (.tmp 17),3,"insts.go:53",(gE [32,26]),some (3,false)⟩,
 ⟨some 19,.binOp .gtr 3 (.tmp 18) (.const (.int .i64 6)) 3,4,"insts.go:53",(gE [40,26]),some (3,false)⟩,
 ⟨some 20,.pick (.tmp 16) (.const (.bool true)) (.tmp 19),4,"insts.go:53",(gE [24,48]),none⟩,
 ⟨some 12,.assign (.tmp 20),4,"insts.go:53",(gE [56,25]),none⟩]
def f18_r1o:Array Oper:=f18_r1l.toArray
@[simp] theorem f18_r1_l:f18_r1o.toList=f18_r1l:=rfl

@[simp] theorem f18_r1_g3:zL f18_r1o 3=some 16:=rfl
@[simp] def f18_r2l:List Oper:=[⟨some 4,.assign (.const (.int .i64 3)),30,"insts.go:54",#[],none⟩]
def f18_r2o:Array Oper:=f18_r2l.toArray
@[simp] theorem f18_r2_l:f18_r2o.toList=f18_r2l:=rfl

@[simp] def f18_r3l:List Oper:=[⟨some 22,.fieldAddr 26 (.tmp 3) 0,0,"insts.go:55",#[],none⟩,
 ⟨some 23,.load 3 (.tmp 22),3,"insts.go:55",(gE [0]),none⟩,
 ⟨some 24,.binOp .neq 3 (.tmp 23) (.const (.int .i64 4)) 3,4,"insts.go:55",(gE [8]),none⟩,
 ⟨some 25,.move (.tmp 24),4,"insts.go:55",(gE [16]),none⟩,
 ⟨some 26,.fieldAddr 26 (.tmp 3) 1,0,"insts.go:55",(gE [26]),some (3,true)⟩,
 ⟨some 27,.load 23 (.tmp 26),23,"insts.go:55",(gE [32,26]),some (3,true)⟩,
 ⟨some 28,.call ⟨.builtin .len,#[.tmp 27],#[23]⟩,3,"insts.go:55",(gE [40,26]),some (3,true)⟩,
 ⟨some 29,.binOp .gtr 3 (.tmp 28) (.const (.int .i64 0)) 3,4,"insts.go:55",(gE [48,26]),some (3,true)⟩,
 ⟨some 30,.pick (.tmp 25) (.tmp 29) (.const (.bool false)),4,"insts.go:55",(gE [24,56]),none⟩,
 ⟨some 31,.move (.tmp 30),4,"insts.go:55",(gE [64,25]),none⟩,
 ⟨some 32,.fieldAddr 26 (.tmp 3) 0,0,"insts.go:55",(gE [74]),some (9,false)⟩,
 ⟨some 33,.load 3 (.tmp 32),3,"insts.go:55",(gE [80,74]),some (9,false)⟩,
 ⟨some 34,.binOp .neq 3 (.tmp 33) (.const (.int .i64 5)) 3,4,"insts.go:55",(gE [88,74]),some (9,false)⟩,
 ⟨some 35,.move (.tmp 34),4,"insts.go:55",(gE [96,73,74]),some (9,false)⟩,
 ⟨some 36,.fieldAddr 26 (.tmp 3) 2,0,"insts.go:55",(gE [106]),some (13,true)⟩,
 ⟨some 37,.load 24 (.tmp 36),24,"insts.go:55",(gE [112,106]),some (13,true)⟩,
 ⟨some 38,.call ⟨.builtin .len,#[.tmp 37],#[24]⟩,3,"insts.go:55",(gE [120,106]),some (13,true)⟩,
 ⟨some 39,.binOp .gtr 3 (.tmp 38) (.const (.int .i64 0)) 3,4,"insts.go:55",(gE [128,106]),some (13,true)⟩,
 ⟨some 40,.move (.tmp 39),4,"insts.go:55",(gE [136,105,106]),some (13,true)⟩,
 ⟨some 41,.fieldAddr 26 (.tmp 3) 3,0,"insts.go:55",(gE [146]),some (18,false)⟩,
 ⟨some 42,.load 3 (.tmp 41),3,"insts.go:55",(gE [152,146]),some (18,false)⟩,
 ⟨some 43,.binOp .neq 3 (.tmp 42) (.const (.int .i64 0)) 3,4,"insts.go:55",(gE [160,146]),some (18,false)⟩,
 ⟨some 44,.pick (.tmp 40) (.const (.bool true)) (.tmp 43),4,"insts.go:55",(gE [144,168,106]),some (13,true)⟩,
 ⟨some 45,.pick (.tmp 35) (.tmp 44) (.const (.bool false)),4,"insts.go:55",(gE [104,176,74]),some (9,false)⟩,
 ⟨some 46,.pick (.tmp 31) (.const (.bool true)) (.tmp 45),4,"insts.go:55",(gE [72,184]),none⟩,
 ⟨some 21,.assign (.tmp 46),4,"insts.go:55",(gE [192,145]),none⟩]
def uX:Array Oper:=f18_r3l.toArray
@[simp] theorem f18_r3_l:uX.toList=f18_r3l:=rfl

@[simp] theorem f18_r3_g3:zL uX 3=some 25:=rfl
@[simp] theorem f18_r3_g9:zL uX 9=some 31:=rfl
@[simp] theorem f18_r3_g13:zL uX 13=some 35:=rfl
@[simp] theorem f18_r3_g18:zL uX 18=some 40:=rfl
@[simp] def f18_r4l:List Oper:=[⟨some 4,.assign (.const (.int .i64 4)),30,"insts.go:56",#[],none⟩]
def f18_r4o:Array Oper:=f18_r4l.toArray
@[simp] theorem f18_r4_l:f18_r4o.toList=f18_r4l:=rfl

@[simp] def f18_r5l:List Oper:=[⟨some 48,.fieldAddr 26 (.tmp 3) 0,0,"insts.go:57",#[],none⟩,
 ⟨some 49,.load 3 (.tmp 48),3,"insts.go:57",(gE [0]),none⟩,
 ⟨some 50,.binOp .eql 3 (.tmp 49) (.const (.int .i64 4)) 3,4,"insts.go:57",(gE [8]),none⟩,
 ⟨some 51,.move (.tmp 50),4,"insts.go:57",(gE [16]),none⟩,
 ⟨some 52,.fieldAddr 26 (.tmp 3) 1,0,"insts.go:57",(gE [26]),some (3,true)⟩,
 ⟨some 53,.load 23 (.tmp 52),23,"insts.go:57",(gE [32,26]),some (3,true)⟩,
 ⟨some 54,.call ⟨.builtin .len,#[.tmp 53],#[23]⟩,3,"insts.go:57",(gE [40,26]),some (3,true)⟩,
 ⟨some 55,.binOp .eql 3 (.tmp 54) (.const (.int .i64 0)) 3,4,"insts.go:57",(gE [48,26]),some (3,true)⟩,
 ⟨some 56,.pick (.tmp 51) (.tmp 55) (.const (.bool false)),4,"insts.go:57",(gE [24,56]),none⟩,
 ⟨some 47,.assign (.tmp 56),4,"insts.go:57",(gE [64,25]),none⟩]
def f18_r5o:Array Oper:=f18_r5l.toArray
@[simp] theorem f18_r5_l:f18_r5o.toList=f18_r5l:=rfl

@[simp] theorem f18_r5_g3:zL f18_r5o 3=some 51:=rfl
@[simp] def f18_r6l:List Oper:=[⟨some 4,.assign (.const (.int .i64 7)),30,"insts.go:58",#[],none⟩]
def f18_r6o:Array Oper:=f18_r6l.toArray
@[simp] theorem f18_r6_l:f18_r6o.toList=f18_r6l:=rfl

@[simp] def f18_r7l:List Oper:=[⟨some 58,.fieldAddr 26 (.tmp 3) 1,0,"insts.go:59",#[],none⟩,
 ⟨some 59,.load 23 (.tmp 58),23,"insts.go:59",(gE [0]),none⟩,
 ⟨some 60,.call ⟨.builtin .len,#[.tmp 59],#[23]⟩,3,"insts.go:59",(gE [8]),none⟩,
 ⟨some 61,.binOp .gtr 3 (.tmp 60) (.const (.int .i64 64)) 3,4,"insts.go:59",(gE [16]),none⟩,
 ⟨some 62,.move (.tmp 61),4,"insts.go:59",(gE [24]),none⟩,
 ⟨some 63,.fieldAddr 26 (.tmp 3) 2,0,"insts.go:59",(gE [34]),some (4,false)⟩,
 ⟨some 64,.load 24 (.tmp 63),24,"insts.go:59",(gE [40,34]),some (4,false)⟩,
 ⟨some 65,.call ⟨.builtin .len,#[.tmp 64],#[24]⟩,3,"insts.go:59",(gE [48,34]),some (4,false)⟩,
 ⟨some 66,.binOp .gtr 3 (.tmp 65) (.const (.int .i64 32)) 3,4,"insts.go:59",(gE [56,34]),some (4,false)⟩,
 ⟨some 67,.pick (.tmp 62) (.const (.bool true)) (.tmp 66),4,"insts.go:59",(gE [32,64]),none⟩,
 ⟨some 57,.assign (.tmp 67),4,"insts.go:59",(gE [72,33]),none⟩]
def f18_r7o:Array Oper:=f18_r7l.toArray
@[simp] theorem f18_r7_l:f18_r7o.toList=f18_r7l:=rfl

@[simp] theorem f18_r7_g4:zL f18_r7o 4=some 62:=rfl
@[simp] def f18_r8l:List Oper:=[⟨some 4,.assign (.const (.int .i64 6)),30,"insts.go:60",#[],none⟩]
def f18_r8o:Array Oper:=f18_r8l.toArray
@[simp] theorem f18_r8_l:f18_r8o.toList=f18_r8l:=rfl

@[simp] def f18_r9l:List Oper:=[⟨some 69,.fieldAddr 26 (.tmp 3) 3,0,"insts.go:61",#[],none⟩,
 ⟨some 70,.load 3 (.tmp 69),3,"insts.go:61",(gE [0]),none⟩,
 ⟨some 71,.binOp .lss 3 (.tmp 70) (.const (.int .i64 0)) 3,4,"insts.go:61",(gE [8]),none⟩,
 ⟨some 72,.move (.tmp 71),4,"insts.go:61",(gE [16]),none⟩,
 ⟨some 73,.fieldAddr 26 (.tmp 3) 3,0,"insts.go:61",(gE [26]),some (3,false)⟩,
 ⟨some 74,.load 3 (.tmp 73),3,"insts.go:61",(gE [32,26]),some (3,false)⟩,
 ⟨some 75,.binOp .geq 3 (.tmp 74) (.const (.int .i64 8)) 3,4,"insts.go:61",(gE [40,26]),some (3,false)⟩,
 ⟨some 76,.pick (.tmp 72) (.const (.bool true)) (.tmp 75),4,"insts.go:61",(gE [24,48]),none⟩,
 ⟨some 68,.assign (.tmp 76),4,"insts.go:61",(gE [56,25]),none⟩]
def f18_r9o:Array Oper:=f18_r9l.toArray
@[simp] theorem f18_r9_l:f18_r9o.toList=f18_r9l:=rfl

@[simp] theorem f18_r9_g3:zL f18_r9o 3=some 72:=rfl
@[simp] def f18_r10l:List Oper:=[⟨some 4,.assign (.const (.int .i64 5)),30,"insts.go:62",#[],none⟩]
def f18_r10o:Array Oper:=f18_r10l.toArray
@[simp] theorem f18_r10_l:f18_r10o.toList=f18_r10l:=rfl

@[simp] def f18_r11l:List Oper:=[⟨some 77,.fieldAddr 26 (.tmp 3) 1,0,"insts.go:64",#[],none⟩,
 ⟨some 78,.load 23 (.tmp 77),23,"insts.go:64",(gE [0]),none⟩,
 ⟨some 79,.call ⟨.builtin .len,#[.tmp 78],#[23]⟩,3,"insts.go:64",(gE [8]),none⟩,
 ⟨some 80,.move (.const (.int .i64 0)),3,"insts.go:64",#[],none⟩]
def f18_r11o:Array Oper:=f18_r11l.toArray
@[simp] theorem f18_r11_l:f18_r11o.toList=f18_r11l:=rfl

@[simp] def f18_r12l:List Oper:=[⟨some 81,.binOp .lss 3 (.tmp 80) (.tmp 79) 3,0,"insts.go:64",#[],none⟩]
def f18_r12o:Array Oper:=f18_r12l.toArray
@[simp] theorem f18_r12_l:f18_r12o.toList=f18_r12l:=rfl

@[simp] def f18_r13l:List Oper:=[⟨some 82,.move (.tmp 80),3,"insts.go:64",#[],none⟩,
 ⟨some 83,.indexAddr 23 (.tmp 78) (.tmp 80),0,"insts.go:64",#[],none⟩,
 ⟨some 84,.load 39 (.tmp 83),39,"insts.go:64",(gE [8]),none⟩,
 ⟨some 6,.alloc 39,0,"insts.go:64",#[],none⟩,
 ⟨some 5,.assign (.tmp 82),3,"insts.go:64",(gE [0,3,11,19,27]),none⟩,
 ⟨none,.store 39 (.tmp 6) (.tmp 84),0,"insts.go:64",(gE [24,16,33,3,11,19,27,35]),none⟩]
def f18_r13o:Array Oper:=f18_r13l.toArray
@[simp] theorem f18_r13_l:f18_r13o.toList=f18_r13l:=rfl

@[simp] def f18_r14l:List Oper:=[⟨some 86,.fieldAddr 39 (.tmp 6) 0,0,"insts.go:66",#[],none⟩,
 ⟨some 87,.load 9 (.tmp 86),9,"insts.go:66",(gE [0]),none⟩,
 ⟨some 88,.call ⟨.builtin .len,#[.tmp 87],#[9]⟩,3,"insts.go:66",(gE [8]),none⟩,
 ⟨some 89,.binOp .eql 3 (.tmp 88) (.const (.int .i64 0)) 3,4,"insts.go:66",(gE [16]),none⟩,
 ⟨some 90,.move (.tmp 89),4,"insts.go:66",(gE [24]),none⟩,
 ⟨some 91,.fieldAddr 39 (.tmp 6) 0,0,"insts.go:66",(gE [34]),some (4,false)⟩,
 ⟨some 92,.load 9 (.tmp 91),9,"insts.go:66",(gE [40,34]),some (4,false)⟩,
 ⟨some 93,.call ⟨.builtin .len,#[.tmp 92],#[9]⟩,3,"insts.go:66",(gE [48,34]),some (4,false)⟩,
 ⟨some 94,.binOp .gtr 3 (.tmp 93) (.const (.int .i64 81)) 3,4,"insts.go:66",(gE [56,34]),some (4,false)⟩,
 ⟨some 95,.pick (.tmp 90) (.const (.bool true)) (.tmp 94),4,"insts.go:66",(gE [32,64]),none⟩,
 ⟨some 85,.assign (.tmp 95),4,"insts.go:66",(gE [72,33]),none⟩]
def f18_r14o:Array Oper:=f18_r14l.toArray
@[simp] theorem f18_r14_l:f18_r14o.toList=f18_r14l:=rfl

@[simp] theorem f18_r14_g4:zL f18_r14o 4=some 90:=rfl
@[simp] def f18_r15l:List Oper:=[⟨some 4,.assign (.const (.int .i64 10)),30,"insts.go:67",#[],none⟩]
def f18_r15o:Array Oper:=f18_r15l.toArray
@[simp] theorem f18_r15_l:f18_r15o.toList=f18_r15l:=rfl

@[simp] def f18_r16l:List Oper:=[⟨some 97,.move (.tmp 5),3,"insts.go:68",#[],none⟩,
 ⟨some 98,.binOp .gtr 3 (.tmp 97) (.const (.int .i64 0)) 3,4,"insts.go:68",(gE [0]),none⟩,
 ⟨some 99,.move (.tmp 98),4,"insts.go:68",(gE [8]),none⟩,
 ⟨some 100,.fieldAddr 26 (.tmp 3) 1,0,"insts.go:68",(gE [18]),some (2,true)⟩,
 ⟨some 101,.load 23 (.tmp 100),23,"insts.go:68",(gE [24,18]),some (2,true)⟩,
 ⟨some 102,.move (.tmp 5),3,"insts.go:68",(gE [18]),some (2,true)⟩,
 ⟨some 103,.binOp .sub 3 (.tmp 102) (.const (.int .i64 1)) 3,3,"insts.go:68",(gE [40,18]),some (2,true)⟩,
 ⟨some 104,.indexAddr 23 (.tmp 101) (.tmp 103),0,"insts.go:68",(gE [32,48,18]),some (2,true)⟩,
 ⟨some 105,.load 39 (.tmp 104),39,"insts.go:68",(gE [56,18]),some (2,true)⟩,
 ⟨some 106,.load 39 (.tmp 6),39,"insts.go:68",(gE [18]),some (2,true)⟩,
 ⟨some 107,.call ⟨.value (.func 43),#[.tmp 105,.tmp 106],#[39,39]⟩,3,"insts.go:68",(gE [64,72,17,18]),some (2,true)⟩,
 ⟨some 108,.binOp .geq 3 (.tmp 107) (.const (.int .i64 0)) 3,4,"insts.go:68",(gE [80,18]),some (2,true)⟩,
 ⟨some 109,.pick (.tmp 99) (.tmp 108) (.const (.bool false)),4,"insts.go:68",(gE [16,88]),none⟩,
 ⟨some 96,.assign (.tmp 109),4,"insts.go:68",(gE [96,81]),none⟩]
def wt:Array Oper:=f18_r16l.toArray
@[simp] theorem f18_r16_l:wt.toList=f18_r16l:=rfl

@[simp] theorem f18_r16_g2:zL wt 2=some 99:=rfl
@[simp] theorem f18_r16_n:wt.size=14:=rfl
@[simp] def f18_r17l:List Oper:=[⟨some 4,.assign (.const (.int .i64 13)),30,"insts.go:69",#[],none⟩]
def f18_r17o:Array Oper:=f18_r17l.toArray
@[simp] theorem f18_r17_l:f18_r17o.toList=f18_r17l:=rfl

@[simp] def f18_r18l:List Oper:=[⟨some 111,.fieldAddr 39 (.tmp 6) 1,0,"insts.go:70",#[],none⟩,
 ⟨some 112,.load 37 (.tmp 111),37,"insts.go:70",(gE [0]),none⟩,
 ⟨some 113,.call ⟨.builtin .len,#[.tmp 112],#[37]⟩,3,"insts.go:70",(gE [8]),none⟩,
 ⟨some 114,.binOp .gtr 3 (.tmp 113) (.const (.int .i64 32)) 3,4,"insts.go:70",(gE [16]),none⟩,
 ⟨some 110,.assign (.tmp 114),4,"insts.go:70",(gE [24]),none⟩]
def f18_r18o:Array Oper:=f18_r18l.toArray
@[simp] theorem f18_r18_l:f18_r18o.toList=f18_r18l:=rfl

@[simp] def f18_r19l:List Oper:=[⟨some 4,.assign (.const (.int .i64 6)),30,"insts.go:71",#[],none⟩]
def f18_r19o:Array Oper:=f18_r19l.toArray
@[simp] theorem f18_r19_l:f18_r19o.toList=f18_r19l:=rfl

@[simp] def f18_r20l:List Oper:=[⟨some 115,.fieldAddr 39 (.tmp 6) 1,0,"insts.go:73",#[],none⟩,
 ⟨some 116,.load 37 (.tmp 115),37,"insts.go:73",(gE [0]),none⟩,
 ⟨some 117,.call ⟨.builtin .len,#[.tmp 116],#[37]⟩,3,"insts.go:73",(gE [8]),none⟩,
 ⟨some 118,.move (.const (.int .i64 0)),3,"insts.go:73",#[],none⟩]
def f18_r20o:Array Oper:=f18_r20l.toArray
@[simp] theorem f18_r20_l:f18_r20o.toList=f18_r20l:=rfl

@[simp] def f18_r21l:List Oper:=[⟨some 119,.binOp .lss 3 (.tmp 118) (.tmp 117) 3,0,"insts.go:73",#[],none⟩]
def f18_r21o:Array Oper:=f18_r21l.toArray
@[simp] theorem f18_r21_l:f18_r21o.toList=f18_r21l:=rfl

@[simp] def f18_r22l:List Oper:=[⟨some 120,.indexAddr 37 (.tmp 116) (.tmp 118),0,"insts.go:73",#[],none⟩,
 ⟨some 121,.load 3 (.tmp 120),3,"insts.go:73",(gE [0]),none⟩,
 ⟨some 8,.assign (.tmp 121),3,"insts.go:73",(gE [8,3,11]),none⟩]
def f18_r22o:Array Oper:=f18_r22l.toArray
@[simp] theorem f18_r22_l:f18_r22o.toList=f18_r22l:=rfl

@[simp] def f18_r23l:List Oper:=[⟨some 122,.move (.tmp 0),22,"insts.go:74",#[],none⟩,
 ⟨some 123,.move (.tmp 8),3,"insts.go:74",#[],none⟩,
 ⟨some 124,.call ⟨.value (.func 44),#[.tmp 122,.tmp 123],#[22,3]⟩,4,"insts.go:74",(gE [0,8]),none⟩,
 ⟨some 125,.unOp .not 4 (.tmp 124),4,"insts.go:74",(gE [16]),none⟩]
def f18_r23o:Array Oper:=f18_r23l.toArray
@[simp] theorem f18_r23_l:f18_r23o.toList=f18_r23l:=rfl

@[simp] def f18_r24l:List Oper:=[⟨some 4,.assign (.const (.int .i64 5)),30,"insts.go:75",#[],none⟩]
def f18_r24o:Array Oper:=f18_r24l.toArray
@[simp] theorem f18_r24_l:f18_r24o.toList=f18_r24l:=rfl

@[simp] def f18_r25l:List Oper:=[⟨some 126,.move (.tmp 0),22,"insts.go:77",#[],none⟩,
 ⟨some 127,.move (.tmp 8),3,"insts.go:77",#[],none⟩,
 ⟨some 128,.indexAddr 22 (.tmp 126) (.tmp 127),0,"insts.go:77",(gE [0,8]),none⟩,
 ⟨some 129,.load 26 (.tmp 128),26,"insts.go:77",(gE [16]),none⟩,
 ⟨some 130,.call ⟨.value (.func 45),#[.tmp 129],#[26]⟩,4,"insts.go:77",(gE [24]),none⟩,
 ⟨some 131,.unOp .not 4 (.tmp 130),4,"insts.go:77",(gE [32]),none⟩]
def f18_r25o:Array Oper:=f18_r25l.toArray
@[simp] theorem f18_r25_l:f18_r25o.toList=f18_r25l:=rfl

@[simp] def f18_r26l:List Oper:=[⟨some 4,.assign (.const (.int .i64 18)),30,"insts.go:78",#[],none⟩]
def f18_r26o:Array Oper:=f18_r26l.toArray
@[simp] theorem f18_r26_l:f18_r26o.toList=f18_r26l:=rfl

@[simp] def f18_r27l:List Oper:=[⟨some 132,.binOp .add 3 (.tmp 118) (.const (.int .i64 1)) 3,3,"insts.go:73",#[],none⟩,
 ⟨some 118,.move (.tmp 132),3,"insts.go:73",(gE [0]),none⟩]
def f18_r27o:Array Oper:=f18_r27l.toArray
@[simp] theorem f18_r27_l:f18_r27o.toList=f18_r27l:=rfl

def f18_l0:AC :=
 (.seq (.reg 21 f18_r21o [0,3,78,79,80,91,92,93,94,100,101,102,103,104,105,106,107,108,116,117,118,119,147,148,149,150,151,162,163]) (.seq (.cond (.tmp 119) .skip (.exit 4)) (.seq (.block 5 (.seq (.reg 22 f18_r22o [0,3,8,78,79,80,91,92,93,94,100,101,102,103,104,105,106,107,108,116,117,118,147,148,149,150,151,162,163]) (.seq (.seq (.reg 23 f18_r23o [0,3,8,78,79,80,91,92,93,94,100,101,102,103,104,105,106,107,108,116,117,118,125,147,148,149,150,151,162,163]) (.cond (.tmp 125) (.seq (.reg 24 f18_r24o [4]) .ret) .skip)) (.seq (.reg 25 f18_r25o [0,3,78,79,80,91,92,93,94,100,101,102,103,104,105,106,107,108,116,117,118,131,147,148,149,150,151,162,163]) (.cond (.tmp 131) (.seq (.reg 26 f18_r26o [4]) .ret) .skip))))) (.reg 27 f18_r27o [0,3,78,79,80,91,92,93,94,100,101,102,103,104,105,106,107,108,116,117,118,147,148,149,150,151,162,163]))))
theorem f18_l0_fits:f18_l0.fits 166=true:=by kernel_rfl
@[simp] def f18_r28l:List Oper:=[⟨some 133,.binOp .add 3 (.tmp 80) (.const (.int .i64 1)) 3,3,"insts.go:64",#[],none⟩,
 ⟨some 80,.move (.tmp 133),3,"insts.go:64",(gE [0]),none⟩]
def f18_r28o:Array Oper:=f18_r28l.toArray
@[simp] theorem f18_r28_l:f18_r28o.toList=f18_r28l:=rfl

def f18_l1:AC :=
 (.seq (.reg 12 f18_r12o [0,3,78,79,80,81,91,92,93,94,100,101,102,103,104,105,106,107,108,147,148,149,150,151,162,163]) (.seq (.cond (.tmp 81) .skip (.exit 1)) (.seq (.block 2 (.seq (.reg 13 f18_r13o [0,3,5,6,78,79,80,91,92,93,94,100,101,102,103,104,105,106,107,108,147,148,149,150,151,162,163]) (.seq (.block 3 (.seq (.reg 14 f18_r14o [0,3,5,6,78,79,80,85,91,92,93,94,100,101,102,103,104,105,106,107,108,147,148,149,150,151,162,163]) (.cond (.tmp 85) (.seq (.reg 15 f18_r15o [4]) .ret) (.seq (.draw 16 wt [0,3,6,78,79,80,91,92,93,94,96,100,101,102,103,104,105,106,107,108,147,148,149,150,151,162,163]) (.cond (.tmp 96) (.seq (.reg 17 f18_r17o [4]) .ret) (.seq (.reg 18 f18_r18o [0,3,6,78,79,80,91,92,93,94,100,101,102,103,104,105,106,107,108,110,147,148,149,150,151,162,163]) (.cond (.tmp 110) (.seq (.reg 19 f18_r19o [4]) .ret) .skip))))))) (.seq (.reg 20 f18_r20o [0,3,78,79,80,91,92,93,94,100,101,102,103,104,105,106,107,108,116,117,118,147,148,149,150,151,162,163]) (.block 4 (.loop f18_l0)))))) (.reg 28 f18_r28o [0,3,78,79,80,91,92,93,94,100,101,102,103,104,105,106,107,108,147,148,149,150,151,162,163]))))
theorem f18_l1_fits:f18_l1.fits 166=true:=by kernel_rfl
@[simp] def f18_r29l:List Oper:=[⟨some 134,.fieldAddr 26 (.tmp 3) 2,0,"insts.go:82",#[],none⟩,
 ⟨some 135,.load 24 (.tmp 134),24,"insts.go:82",(gE [0]),none⟩,
 ⟨some 136,.call ⟨.builtin .len,#[.tmp 135],#[24]⟩,3,"insts.go:82",(gE [8]),none⟩,
 ⟨some 137,.move (.const (.int .i64 0)),3,"insts.go:82",#[],none⟩]
def f18_r29o:Array Oper:=f18_r29l.toArray
@[simp] theorem f18_r29_l:f18_r29o.toList=f18_r29l:=rfl

@[simp] def f18_r30l:List Oper:=[⟨some 138,.binOp .lss 3 (.tmp 137) (.tmp 136) 3,0,"insts.go:82",#[],none⟩]
def f18_r30o:Array Oper:=f18_r30l.toArray
@[simp] theorem f18_r30_l:f18_r30o.toList=f18_r30l:=rfl

@[simp] def f18_r31l:List Oper:=[⟨some 139,.indexAddr 24 (.tmp 135) (.tmp 137),0,"insts.go:82",#[],none⟩,
 ⟨some 140,.load 55 (.tmp 139),55,"insts.go:82",(gE [0]),none⟩,
 ⟨some 10,.alloc 55,0,"insts.go:82",#[],none⟩,
 ⟨none,.store 55 (.tmp 10) (.tmp 140),0,"insts.go:82",(gE [16,8,3,11,19]),none⟩]
def f18_r31o:Array Oper:=f18_r31l.toArray
@[simp] theorem f18_r31_l:f18_r31o.toList=f18_r31l:=rfl

@[simp] def f18_r32l:List Oper:=[⟨some 141,.move (.tmp 0),22,"insts.go:83",#[],none⟩,
 ⟨some 142,.fieldAddr 55 (.tmp 10) 0,0,"insts.go:83",#[],none⟩,
 ⟨some 143,.load 3 (.tmp 142),3,"insts.go:83",(gE [8]),none⟩,
 ⟨some 144,.call ⟨.value (.func 44),#[.tmp 141,.tmp 143],#[22,3]⟩,4,"insts.go:83",(gE [0,16]),none⟩,
 ⟨some 145,.unOp .not 4 (.tmp 144),4,"insts.go:83",(gE [24]),none⟩,
 ⟨some 146,.move (.tmp 145),4,"insts.go:83",(gE [32,25]),none⟩,
 ⟨some 147,.move (.tmp 0),22,"insts.go:83",(gE [42]),some (5,false)⟩,
 ⟨some 148,.fieldAddr 55 (.tmp 10) 1,0,"insts.go:83",(gE [42]),some (5,false)⟩,
 ⟨some 149,.load 3 (.tmp 148),3,"insts.go:83",(gE [56,42]),some (5,false)⟩,
 ⟨some 150,.call ⟨.value (.func 44),#[.tmp 147,.tmp 149],#[22,3]⟩,4,"insts.go:83",(gE [48,64,41,42]),some (5,false)⟩,
 ⟨some 151,.unOp .not 4 (.tmp 150),4,"insts.go:83",(gE [72,42]),some (5,false)⟩,
 ⟨some 152,.pick (.tmp 146) (.const (.bool true)) (.tmp 151),4,"insts.go:83",(gE [40,80]),none⟩]
def f18_r32o:Array Oper:=f18_r32l.toArray
@[simp] theorem f18_r32_l:f18_r32o.toList=f18_r32l:=rfl

@[simp] theorem f18_r32_g5:zL f18_r32o 5=some 146:=rfl
@[simp] def f18_r33l:List Oper:=[⟨some 4,.assign (.const (.int .i64 5)),30,"insts.go:84",#[],none⟩]
def f18_r33o:Array Oper:=f18_r33l.toArray
@[simp] theorem f18_r33_l:f18_r33o.toList=f18_r33l:=rfl

@[simp] def f18_r34l:List Oper:=[⟨some 153,.move (.tmp 0),22,"insts.go:86",#[],none⟩,
 ⟨some 154,.fieldAddr 55 (.tmp 10) 0,0,"insts.go:86",#[],none⟩,
 ⟨some 155,.load 3 (.tmp 154),3,"insts.go:86",(gE [8]),none⟩,
 ⟨some 156,.indexAddr 22 (.tmp 153) (.tmp 155),0,"insts.go:86",(gE [0,16]),none⟩,
 ⟨some 157,.fieldAddr 26 (.tmp 156) 0,0,"insts.go:86",(gE [24]),none⟩,
 ⟨some 158,.load 3 (.tmp 157),3,"insts.go:86",(gE [32]),none⟩,
 ⟨some 11,.assign (.tmp 158),3,"insts.go:86",(gE [40,3,11,19,27,35,43]),none⟩]
def f18_r34o:Array Oper:=f18_r34l.toArray
@[simp] theorem f18_r34_l:f18_r34o.toList=f18_r34l:=rfl

@[simp] def f18_r35l:List Oper:=[⟨some 159,.move (.tmp 11),3,"insts.go:86",#[],none⟩,
 ⟨some 160,.binOp .eql 3 (.tmp 159) (.const (.int .i64 6)) 3,4,"insts.go:86",(gE [0]),none⟩,
 ⟨some 161,.move (.tmp 160),4,"insts.go:86",(gE [8]),none⟩,
 ⟨some 162,.move (.tmp 11),3,"insts.go:86",(gE [18]),some (2,false)⟩,
 ⟨some 163,.binOp .eql 3 (.tmp 162) (.const (.int .i64 3)) 3,4,"insts.go:86",(gE [24,18]),some (2,false)⟩,
 ⟨some 164,.pick (.tmp 161) (.const (.bool true)) (.tmp 163),4,"insts.go:86",(gE [16,32]),none⟩]
def f18_r35o:Array Oper:=f18_r35l.toArray
@[simp] theorem f18_r35_l:f18_r35o.toList=f18_r35l:=rfl

@[simp] theorem f18_r35_g2:zL f18_r35o 2=some 161:=rfl
@[simp] def f18_r36l:List Oper:=[⟨some 4,.assign (.const (.int .i64 18)),30,"insts.go:87",#[],none⟩]
def f18_r36o:Array Oper:=f18_r36l.toArray
@[simp] theorem f18_r36_l:f18_r36o.toList=f18_r36l:=rfl

@[simp] def f18_r37l:List Oper:=[⟨some 165,.binOp .add 3 (.tmp 137) (.const (.int .i64 1)) 3,3,"insts.go:82",#[],none⟩,
 ⟨some 137,.move (.tmp 165),3,"insts.go:82",(gE [0]),none⟩]
def f18_r37o:Array Oper:=f18_r37l.toArray
@[simp] theorem f18_r37_l:f18_r37o.toList=f18_r37l:=rfl

def f18_l2:AC :=
 (.seq (.reg 30 f18_r30o [0,135,136,137,138,147,148,149,150,151,162,163]) (.seq (.cond (.tmp 138) .skip (.exit 6)) (.seq (.block 7 (.seq (.reg 31 f18_r31o [0,10,135,136,137,147,148,149,150,151,162,163]) (.seq (.seq (.reg 32 f18_r32o [0,10,135,136,137,147,148,149,150,151,152,162,163]) (.cond (.tmp 152) (.seq (.reg 33 f18_r33o [4]) .ret) .skip)) (.seq (.reg 34 f18_r34o [0,11,135,136,137,147,148,149,150,151,162,163]) (.seq (.reg 35 f18_r35o [0,135,136,137,147,148,149,150,151,162,163,164]) (.cond (.tmp 164) (.seq (.reg 36 f18_r36o [4]) .ret) .skip)))))) (.reg 37 f18_r37o [0,135,136,137,147,148,149,150,151,162,163]))))
theorem f18_l2_fits:f18_l2.fits 166=true:=by kernel_rfl
@[simp] def f18_r38l:List Oper:=[⟨some 4,.assign (.const (.int .i64 0)),30,"insts.go:90",#[],none⟩]
def f18_r38o:Array Oper:=f18_r38l.toArray
@[simp] theorem f18_r38_l:f18_r38o.toList=f18_r38l:=rfl

def f18_ac:AC :=
 (.seq (.reg 0 f18_r0o [0,3,17,18,19,26,27,28,29,32,33,34,35,36,37,38,39,40,41,42,43,44,45,52,53,54,55,63,64,65,66,73,74,75,91,92,93,94,100,101,102,103,104,105,106,107,108,147,148,149,150,151,162,163]) (.seq (.block 0 (.seq (.reg 1 f18_r1o [0,3,12,26,27,28,29,32,33,34,35,36,37,38,39,40,41,42,43,44,45,52,53,54,55,63,64,65,66,73,74,75,91,92,93,94,100,101,102,103,104,105,106,107,108,147,148,149,150,151,162,163]) (.cond (.tmp 12) (.seq (.reg 2 f18_r2o [4]) .ret) (.seq (.reg 3 uX [0,3,21,52,53,54,55,63,64,65,66,73,74,75,91,92,93,94,100,101,102,103,104,105,106,107,108,147,148,149,150,151,162,163]) (.cond (.tmp 21) (.seq (.reg 4 f18_r4o [4]) .ret) (.seq (.reg 5 f18_r5o [0,3,47,63,64,65,66,73,74,75,91,92,93,94,100,101,102,103,104,105,106,107,108,147,148,149,150,151,162,163]) (.cond (.tmp 47) (.seq (.reg 6 f18_r6o [4]) .ret) (.seq (.reg 7 f18_r7o [0,3,57,73,74,75,91,92,93,94,100,101,102,103,104,105,106,107,108,147,148,149,150,151,162,163]) (.cond (.tmp 57) (.seq (.reg 8 f18_r8o [4]) .ret) (.seq (.reg 9 f18_r9o [0,3,68,91,92,93,94,100,101,102,103,104,105,106,107,108,147,148,149,150,151,162,163]) (.cond (.tmp 68) (.seq (.reg 10 f18_r10o [4]) .ret) .skip))))))))))) (.seq (.seq (.reg 11 f18_r11o [0,3,78,79,80,91,92,93,94,100,101,102,103,104,105,106,107,108,147,148,149,150,151,162,163]) (.block 1 (.loop f18_l1))) (.seq (.seq (.reg 29 f18_r29o [0,135,136,137,147,148,149,150,151,162,163]) (.block 6 (.loop f18_l2))) (.seq (.reg 38 f18_r38o [4]) .ret)))))
theorem f18_eq:Tryz.f20.body=some f18_ac.code:=by kernel_rfl
@[simp] theorem f18_nt:Tryz.f20.ntmps=166:=rfl
theorem f18_fits:f18_ac.fits Tryz.f20.ntmps=true:=by kernel_rfl
@[simp] theorem f18_res:Tryz.f20.results.toList=[.tmp 4]:=rfl
@[simp] theorem f18_isb:Tryz.f20.body.isNone=false:=rfl
@[simp] theorem f18_r16_s:zD zB wt=true:=by kernel_rfl
@[simp] theorem f18_r16_d:yg zB wt=true:=by kernel_rfl
@[simp] theorem f18_r16_t10:zV zB wt 10=true:=by kernel_rfl
/- F41 cinnabar/insts.circular -/
@[simp] def f19_r0l:List Oper:=[⟨some 1,.box 22 (.tmp 0),0,"insts.go:103",#[],none⟩,
 ⟨some 2,.assign (.const (.bool false)),4,"insts.go:103",#[],none⟩]
def f19_r0o:Array Oper:=f19_r0l.toArray
@[simp] theorem f19_r0_l:f19_r0o.toList=f19_r0l:=rfl

@[simp] def f19_r1l:List Oper:=[⟨some 6,.load 22 (.tmp 1),22,"insts.go:105",#[],none⟩,
 ⟨some 7,.call ⟨.builtin .len,#[.tmp 6],#[22]⟩,3,"insts.go:105",(gE [0]),none⟩,
 ⟨some 8,.makeSlice 37 (.tmp 7) (.tmp 7),37,"insts.go:105",(gE [8,8]),none⟩,
 ⟨some 3,.alloc 37,0,"insts.go:105",#[],none⟩,
 ⟨none,.store 37 (.tmp 3) (.tmp 8),0,"insts.go:105",(gE [24,16,3,11,19,27]),none⟩]
def f19_r1o:Array Oper:=f19_r1l.toArray
@[simp] theorem f19_r1_l:f19_r1o.toList=f19_r1l:=rfl

@[simp] def f19_r2l:List Oper:=[⟨some 4,.alloc 86,0,"insts.go:106",#[],none⟩]
def f19_r2o:Array Oper:=f19_r2l.toArray
@[simp] theorem f19_r2_l:f19_r2o.toList=f19_r2l:=rfl

@[simp] def f19_r3l:List Oper:=[⟨some 9,.makeFunc (.func 73) #[] #[.tmp 1,.tmp 3,.tmp 4],86,"insts.go:107",#[],none⟩,
 ⟨none,.store 86 (.tmp 4) (.tmp 9),0,"insts.go:107",(gE [0,3]),none⟩]
def f19_r3o:Array Oper:=f19_r3l.toArray
@[simp] theorem f19_r3_l:f19_r3o.toList=f19_r3l:=rfl

@[simp] def f19_r4l:List Oper:=[⟨some 10,.load 22 (.tmp 1),22,"insts.go:121",#[],none⟩,
 ⟨some 11,.call ⟨.builtin .len,#[.tmp 10],#[22]⟩,3,"insts.go:121",(gE [0]),none⟩,
 ⟨some 12,.move (.const (.int .i64 0)),3,"insts.go:121",#[],none⟩]
def f19_r4o:Array Oper:=f19_r4l.toArray
@[simp] theorem f19_r4_l:f19_r4o.toList=f19_r4l:=rfl

@[simp] def f19_r5l:List Oper:=[⟨some 13,.binOp .lss 3 (.tmp 12) (.tmp 11) 3,0,"insts.go:121",#[],none⟩]
def f19_r5o:Array Oper:=f19_r5l.toArray
@[simp] theorem f19_r5_l:f19_r5o.toList=f19_r5l:=rfl

@[simp] def f19_r6l:List Oper:=[⟨some 14,.move (.tmp 12),3,"insts.go:121",#[],none⟩,
 ⟨some 5,.assign (.tmp 14),3,"insts.go:121",(gE [0,3]),none⟩]
def f19_r6o:Array Oper:=f19_r6l.toArray
@[simp] theorem f19_r6_l:f19_r6o.toList=f19_r6l:=rfl

@[simp] def f19_r7l:List Oper:=[⟨some 15,.load 86 (.tmp 4),86,"insts.go:122",#[],none⟩,
 ⟨some 16,.move (.tmp 5),3,"insts.go:122",#[],none⟩,
 ⟨some 17,.call ⟨.value (.tmp 15),#[.tmp 16],#[3]⟩,4,"insts.go:122",(gE [0,8]),none⟩]
def f19_r7o:Array Oper:=f19_r7l.toArray
@[simp] theorem f19_r7_l:f19_r7o.toList=f19_r7l:=rfl

@[simp] def f19_r8l:List Oper:=[⟨some 2,.assign (.const (.bool true)),4,"insts.go:123",#[],none⟩]
def f19_r8o:Array Oper:=f19_r8l.toArray
@[simp] theorem f19_r8_l:f19_r8o.toList=f19_r8l:=rfl

@[simp] def f19_r9l:List Oper:=[⟨some 18,.binOp .add 3 (.tmp 12) (.const (.int .i64 1)) 3,3,"insts.go:121",#[],none⟩,
 ⟨some 12,.move (.tmp 18),3,"insts.go:121",(gE [0]),none⟩]
def f19_r9o:Array Oper:=f19_r9l.toArray
@[simp] theorem f19_r9_l:f19_r9o.toList=f19_r9l:=rfl

def f19_l0:AC :=
 (.seq (.reg 5 f19_r5o [4,11,12,13]) (.seq (.cond (.tmp 13) .skip (.exit 0)) (.seq (.block 1 (.seq (.reg 6 f19_r6o [4,5,11,12]) (.seq (.reg 7 f19_r7o [4,11,12,17]) (.cond (.tmp 17) (.seq (.reg 8 f19_r8o [2]) .ret) .skip)))) (.reg 9 f19_r9o [4,11,12]))))
theorem f19_l0_fits:f19_l0.fits 19=true:=by kernel_rfl
@[simp] def f19_r10l:List Oper:=[⟨some 2,.assign (.const (.bool false)),4,"insts.go:126",#[],none⟩]
def f19_r10o:Array Oper:=f19_r10l.toArray
@[simp] theorem f19_r10_l:f19_r10o.toList=f19_r10l:=rfl

def f19_ac:AC :=
 (.seq (.reg 0 f19_r0o [1]) (.seq (.reg 1 f19_r1o [1,3]) (.seq (.reg 2 f19_r2o [1,3,4]) (.seq (.reg 3 f19_r3o [1,4]) (.seq (.seq (.reg 4 f19_r4o [4,11,12]) (.block 0 (.loop f19_l0))) (.seq (.reg 10 f19_r10o [2]) .ret))))))
theorem f19_eq:Tryz.f41.body=some f19_ac.code:=by kernel_rfl
@[simp] theorem f19_nt:Tryz.f41.ntmps=19:=rfl
theorem f19_fits:f19_ac.fits Tryz.f41.ntmps=true:=by kernel_rfl
@[simp] theorem f19_res:Tryz.f41.results.toList=[.tmp 2]:=rfl
@[simp] theorem f19_isb:Tryz.f41.body.isNone=false:=rfl
/- F24 cinnabar/cinnabarref16.one -/
@[simp] def f20_r0l:List Oper:=[⟨some 3,.box 26 (.tmp 1),0,"ref.go:7",#[],none⟩,
 ⟨some 4,.assign (.const (.int .i64 0)),30,"ref.go:7",#[],none⟩]
def f20_r0o:Array Oper:=f20_r0l.toArray
@[simp] theorem f20_r0_l:f20_r0o.toList=f20_r0l:=rfl

@[simp] def f20_r1l:List Oper:=[⟨some 9,.fieldAddr 26 (.tmp 3) 0,0,"ref.go:8",#[],none⟩,
 ⟨some 10,.load 3 (.tmp 9),3,"ref.go:8",(gE [0]),none⟩,
 ⟨some 11,.binOp .lss 3 (.tmp 10) (.const (.int .i64 0)) 3,4,"ref.go:8",(gE [8]),none⟩,
 ⟨some 12,.move (.tmp 11),4,"ref.go:8",(gE [16]),none⟩,
 ⟨some 13,.fieldAddr 26 (.tmp 3) 0,0,"ref.go:8",(gE [26]),some (3,false)⟩,
 ⟨some 14,.load 3 (.tmp 13),3,"ref.go:8",(gE [32,26]),some (3,false)⟩,
 ⟨some 15,.binOp .gtr 3 (.tmp 14) (.const (.int .i64 6)) 3,4,"ref.go:8",(gE [40,26]),some (3,false)⟩,
 ⟨some 16,.pick (.tmp 12) (.const (.bool true)) (.tmp 15),4,"ref.go:8",(gE [24,48]),none⟩]
def f20_r1o:Array Oper:=f20_r1l.toArray
@[simp] theorem f20_r1_l:f20_r1o.toList=f20_r1l:=rfl

@[simp] theorem f20_r1_g3:zL f20_r1o 3=some 12:=rfl
@[simp] def f20_r2l:List Oper:=[⟨some 4,.assign (.const (.int .i64 3)),30,"ref.go:9",#[],none⟩]
def f20_r2o:Array Oper:=f20_r2l.toArray
@[simp] theorem f20_r2_l:f20_r2o.toList=f20_r2l:=rfl

@[simp] def f20_r3l:List Oper:=[⟨some 17,.fieldAddr 26 (.tmp 3) 0,0,"ref.go:11",#[],none⟩,
 ⟨some 18,.load 3 (.tmp 17),3,"ref.go:11",(gE [0]),none⟩,
 ⟨some 19,.binOp .neq 3 (.tmp 18) (.const (.int .i64 4)) 3,4,"ref.go:11",(gE [8]),none⟩,
 ⟨some 20,.move (.tmp 19),4,"ref.go:11",(gE [16]),none⟩,
 ⟨some 21,.fieldAddr 26 (.tmp 3) 1,0,"ref.go:11",(gE [26]),some (3,true)⟩,
 ⟨some 22,.load 23 (.tmp 21),23,"ref.go:11",(gE [32,26]),some (3,true)⟩,
 ⟨some 23,.call ⟨.builtin .len,#[.tmp 22],#[23]⟩,3,"ref.go:11",(gE [40,26]),some (3,true)⟩,
 ⟨some 24,.binOp .gtr 3 (.tmp 23) (.const (.int .i64 0)) 3,4,"ref.go:11",(gE [48,26]),some (3,true)⟩,
 ⟨some 25,.pick (.tmp 20) (.tmp 24) (.const (.bool false)),4,"ref.go:11",(gE [24,56]),none⟩,
 ⟨some 26,.move (.tmp 25),4,"ref.go:11",(gE [64,25]),none⟩,
 ⟨some 27,.fieldAddr 26 (.tmp 3) 0,0,"ref.go:11",(gE [74]),some (9,false)⟩,
 ⟨some 28,.load 3 (.tmp 27),3,"ref.go:11",(gE [80,74]),some (9,false)⟩,
 ⟨some 29,.binOp .neq 3 (.tmp 28) (.const (.int .i64 5)) 3,4,"ref.go:11",(gE [88,74]),some (9,false)⟩,
 ⟨some 30,.move (.tmp 29),4,"ref.go:11",(gE [96,73,74]),some (9,false)⟩,
 ⟨some 31,.fieldAddr 26 (.tmp 3) 2,0,"ref.go:11",(gE [106]),some (13,true)⟩,
 ⟨some 32,.load 24 (.tmp 31),24,"ref.go:11",(gE [112,106]),some (13,true)⟩,
 ⟨some 33,.call ⟨.builtin .len,#[.tmp 32],#[24]⟩,3,"ref.go:11",(gE [120,106]),some (13,true)⟩,
 ⟨some 34,.binOp .gtr 3 (.tmp 33) (.const (.int .i64 0)) 3,4,"ref.go:11",(gE [128,106]),some (13,true)⟩,
 ⟨some 35,.move (.tmp 34),4,"ref.go:11",(gE [136,105,106]),some (13,true)⟩,
 ⟨some 36,.fieldAddr 26 (.tmp 3) 3,0,"ref.go:11",(gE [146]),some (18,false)⟩,
 ⟨some 37,.load 3 (.tmp 36),3,"ref.go:11",(gE [152,146]),some (18,false)⟩,
 ⟨some 38,.binOp .neq 3 (.tmp 37) (.const (.int .i64 0)) 3,4,"ref.go:11",(gE [160,146]),some (18,false)⟩,
 ⟨some 39,.pick (.tmp 35) (.const (.bool true)) (.tmp 38),4,"ref.go:11",(gE [144,168,106]),some (13,true)⟩,
 ⟨some 40,.pick (.tmp 30) (.tmp 39) (.const (.bool false)),4,"ref.go:11",(gE [104,176,74]),some (9,false)⟩,
 ⟨some 41,.pick (.tmp 26) (.const (.bool true)) (.tmp 40),4,"ref.go:11",(gE [72,184]),none⟩]
def uT:Array Oper:=f20_r3l.toArray
@[simp] theorem f20_r3_l:uT.toList=f20_r3l:=rfl

@[simp] theorem f20_r3_g3:zL uT 3=some 20:=rfl
@[simp] theorem f20_r3_g9:zL uT 9=some 26:=rfl
@[simp] theorem f20_r3_g13:zL uT 13=some 30:=rfl
@[simp] theorem f20_r3_g18:zL uT 18=some 35:=rfl
@[simp] def f20_r4l:List Oper:=[⟨some 4,.assign (.const (.int .i64 4)),30,"ref.go:12",#[],none⟩]
def f20_r4o:Array Oper:=f20_r4l.toArray
@[simp] theorem f20_r4_l:f20_r4o.toList=f20_r4l:=rfl

@[simp] def f20_r5l:List Oper:=[⟨some 42,.fieldAddr 26 (.tmp 3) 0,0,"ref.go:14",#[],none⟩,
 ⟨some 43,.load 3 (.tmp 42),3,"ref.go:14",(gE [0]),none⟩,
 ⟨some 44,.binOp .eql 3 (.tmp 43) (.const (.int .i64 4)) 3,4,"ref.go:14",(gE [8]),none⟩,
 ⟨some 45,.move (.tmp 44),4,"ref.go:14",(gE [16]),none⟩,
 ⟨some 46,.fieldAddr 26 (.tmp 3) 1,0,"ref.go:14",(gE [26]),some (3,true)⟩,
 ⟨some 47,.load 23 (.tmp 46),23,"ref.go:14",(gE [32,26]),some (3,true)⟩,
 ⟨some 48,.call ⟨.builtin .len,#[.tmp 47],#[23]⟩,3,"ref.go:14",(gE [40,26]),some (3,true)⟩,
 ⟨some 49,.binOp .eql 3 (.tmp 48) (.const (.int .i64 0)) 3,4,"ref.go:14",(gE [48,26]),some (3,true)⟩,
 ⟨some 50,.pick (.tmp 45) (.tmp 49) (.const (.bool false)),4,"ref.go:14",(gE [24,56]),none⟩]
def f20_r5o:Array Oper:=f20_r5l.toArray
@[simp] theorem f20_r5_l:f20_r5o.toList=f20_r5l:=rfl

@[simp] theorem f20_r5_g3:zL f20_r5o 3=some 45:=rfl
@[simp] def f20_r6l:List Oper:=[⟨some 4,.assign (.const (.int .i64 7)),30,"ref.go:15",#[],none⟩]
def f20_r6o:Array Oper:=f20_r6l.toArray
@[simp] theorem f20_r6_l:f20_r6o.toList=f20_r6l:=rfl

@[simp] def f20_r7l:List Oper:=[⟨some 51,.fieldAddr 26 (.tmp 3) 1,0,"ref.go:17",#[],none⟩,
 ⟨some 52,.load 23 (.tmp 51),23,"ref.go:17",(gE [0]),none⟩,
 ⟨some 53,.call ⟨.builtin .len,#[.tmp 52],#[23]⟩,3,"ref.go:17",(gE [8]),none⟩,
 ⟨some 54,.binOp .gtr 3 (.tmp 53) (.const (.int .i64 64)) 3,4,"ref.go:17",(gE [16]),none⟩,
 ⟨some 55,.move (.tmp 54),4,"ref.go:17",(gE [24]),none⟩,
 ⟨some 56,.fieldAddr 26 (.tmp 3) 2,0,"ref.go:17",(gE [34]),some (4,false)⟩,
 ⟨some 57,.load 24 (.tmp 56),24,"ref.go:17",(gE [40,34]),some (4,false)⟩,
 ⟨some 58,.call ⟨.builtin .len,#[.tmp 57],#[24]⟩,3,"ref.go:17",(gE [48,34]),some (4,false)⟩,
 ⟨some 59,.binOp .gtr 3 (.tmp 58) (.const (.int .i64 32)) 3,4,"ref.go:17",(gE [56,34]),some (4,false)⟩,
 ⟨some 60,.pick (.tmp 55) (.const (.bool true)) (.tmp 59),4,"ref.go:17",(gE [32,64]),none⟩]
def f20_r7o:Array Oper:=f20_r7l.toArray
@[simp] theorem f20_r7_l:f20_r7o.toList=f20_r7l:=rfl

@[simp] theorem f20_r7_g4:zL f20_r7o 4=some 55:=rfl
@[simp] def f20_r8l:List Oper:=[⟨some 4,.assign (.const (.int .i64 6)),30,"ref.go:18",#[],none⟩]
def f20_r8o:Array Oper:=f20_r8l.toArray
@[simp] theorem f20_r8_l:f20_r8o.toList=f20_r8l:=rfl

@[simp] def f20_r9l:List Oper:=[⟨some 61,.fieldAddr 26 (.tmp 3) 3,0,"ref.go:20",#[],none⟩,
 ⟨some 62,.load 3 (.tmp 61),3,"ref.go:20",(gE [0]),none⟩,
 ⟨some 63,.binOp .lss 3 (.tmp 62) (.const (.int .i64 0)) 3,4,"ref.go:20",(gE [8]),none⟩,
 ⟨some 64,.move (.tmp 63),4,"ref.go:20",(gE [16]),none⟩,
 ⟨some 65,.fieldAddr 26 (.tmp 3) 3,0,"ref.go:20",(gE [26]),some (3,false)⟩,
 ⟨some 66,.load 3 (.tmp 65),3,"ref.go:20",(gE [32,26]),some (3,false)⟩,
 ⟨some 67,.binOp .geq 3 (.tmp 66) (.const (.int .i64 8)) 3,4,"ref.go:20",(gE [40,26]),some (3,false)⟩,
 ⟨some 68,.pick (.tmp 64) (.const (.bool true)) (.tmp 67),4,"ref.go:20",(gE [24,48]),none⟩]
def f20_r9o:Array Oper:=f20_r9l.toArray
@[simp] theorem f20_r9_l:f20_r9o.toList=f20_r9l:=rfl

@[simp] theorem f20_r9_g3:zL f20_r9o 3=some 64:=rfl
@[simp] def f20_r10l:List Oper:=[⟨some 4,.assign (.const (.int .i64 5)),30,"ref.go:21",#[],none⟩]
def f20_r10o:Array Oper:=f20_r10l.toArray
@[simp] theorem f20_r10_l:f20_r10o.toList=f20_r10l:=rfl

@[simp] def f20_r11l:List Oper:=[⟨some 5,.assign (.const (.int .i64 0)),3,"ref.go:23",#[],none⟩]
def f20_r11o:Array Oper:=f20_r11l.toArray
@[simp] theorem f20_r11_l:f20_r11o.toList=f20_r11l:=rfl

@[simp] def f20_r12l:List Oper:=[⟨some 69,.move (.tmp 5),3,"ref.go:23",#[],none⟩,
 ⟨some 70,.fieldAddr 26 (.tmp 3) 1,0,"ref.go:23",#[],none⟩,
 ⟨some 71,.load 23 (.tmp 70),23,"ref.go:23",(gE [8]),none⟩,
 ⟨some 72,.call ⟨.builtin .len,#[.tmp 71],#[23]⟩,3,"ref.go:23",(gE [16]),none⟩,
 ⟨some 73,.binOp .lss 3 (.tmp 69) (.tmp 72) 3,4,"ref.go:23",(gE [0,24]),none⟩]
def f20_r12o:Array Oper:=f20_r12l.toArray
@[simp] theorem f20_r12_l:f20_r12o.toList=f20_r12l:=rfl

@[simp] def f20_r14l:List Oper:=[⟨some 76,.move (.tmp 0),22,"ref.go:24",#[],none⟩,
 ⟨some 77,.fieldAddr 26 (.tmp 3) 1,0,"ref.go:24",#[],none⟩,
 ⟨some 78,.load 23 (.tmp 77),23,"ref.go:24",(gE [8]),none⟩,
 ⟨some 79,.move (.tmp 5),3,"ref.go:24",#[],none⟩,
 ⟨some 80,.call ⟨.value (.func 49),#[.tmp 76,.tmp 78,.tmp 79],#[22,23,3]⟩,30,"ref.go:24",(gE [0,16,24]),none⟩,
 ⟨some 6,.assign (.tmp 80),30,"ref.go:24",(gE [32,33,3,11,19,27,35]),none⟩]
def f20_r14o:Array Oper:=f20_r14l.toArray
@[simp] theorem f20_r14_l:f20_r14o.toList=f20_r14l:=rfl

@[simp] def f20_r15l:List Oper:=[⟨some 81,.move (.tmp 6),30,"ref.go:24",#[],none⟩,
 ⟨some 82,.binOp .neq 30 (.tmp 81) (.const (.int .i64 0)) 30,4,"ref.go:24",(gE [0]),none⟩]
def f20_r15o:Array Oper:=f20_r15l.toArray
@[simp] theorem f20_r15_l:f20_r15o.toList=f20_r15l:=rfl

@[simp] def f20_r16l:List Oper:=[⟨some 83,.move (.tmp 6),30,"ref.go:25",#[],none⟩,
 ⟨some 4,.assign (.tmp 83),30,"ref.go:25",(gE [0,3]),none⟩]
def f20_r16o:Array Oper:=f20_r16l.toArray
@[simp] theorem f20_r16_l:f20_r16o.toList=f20_r16l:=rfl

@[simp] def f20_r13l:List Oper:=[⟨some 74,.move (.tmp 5),3,"ref.go:23",#[],none⟩,
 ⟨some 75,.binOp .add 3 (.tmp 74) (.const (.int .i64 1)) 3,3,"ref.go:23",(gE [0]),none⟩,
 ⟨some 5,.assign (.tmp 75),3,"ref.go:23",(gE [8,3,11]),none⟩]
def f20_r13o:Array Oper:=f20_r13l.toArray
@[simp] theorem f20_r13_l:f20_r13o.toList=f20_r13l:=rfl

def f20_l0:AC :=
 (.seq (.seq (.reg 12 f20_r12o [0,3,5,73,100,101,102,103,104,107,108,109,112,113,114,115,116,126,127,128,129,130,131,132]) (.cond (.tmp 73) .skip (.exit 0))) (.seq (.block 1 (.seq (.reg 14 f20_r14o [0,3,5,6,100,101,102,103,104,107,108,109,112,113,114,115,116,126,127,128,129,130,131,132]) (.seq (.reg 15 f20_r15o [0,3,5,6,82,100,101,102,103,104,107,108,109,112,113,114,115,116,126,127,128,129,130,131,132]) (.cond (.tmp 82) (.seq (.reg 16 f20_r16o [4]) .ret) .skip)))) (.reg 13 f20_r13o [0,3,5,100,101,102,103,104,107,108,109,112,113,114,115,116,126,127,128,129,130,131,132])))
theorem f20_l0_fits:f20_l0.fits 134=true:=by kernel_rfl
@[simp] def f20_r17l:List Oper:=[⟨some 7,.assign (.const (.int .i64 0)),3,"ref.go:28",#[],none⟩]
def f20_r17o:Array Oper:=f20_r17l.toArray
@[simp] theorem f20_r17_l:f20_r17o.toList=f20_r17l:=rfl

@[simp] def f20_r18l:List Oper:=[⟨some 84,.move (.tmp 7),3,"ref.go:28",#[],none⟩,
 ⟨some 85,.fieldAddr 26 (.tmp 3) 2,0,"ref.go:28",#[],none⟩,
 ⟨some 86,.load 24 (.tmp 85),24,"ref.go:28",(gE [8]),none⟩,
 ⟨some 87,.call ⟨.builtin .len,#[.tmp 86],#[24]⟩,3,"ref.go:28",(gE [16]),none⟩,
 ⟨some 88,.binOp .lss 3 (.tmp 84) (.tmp 87) 3,4,"ref.go:28",(gE [0,24]),none⟩]
def f20_r18o:Array Oper:=f20_r18l.toArray
@[simp] theorem f20_r18_l:f20_r18o.toList=f20_r18l:=rfl

@[simp] def f20_r20l:List Oper:=[⟨some 91,.fieldAddr 26 (.tmp 3) 2,0,"ref.go:29",#[],none⟩,
 ⟨some 92,.load 24 (.tmp 91),24,"ref.go:29",(gE [0]),none⟩,
 ⟨some 93,.move (.tmp 7),3,"ref.go:29",#[],none⟩,
 ⟨some 94,.indexAddr 24 (.tmp 92) (.tmp 93),0,"ref.go:29",(gE [8,16]),none⟩,
 ⟨some 95,.load 55 (.tmp 94),55,"ref.go:29",(gE [24]),none⟩,
 ⟨some 8,.alloc 55,0,"ref.go:29",#[],none⟩,
 ⟨none,.store 55 (.tmp 8) (.tmp 95),0,"ref.go:29",(gE [40,32,3,11,19,27,35,43]),none⟩]
def f20_r20o:Array Oper:=f20_r20l.toArray
@[simp] theorem f20_r20_l:f20_r20o.toList=f20_r20l:=rfl

@[simp] def f20_r21l:List Oper:=[⟨some 96,.fieldAddr 55 (.tmp 8) 0,0,"ref.go:30",#[],none⟩,
 ⟨some 97,.load 3 (.tmp 96),3,"ref.go:30",(gE [0]),none⟩,
 ⟨some 98,.binOp .lss 3 (.tmp 97) (.const (.int .i64 0)) 3,4,"ref.go:30",(gE [8]),none⟩,
 ⟨some 99,.move (.tmp 98),4,"ref.go:30",(gE [16]),none⟩,
 ⟨some 100,.fieldAddr 55 (.tmp 8) 0,0,"ref.go:30",(gE [26]),some (3,false)⟩,
 ⟨some 101,.load 3 (.tmp 100),3,"ref.go:30",(gE [32,26]),some (3,false)⟩,
 ⟨some 102,.move (.tmp 0),22,"ref.go:30",(gE [26]),some (3,false)⟩,
 ⟨some 103,.call ⟨.builtin .len,#[.tmp 102],#[22]⟩,3,"ref.go:30",(gE [48,26]),some (3,false)⟩,
 ⟨some 104,.binOp .geq 3 (.tmp 101) (.tmp 103) 3,4,"ref.go:30",(gE [40,56,26]),some (3,false)⟩,
 ⟨some 105,.pick (.tmp 99) (.const (.bool true)) (.tmp 104),4,"ref.go:30",(gE [24,64]),none⟩,
 ⟨some 106,.move (.tmp 105),4,"ref.go:30",(gE [72,25]),none⟩,
 ⟨some 107,.fieldAddr 55 (.tmp 8) 1,0,"ref.go:30",(gE [82]),some (10,false)⟩,
 ⟨some 108,.load 3 (.tmp 107),3,"ref.go:30",(gE [88,82]),some (10,false)⟩,
 ⟨some 109,.binOp .lss 3 (.tmp 108) (.const (.int .i64 0)) 3,4,"ref.go:30",(gE [96,82]),some (10,false)⟩,
 ⟨some 110,.pick (.tmp 106) (.const (.bool true)) (.tmp 109),4,"ref.go:30",(gE [80,104]),none⟩,
 ⟨some 111,.move (.tmp 110),4,"ref.go:30",(gE [112,81]),none⟩,
 ⟨some 112,.fieldAddr 55 (.tmp 8) 1,0,"ref.go:30",(gE [122]),some (15,false)⟩,
 ⟨some 113,.load 3 (.tmp 112),3,"ref.go:30",(gE [128,122]),some (15,false)⟩,
 ⟨some 114,.move (.tmp 0),22,"ref.go:30",(gE [122]),some (15,false)⟩,
 ⟨some 115,.call ⟨.builtin .len,#[.tmp 114],#[22]⟩,3,"ref.go:30",(gE [144,122]),some (15,false)⟩,
 ⟨some 116,.binOp .geq 3 (.tmp 113) (.tmp 115) 3,4,"ref.go:30",(gE [136,152,122]),some (15,false)⟩,
 ⟨some 117,.pick (.tmp 111) (.const (.bool true)) (.tmp 116),4,"ref.go:30",(gE [120,160]),none⟩]
def ur:Array Oper:=f20_r21l.toArray
@[simp] theorem f20_r21_l:ur.toList=f20_r21l:=rfl

@[simp] theorem f20_r21_g3:zL ur 3=some 99:=rfl
@[simp] theorem f20_r21_g10:zL ur 10=some 106:=rfl
@[simp] theorem f20_r21_g15:zL ur 15=some 111:=rfl
@[simp] def f20_r22l:List Oper:=[⟨some 4,.assign (.const (.int .i64 5)),30,"ref.go:31",#[],none⟩]
def f20_r22o:Array Oper:=f20_r22l.toArray
@[simp] theorem f20_r22_l:f20_r22o.toList=f20_r22l:=rfl

@[simp] def f20_r23l:List Oper:=[⟨some 118,.move (.tmp 0),22,"ref.go:33",#[],none⟩,
 ⟨some 119,.fieldAddr 55 (.tmp 8) 0,0,"ref.go:33",#[],none⟩,
 ⟨some 120,.load 3 (.tmp 119),3,"ref.go:33",(gE [8]),none⟩,
 ⟨some 121,.indexAddr 22 (.tmp 118) (.tmp 120),0,"ref.go:33",(gE [0,16]),none⟩,
 ⟨some 122,.fieldAddr 26 (.tmp 121) 0,0,"ref.go:33",(gE [24]),none⟩,
 ⟨some 123,.load 3 (.tmp 122),3,"ref.go:33",(gE [32]),none⟩,
 ⟨some 124,.binOp .eql 3 (.tmp 123) (.const (.int .i64 6)) 3,4,"ref.go:33",(gE [40]),none⟩,
 ⟨some 125,.move (.tmp 124),4,"ref.go:33",(gE [48]),none⟩,
 ⟨some 126,.move (.tmp 0),22,"ref.go:33",(gE [58]),some (7,false)⟩,
 ⟨some 127,.fieldAddr 55 (.tmp 8) 0,0,"ref.go:33",(gE [58]),some (7,false)⟩,
 ⟨some 128,.load 3 (.tmp 127),3,"ref.go:33",(gE [72,58]),some (7,false)⟩,
 ⟨some 129,.indexAddr 22 (.tmp 126) (.tmp 128),0,"ref.go:33",(gE [64,80,58]),some (7,false)⟩,
 ⟨some 130,.fieldAddr 26 (.tmp 129) 0,0,"ref.go:33",(gE [88,58]),some (7,false)⟩,
 ⟨some 131,.load 3 (.tmp 130),3,"ref.go:33",(gE [96,58]),some (7,false)⟩,
 ⟨some 132,.binOp .eql 3 (.tmp 131) (.const (.int .i64 3)) 3,4,"ref.go:33",(gE [104,58]),some (7,false)⟩,
 ⟨some 133,.pick (.tmp 125) (.const (.bool true)) (.tmp 132),4,"ref.go:33",(gE [56,112]),none⟩]
def f20_r23o:Array Oper:=f20_r23l.toArray
@[simp] theorem f20_r23_l:f20_r23o.toList=f20_r23l:=rfl

@[simp] theorem f20_r23_g7:zL f20_r23o 7=some 125:=rfl
@[simp] def f20_r24l:List Oper:=[⟨some 4,.assign (.const (.int .i64 18)),30,"ref.go:34",#[],none⟩]
def f20_r24o:Array Oper:=f20_r24l.toArray
@[simp] theorem f20_r24_l:f20_r24o.toList=f20_r24l:=rfl

@[simp] def f20_r19l:List Oper:=[⟨some 89,.move (.tmp 7),3,"ref.go:28",#[],none⟩,
 ⟨some 90,.binOp .add 3 (.tmp 89) (.const (.int .i64 1)) 3,3,"ref.go:28",(gE [0]),none⟩,
 ⟨some 7,.assign (.tmp 90),3,"ref.go:28",(gE [8,3,11]),none⟩]
def f20_r19o:Array Oper:=f20_r19l.toArray
@[simp] theorem f20_r19_l:f20_r19o.toList=f20_r19l:=rfl

def f20_l1:AC :=
 (.seq (.seq (.reg 18 f20_r18o [0,3,7,88,100,101,102,103,104,107,108,109,112,113,114,115,116,126,127,128,129,130,131,132]) (.cond (.tmp 88) .skip (.exit 2))) (.seq (.block 3 (.seq (.reg 20 f20_r20o [0,3,7,8,100,101,102,103,104,107,108,109,112,113,114,115,116,126,127,128,129,130,131,132]) (.seq (.seq (.reg 21 ur [0,3,7,8,100,101,102,103,104,107,108,109,112,113,114,115,116,117,126,127,128,129,130,131,132]) (.cond (.tmp 117) (.seq (.reg 22 f20_r22o [4]) .ret) .skip)) (.seq (.reg 23 f20_r23o [0,3,7,100,101,102,103,104,107,108,109,112,113,114,115,116,126,127,128,129,130,131,132,133]) (.cond (.tmp 133) (.seq (.reg 24 f20_r24o [4]) .ret) .skip))))) (.reg 19 f20_r19o [0,3,7,100,101,102,103,104,107,108,109,112,113,114,115,116,126,127,128,129,130,131,132])))
theorem f20_l1_fits:f20_l1.fits 134=true:=by kernel_rfl
@[simp] def f20_r25l:List Oper:=[⟨some 4,.assign (.const (.int .i64 0)),30,"ref.go:37",#[],none⟩]
def f20_r25o:Array Oper:=f20_r25l.toArray
@[simp] theorem f20_r25_l:f20_r25o.toList=f20_r25l:=rfl

def f20_ac:AC :=
 (.seq (.reg 0 f20_r0o [0,3,13,14,15,21,22,23,24,27,28,29,30,31,32,33,34,35,36,37,38,39,40,46,47,48,49,56,57,58,59,65,66,67,100,101,102,103,104,107,108,109,112,113,114,115,116,126,127,128,129,130,131,132]) (.seq (.seq (.reg 1 f20_r1o [0,3,16,21,22,23,24,27,28,29,30,31,32,33,34,35,36,37,38,39,40,46,47,48,49,56,57,58,59,65,66,67,100,101,102,103,104,107,108,109,112,113,114,115,116,126,127,128,129,130,131,132]) (.cond (.tmp 16) (.seq (.reg 2 f20_r2o [4]) .ret) .skip)) (.seq (.seq (.reg 3 uT [0,3,41,46,47,48,49,56,57,58,59,65,66,67,100,101,102,103,104,107,108,109,112,113,114,115,116,126,127,128,129,130,131,132]) (.cond (.tmp 41) (.seq (.reg 4 f20_r4o [4]) .ret) .skip)) (.seq (.seq (.reg 5 f20_r5o [0,3,50,56,57,58,59,65,66,67,100,101,102,103,104,107,108,109,112,113,114,115,116,126,127,128,129,130,131,132]) (.cond (.tmp 50) (.seq (.reg 6 f20_r6o [4]) .ret) .skip)) (.seq (.seq (.reg 7 f20_r7o [0,3,60,65,66,67,100,101,102,103,104,107,108,109,112,113,114,115,116,126,127,128,129,130,131,132]) (.cond (.tmp 60) (.seq (.reg 8 f20_r8o [4]) .ret) .skip)) (.seq (.seq (.reg 9 f20_r9o [0,3,68,100,101,102,103,104,107,108,109,112,113,114,115,116,126,127,128,129,130,131,132]) (.cond (.tmp 68) (.seq (.reg 10 f20_r10o [4]) .ret) .skip)) (.seq (.seq (.reg 11 f20_r11o [0,3,5,100,101,102,103,104,107,108,109,112,113,114,115,116,126,127,128,129,130,131,132]) (.block 0 (.loop f20_l0))) (.seq (.seq (.reg 17 f20_r17o [0,3,7,100,101,102,103,104,107,108,109,112,113,114,115,116,126,127,128,129,130,131,132]) (.block 2 (.loop f20_l1))) (.seq (.reg 25 f20_r25o [4]) .ret)))))))))
theorem f20_eq:Tryz.f24.body=some f20_ac.code:=by kernel_rfl
@[simp] theorem f20_nt:Tryz.f24.ntmps=134:=rfl
theorem f20_fits:f20_ac.fits Tryz.f24.ntmps=true:=by kernel_rfl
@[simp] theorem f20_res:Tryz.f24.results.toList=[.tmp 4]:=rfl
@[simp] theorem f20_isb:Tryz.f24.body.isNone=false:=rfl
/- F47 cinnabar/cinnabarref16.circle -/
@[simp] def f21_r0l:List Oper:=[⟨some 6,.assign (.const (.bool false)),4,"ref.go:69",#[],none⟩]
def f21_r0o:Array Oper:=f21_r0l.toArray
@[simp] theorem f21_r0_l:f21_r0o.toList=f21_r0l:=rfl

@[simp] def f21_r1l:List Oper:=[⟨some 8,.move (.tmp 2),37,"ref.go:70",#[],none⟩,
 ⟨some 9,.move (.tmp 1),3,"ref.go:70",#[],none⟩,
 ⟨some 10,.indexAddr 37 (.tmp 8) (.tmp 9),0,"ref.go:70",(gE [0,8]),none⟩,
 ⟨some 11,.load 3 (.tmp 10),3,"ref.go:70",(gE [16]),none⟩,
 ⟨some 12,.binOp .gtr 3 (.tmp 11) (.const (.int .i64 0)) 3,4,"ref.go:70",(gE [24]),none⟩]
def f21_r1o:Array Oper:=f21_r1l.toArray
@[simp] theorem f21_r1_l:f21_r1o.toList=f21_r1l:=rfl

@[simp] def f21_r2l:List Oper:=[⟨some 13,.move (.tmp 2),37,"ref.go:71",#[],none⟩,
 ⟨some 14,.move (.tmp 1),3,"ref.go:71",#[],none⟩,
 ⟨some 15,.indexAddr 37 (.tmp 13) (.tmp 14),0,"ref.go:71",(gE [0,8]),none⟩,
 ⟨some 16,.load 3 (.tmp 15),3,"ref.go:71",(gE [16]),none⟩,
 ⟨some 17,.binOp .eql 3 (.tmp 16) (.const (.int .i64 1)) 3,4,"ref.go:71",(gE [24]),none⟩,
 ⟨some 6,.assign (.tmp 17),4,"ref.go:71",(gE [32,3,11,19,27,35]),none⟩]
def f21_r2o:Array Oper:=f21_r2l.toArray
@[simp] theorem f21_r2_l:f21_r2o.toList=f21_r2l:=rfl

@[simp] def f21_r3l:List Oper:=[⟨some 18,.move (.tmp 0),22,"ref.go:73",#[],none⟩,
 ⟨some 19,.move (.tmp 1),3,"ref.go:73",#[],none⟩,
 ⟨some 20,.indexAddr 22 (.tmp 18) (.tmp 19),0,"ref.go:73",(gE [0,8]),none⟩,
 ⟨some 21,.fieldAddr 26 (.tmp 20) 0,0,"ref.go:73",(gE [16]),none⟩,
 ⟨some 22,.load 3 (.tmp 21),3,"ref.go:73",(gE [24]),none⟩,
 ⟨some 23,.binOp .neq 3 (.tmp 22) (.const (.int .i64 5)) 3,4,"ref.go:73",(gE [32]),none⟩]
def f21_r3o:Array Oper:=f21_r3l.toArray
@[simp] theorem f21_r3_l:f21_r3o.toList=f21_r3l:=rfl

@[simp] def f21_r4l:List Oper:=[⟨some 6,.assign (.const (.bool false)),4,"ref.go:74",#[],none⟩]
def f21_r4o:Array Oper:=f21_r4l.toArray
@[simp] theorem f21_r4_l:f21_r4o.toList=f21_r4l:=rfl

@[simp] def f21_r5l:List Oper:=[⟨some 24,.move (.tmp 2),37,"ref.go:76",#[],none⟩,
 ⟨some 25,.move (.tmp 1),3,"ref.go:76",#[],none⟩,
 ⟨some 26,.indexAddr 37 (.tmp 24) (.tmp 25),0,"ref.go:76",(gE [0,8,3,11]),none⟩,
 ⟨none,.store 3 (.tmp 26) (.const (.int .i64 1)),0,"ref.go:76",(gE [16,3,11]),none⟩]
def f21_r5o:Array Oper:=f21_r5l.toArray
@[simp] theorem f21_r5_l:f21_r5o.toList=f21_r5l:=rfl

@[simp] def f21_r6l:List Oper:=[⟨some 7,.assign (.const (.int .i64 0)),3,"ref.go:77",#[],none⟩]
def f21_r6o:Array Oper:=f21_r6l.toArray
@[simp] theorem f21_r6_l:f21_r6o.toList=f21_r6l:=rfl

@[simp] def f21_r7l:List Oper:=[⟨some 27,.move (.tmp 7),3,"ref.go:77",#[],none⟩,
 ⟨some 28,.move (.tmp 0),22,"ref.go:77",#[],none⟩,
 ⟨some 29,.move (.tmp 1),3,"ref.go:77",#[],none⟩,
 ⟨some 30,.indexAddr 22 (.tmp 28) (.tmp 29),0,"ref.go:77",(gE [8,16]),none⟩,
 ⟨some 31,.fieldAddr 26 (.tmp 30) 2,0,"ref.go:77",(gE [24]),none⟩,
 ⟨some 32,.load 24 (.tmp 31),24,"ref.go:77",(gE [32]),none⟩,
 ⟨some 33,.call ⟨.builtin .len,#[.tmp 32],#[24]⟩,3,"ref.go:77",(gE [40]),none⟩,
 ⟨some 34,.binOp .lss 3 (.tmp 27) (.tmp 33) 3,4,"ref.go:77",(gE [0,48]),none⟩]
def f21_r7o:Array Oper:=f21_r7l.toArray
@[simp] theorem f21_r7_l:f21_r7o.toList=f21_r7l:=rfl

@[simp] def f21_r9l:List Oper:=[⟨some 37,.move (.tmp 0),22,"ref.go:78",#[],none⟩,
 ⟨some 38,.move (.tmp 0),22,"ref.go:78",#[],none⟩,
 ⟨some 39,.move (.tmp 1),3,"ref.go:78",#[],none⟩,
 ⟨some 40,.indexAddr 22 (.tmp 38) (.tmp 39),0,"ref.go:78",(gE [8,16]),none⟩,
 ⟨some 41,.fieldAddr 26 (.tmp 40) 2,0,"ref.go:78",(gE [24]),none⟩,
 ⟨some 42,.load 24 (.tmp 41),24,"ref.go:78",(gE [32]),none⟩,
 ⟨some 43,.move (.tmp 7),3,"ref.go:78",#[],none⟩,
 ⟨some 44,.indexAddr 24 (.tmp 42) (.tmp 43),0,"ref.go:78",(gE [40,48]),none⟩,
 ⟨some 45,.fieldAddr 55 (.tmp 44) 0,0,"ref.go:78",(gE [56]),none⟩,
 ⟨some 46,.load 3 (.tmp 45),3,"ref.go:78",(gE [64]),none⟩,
 ⟨some 47,.move (.tmp 2),37,"ref.go:78",#[],none⟩,
 ⟨some 48,.call ⟨.value (.func 47),#[.tmp 37,.tmp 46,.tmp 47],#[22,3,37]⟩,4,"ref.go:78",(gE [0,72,80]),none⟩,
 ⟨some 49,.move (.tmp 48),4,"ref.go:78",(gE [88,89]),none⟩,
 ⟨some 50,.move (.tmp 0),22,"ref.go:78",(gE [98]),some (12,false)⟩,
 ⟨some 51,.move (.tmp 0),22,"ref.go:78",(gE [98]),some (12,false)⟩,
 ⟨some 52,.move (.tmp 1),3,"ref.go:78",(gE [98]),some (12,false)⟩,
 ⟨some 53,.indexAddr 22 (.tmp 51) (.tmp 52),0,"ref.go:78",(gE [112,120,98]),some (12,false)⟩,
 ⟨some 54,.fieldAddr 26 (.tmp 53) 2,0,"ref.go:78",(gE [128,98]),some (12,false)⟩,
 ⟨some 55,.load 24 (.tmp 54),24,"ref.go:78",(gE [136,98]),some (12,false)⟩,
 ⟨some 56,.move (.tmp 7),3,"ref.go:78",(gE [98]),some (12,false)⟩,
 ⟨some 57,.indexAddr 24 (.tmp 55) (.tmp 56),0,"ref.go:78",(gE [144,152,98]),some (12,false)⟩,
 ⟨some 58,.fieldAddr 55 (.tmp 57) 1,0,"ref.go:78",(gE [160,98]),some (12,false)⟩,
 ⟨some 59,.load 3 (.tmp 58),3,"ref.go:78",(gE [168,98]),some (12,false)⟩,
 ⟨some 60,.move (.tmp 2),37,"ref.go:78",(gE [98]),some (12,false)⟩,
 ⟨some 61,.call ⟨.value (.func 47),#[.tmp 50,.tmp 59,.tmp 60],#[22,3,37]⟩,4,"ref.go:78",(gE [104,176,184,97,98]),some (12,false)⟩,
 ⟨some 62,.pick (.tmp 49) (.const (.bool true)) (.tmp 61),4,"ref.go:78",(gE [96,192]),none⟩]
def f21_r9o:Array Oper:=f21_r9l.toArray
@[simp] theorem f21_r9_l:f21_r9o.toList=f21_r9l:=rfl

@[simp] theorem f21_r9_g12:zL f21_r9o 12=some 49:=rfl
@[simp] def f21_r10l:List Oper:=[⟨some 6,.assign (.const (.bool true)),4,"ref.go:79",#[],none⟩]
def f21_r10o:Array Oper:=f21_r10l.toArray
@[simp] theorem f21_r10_l:f21_r10o.toList=f21_r10l:=rfl

@[simp] def f21_r8l:List Oper:=[⟨some 35,.move (.tmp 7),3,"ref.go:77",#[],none⟩,
 ⟨some 36,.binOp .add 3 (.tmp 35) (.const (.int .i64 1)) 3,3,"ref.go:77",(gE [0]),none⟩,
 ⟨some 7,.assign (.tmp 36),3,"ref.go:77",(gE [8,3,11]),none⟩]
def f21_r8o:Array Oper:=f21_r8l.toArray
@[simp] theorem f21_r8_l:f21_r8o.toList=f21_r8l:=rfl

def f21_l0:AC :=
 (.seq (.seq (.reg 7 f21_r7o [0,1,2,7,34,50,51,52,53,54,55,56,57,58,59,60,61]) (.cond (.tmp 34) .skip (.exit 0))) (.seq (.block 1 (.seq (.reg 9 f21_r9o [0,1,2,7,50,51,52,53,54,55,56,57,58,59,60,61,62]) (.cond (.tmp 62) (.seq (.reg 10 f21_r10o [6]) .ret) .skip))) (.reg 8 f21_r8o [0,1,2,7,50,51,52,53,54,55,56,57,58,59,60,61])))
theorem f21_l0_fits:f21_l0.fits 66=true:=by kernel_rfl
@[simp] def f21_r11l:List Oper:=[⟨some 63,.move (.tmp 2),37,"ref.go:82",#[],none⟩,
 ⟨some 64,.move (.tmp 1),3,"ref.go:82",#[],none⟩,
 ⟨some 65,.indexAddr 37 (.tmp 63) (.tmp 64),0,"ref.go:82",(gE [0,8,3,11]),none⟩,
 ⟨none,.store 3 (.tmp 65) (.const (.int .i64 2)),0,"ref.go:82",(gE [16,3,11]),none⟩]
def f21_r11o:Array Oper:=f21_r11l.toArray
@[simp] theorem f21_r11_l:f21_r11o.toList=f21_r11l:=rfl

@[simp] def f21_r12l:List Oper:=[⟨some 6,.assign (.const (.bool false)),4,"ref.go:83",#[],none⟩]
def f21_r12o:Array Oper:=f21_r12l.toArray
@[simp] theorem f21_r12_l:f21_r12o.toList=f21_r12l:=rfl

def f21_ac:AC :=
 (.seq (.reg 0 f21_r0o [0,1,2,50,51,52,53,54,55,56,57,58,59,60,61]) (.seq (.seq (.reg 1 f21_r1o [0,1,2,12,50,51,52,53,54,55,56,57,58,59,60,61]) (.cond (.tmp 12) (.seq (.reg 2 f21_r2o [6]) .ret) .skip)) (.seq (.seq (.reg 3 f21_r3o [0,1,2,23,50,51,52,53,54,55,56,57,58,59,60,61]) (.cond (.tmp 23) (.seq (.reg 4 f21_r4o [6]) .ret) .skip)) (.seq (.reg 5 f21_r5o [0,1,2,50,51,52,53,54,55,56,57,58,59,60,61]) (.seq (.seq (.reg 6 f21_r6o [0,1,2,7,50,51,52,53,54,55,56,57,58,59,60,61]) (.block 0 (.loop f21_l0))) (.seq (.reg 11 f21_r11o []) (.seq (.reg 12 f21_r12o [6]) .ret)))))))
theorem f21_eq:Tryz.f47.body=some f21_ac.code:=by kernel_rfl
@[simp] theorem f21_nt:Tryz.f47.ntmps=66:=rfl
theorem f21_fits:f21_ac.fits Tryz.f47.ntmps=true:=by kernel_rfl
@[simp] theorem f21_res:Tryz.f47.results.toList=[.tmp 6]:=rfl
@[simp] theorem f21_isb:Tryz.f47.body.isNone=false:=rfl
/- F32 slices.IndexFunc[[]cinnabar/api.Inst,cinnabar/api.Inst] -/
@[simp] def f22_r0l:List Oper:=[⟨some 4,.assign (.const (.int .i64 0)),3,"slices.go:107",#[],none⟩]
def f22_r0o:Array Oper:=f22_r0l.toArray
@[simp] theorem f22_r0_l:f22_r0o.toList=f22_r0l:=rfl

@[simp] def f22_r1l:List Oper:=[⟨some 6,.move (.tmp 0),22,"slices.go:108",#[],none⟩,
 ⟨some 7,.call ⟨.builtin .len,#[.tmp 6],#[22]⟩,3,"slices.go:108",(gE [0]),none⟩,
 ⟨some 8,.move (.const (.int .i64 0)),3,"slices.go:108",#[],none⟩]
def f22_r1o:Array Oper:=f22_r1l.toArray
@[simp] theorem f22_r1_l:f22_r1o.toList=f22_r1l:=rfl

@[simp] def f22_r2l:List Oper:=[⟨some 9,.binOp .lss 3 (.tmp 8) (.tmp 7) 3,0,"slices.go:108",#[],none⟩]
def f22_r2o:Array Oper:=f22_r2l.toArray
@[simp] theorem f22_r2_l:f22_r2o.toList=f22_r2l:=rfl

@[simp] def f22_r3l:List Oper:=[⟨some 10,.move (.tmp 8),3,"slices.go:108",#[],none⟩,
 ⟨some 5,.assign (.tmp 10),3,"slices.go:108",(gE [0,3]),none⟩]
def f22_r3o:Array Oper:=f22_r3l.toArray
@[simp] theorem f22_r3_l:f22_r3o.toList=f22_r3l:=rfl

@[simp] def f22_r4l:List Oper:=[⟨some 11,.move (.tmp 1),28,"slices.go:109",#[],none⟩,
 ⟨some 12,.move (.tmp 0),22,"slices.go:109",#[],none⟩,
 ⟨some 13,.move (.tmp 5),3,"slices.go:109",#[],none⟩,
 ⟨some 14,.indexAddr 22 (.tmp 12) (.tmp 13),0,"slices.go:109",(gE [8,16]),none⟩,
 ⟨some 15,.load 26 (.tmp 14),26,"slices.go:109",(gE [24]),none⟩,
 ⟨some 16,.call ⟨.value (.tmp 11),#[.tmp 15],#[26]⟩,4,"slices.go:109",(gE [0,32]),none⟩]
def f22_r4o:Array Oper:=f22_r4l.toArray
@[simp] theorem f22_r4_l:f22_r4o.toList=f22_r4l:=rfl

@[simp] def f22_r5l:List Oper:=[⟨some 17,.move (.tmp 5),3,"slices.go:110",#[],none⟩,
 ⟨some 4,.assign (.tmp 17),3,"slices.go:110",(gE [0,3]),none⟩]
def f22_r5o:Array Oper:=f22_r5l.toArray
@[simp] theorem f22_r5_l:f22_r5o.toList=f22_r5l:=rfl

@[simp] def f22_r6l:List Oper:=[⟨some 18,.binOp .add 3 (.tmp 8) (.const (.int .i64 1)) 3,3,"slices.go:108",#[],none⟩,
 ⟨some 8,.move (.tmp 18),3,"slices.go:108",(gE [0]),none⟩]
def f22_r6o:Array Oper:=f22_r6l.toArray
@[simp] theorem f22_r6_l:f22_r6o.toList=f22_r6l:=rfl

def f22_l0:AC :=
 (.seq (.reg 2 f22_r2o [0,1,7,8,9]) (.seq (.cond (.tmp 9) .skip (.exit 0)) (.seq (.block 1 (.seq (.reg 3 f22_r3o [0,1,5,7,8]) (.seq (.reg 4 f22_r4o [0,1,5,7,8,16]) (.cond (.tmp 16) (.seq (.reg 5 f22_r5o [4]) .ret) .skip)))) (.reg 6 f22_r6o [0,1,7,8]))))
theorem f22_l0_fits:f22_l0.fits 19=true:=by kernel_rfl
@[simp] def f22_r7l:List Oper:=[⟨some 4,.assign (.const (.int .i64 (-1))),3,"slices.go:113",#[],none⟩]
def f22_r7o:Array Oper:=f22_r7l.toArray
@[simp] theorem f22_r7_l:f22_r7o.toList=f22_r7l:=rfl

def f22_ac:AC :=
 (.seq (.reg 0 f22_r0o [0,1]) (.seq (.seq (.reg 1 f22_r1o [0,1,7,8]) (.block 0 (.loop f22_l0))) (.seq (.reg 7 f22_r7o [4]) .ret)))
theorem f22_eq:Tryz.f32.body=some f22_ac.code:=by kernel_rfl
@[simp] theorem f22_nt:Tryz.f32.ntmps=19:=rfl
theorem f22_fits:f22_ac.fits Tryz.f32.ntmps=true:=by kernel_rfl
@[simp] theorem f22_res:Tryz.f32.results.toList=[.tmp 4]:=rfl
@[simp] theorem f22_isb:Tryz.f32.body.isNone=false:=rfl
/- F12 slices.ContainsFunc[[]cinnabar/api.Alt,cinnabar/api.Alt] -/
@[simp] def f23_r0l:List Oper:=[⟨some 4,.assign (.const (.bool false)),4,"slices.go:124",#[],none⟩]
def f23_r0o:Array Oper:=f23_r0l.toArray
@[simp] theorem f23_r0_l:f23_r0o.toList=f23_r0l:=rfl

@[simp] def f23_r1l:List Oper:=[⟨some 5,.move (.tmp 0),23,"slices.go:125",#[],none⟩,
 ⟨some 6,.move (.tmp 1),40,"slices.go:125",#[],none⟩,
 ⟨some 7,.call ⟨.value (.func 33),#[.tmp 5,.tmp 6],#[23,40]⟩,3,"slices.go:125",(gE [0,8]),none⟩,
 ⟨some 8,.binOp .geq 3 (.tmp 7) (.const (.int .i64 0)) 3,4,"slices.go:125",(gE [16]),none⟩,
 ⟨some 4,.assign (.tmp 8),4,"slices.go:125",(gE [24,17,3,11,19,27]),none⟩]
def f23_r1o:Array Oper:=f23_r1l.toArray
@[simp] theorem f23_r1_l:f23_r1o.toList=f23_r1l:=rfl

def f23_ac:AC :=
 (.seq (.reg 0 f23_r0o [0,1]) (.seq (.reg 1 f23_r1o [4]) .ret))
theorem f23_eq:Tryz.f12.body=some f23_ac.code:=by kernel_rfl
@[simp] theorem f23_nt:Tryz.f12.ntmps=9:=rfl
theorem f23_fits:f23_ac.fits Tryz.f12.ntmps=true:=by kernel_rfl
@[simp] theorem f23_res:Tryz.f12.results.toList=[.tmp 4]:=rfl
@[simp] theorem f23_isb:Tryz.f12.body.isNone=false:=rfl
/- F13 cinnabar/cinnabarlaw16.one$1 -/
@[simp] def f24_r0l:List Oper:=[⟨some 1,.box 39 (.tmp 0),0,"law.go:27",#[],none⟩,
 ⟨some 2,.assign (.const (.bool false)),4,"law.go:27",#[],none⟩]
def f24_r0o:Array Oper:=f24_r0l.toArray
@[simp] theorem f24_r0_l:f24_r0o.toList=f24_r0l:=rfl

@[simp] def f24_r1l:List Oper:=[⟨some 3,.fieldAddr 39 (.tmp 1) 1,0,"law.go:27",#[],none⟩,
 ⟨some 4,.load 37 (.tmp 3),37,"law.go:27",(gE [0]),none⟩,
 ⟨some 5,.call ⟨.builtin .len,#[.tmp 4],#[37]⟩,3,"law.go:27",(gE [8]),none⟩,
 ⟨some 6,.binOp .gtr 3 (.tmp 5) (.const (.int .i64 4)) 3,4,"law.go:27",(gE [16]),none⟩,
 ⟨some 7,.move (.tmp 6),4,"law.go:27",(gE [24]),none⟩,
 ⟨some 8,.fieldAddr 39 (.tmp 1) 0,0,"law.go:27",(gE [34]),some (4,false)⟩,
 ⟨some 9,.load 9 (.tmp 8),9,"law.go:27",(gE [40,34]),some (4,false)⟩,
 ⟨some 10,.call ⟨.builtin .len,#[.tmp 9],#[9]⟩,3,"law.go:27",(gE [48,34]),some (4,false)⟩,
 ⟨some 11,.binOp .gtr 3 (.tmp 10) (.const (.int .i64 100)) 3,4,"law.go:27",(gE [56,34]),some (4,false)⟩,
 ⟨some 12,.pick (.tmp 7) (.const (.bool true)) (.tmp 11),4,"law.go:27",(gE [32,64]),none⟩,
 ⟨some 2,.assign (.tmp 12),4,"law.go:27",(gE [72,33,3,11,19,27,35,43,51,59,67,75]),none⟩]
def f24_r1o:Array Oper:=f24_r1l.toArray
@[simp] theorem f24_r1_l:f24_r1o.toList=f24_r1l:=rfl

@[simp] theorem f24_r1_g4:zL f24_r1o 4=some 7:=rfl
def f24_ac:AC :=
 (.seq (.reg 0 f24_r0o [1,8,9,10,11]) (.seq (.reg 1 f24_r1o [2]) .ret))
theorem f24_eq:Tryz.f13.body=some f24_ac.code:=by kernel_rfl
@[simp] theorem f24_nt:Tryz.f13.ntmps=13:=rfl
theorem f24_fits:f24_ac.fits Tryz.f13.ntmps=true:=by kernel_rfl
@[simp] theorem f24_res:Tryz.f13.results.toList=[.tmp 2]:=rfl
@[simp] theorem f24_isb:Tryz.f13.body.isNone=false:=rfl
/- F53 slices.ContainsFunc[[]int,int] -/
@[simp] def f33_r0l:List Oper:=[⟨some 4,.assign (.const (.bool false)),4,"slices.go:124",#[],none⟩]
def f33_r0o:Array Oper:=f33_r0l.toArray
@[simp] theorem f33_r0_l:f33_r0o.toList=f33_r0l:=rfl

@[simp] def f33_r1l:List Oper:=[⟨some 5,.move (.tmp 0),37,"slices.go:125",#[],none⟩,
 ⟨some 6,.move (.tmp 1),86,"slices.go:125",#[],none⟩,
 ⟨some 7,.call ⟨.value (.func 81),#[.tmp 5,.tmp 6],#[37,86]⟩,3,"slices.go:125",(gE [0,8]),none⟩,
 ⟨some 8,.binOp .geq 3 (.tmp 7) (.const (.int .i64 0)) 3,4,"slices.go:125",(gE [16]),none⟩,
 ⟨some 4,.assign (.tmp 8),4,"slices.go:125",(gE [24,17,3,11,19,27]),none⟩]
def f33_r1o:Array Oper:=f33_r1l.toArray
@[simp] theorem f33_r1_l:f33_r1o.toList=f33_r1l:=rfl

def f33_ac:AC :=
 (.seq (.reg 0 f33_r0o [0,1]) (.seq (.reg 1 f33_r1o [4]) .ret))
theorem f33_eq:Tryz.f53.body=some f33_ac.code:=by kernel_rfl
@[simp] theorem f33_nt:Tryz.f53.ntmps=9:=rfl
theorem f33_fits:f33_ac.fits Tryz.f53.ntmps=true:=by kernel_rfl
@[simp] theorem f33_res:Tryz.f53.results.toList=[.tmp 4]:=rfl
@[simp] theorem f33_isb:Tryz.f53.body.isNone=false:=rfl
/- F43 cinnabar/insts.compareAlts -/
@[simp] def f35_r0l:List Oper:=[⟨some 2,.box 39 (.tmp 0),0,"insts.go:30",#[],none⟩,
 ⟨some 3,.box 39 (.tmp 1),0,"insts.go:30",#[],none⟩,
 ⟨some 4,.assign (.const (.int .i64 0)),3,"insts.go:30",#[],none⟩]
def f35_r0o:Array Oper:=f35_r0l.toArray
@[simp] theorem f35_r0_l:f35_r0o.toList=f35_r0l:=rfl

@[simp] def f35_r1l:List Oper:=[⟨some 5,.fieldAddr 39 (.tmp 2) 0,0,"insts.go:31",#[],none⟩,
 ⟨some 6,.load 9 (.tmp 5),9,"insts.go:31",(gE [0]),none⟩,
 ⟨some 7,.fieldAddr 39 (.tmp 3) 0,0,"insts.go:31",#[],none⟩,
 ⟨some 8,.load 9 (.tmp 7),9,"insts.go:31",(gE [16]),none⟩,
 ⟨some 9,.call ⟨.value (.func 75),#[.tmp 6,.tmp 8],#[9,9]⟩,3,"insts.go:31",(gE [8,24]),none⟩,
 ⟨some 10,.fieldAddr 39 (.tmp 2) 1,0,"insts.go:31",#[],none⟩,
 ⟨some 11,.load 37 (.tmp 10),37,"insts.go:31",(gE [40]),none⟩,
 ⟨some 12,.call ⟨.builtin .len,#[.tmp 11],#[37]⟩,3,"insts.go:31",(gE [48]),none⟩,
 ⟨some 13,.fieldAddr 39 (.tmp 3) 1,0,"insts.go:31",#[],none⟩,
 ⟨some 14,.load 37 (.tmp 13),37,"insts.go:31",(gE [64]),none⟩,
 ⟨some 15,.call ⟨.builtin .len,#[.tmp 14],#[37]⟩,3,"insts.go:31",(gE [72]),none⟩,
 ⟨some 16,.call ⟨.value (.func 76),#[.tmp 12,.tmp 15],#[3,3]⟩,3,"insts.go:31",(gE [56,80,33]),none⟩,
 ⟨some 17,.buildSlice 37 2 #[(0,.tmp 9),(1,.tmp 16)],37,"insts.go:31",(gE [32,88]),none⟩,
 ⟨some 18,.call ⟨.value (.func 74),#[.tmp 17],#[37]⟩,3,"insts.go:31",(gE [96,89]),none⟩,
 ⟨some 4,.assign (.tmp 18),3,"insts.go:31",(gE [104,105,3,11,19,27,35,43,51,59,67,75,83,91,99,107]),none⟩]
def vR:Array Oper:=f35_r1l.toArray
@[simp] theorem f35_r1_l:vR.toList=f35_r1l:=rfl

@[simp] theorem f35_r1_n:vR.size=15:=rfl
def f35_ac:AC :=
 (.seq (.reg 0 f35_r0o [2,3]) (.seq (.draw 1 vR [4]) .ret))
theorem f35_eq:Tryz.f43.body=some f35_ac.code:=by kernel_rfl
@[simp] theorem f35_nt:Tryz.f43.ntmps=19:=rfl
theorem f35_fits:f35_ac.fits Tryz.f43.ntmps=true:=by kernel_rfl
@[simp] theorem f35_res:Tryz.f43.results.toList=[.tmp 4]:=rfl
@[simp] theorem f35_isb:Tryz.f43.body.isNone=false:=rfl
@[simp] theorem f35_r1_s:zD zB vR=true:=by kernel_rfl
@[simp] theorem f35_r1_d:yg zB vR=true:=by kernel_rfl
@[simp] theorem f35_r1_t4:zV zB vR 4=false:=by kernel_rfl
@[simp] theorem f35_r1_t11:zV zB vR 11=true:=by kernel_rfl
@[simp] theorem f35_r1_t13:zV zB vR 13=true:=by kernel_rfl
/- F44 cinnabar/insts.has -/
@[simp] def f36_r0l:List Oper:=[⟨some 4,.assign (.const (.bool false)),4,"insts.go:22",#[],none⟩]
def f36_r0o:Array Oper:=f36_r0l.toArray
@[simp] theorem f36_r0_l:f36_r0o.toList=f36_r0l:=rfl

@[simp] def f36_r1l:List Oper:=[⟨some 5,.move (.tmp 1),3,"insts.go:22",#[],none⟩,
 ⟨some 6,.binOp .geq 3 (.tmp 5) (.const (.int .i64 0)) 3,4,"insts.go:22",(gE [0]),none⟩,
 ⟨some 7,.move (.tmp 6),4,"insts.go:22",(gE [8]),none⟩,
 ⟨some 8,.move (.tmp 1),3,"insts.go:22",(gE [18]),some (2,true)⟩,
 ⟨some 9,.move (.tmp 0),22,"insts.go:22",(gE [18]),some (2,true)⟩,
 ⟨some 10,.call ⟨.builtin .len,#[.tmp 9],#[22]⟩,3,"insts.go:22",(gE [32,18]),some (2,true)⟩,
 ⟨some 11,.binOp .lss 3 (.tmp 8) (.tmp 10) 3,4,"insts.go:22",(gE [24,40,18]),some (2,true)⟩,
 ⟨some 12,.pick (.tmp 7) (.tmp 11) (.const (.bool false)),4,"insts.go:22",(gE [16,48]),none⟩,
 ⟨some 4,.assign (.tmp 12),4,"insts.go:22",(gE [56,17,3,11,19,27,35,43,51,59]),none⟩]
def f36_r1o:Array Oper:=f36_r1l.toArray
@[simp] theorem f36_r1_l:f36_r1o.toList=f36_r1l:=rfl

@[simp] theorem f36_r1_g2:zL f36_r1o 2=some 7:=rfl
def f36_ac:AC :=
 (.seq (.reg 0 f36_r0o [0,1,8,9,10,11]) (.seq (.reg 1 f36_r1o [4]) .ret))
theorem f36_eq:Tryz.f44.body=some f36_ac.code:=by kernel_rfl
@[simp] theorem f36_nt:Tryz.f44.ntmps=13:=rfl
theorem f36_fits:f36_ac.fits Tryz.f44.ntmps=true:=by kernel_rfl
@[simp] theorem f36_res:Tryz.f44.results.toList=[.tmp 4]:=rfl
@[simp] theorem f36_isb:Tryz.f44.body.isNone=false:=rfl
/- F45 cinnabar/insts.value -/
@[simp] def f37_r0l:List Oper:=[⟨some 1,.box 26 (.tmp 0),0,"insts.go:25",#[],none⟩,
 ⟨some 2,.assign (.const (.bool false)),4,"insts.go:25",#[],none⟩]
def f37_r0o:Array Oper:=f37_r0l.toArray
@[simp] theorem f37_r0_l:f37_r0o.toList=f37_r0l:=rfl

@[simp] def f37_r1l:List Oper:=[⟨some 3,.fieldAddr 26 (.tmp 1) 0,0,"insts.go:26",#[],none⟩,
 ⟨some 4,.load 3 (.tmp 3),3,"insts.go:26",(gE [0]),none⟩,
 ⟨some 5,.binOp .eql 3 (.tmp 4) (.const (.int .i64 1)) 3,4,"insts.go:26",(gE [8]),none⟩,
 ⟨some 6,.move (.tmp 5),4,"insts.go:26",(gE [16]),none⟩,
 ⟨some 7,.fieldAddr 26 (.tmp 1) 0,0,"insts.go:26",(gE [26]),some (3,false)⟩,
 ⟨some 8,.load 3 (.tmp 7),3,"insts.go:26",(gE [32,26]),some (3,false)⟩,
 ⟨some 9,.binOp .eql 3 (.tmp 8) (.const (.int .i64 4)) 3,4,"insts.go:26",(gE [40,26]),some (3,false)⟩,
 ⟨some 10,.pick (.tmp 6) (.const (.bool true)) (.tmp 9),4,"insts.go:26",(gE [24,48]),none⟩,
 ⟨some 11,.move (.tmp 10),4,"insts.go:26",(gE [56,25]),none⟩,
 ⟨some 12,.fieldAddr 26 (.tmp 1) 0,0,"insts.go:26",(gE [66]),some (8,false)⟩,
 ⟨some 13,.load 3 (.tmp 12),3,"insts.go:26",(gE [72,66]),some (8,false)⟩,
 ⟨some 14,.binOp .eql 3 (.tmp 13) (.const (.int .i64 5)) 3,4,"insts.go:26",(gE [80,66]),some (8,false)⟩,
 ⟨some 15,.pick (.tmp 11) (.const (.bool true)) (.tmp 14),4,"insts.go:26",(gE [64,88]),none⟩,
 ⟨some 2,.assign (.tmp 15),4,"insts.go:26",(gE [96,65,3,11,19,27,35,43,51,59,67,75,83,91,99]),none⟩]
def f37_r1o:Array Oper:=f37_r1l.toArray
@[simp] theorem f37_r1_l:f37_r1o.toList=f37_r1l:=rfl

@[simp] theorem f37_r1_g3:zL f37_r1o 3=some 6:=rfl
@[simp] theorem f37_r1_g8:zL f37_r1o 8=some 11:=rfl
def f37_ac:AC :=
 (.seq (.reg 0 f37_r0o [1,7,8,9,12,13,14]) (.seq (.reg 1 f37_r1o [2]) .ret))
theorem f37_eq:Tryz.f45.body=some f37_ac.code:=by kernel_rfl
@[simp] theorem f37_nt:Tryz.f45.ntmps=16:=rfl
theorem f37_fits:f37_ac.fits Tryz.f45.ntmps=true:=by kernel_rfl
@[simp] theorem f37_res:Tryz.f45.results.toList=[.tmp 2]:=rfl
@[simp] theorem f37_isb:Tryz.f45.body.isNone=false:=rfl
/- F73 cinnabar/insts.circular$1 -/
@[simp] def f38_r0l:List Oper:=[⟨some 5,.assign (.const (.bool false)),4,"insts.go:107",#[],none⟩]
def f38_r0o:Array Oper:=f38_r0l.toArray
@[simp] theorem f38_r0_l:f38_r0o.toList=f38_r0l:=rfl

@[simp] def f38_r1l:List Oper:=[⟨some 6,.load 22 (.tmp 1),22,"insts.go:108",#[],none⟩,
 ⟨some 7,.move (.tmp 0),3,"insts.go:108",#[],none⟩,
 ⟨some 8,.indexAddr 22 (.tmp 6) (.tmp 7),0,"insts.go:108",(gE [0,8]),none⟩,
 ⟨some 9,.fieldAddr 26 (.tmp 8) 0,0,"insts.go:108",(gE [16]),none⟩,
 ⟨some 10,.load 3 (.tmp 9),3,"insts.go:108",(gE [24]),none⟩,
 ⟨some 11,.binOp .neq 3 (.tmp 10) (.const (.int .i64 5)) 3,4,"insts.go:108",(gE [32]),none⟩,
 ⟨some 12,.move (.tmp 11),4,"insts.go:108",(gE [40]),none⟩,
 ⟨some 13,.load 37 (.tmp 2),37,"insts.go:108",(gE [50]),some (6,false)⟩,
 ⟨some 14,.move (.tmp 0),3,"insts.go:108",(gE [50]),some (6,false)⟩,
 ⟨some 15,.indexAddr 37 (.tmp 13) (.tmp 14),0,"insts.go:108",(gE [56,64,50]),some (6,false)⟩,
 ⟨some 16,.load 3 (.tmp 15),3,"insts.go:108",(gE [72,50]),some (6,false)⟩,
 ⟨some 17,.binOp .eql 3 (.tmp 16) (.const (.int .i64 2)) 3,4,"insts.go:108",(gE [80,50]),some (6,false)⟩,
 ⟨some 18,.pick (.tmp 12) (.const (.bool true)) (.tmp 17),4,"insts.go:108",(gE [48,88]),none⟩]
def f38_r1o:Array Oper:=f38_r1l.toArray
@[simp] theorem f38_r1_l:f38_r1o.toList=f38_r1l:=rfl

@[simp] theorem f38_r1_g6:zL f38_r1o 6=some 12:=rfl
@[simp] def f38_r2l:List Oper:=[⟨some 5,.assign (.const (.bool false)),4,"insts.go:109",#[],none⟩]
def f38_r2o:Array Oper:=f38_r2l.toArray
@[simp] theorem f38_r2_l:f38_r2o.toList=f38_r2l:=rfl

@[simp] def f38_r3l:List Oper:=[⟨some 19,.load 37 (.tmp 2),37,"insts.go:111",#[],none⟩,
 ⟨some 20,.move (.tmp 0),3,"insts.go:111",#[],none⟩,
 ⟨some 21,.indexAddr 37 (.tmp 19) (.tmp 20),0,"insts.go:111",(gE [0,8]),none⟩,
 ⟨some 22,.load 3 (.tmp 21),3,"insts.go:111",(gE [16]),none⟩,
 ⟨some 23,.binOp .eql 3 (.tmp 22) (.const (.int .i64 1)) 3,4,"insts.go:111",(gE [24]),none⟩]
def f38_r3o:Array Oper:=f38_r3l.toArray
@[simp] theorem f38_r3_l:f38_r3o.toList=f38_r3l:=rfl

@[simp] def f38_r4l:List Oper:=[⟨some 5,.assign (.const (.bool true)),4,"insts.go:112",#[],none⟩]
def f38_r4o:Array Oper:=f38_r4l.toArray
@[simp] theorem f38_r4_l:f38_r4o.toList=f38_r4l:=rfl

@[simp] def f38_r5l:List Oper:=[⟨some 24,.load 37 (.tmp 2),37,"insts.go:114",#[],none⟩,
 ⟨some 25,.move (.tmp 0),3,"insts.go:114",#[],none⟩,
 ⟨some 26,.indexAddr 37 (.tmp 24) (.tmp 25),0,"insts.go:114",(gE [0,8,3,11]),none⟩,
 ⟨none,.store 3 (.tmp 26) (.const (.int .i64 1)),0,"insts.go:114",(gE [16,3,11]),none⟩]
def f38_r5o:Array Oper:=f38_r5l.toArray
@[simp] theorem f38_r5_l:f38_r5o.toList=f38_r5l:=rfl

@[simp] def f38_r6l:List Oper:=[⟨some 27,.load 22 (.tmp 1),22,"insts.go:115",#[],none⟩,
 ⟨some 28,.move (.tmp 0),3,"insts.go:115",#[],none⟩,
 ⟨some 29,.indexAddr 22 (.tmp 27) (.tmp 28),0,"insts.go:115",(gE [0,8]),none⟩,
 ⟨some 30,.load 26 (.tmp 29),26,"insts.go:115",(gE [16]),none⟩,
 ⟨some 31,.call ⟨.value (.func 59),#[.tmp 30],#[26]⟩,37,"insts.go:115",(gE [24]),none⟩,
 ⟨some 32,.load 86 (.tmp 3),86,"insts.go:115",#[],none⟩,
 ⟨some 33,.call ⟨.value (.func 53),#[.tmp 31,.tmp 32],#[37,86]⟩,4,"insts.go:115",(gE [32,40,33]),none⟩]
def vQ:Array Oper:=f38_r6l.toArray
@[simp] theorem f38_r6_l:vQ.toList=f38_r6l:=rfl

@[simp] theorem f38_r6_n:vQ.size=7:=rfl
@[simp] def f38_r7l:List Oper:=[⟨some 5,.assign (.const (.bool true)),4,"insts.go:116",#[],none⟩]
def f38_r7o:Array Oper:=f38_r7l.toArray
@[simp] theorem f38_r7_l:f38_r7o.toList=f38_r7l:=rfl

@[simp] def f38_r8l:List Oper:=[⟨some 34,.load 37 (.tmp 2),37,"insts.go:118",#[],none⟩,
 ⟨some 35,.move (.tmp 0),3,"insts.go:118",#[],none⟩,
 ⟨some 36,.indexAddr 37 (.tmp 34) (.tmp 35),0,"insts.go:118",(gE [0,8,3,11]),none⟩,
 ⟨none,.store 3 (.tmp 36) (.const (.int .i64 2)),0,"insts.go:118",(gE [16,3,11]),none⟩]
def f38_r8o:Array Oper:=f38_r8l.toArray
@[simp] theorem f38_r8_l:f38_r8o.toList=f38_r8l:=rfl

@[simp] def f38_r9l:List Oper:=[⟨some 5,.assign (.const (.bool false)),4,"insts.go:119",#[],none⟩]
def f38_r9o:Array Oper:=f38_r9l.toArray
@[simp] theorem f38_r9_l:f38_r9o.toList=f38_r9l:=rfl

def f38_ac:AC :=
 (.seq (.reg 0 f38_r0o [0,1,2,3,13,14,15,16,17]) (.seq (.seq (.reg 1 f38_r1o [0,1,2,3,18]) (.cond (.tmp 18) (.seq (.reg 2 f38_r2o [5]) .ret) .skip)) (.seq (.seq (.reg 3 f38_r3o [0,1,2,3,23]) (.cond (.tmp 23) (.seq (.reg 4 f38_r4o [5]) .ret) .skip)) (.seq (.reg 5 f38_r5o [0,1,2,3]) (.seq (.seq (.draw 6 vQ [0,2,33]) (.cond (.tmp 33) (.seq (.reg 7 f38_r7o [5]) .ret) .skip)) (.seq (.reg 8 f38_r8o []) (.seq (.reg 9 f38_r9o [5]) .ret)))))))
theorem f38_eq:Tryz.f73.body=some f38_ac.code:=by kernel_rfl
@[simp] theorem f38_nt:Tryz.f73.ntmps=37:=rfl
theorem f38_fits:f38_ac.fits Tryz.f73.ntmps=true:=by kernel_rfl
@[simp] theorem f38_res:Tryz.f73.results.toList=[.tmp 5]:=rfl
@[simp] theorem f38_isb:Tryz.f73.body.isNone=false:=rfl
@[simp] theorem f38_r6_s:zD zB vQ=true:=by kernel_rfl
@[simp] theorem f38_r6_d:yg zB vQ=true:=by kernel_rfl
@[simp] theorem f38_r6_t4:zV zB vQ 4=false:=by kernel_rfl
@[simp] theorem f38_r6_t6:zV zB vQ 6=true:=by kernel_rfl
/- F59 cinnabar/insts.ends -/
@[simp] def f39_r0l:List Oper:=[⟨some 1,.box 26 (.tmp 0),0,"insts.go:94",#[],none⟩,
 ⟨some 2,.assign (.const (.slice none 0 0)),37,"insts.go:94",#[],none⟩]
def f39_r0o:Array Oper:=f39_r0l.toArray
@[simp] theorem f39_r0_l:f39_r0o.toList=f39_r0l:=rfl

@[simp] def f39_r1l:List Oper:=[⟨some 3,.assign (.const (.slice none 0 0)),37,"insts.go:95",#[],none⟩]
def f39_r1o:Array Oper:=f39_r1l.toArray
@[simp] theorem f39_r1_l:f39_r1o.toList=f39_r1l:=rfl

@[simp] def f39_r2l:List Oper:=[⟨some 6,.fieldAddr 26 (.tmp 1) 2,0,"insts.go:96",#[],none⟩,
 ⟨some 7,.load 24 (.tmp 6),24,"insts.go:96",(gE [0]),none⟩,
 ⟨some 8,.call ⟨.builtin .len,#[.tmp 7],#[24]⟩,3,"insts.go:96",(gE [8]),none⟩,
 ⟨some 9,.move (.const (.int .i64 0)),3,"insts.go:96",#[],none⟩]
def f39_r2o:Array Oper:=f39_r2l.toArray
@[simp] theorem f39_r2_l:f39_r2o.toList=f39_r2l:=rfl

@[simp] def f39_r3l:List Oper:=[⟨some 10,.binOp .lss 3 (.tmp 9) (.tmp 8) 3,0,"insts.go:96",#[],none⟩]
def f39_r3o:Array Oper:=f39_r3l.toArray
@[simp] theorem f39_r3_l:f39_r3o.toList=f39_r3l:=rfl

@[simp] def f39_r4l:List Oper:=[⟨some 11,.indexAddr 24 (.tmp 7) (.tmp 9),0,"insts.go:96",#[],none⟩,
 ⟨some 12,.load 55 (.tmp 11),55,"insts.go:96",(gE [0]),none⟩,
 ⟨some 5,.alloc 55,0,"insts.go:96",#[],none⟩,
 ⟨none,.store 55 (.tmp 5) (.tmp 12),0,"insts.go:96",(gE [16,8,3,11,19]),none⟩]
def f39_r4o:Array Oper:=f39_r4l.toArray
@[simp] theorem f39_r4_l:f39_r4o.toList=f39_r4l:=rfl

@[simp] def f39_r5l:List Oper:=[⟨some 13,.move (.tmp 3),37,"insts.go:97",#[],none⟩,
 ⟨some 14,.fieldAddr 55 (.tmp 5) 0,0,"insts.go:97",#[],none⟩,
 ⟨some 15,.load 3 (.tmp 14),3,"insts.go:97",(gE [8]),none⟩,
 ⟨some 16,.fieldAddr 55 (.tmp 5) 1,0,"insts.go:97",#[],none⟩,
 ⟨some 17,.load 3 (.tmp 16),3,"insts.go:97",(gE [24]),none⟩,
 ⟨some 18,.buildSlice 37 2 #[(0,.tmp 15),(1,.tmp 17)],37,"insts.go:97",(gE [16,32]),none⟩,
 ⟨some 19,.call ⟨.builtin .append,#[.tmp 13,.tmp 18],#[37,37]⟩,37,"insts.go:97",(gE [0,40]),none⟩,
 ⟨some 3,.assign (.tmp 19),37,"insts.go:97",(gE [48,49,3,11,19,27,35,43,51]),none⟩]
def f39_r5o:Array Oper:=f39_r5l.toArray
@[simp] theorem f39_r5_l:f39_r5o.toList=f39_r5l:=rfl

@[simp] def f39_r6l:List Oper:=[⟨some 20,.binOp .add 3 (.tmp 9) (.const (.int .i64 1)) 3,3,"insts.go:96",#[],none⟩,
 ⟨some 9,.move (.tmp 20),3,"insts.go:96",(gE [0]),none⟩]
def f39_r6o:Array Oper:=f39_r6l.toArray
@[simp] theorem f39_r6_l:f39_r6o.toList=f39_r6l:=rfl

def f39_l0:AC :=
 (.seq (.reg 3 f39_r3o [3,7,8,9,10]) (.seq (.cond (.tmp 10) .skip (.exit 0)) (.seq (.block 1 (.seq (.reg 4 f39_r4o [3,5,7,8,9]) (.reg 5 f39_r5o [3,7,8,9]))) (.reg 6 f39_r6o [3,7,8,9]))))
theorem f39_l0_fits:f39_l0.fits 22=true:=by kernel_rfl
@[simp] def f39_r7l:List Oper:=[⟨some 21,.move (.tmp 3),37,"insts.go:99",#[],none⟩,
 ⟨some 2,.assign (.tmp 21),37,"insts.go:99",(gE [0,3]),none⟩]
def f39_r7o:Array Oper:=f39_r7l.toArray
@[simp] theorem f39_r7_l:f39_r7o.toList=f39_r7l:=rfl

def f39_ac:AC :=
 (.seq (.reg 0 f39_r0o [1]) (.seq (.reg 1 f39_r1o [1,3]) (.seq (.seq (.reg 2 f39_r2o [3,7,8,9]) (.block 0 (.loop f39_l0))) (.seq (.reg 7 f39_r7o [2]) .ret))))
theorem f39_eq:Tryz.f59.body=some f39_ac.code:=by kernel_rfl
@[simp] theorem f39_nt:Tryz.f59.ntmps=22:=rfl
theorem f39_fits:f39_ac.fits Tryz.f59.ntmps=true:=by kernel_rfl
@[simp] theorem f39_res:Tryz.f59.results.toList=[.tmp 2]:=rfl
@[simp] theorem f39_isb:Tryz.f59.body.isNone=false:=rfl
/- F49 cinnabar/cinnabarref16.alt -/
@[simp] def f40_r0l:List Oper:=[⟨some 6,.assign (.const (.int .i64 0)),30,"ref.go:41",#[],none⟩]
def f40_r0o:Array Oper:=f40_r0l.toArray
@[simp] theorem f40_r0_l:f40_r0o.toList=f40_r0l:=rfl

@[simp] def f40_r1l:List Oper:=[⟨some 10,.move (.tmp 1),23,"ref.go:42",#[],none⟩,
 ⟨some 11,.move (.tmp 2),3,"ref.go:42",#[],none⟩,
 ⟨some 12,.indexAddr 23 (.tmp 10) (.tmp 11),0,"ref.go:42",(gE [0,8]),none⟩,
 ⟨some 13,.load 39 (.tmp 12),39,"ref.go:42",(gE [16]),none⟩,
 ⟨some 7,.alloc 39,0,"ref.go:42",#[],none⟩,
 ⟨none,.store 39 (.tmp 7) (.tmp 13),0,"ref.go:42",(gE [32,24,3,11,19,27,35]),none⟩]
def f40_r1o:Array Oper:=f40_r1l.toArray
@[simp] theorem f40_r1_l:f40_r1o.toList=f40_r1l:=rfl

@[simp] def f40_r2l:List Oper:=[⟨some 14,.fieldAddr 39 (.tmp 7) 0,0,"ref.go:43",#[],none⟩,
 ⟨some 15,.load 9 (.tmp 14),9,"ref.go:43",(gE [0]),none⟩,
 ⟨some 16,.call ⟨.builtin .len,#[.tmp 15],#[9]⟩,3,"ref.go:43",(gE [8]),none⟩,
 ⟨some 17,.binOp .lss 3 (.tmp 16) (.const (.int .i64 1)) 3,4,"ref.go:43",(gE [16]),none⟩,
 ⟨some 18,.move (.tmp 17),4,"ref.go:43",(gE [24]),none⟩,
 ⟨some 19,.fieldAddr 39 (.tmp 7) 0,0,"ref.go:43",(gE [34]),some (4,false)⟩,
 ⟨some 20,.load 9 (.tmp 19),9,"ref.go:43",(gE [40,34]),some (4,false)⟩,
 ⟨some 21,.call ⟨.builtin .len,#[.tmp 20],#[9]⟩,3,"ref.go:43",(gE [48,34]),some (4,false)⟩,
 ⟨some 22,.binOp .gtr 3 (.tmp 21) (.const (.int .i64 81)) 3,4,"ref.go:43",(gE [56,34]),some (4,false)⟩,
 ⟨some 23,.pick (.tmp 18) (.const (.bool true)) (.tmp 22),4,"ref.go:43",(gE [32,64]),none⟩]
def f40_r2o:Array Oper:=f40_r2l.toArray
@[simp] theorem f40_r2_l:f40_r2o.toList=f40_r2l:=rfl

@[simp] theorem f40_r2_g4:zL f40_r2o 4=some 18:=rfl
@[simp] def f40_r3l:List Oper:=[⟨some 6,.assign (.const (.int .i64 10)),30,"ref.go:44",#[],none⟩]
def f40_r3o:Array Oper:=f40_r3l.toArray
@[simp] theorem f40_r3_l:f40_r3o.toList=f40_r3l:=rfl

@[simp] def f40_r4l:List Oper:=[⟨some 24,.move (.tmp 2),3,"ref.go:46",#[],none⟩,
 ⟨some 25,.binOp .gtr 3 (.tmp 24) (.const (.int .i64 0)) 3,4,"ref.go:46",(gE [0]),none⟩,
 ⟨some 26,.move (.tmp 25),4,"ref.go:46",(gE [8]),none⟩,
 ⟨some 27,.move (.tmp 1),23,"ref.go:46",(gE [18]),some (2,true)⟩,
 ⟨some 28,.move (.tmp 2),3,"ref.go:46",(gE [18]),some (2,true)⟩,
 ⟨some 29,.binOp .sub 3 (.tmp 28) (.const (.int .i64 1)) 3,3,"ref.go:46",(gE [32,18]),some (2,true)⟩,
 ⟨some 30,.indexAddr 23 (.tmp 27) (.tmp 29),0,"ref.go:46",(gE [24,40,18]),some (2,true)⟩,
 ⟨some 31,.load 39 (.tmp 30),39,"ref.go:46",(gE [48,18]),some (2,true)⟩,
 ⟨some 32,.load 39 (.tmp 7),39,"ref.go:46",(gE [18]),some (2,true)⟩,
 ⟨some 33,.call ⟨.value (.func 80),#[.tmp 31,.tmp 32],#[39,39]⟩,4,"ref.go:46",(gE [56,64,17,18]),some (2,true)⟩,
 ⟨some 34,.unOp .not 4 (.tmp 33),4,"ref.go:46",(gE [72,18]),some (2,true)⟩,
 ⟨some 35,.pick (.tmp 26) (.tmp 34) (.const (.bool false)),4,"ref.go:46",(gE [16,80]),none⟩]
def vO:Array Oper:=f40_r4l.toArray
@[simp] theorem f40_r4_l:vO.toList=f40_r4l:=rfl

@[simp] theorem f40_r4_g2:zL vO 2=some 26:=rfl
@[simp] theorem f40_r4_n:vO.size=12:=rfl
@[simp] def f40_r5l:List Oper:=[⟨some 6,.assign (.const (.int .i64 13)),30,"ref.go:47",#[],none⟩]
def f40_r5o:Array Oper:=f40_r5l.toArray
@[simp] theorem f40_r5_l:f40_r5o.toList=f40_r5l:=rfl

@[simp] def f40_r6l:List Oper:=[⟨some 36,.fieldAddr 39 (.tmp 7) 1,0,"ref.go:49",#[],none⟩,
 ⟨some 37,.load 37 (.tmp 36),37,"ref.go:49",(gE [0]),none⟩,
 ⟨some 38,.call ⟨.builtin .len,#[.tmp 37],#[37]⟩,3,"ref.go:49",(gE [8]),none⟩,
 ⟨some 39,.binOp .gtr 3 (.tmp 38) (.const (.int .i64 32)) 3,4,"ref.go:49",(gE [16]),none⟩]
def f40_r6o:Array Oper:=f40_r6l.toArray
@[simp] theorem f40_r6_l:f40_r6o.toList=f40_r6l:=rfl

@[simp] def f40_r7l:List Oper:=[⟨some 6,.assign (.const (.int .i64 6)),30,"ref.go:50",#[],none⟩]
def f40_r7o:Array Oper:=f40_r7l.toArray
@[simp] theorem f40_r7_l:f40_r7o.toList=f40_r7l:=rfl

@[simp] def f40_r8l:List Oper:=[⟨some 8,.assign (.const (.int .i64 0)),3,"ref.go:52",#[],none⟩]
def f40_r8o:Array Oper:=f40_r8l.toArray
@[simp] theorem f40_r8_l:f40_r8o.toList=f40_r8l:=rfl

@[simp] def f40_r9l:List Oper:=[⟨some 40,.move (.tmp 8),3,"ref.go:52",#[],none⟩,
 ⟨some 41,.fieldAddr 39 (.tmp 7) 1,0,"ref.go:52",#[],none⟩,
 ⟨some 42,.load 37 (.tmp 41),37,"ref.go:52",(gE [8]),none⟩,
 ⟨some 43,.call ⟨.builtin .len,#[.tmp 42],#[37]⟩,3,"ref.go:52",(gE [16]),none⟩,
 ⟨some 44,.binOp .lss 3 (.tmp 40) (.tmp 43) 3,4,"ref.go:52",(gE [0,24]),none⟩]
def f40_r9o:Array Oper:=f40_r9l.toArray
@[simp] theorem f40_r9_l:f40_r9o.toList=f40_r9l:=rfl

@[simp] def f40_r11l:List Oper:=[⟨some 47,.fieldAddr 39 (.tmp 7) 1,0,"ref.go:53",#[],none⟩,
 ⟨some 48,.load 37 (.tmp 47),37,"ref.go:53",(gE [0]),none⟩,
 ⟨some 49,.move (.tmp 8),3,"ref.go:53",#[],none⟩,
 ⟨some 50,.indexAddr 37 (.tmp 48) (.tmp 49),0,"ref.go:53",(gE [8,16]),none⟩,
 ⟨some 51,.load 3 (.tmp 50),3,"ref.go:53",(gE [24]),none⟩,
 ⟨some 52,.binOp .lss 3 (.tmp 51) (.const (.int .i64 0)) 3,4,"ref.go:53",(gE [32]),none⟩,
 ⟨some 53,.move (.tmp 52),4,"ref.go:53",(gE [40]),none⟩,
 ⟨some 54,.fieldAddr 39 (.tmp 7) 1,0,"ref.go:53",(gE [50]),some (6,false)⟩,
 ⟨some 55,.load 37 (.tmp 54),37,"ref.go:53",(gE [56,50]),some (6,false)⟩,
 ⟨some 56,.move (.tmp 8),3,"ref.go:53",(gE [50]),some (6,false)⟩,
 ⟨some 57,.indexAddr 37 (.tmp 55) (.tmp 56),0,"ref.go:53",(gE [64,72,50]),some (6,false)⟩,
 ⟨some 58,.load 3 (.tmp 57),3,"ref.go:53",(gE [80,50]),some (6,false)⟩,
 ⟨some 59,.move (.tmp 0),22,"ref.go:53",(gE [50]),some (6,false)⟩,
 ⟨some 60,.call ⟨.builtin .len,#[.tmp 59],#[22]⟩,3,"ref.go:53",(gE [96,50]),some (6,false)⟩,
 ⟨some 61,.binOp .geq 3 (.tmp 58) (.tmp 60) 3,4,"ref.go:53",(gE [88,104,50]),some (6,false)⟩,
 ⟨some 62,.pick (.tmp 53) (.const (.bool true)) (.tmp 61),4,"ref.go:53",(gE [48,112]),none⟩]
def f40_r11o:Array Oper:=f40_r11l.toArray
@[simp] theorem f40_r11_l:f40_r11o.toList=f40_r11l:=rfl

@[simp] theorem f40_r11_g6:zL f40_r11o 6=some 53:=rfl
@[simp] def f40_r12l:List Oper:=[⟨some 6,.assign (.const (.int .i64 5)),30,"ref.go:54",#[],none⟩]
def f40_r12o:Array Oper:=f40_r12l.toArray
@[simp] theorem f40_r12_l:f40_r12o.toList=f40_r12l:=rfl

@[simp] def f40_r13l:List Oper:=[⟨some 63,.move (.tmp 0),22,"ref.go:56",#[],none⟩,
 ⟨some 64,.fieldAddr 39 (.tmp 7) 1,0,"ref.go:56",#[],none⟩,
 ⟨some 65,.load 37 (.tmp 64),37,"ref.go:56",(gE [8]),none⟩,
 ⟨some 66,.move (.tmp 8),3,"ref.go:56",#[],none⟩,
 ⟨some 67,.indexAddr 37 (.tmp 65) (.tmp 66),0,"ref.go:56",(gE [16,24]),none⟩,
 ⟨some 68,.load 3 (.tmp 67),3,"ref.go:56",(gE [32]),none⟩,
 ⟨some 69,.indexAddr 22 (.tmp 63) (.tmp 68),0,"ref.go:56",(gE [0,40]),none⟩,
 ⟨some 70,.fieldAddr 26 (.tmp 69) 0,0,"ref.go:56",(gE [48]),none⟩,
 ⟨some 71,.load 3 (.tmp 70),3,"ref.go:56",(gE [56]),none⟩,
 ⟨some 9,.assign (.tmp 71),3,"ref.go:56",(gE [64,3,11,19,27,35,43,51,59,67]),none⟩]
def f40_r13o:Array Oper:=f40_r13l.toArray
@[simp] theorem f40_r13_l:f40_r13o.toList=f40_r13l:=rfl

@[simp] def f40_r14l:List Oper:=[⟨some 72,.move (.tmp 9),3,"ref.go:56",#[],none⟩,
 ⟨some 73,.binOp .neq 3 (.tmp 72) (.const (.int .i64 1)) 3,4,"ref.go:56",(gE [0]),none⟩,
 ⟨some 74,.move (.tmp 73),4,"ref.go:56",(gE [8]),none⟩,
 ⟨some 75,.move (.tmp 9),3,"ref.go:56",(gE [18]),some (2,true)⟩,
 ⟨some 76,.binOp .neq 3 (.tmp 75) (.const (.int .i64 4)) 3,4,"ref.go:56",(gE [24,18]),some (2,true)⟩,
 ⟨some 77,.pick (.tmp 74) (.tmp 76) (.const (.bool false)),4,"ref.go:56",(gE [16,32]),none⟩,
 ⟨some 78,.move (.tmp 77),4,"ref.go:56",(gE [40,17]),none⟩,
 ⟨some 79,.move (.tmp 9),3,"ref.go:56",(gE [50]),some (6,true)⟩,
 ⟨some 80,.binOp .neq 3 (.tmp 79) (.const (.int .i64 5)) 3,4,"ref.go:56",(gE [56,50]),some (6,true)⟩,
 ⟨some 81,.pick (.tmp 78) (.tmp 80) (.const (.bool false)),4,"ref.go:56",(gE [48,64]),none⟩]
def tG:Array Oper:=f40_r14l.toArray
@[simp] theorem f40_r14_l:tG.toList=f40_r14l:=rfl

@[simp] theorem f40_r14_g2:zL tG 2=some 74:=rfl
@[simp] theorem f40_r14_g6:zL tG 6=some 78:=rfl
@[simp] def f40_r15l:List Oper:=[⟨some 6,.assign (.const (.int .i64 18)),30,"ref.go:57",#[],none⟩]
def f40_r15o:Array Oper:=f40_r15l.toArray
@[simp] theorem f40_r15_l:f40_r15o.toList=f40_r15l:=rfl

@[simp] def f40_r10l:List Oper:=[⟨some 45,.move (.tmp 8),3,"ref.go:52",#[],none⟩,
 ⟨some 46,.binOp .add 3 (.tmp 45) (.const (.int .i64 1)) 3,3,"ref.go:52",(gE [0]),none⟩,
 ⟨some 8,.assign (.tmp 46),3,"ref.go:52",(gE [8,3,11]),none⟩]
def f40_r10o:Array Oper:=f40_r10l.toArray
@[simp] theorem f40_r10_l:f40_r10o.toList=f40_r10l:=rfl

def f40_l0:AC :=
 (.seq (.seq (.reg 9 f40_r9o [0,7,8,44,54,55,56,57,58,59,60,61,75,76,79,80]) (.cond (.tmp 44) .skip (.exit 0))) (.seq (.block 1 (.seq (.seq (.reg 11 f40_r11o [0,7,8,54,55,56,57,58,59,60,61,62,75,76,79,80]) (.cond (.tmp 62) (.seq (.reg 12 f40_r12o [6]) .ret) .skip)) (.seq (.reg 13 f40_r13o [0,7,8,9,54,55,56,57,58,59,60,61,75,76,79,80]) (.seq (.reg 14 tG [0,7,8,54,55,56,57,58,59,60,61,75,76,79,80,81]) (.cond (.tmp 81) (.seq (.reg 15 f40_r15o [6]) .ret) .skip))))) (.reg 10 f40_r10o [0,7,8,54,55,56,57,58,59,60,61,75,76,79,80])))
theorem f40_l0_fits:f40_l0.fits 82=true:=by kernel_rfl
@[simp] def f40_r16l:List Oper:=[⟨some 6,.assign (.const (.int .i64 0)),30,"ref.go:60",#[],none⟩]
def f40_r16o:Array Oper:=f40_r16l.toArray
@[simp] theorem f40_r16_l:f40_r16o.toList=f40_r16l:=rfl

def f40_ac:AC :=
 (.seq (.reg 0 f40_r0o [0,1,2,19,20,21,22,27,28,29,30,31,32,33,34,54,55,56,57,58,59,60,61,75,76,79,80]) (.seq (.reg 1 f40_r1o [0,1,2,7,19,20,21,22,27,28,29,30,31,32,33,34,54,55,56,57,58,59,60,61,75,76,79,80]) (.seq (.seq (.reg 2 f40_r2o [0,1,2,7,23,27,28,29,30,31,32,33,34,54,55,56,57,58,59,60,61,75,76,79,80]) (.cond (.tmp 23) (.seq (.reg 3 f40_r3o [6]) .ret) .skip)) (.seq (.seq (.draw 4 vO [0,7,35,54,55,56,57,58,59,60,61,75,76,79,80]) (.cond (.tmp 35) (.seq (.reg 5 f40_r5o [6]) .ret) .skip)) (.seq (.seq (.reg 6 f40_r6o [0,7,39,54,55,56,57,58,59,60,61,75,76,79,80]) (.cond (.tmp 39) (.seq (.reg 7 f40_r7o [6]) .ret) .skip)) (.seq (.seq (.reg 8 f40_r8o [0,7,8,54,55,56,57,58,59,60,61,75,76,79,80]) (.block 0 (.loop f40_l0))) (.seq (.reg 16 f40_r16o [6]) .ret)))))))
theorem f40_eq:Tryz.f49.body=some f40_ac.code:=by kernel_rfl
@[simp] theorem f40_nt:Tryz.f49.ntmps=82:=rfl
theorem f40_fits:f40_ac.fits Tryz.f49.ntmps=true:=by kernel_rfl
@[simp] theorem f40_res:Tryz.f49.results.toList=[.tmp 6]:=rfl
@[simp] theorem f40_isb:Tryz.f49.body.isNone=false:=rfl
@[simp] theorem f40_r4_s:zD zB vO=true:=by kernel_rfl
@[simp] theorem f40_r4_d:yg zB vO=true:=by kernel_rfl
@[simp] theorem f40_r4_t9:zV zB vO 9=true:=by kernel_rfl
/- F33 slices.IndexFunc[[]cinnabar/api.Alt,cinnabar/api.Alt] -/
@[simp] def f41_r0l:List Oper:=[⟨some 4,.assign (.const (.int .i64 0)),3,"slices.go:107",#[],none⟩]
def f41_r0o:Array Oper:=f41_r0l.toArray
@[simp] theorem f41_r0_l:f41_r0o.toList=f41_r0l:=rfl

@[simp] def f41_r1l:List Oper:=[⟨some 6,.move (.tmp 0),23,"slices.go:108",#[],none⟩,
 ⟨some 7,.call ⟨.builtin .len,#[.tmp 6],#[23]⟩,3,"slices.go:108",(gE [0]),none⟩,
 ⟨some 8,.move (.const (.int .i64 0)),3,"slices.go:108",#[],none⟩]
def f41_r1o:Array Oper:=f41_r1l.toArray
@[simp] theorem f41_r1_l:f41_r1o.toList=f41_r1l:=rfl

@[simp] def f41_r2l:List Oper:=[⟨some 9,.binOp .lss 3 (.tmp 8) (.tmp 7) 3,0,"slices.go:108",#[],none⟩]
def f41_r2o:Array Oper:=f41_r2l.toArray
@[simp] theorem f41_r2_l:f41_r2o.toList=f41_r2l:=rfl

@[simp] def f41_r3l:List Oper:=[⟨some 10,.move (.tmp 8),3,"slices.go:108",#[],none⟩,
 ⟨some 5,.assign (.tmp 10),3,"slices.go:108",(gE [0,3]),none⟩]
def f41_r3o:Array Oper:=f41_r3l.toArray
@[simp] theorem f41_r3_l:f41_r3o.toList=f41_r3l:=rfl

@[simp] def f41_r4l:List Oper:=[⟨some 11,.move (.tmp 1),40,"slices.go:109",#[],none⟩,
 ⟨some 12,.move (.tmp 0),23,"slices.go:109",#[],none⟩,
 ⟨some 13,.move (.tmp 5),3,"slices.go:109",#[],none⟩,
 ⟨some 14,.indexAddr 23 (.tmp 12) (.tmp 13),0,"slices.go:109",(gE [8,16]),none⟩,
 ⟨some 15,.load 39 (.tmp 14),39,"slices.go:109",(gE [24]),none⟩,
 ⟨some 16,.call ⟨.value (.tmp 11),#[.tmp 15],#[39]⟩,4,"slices.go:109",(gE [0,32]),none⟩]
def f41_r4o:Array Oper:=f41_r4l.toArray
@[simp] theorem f41_r4_l:f41_r4o.toList=f41_r4l:=rfl

@[simp] def f41_r5l:List Oper:=[⟨some 17,.move (.tmp 5),3,"slices.go:110",#[],none⟩,
 ⟨some 4,.assign (.tmp 17),3,"slices.go:110",(gE [0,3]),none⟩]
def f41_r5o:Array Oper:=f41_r5l.toArray
@[simp] theorem f41_r5_l:f41_r5o.toList=f41_r5l:=rfl

@[simp] def f41_r6l:List Oper:=[⟨some 18,.binOp .add 3 (.tmp 8) (.const (.int .i64 1)) 3,3,"slices.go:108",#[],none⟩,
 ⟨some 8,.move (.tmp 18),3,"slices.go:108",(gE [0]),none⟩]
def f41_r6o:Array Oper:=f41_r6l.toArray
@[simp] theorem f41_r6_l:f41_r6o.toList=f41_r6l:=rfl

def f41_l0:AC :=
 (.seq (.reg 2 f41_r2o [0,1,7,8,9]) (.seq (.cond (.tmp 9) .skip (.exit 0)) (.seq (.block 1 (.seq (.reg 3 f41_r3o [0,1,5,7,8]) (.seq (.reg 4 f41_r4o [0,1,5,7,8,16]) (.cond (.tmp 16) (.seq (.reg 5 f41_r5o [4]) .ret) .skip)))) (.reg 6 f41_r6o [0,1,7,8]))))
theorem f41_l0_fits:f41_l0.fits 19=true:=by kernel_rfl
@[simp] def f41_r7l:List Oper:=[⟨some 4,.assign (.const (.int .i64 (-1))),3,"slices.go:113",#[],none⟩]
def f41_r7o:Array Oper:=f41_r7l.toArray
@[simp] theorem f41_r7_l:f41_r7o.toList=f41_r7l:=rfl

def f41_ac:AC :=
 (.seq (.reg 0 f41_r0o [0,1]) (.seq (.seq (.reg 1 f41_r1o [0,1,7,8]) (.block 0 (.loop f41_l0))) (.seq (.reg 7 f41_r7o [4]) .ret)))
theorem f41_eq:Tryz.f33.body=some f41_ac.code:=by kernel_rfl
@[simp] theorem f41_nt:Tryz.f33.ntmps=19:=rfl
theorem f41_fits:f41_ac.fits Tryz.f33.ntmps=true:=by kernel_rfl
@[simp] theorem f41_res:Tryz.f33.results.toList=[.tmp 4]:=rfl
@[simp] theorem f41_isb:Tryz.f33.body.isNone=false:=rfl
/- F81 slices.IndexFunc[[]int,int] -/
@[simp] def f60_r0l:List Oper:=[⟨some 4,.assign (.const (.int .i64 0)),3,"slices.go:107",#[],none⟩]
def f60_r0o:Array Oper:=f60_r0l.toArray
@[simp] theorem f60_r0_l:f60_r0o.toList=f60_r0l:=rfl

@[simp] def f60_r1l:List Oper:=[⟨some 6,.move (.tmp 0),37,"slices.go:108",#[],none⟩,
 ⟨some 7,.call ⟨.builtin .len,#[.tmp 6],#[37]⟩,3,"slices.go:108",(gE [0]),none⟩,
 ⟨some 8,.move (.const (.int .i64 0)),3,"slices.go:108",#[],none⟩]
def f60_r1o:Array Oper:=f60_r1l.toArray
@[simp] theorem f60_r1_l:f60_r1o.toList=f60_r1l:=rfl

@[simp] def f60_r2l:List Oper:=[⟨some 9,.binOp .lss 3 (.tmp 8) (.tmp 7) 3,0,"slices.go:108",#[],none⟩]
def f60_r2o:Array Oper:=f60_r2l.toArray
@[simp] theorem f60_r2_l:f60_r2o.toList=f60_r2l:=rfl

@[simp] def f60_r3l:List Oper:=[⟨some 10,.move (.tmp 8),3,"slices.go:108",#[],none⟩,
 ⟨some 5,.assign (.tmp 10),3,"slices.go:108",(gE [0,3]),none⟩]
def f60_r3o:Array Oper:=f60_r3l.toArray
@[simp] theorem f60_r3_l:f60_r3o.toList=f60_r3l:=rfl

@[simp] def f60_r4l:List Oper:=[⟨some 11,.move (.tmp 1),86,"slices.go:109",#[],none⟩,
 ⟨some 12,.move (.tmp 0),37,"slices.go:109",#[],none⟩,
 ⟨some 13,.move (.tmp 5),3,"slices.go:109",#[],none⟩,
 ⟨some 14,.indexAddr 37 (.tmp 12) (.tmp 13),0,"slices.go:109",(gE [8,16]),none⟩,
 ⟨some 15,.load 3 (.tmp 14),3,"slices.go:109",(gE [24]),none⟩,
 ⟨some 16,.call ⟨.value (.tmp 11),#[.tmp 15],#[3]⟩,4,"slices.go:109",(gE [0,32]),none⟩]
def f60_r4o:Array Oper:=f60_r4l.toArray
@[simp] theorem f60_r4_l:f60_r4o.toList=f60_r4l:=rfl

@[simp] def f60_r5l:List Oper:=[⟨some 17,.move (.tmp 5),3,"slices.go:110",#[],none⟩,
 ⟨some 4,.assign (.tmp 17),3,"slices.go:110",(gE [0,3]),none⟩]
def f60_r5o:Array Oper:=f60_r5l.toArray
@[simp] theorem f60_r5_l:f60_r5o.toList=f60_r5l:=rfl

@[simp] def f60_r6l:List Oper:=[⟨some 18,.binOp .add 3 (.tmp 8) (.const (.int .i64 1)) 3,3,"slices.go:108",#[],none⟩,
 ⟨some 8,.move (.tmp 18),3,"slices.go:108",(gE [0]),none⟩]
def f60_r6o:Array Oper:=f60_r6l.toArray
@[simp] theorem f60_r6_l:f60_r6o.toList=f60_r6l:=rfl

def f60_l0:AC :=
 (.seq (.reg 2 f60_r2o [0,1,7,8,9]) (.seq (.cond (.tmp 9) .skip (.exit 0)) (.seq (.block 1 (.seq (.reg 3 f60_r3o [0,1,5,7,8]) (.seq (.reg 4 f60_r4o [0,1,5,7,8,16]) (.cond (.tmp 16) (.seq (.reg 5 f60_r5o [4]) .ret) .skip)))) (.reg 6 f60_r6o [0,1,7,8]))))
theorem f60_l0_fits:f60_l0.fits 19=true:=by kernel_rfl
@[simp] def f60_r7l:List Oper:=[⟨some 4,.assign (.const (.int .i64 (-1))),3,"slices.go:113",#[],none⟩]
def f60_r7o:Array Oper:=f60_r7l.toArray
@[simp] theorem f60_r7_l:f60_r7o.toList=f60_r7l:=rfl

def f60_ac:AC :=
 (.seq (.reg 0 f60_r0o [0,1]) (.seq (.seq (.reg 1 f60_r1o [0,1,7,8]) (.block 0 (.loop f60_l0))) (.seq (.reg 7 f60_r7o [4]) .ret)))
theorem f60_eq:Tryz.f81.body=some f60_ac.code:=by kernel_rfl
@[simp] theorem f60_nt:Tryz.f81.ntmps=19:=rfl
theorem f60_fits:f60_ac.fits Tryz.f81.ntmps=true:=by kernel_rfl
@[simp] theorem f60_res:Tryz.f81.results.toList=[.tmp 4]:=rfl
@[simp] theorem f60_isb:Tryz.f81.body.isNone=false:=rfl
/- F74 cmp.Or[int] -/
@[simp] def f61_r0l:List Oper:=[⟨some 2,.assign (.const (.int .i64 0)),3,"cmp.go:69",#[],none⟩]
def f61_r0o:Array Oper:=f61_r0l.toArray
@[simp] theorem f61_r0_l:f61_r0o.toList=f61_r0l:=rfl

@[simp] def f61_r1l:List Oper:=[⟨some 3,.assign (.const (.int .i64 0)),3,"cmp.go:70",#[],none⟩]
def f61_r1o:Array Oper:=f61_r1l.toArray
@[simp] theorem f61_r1_l:f61_r1o.toList=f61_r1l:=rfl

@[simp] def f61_r2l:List Oper:=[⟨some 6,.move (.tmp 0),37,"cmp.go:71",#[],none⟩,
 ⟨some 7,.call ⟨.builtin .len,#[.tmp 6],#[37]⟩,3,"cmp.go:71",(gE [0]),none⟩,
 ⟨some 8,.move (.const (.int .i64 0)),3,"cmp.go:71",#[],none⟩]
def f61_r2o:Array Oper:=f61_r2l.toArray
@[simp] theorem f61_r2_l:f61_r2o.toList=f61_r2l:=rfl

@[simp] def f61_r3l:List Oper:=[⟨some 9,.binOp .lss 3 (.tmp 8) (.tmp 7) 3,0,"cmp.go:71",#[],none⟩]
def f61_r3o:Array Oper:=f61_r3l.toArray
@[simp] theorem f61_r3_l:f61_r3o.toList=f61_r3l:=rfl

@[simp] def f61_r4l:List Oper:=[⟨some 10,.indexAddr 37 (.tmp 6) (.tmp 8),0,"cmp.go:71",#[],none⟩,
 ⟨some 11,.load 3 (.tmp 10),3,"cmp.go:71",(gE [0]),none⟩,
 ⟨some 5,.assign (.tmp 11),3,"cmp.go:71",(gE [8,3,11]),none⟩]
def f61_r4o:Array Oper:=f61_r4l.toArray
@[simp] theorem f61_r4_l:f61_r4o.toList=f61_r4l:=rfl

@[simp] def f61_r5l:List Oper:=[⟨some 12,.move (.tmp 5),3,"cmp.go:72",#[],none⟩,
 ⟨some 13,.move (.tmp 3),3,"cmp.go:72",#[],none⟩,
 ⟨some 14,.binOp .neq 3 (.tmp 12) (.tmp 13) 3,4,"cmp.go:72",(gE [0,8]),none⟩]
def f61_r5o:Array Oper:=f61_r5l.toArray
@[simp] theorem f61_r5_l:f61_r5o.toList=f61_r5l:=rfl

@[simp] def f61_r6l:List Oper:=[⟨some 15,.move (.tmp 5),3,"cmp.go:73",#[],none⟩,
 ⟨some 2,.assign (.tmp 15),3,"cmp.go:73",(gE [0,3]),none⟩]
def f61_r6o:Array Oper:=f61_r6l.toArray
@[simp] theorem f61_r6_l:f61_r6o.toList=f61_r6l:=rfl

@[simp] def f61_r7l:List Oper:=[⟨some 16,.binOp .add 3 (.tmp 8) (.const (.int .i64 1)) 3,3,"cmp.go:71",#[],none⟩,
 ⟨some 8,.move (.tmp 16),3,"cmp.go:71",(gE [0]),none⟩]
def f61_r7o:Array Oper:=f61_r7l.toArray
@[simp] theorem f61_r7_l:f61_r7o.toList=f61_r7l:=rfl

def f61_l0:AC :=
 (.seq (.reg 3 f61_r3o [3,6,7,8,9]) (.seq (.cond (.tmp 9) .skip (.exit 0)) (.seq (.block 1 (.seq (.reg 4 f61_r4o [3,5,6,7,8]) (.seq (.reg 5 f61_r5o [3,5,6,7,8,14]) (.cond (.tmp 14) (.seq (.reg 6 f61_r6o [2]) .ret) .skip)))) (.reg 7 f61_r7o [3,6,7,8]))))
theorem f61_l0_fits:f61_l0.fits 18=true:=by kernel_rfl
@[simp] def f61_r8l:List Oper:=[⟨some 17,.move (.tmp 3),3,"cmp.go:76",#[],none⟩,
 ⟨some 2,.assign (.tmp 17),3,"cmp.go:76",(gE [0,3]),none⟩]
def f61_r8o:Array Oper:=f61_r8l.toArray
@[simp] theorem f61_r8_l:f61_r8o.toList=f61_r8l:=rfl

def f61_ac:AC :=
 (.seq (.reg 0 f61_r0o [0]) (.seq (.reg 1 f61_r1o [0,3]) (.seq (.seq (.reg 2 f61_r2o [3,6,7,8]) (.block 0 (.loop f61_l0))) (.seq (.reg 8 f61_r8o [2]) .ret))))
theorem f61_eq:Tryz.f74.body=some f61_ac.code:=by kernel_rfl
@[simp] theorem f61_nt:Tryz.f74.ntmps=18:=rfl
theorem f61_fits:f61_ac.fits Tryz.f74.ntmps=true:=by kernel_rfl
@[simp] theorem f61_res:Tryz.f74.results.toList=[.tmp 2]:=rfl
@[simp] theorem f61_isb:Tryz.f74.body.isNone=false:=rfl
/- F75 strings.Compare -/
@[simp] def f62_r0l:List Oper:=[⟨some 4,.assign (.const (.int .i64 0)),3,"compare.go:15",#[],none⟩]
def f62_r0o:Array Oper:=f62_r0l.toArray
@[simp] theorem f62_r0_l:f62_r0o.toList=f62_r0l:=rfl

@[simp] def f62_r1l:List Oper:=[⟨some 5,.move (.tmp 0),9,"compare.go:16",#[],none⟩,
 ⟨some 6,.move (.tmp 1),9,"compare.go:16",#[],none⟩,
 ⟨some 7,.call ⟨.value (.func 87),#[.tmp 5,.tmp 6],#[9,9]⟩,3,"compare.go:16",(gE [0,8]),none⟩,
 ⟨some 4,.assign (.tmp 7),3,"compare.go:16",(gE [16,17,3,11,19]),none⟩]
def f62_r1o:Array Oper:=f62_r1l.toArray
@[simp] theorem f62_r1_l:f62_r1o.toList=f62_r1l:=rfl

def f62_ac:AC :=
 (.seq (.reg 0 f62_r0o [0,1]) (.seq (.reg 1 f62_r1o [4]) .ret))
theorem f62_eq:Tryz.f75.body=some f62_ac.code:=by kernel_rfl
@[simp] theorem f62_nt:Tryz.f75.ntmps=8:=rfl
theorem f62_fits:f62_ac.fits Tryz.f75.ntmps=true:=by kernel_rfl
@[simp] theorem f62_res:Tryz.f75.results.toList=[.tmp 4]:=rfl
@[simp] theorem f62_isb:Tryz.f75.body.isNone=false:=rfl
/- F76 cmp.Compare[int] -/
@[simp] def f63_r0l:List Oper:=[⟨some 4,.assign (.const (.int .i64 0)),3,"cmp.go:40",#[],none⟩]
def f63_r0o:Array Oper:=f63_r0l.toArray
@[simp] theorem f63_r0_l:f63_r0o.toList=f63_r0l:=rfl

@[simp] def f63_r1l:List Oper:=[⟨some 7,.move (.tmp 0),3,"cmp.go:41",#[],none⟩,
 ⟨some 8,.call ⟨.value (.func 88),#[.tmp 7],#[3]⟩,4,"cmp.go:41",(gE [0]),none⟩,
 ⟨some 5,.assign (.tmp 8),4,"cmp.go:41",(gE [8,9,3,11]),none⟩]
def f63_r1o:Array Oper:=f63_r1l.toArray
@[simp] theorem f63_r1_l:f63_r1o.toList=f63_r1l:=rfl

@[simp] def f63_r2l:List Oper:=[⟨some 9,.move (.tmp 1),3,"cmp.go:42",#[],none⟩,
 ⟨some 10,.call ⟨.value (.func 88),#[.tmp 9],#[3]⟩,4,"cmp.go:42",(gE [0]),none⟩,
 ⟨some 6,.assign (.tmp 10),4,"cmp.go:42",(gE [8,9,3,11]),none⟩]
def f63_r2o:Array Oper:=f63_r2l.toArray
@[simp] theorem f63_r2_l:f63_r2o.toList=f63_r2l:=rfl

@[simp] def f63_r3l:List Oper:=[⟨some 11,.move (.tmp 5),4,"cmp.go:43",#[],none⟩]
def f63_r3o:Array Oper:=f63_r3l.toArray
@[simp] theorem f63_r3_l:f63_r3o.toList=f63_r3l:=rfl

@[simp] def f63_r4l:List Oper:=[⟨some 12,.move (.tmp 6),4,"cmp.go:44",#[],none⟩]
def f63_r4o:Array Oper:=f63_r4l.toArray
@[simp] theorem f63_r4_l:f63_r4o.toList=f63_r4l:=rfl

@[simp] def f63_r5l:List Oper:=[⟨some 4,.assign (.const (.int .i64 0)),3,"cmp.go:45",#[],none⟩]
def f63_r5o:Array Oper:=f63_r5l.toArray
@[simp] theorem f63_r5_l:f63_r5o.toList=f63_r5l:=rfl

@[simp] def f63_r6l:List Oper:=[⟨some 4,.assign (.const (.int .i64 (-1))),3,"cmp.go:47",#[],none⟩]
def f63_r6o:Array Oper:=f63_r6l.toArray
@[simp] theorem f63_r6_l:f63_r6o.toList=f63_r6l:=rfl

@[simp] def f63_r7l:List Oper:=[⟨some 13,.move (.tmp 6),4,"cmp.go:49",#[],none⟩]
def f63_r7o:Array Oper:=f63_r7l.toArray
@[simp] theorem f63_r7_l:f63_r7o.toList=f63_r7l:=rfl

@[simp] def f63_r8l:List Oper:=[⟨some 4,.assign (.const (.int .i64 1)),3,"cmp.go:50",#[],none⟩]
def f63_r8o:Array Oper:=f63_r8l.toArray
@[simp] theorem f63_r8_l:f63_r8o.toList=f63_r8l:=rfl

@[simp] def f63_r9l:List Oper:=[⟨some 14,.move (.tmp 0),3,"cmp.go:52",#[],none⟩,
 ⟨some 15,.move (.tmp 1),3,"cmp.go:52",#[],none⟩,
 ⟨some 16,.binOp .lss 3 (.tmp 14) (.tmp 15) 3,4,"cmp.go:52",(gE [0,8]),none⟩]
def f63_r9o:Array Oper:=f63_r9l.toArray
@[simp] theorem f63_r9_l:f63_r9o.toList=f63_r9l:=rfl

@[simp] def f63_r10l:List Oper:=[⟨some 4,.assign (.const (.int .i64 (-1))),3,"cmp.go:53",#[],none⟩]
def f63_r10o:Array Oper:=f63_r10l.toArray
@[simp] theorem f63_r10_l:f63_r10o.toList=f63_r10l:=rfl

@[simp] def f63_r11l:List Oper:=[⟨some 17,.move (.tmp 0),3,"cmp.go:55",#[],none⟩,
 ⟨some 18,.move (.tmp 1),3,"cmp.go:55",#[],none⟩,
 ⟨some 19,.binOp .gtr 3 (.tmp 17) (.tmp 18) 3,4,"cmp.go:55",(gE [0,8]),none⟩]
def f63_r11o:Array Oper:=f63_r11l.toArray
@[simp] theorem f63_r11_l:f63_r11o.toList=f63_r11l:=rfl

@[simp] def f63_r12l:List Oper:=[⟨some 4,.assign (.const (.int .i64 1)),3,"cmp.go:56",#[],none⟩]
def f63_r12o:Array Oper:=f63_r12l.toArray
@[simp] theorem f63_r12_l:f63_r12o.toList=f63_r12l:=rfl

@[simp] def f63_r13l:List Oper:=[⟨some 4,.assign (.const (.int .i64 0)),3,"cmp.go:58",#[],none⟩]
def f63_r13o:Array Oper:=f63_r13l.toArray
@[simp] theorem f63_r13_l:f63_r13o.toList=f63_r13l:=rfl

def f63_ac:AC :=
 (.seq (.reg 0 f63_r0o [0,1]) (.seq (.reg 1 f63_r1o [0,1,5]) (.seq (.reg 2 f63_r2o [0,1,5,6]) (.seq (.seq (.reg 3 f63_r3o [0,1,6,11]) (.cond (.tmp 11) (.seq (.seq (.reg 4 f63_r4o [12]) (.cond (.tmp 12) (.seq (.reg 5 f63_r5o [4]) .ret) .skip)) (.seq (.reg 6 f63_r6o [4]) .ret)) .skip)) (.seq (.seq (.reg 7 f63_r7o [0,1,13]) (.cond (.tmp 13) (.seq (.reg 8 f63_r8o [4]) .ret) .skip)) (.seq (.seq (.reg 9 f63_r9o [0,1,16]) (.cond (.tmp 16) (.seq (.reg 10 f63_r10o [4]) .ret) .skip)) (.seq (.seq (.reg 11 f63_r11o [19]) (.cond (.tmp 19) (.seq (.reg 12 f63_r12o [4]) .ret) .skip)) (.seq (.reg 13 f63_r13o [4]) .ret))))))))
theorem f63_eq:Tryz.f76.body=some f63_ac.code:=by kernel_rfl
@[simp] theorem f63_nt:Tryz.f76.ntmps=20:=rfl
theorem f63_fits:f63_ac.fits Tryz.f76.ntmps=true:=by kernel_rfl
@[simp] theorem f63_res:Tryz.f76.results.toList=[.tmp 4]:=rfl
@[simp] theorem f63_isb:Tryz.f76.body.isNone=false:=rfl
/- F80 cinnabar/cinnabarref16.before -/
@[simp] def f64_r0l:List Oper:=[⟨some 2,.box 39 (.tmp 0),0,"ref.go:64",#[],none⟩,
 ⟨some 3,.box 39 (.tmp 1),0,"ref.go:64",#[],none⟩,
 ⟨some 4,.assign (.const (.bool false)),4,"ref.go:64",#[],none⟩]
def f64_r0o:Array Oper:=f64_r0l.toArray
@[simp] theorem f64_r0_l:f64_r0o.toList=f64_r0l:=rfl

@[simp] def f64_r1l:List Oper:=[⟨some 5,.fieldAddr 39 (.tmp 2) 0,0,"ref.go:65",#[],none⟩,
 ⟨some 6,.load 9 (.tmp 5),9,"ref.go:65",(gE [0]),none⟩,
 ⟨some 7,.fieldAddr 39 (.tmp 3) 0,0,"ref.go:65",#[],none⟩,
 ⟨some 8,.load 9 (.tmp 7),9,"ref.go:65",(gE [16]),none⟩,
 ⟨some 9,.binOp .lss 9 (.tmp 6) (.tmp 8) 9,4,"ref.go:65",(gE [8,24]),none⟩,
 ⟨some 10,.move (.tmp 9),4,"ref.go:65",(gE [32]),none⟩,
 ⟨some 11,.fieldAddr 39 (.tmp 2) 0,0,"ref.go:65",(gE [42]),some (5,false)⟩,
 ⟨some 12,.load 9 (.tmp 11),9,"ref.go:65",(gE [48,42]),some (5,false)⟩,
 ⟨some 13,.fieldAddr 39 (.tmp 3) 0,0,"ref.go:65",(gE [42]),some (5,false)⟩,
 ⟨some 14,.load 9 (.tmp 13),9,"ref.go:65",(gE [64,42]),some (5,false)⟩,
 ⟨some 15,.binOp .eql 9 (.tmp 12) (.tmp 14) 9,4,"ref.go:65",(gE [56,72,42]),some (5,false)⟩,
 ⟨some 16,.move (.tmp 15),4,"ref.go:65",(gE [80,41,42]),some (5,false)⟩,
 ⟨some 17,.fieldAddr 39 (.tmp 2) 1,0,"ref.go:65",(gE [90]),some (11,true)⟩,
 ⟨some 18,.load 37 (.tmp 17),37,"ref.go:65",(gE [96,90]),some (11,true)⟩,
 ⟨some 19,.call ⟨.builtin .len,#[.tmp 18],#[37]⟩,3,"ref.go:65",(gE [104,90]),some (11,true)⟩,
 ⟨some 20,.fieldAddr 39 (.tmp 3) 1,0,"ref.go:65",(gE [90]),some (11,true)⟩,
 ⟨some 21,.load 37 (.tmp 20),37,"ref.go:65",(gE [120,90]),some (11,true)⟩,
 ⟨some 22,.call ⟨.builtin .len,#[.tmp 21],#[37]⟩,3,"ref.go:65",(gE [128,90]),some (11,true)⟩,
 ⟨some 23,.binOp .lss 3 (.tmp 19) (.tmp 22) 3,4,"ref.go:65",(gE [112,136,90]),some (11,true)⟩,
 ⟨some 24,.pick (.tmp 16) (.tmp 23) (.const (.bool false)),4,"ref.go:65",(gE [88,144,42]),some (5,false)⟩,
 ⟨some 25,.pick (.tmp 10) (.const (.bool true)) (.tmp 24),4,"ref.go:65",(gE [40,152]),none⟩,
 ⟨some 4,.assign (.tmp 25),4,"ref.go:65",(gE [160,89,3,11,19,27,35,43,51,59,67,75,83,91,99,107,115,123,131,139,147,155,163]),none⟩]
def f64_r1o:Array Oper:=f64_r1l.toArray
@[simp] theorem f64_r1_l:f64_r1o.toList=f64_r1l:=rfl

@[simp] theorem f64_r1_g5:zL f64_r1o 5=some 10:=rfl
@[simp] theorem f64_r1_g11:zL f64_r1o 11=some 16:=rfl
def f64_ac:AC :=
 (.seq (.reg 0 f64_r0o [2,3,11,12,13,14,15,16,17,18,19,20,21,22,23,24]) (.seq (.reg 1 f64_r1o [4]) .ret))
theorem f64_eq:Tryz.f80.body=some f64_ac.code:=by kernel_rfl
@[simp] theorem f64_nt:Tryz.f80.ntmps=26:=rfl
theorem f64_fits:f64_ac.fits Tryz.f80.ntmps=true:=by kernel_rfl
@[simp] theorem f64_res:Tryz.f80.results.toList=[.tmp 4]:=rfl
@[simp] theorem f64_isb:Tryz.f80.body.isNone=false:=rfl
/- F87 internal/bytealg.CompareString -/
@[simp] def f71_r0l:List Oper:=[⟨some 4,.assign (.const (.int .i64 0)),3,"compare_native.go:14",#[],none⟩]
def f71_r0o:Array Oper:=f71_r0l.toArray
@[simp] theorem f71_r0_l:f71_r0o.toList=f71_r0l:=rfl

@[simp] def f71_r1l:List Oper:=[⟨some 5,.move (.tmp 0),9,"compare_native.go:15",#[],none⟩,
 ⟨some 6,.move (.tmp 1),9,"compare_native.go:15",#[],none⟩,
 ⟨some 7,.call ⟨.value (.func 92),#[.tmp 5,.tmp 6],#[9,9]⟩,3,"compare_native.go:15",(gE [0,8]),none⟩,
 ⟨some 4,.assign (.tmp 7),3,"compare_native.go:15",(gE [16,17,3,11,19]),none⟩]
def f71_r1o:Array Oper:=f71_r1l.toArray
@[simp] theorem f71_r1_l:f71_r1o.toList=f71_r1l:=rfl

def f71_ac:AC :=
 (.seq (.reg 0 f71_r0o [0,1]) (.seq (.reg 1 f71_r1o [4]) .ret))
theorem f71_eq:Tryz.f87.body=some f71_ac.code:=by kernel_rfl
@[simp] theorem f71_nt:Tryz.f87.ntmps=8:=rfl
theorem f71_fits:f71_ac.fits Tryz.f87.ntmps=true:=by kernel_rfl
@[simp] theorem f71_res:Tryz.f87.results.toList=[.tmp 4]:=rfl
@[simp] theorem f71_isb:Tryz.f87.body.isNone=false:=rfl
/- F88 cmp.isNaN[int] -/
@[simp] def f72_r0l:List Oper:=[⟨some 2,.assign (.const (.bool false)),4,"cmp.go:63",#[],none⟩]
def f72_r0o:Array Oper:=f72_r0l.toArray
@[simp] theorem f72_r0_l:f72_r0o.toList=f72_r0l:=rfl

@[simp] def f72_r1l:List Oper:=[⟨some 3,.move (.tmp 0),3,"cmp.go:64",#[],none⟩,
 ⟨some 4,.move (.tmp 0),3,"cmp.go:64",#[],none⟩,
 ⟨some 5,.binOp .neq 3 (.tmp 3) (.tmp 4) 3,4,"cmp.go:64",(gE [0,8]),none⟩,
 ⟨some 2,.assign (.tmp 5),4,"cmp.go:64",(gE [16,3,11,19]),none⟩]
def f72_r1o:Array Oper:=f72_r1l.toArray
@[simp] theorem f72_r1_l:f72_r1o.toList=f72_r1l:=rfl

def f72_ac:AC :=
 (.seq (.reg 0 f72_r0o [0]) (.seq (.reg 1 f72_r1o [2]) .ret))
theorem f72_eq:Tryz.f88.body=some f72_ac.code:=by kernel_rfl
@[simp] theorem f72_nt:Tryz.f88.ntmps=6:=rfl
theorem f72_fits:f72_ac.fits Tryz.f88.ntmps=true:=by kernel_rfl
@[simp] theorem f72_res:Tryz.f88.results.toList=[.tmp 2]:=rfl
@[simp] theorem f72_isb:Tryz.f88.body.isNone=false:=rfl
/- F39 cinnabar/insts.greatest -/
@[simp] def f30_r0l:List Oper:=[⟨some 6,.assign (.const (.bool false)),4,"insts.go:144",#[],none⟩]
def f30_r0o:Array Oper:=f30_r0l.toArray
@[simp] theorem f30_r0_l:f30_r0o.toList=f30_r0l:=rfl

@[simp] def f30_r1l:List Oper:=[⟨some 13,.makeMap 109 none,109,"insts.go:145",#[],none⟩,
 ⟨some 14,.move (.tmp 0),3,"insts.go:145",#[],none⟩,
 ⟨some 15,.move (.tmp 1),3,"insts.go:145",#[],none⟩,
 ⟨some 16,.build 108 #[(0,.tmp 14),(1,.tmp 15)],108,"insts.go:145",(gE [8,16]),none⟩,
 ⟨none,.insert 109 (.tmp 13) (.tmp 16) (.const (.bool true)),0,"insts.go:145",(gE [0,24]),none⟩,
 ⟨some 17,.move (.tmp 13),109,"insts.go:145",(gE [0,8,16,24,32]),none⟩,
 ⟨some 7,.assign (.tmp 17),109,"insts.go:145",(gE [40,3,11,19,27,35,43]),none⟩]
def f30_r1o:Array Oper:=f30_r1l.toArray
@[simp] theorem f30_r1_l:f30_r1o.toList=f30_r1l:=rfl

@[simp] def f30_r2l:List Oper:=[⟨some 18,.move (.tmp 0),3,"insts.go:146",#[],none⟩,
 ⟨some 19,.move (.tmp 1),3,"insts.go:146",#[],none⟩,
 ⟨some 20,.build 108 #[(0,.tmp 18),(1,.tmp 19)],108,"insts.go:146",(gE [0,8]),none⟩,
 ⟨some 21,.buildSlice 110 1 #[(0,.tmp 20)],110,"insts.go:146",(gE [16]),none⟩,
 ⟨some 8,.assign (.tmp 21),110,"insts.go:146",(gE [24,3,11,19,27]),none⟩]
def f30_r2o:Array Oper:=f30_r2l.toArray
@[simp] theorem f30_r2_l:f30_r2o.toList=f30_r2l:=rfl

@[simp] def f30_r3l:List Oper:=[⟨some 22,.move (.tmp 8),110,"insts.go:147",#[],none⟩,
 ⟨some 23,.call ⟨.builtin .len,#[.tmp 22],#[110]⟩,3,"insts.go:147",(gE [0]),none⟩,
 ⟨some 24,.binOp .gtr 3 (.tmp 23) (.const (.int .i64 0)) 3,4,"insts.go:147",(gE [8]),none⟩]
def f30_r3o:Array Oper:=f30_r3l.toArray
@[simp] theorem f30_r3_l:f30_r3o.toList=f30_r3l:=rfl

@[simp] def f30_r4l:List Oper:=[⟨some 26,.move (.tmp 2),74,"insts.go:148",#[],none⟩,
 ⟨some 27,.move (.tmp 8),110,"insts.go:148",#[],none⟩,
 ⟨some 28,.indexAddr 110 (.tmp 27) (.const (.int .i64 0)),0,"insts.go:148",(gE [8]),none⟩,
 ⟨some 29,.load 108 (.tmp 28),108,"insts.go:148",(gE [16]),none⟩,
 ⟨some 30,.call ⟨.value (.tmp 26),#[.tmp 29],#[108]⟩,111,"insts.go:148",(gE [0,24]),none⟩,
 ⟨some 25,.move (.tmp 30),111,"insts.go:148",(gE [32]),none⟩,
 ⟨some 31,.extract (.tmp 25) 0,110,"insts.go:148",(gE [40]),none⟩,
 ⟨some 32,.extract (.tmp 25) 1,4,"insts.go:148",(gE [40,68]),none⟩,
 ⟨some 9,.assign (.tmp 31),110,"insts.go:148",(gE [48,33,3,11,19,27,35,43,51,61]),none⟩,
 ⟨some 10,.assign (.tmp 32),4,"insts.go:148",(gE [56,65,3,11,19,27,35,43,51,59,67]),none⟩]
def f30_r4o:Array Oper:=f30_r4l.toArray
@[simp] theorem f30_r4_l:f30_r4o.toList=f30_r4l:=rfl

@[simp] def f30_r5l:List Oper:=[⟨some 33,.move (.tmp 8),110,"insts.go:149",#[],none⟩,
 ⟨some 34,.slice 110 (.tmp 33) (some (.const (.int .i64 1))) none none,110,"insts.go:149",(gE [0]),none⟩,
 ⟨some 8,.assign (.tmp 34),110,"insts.go:149",(gE [8,3,11]),none⟩]
def f30_r5o:Array Oper:=f30_r5l.toArray
@[simp] theorem f30_r5_l:f30_r5o.toList=f30_r5l:=rfl

@[simp] def f30_r6l:List Oper:=[⟨some 35,.move (.tmp 10),4,"insts.go:150",#[],none⟩,
 ⟨some 36,.unOp .not 4 (.tmp 35),4,"insts.go:150",(gE [0]),none⟩]
def f30_r6o:Array Oper:=f30_r6l.toArray
@[simp] theorem f30_r6_l:f30_r6o.toList=f30_r6l:=rfl

@[simp] def f30_r7l:List Oper:=[⟨some 6,.assign (.const (.bool false)),4,"insts.go:151",#[],none⟩]
def f30_r7o:Array Oper:=f30_r7l.toArray
@[simp] theorem f30_r7_l:f30_r7o.toList=f30_r7l:=rfl

@[simp] def f30_r8l:List Oper:=[⟨some 37,.move (.tmp 9),110,"insts.go:153",#[],none⟩,
 ⟨some 38,.call ⟨.builtin .len,#[.tmp 37],#[110]⟩,3,"insts.go:153",(gE [0]),none⟩,
 ⟨some 39,.move (.const (.int .i64 0)),3,"insts.go:153",#[],none⟩]
def f30_r8o:Array Oper:=f30_r8l.toArray
@[simp] theorem f30_r8_l:f30_r8o.toList=f30_r8l:=rfl

@[simp] def f30_r9l:List Oper:=[⟨some 40,.binOp .lss 3 (.tmp 39) (.tmp 38) 3,0,"insts.go:153",#[],none⟩]
def f30_r9o:Array Oper:=f30_r9l.toArray
@[simp] theorem f30_r9_l:f30_r9o.toList=f30_r9l:=rfl

@[simp] def f30_r10l:List Oper:=[⟨some 41,.indexAddr 110 (.tmp 37) (.tmp 39),0,"insts.go:153",#[],none⟩,
 ⟨some 42,.load 108 (.tmp 41),108,"insts.go:153",(gE [0]),none⟩,
 ⟨some 12,.alloc 108,0,"insts.go:153",#[],none⟩,
 ⟨none,.store 108 (.tmp 12) (.tmp 42),0,"insts.go:153",(gE [16,8,3,11,19]),none⟩]
def f30_r10o:Array Oper:=f30_r10l.toArray
@[simp] theorem f30_r10_l:f30_r10o.toList=f30_r10l:=rfl

@[simp] def f30_r11l:List Oper:=[⟨some 43,.move (.tmp 7),109,"insts.go:154",#[],none⟩,
 ⟨some 44,.load 108 (.tmp 12),108,"insts.go:154",#[],none⟩,
 ⟨some 45,.lookup 109 (.tmp 43) (.tmp 44) false,4,"insts.go:154",(gE [0,8]),none⟩,
 ⟨some 46,.unOp .not 4 (.tmp 45),4,"insts.go:154",(gE [16]),none⟩]
def f30_r11o:Array Oper:=f30_r11l.toArray
@[simp] theorem f30_r11_l:f30_r11o.toList=f30_r11l:=rfl

@[simp] def f30_r12l:List Oper:=[⟨some 47,.move (.tmp 7),109,"insts.go:155",#[],none⟩,
 ⟨some 48,.load 108 (.tmp 12),108,"insts.go:155",#[],none⟩,
 ⟨none,.mapUpdate 109 (.tmp 47) (.tmp 48) (.const (.bool true)),0,"insts.go:155",(gE [0,8,3,11]),none⟩]
def f30_r12o:Array Oper:=f30_r12l.toArray
@[simp] theorem f30_r12_l:f30_r12o.toList=f30_r12l:=rfl

@[simp] def f30_r13l:List Oper:=[⟨some 49,.move (.tmp 8),110,"insts.go:156",#[],none⟩,
 ⟨some 50,.load 108 (.tmp 12),108,"insts.go:156",#[],none⟩,
 ⟨some 51,.buildSlice 110 1 #[(0,.tmp 50)],110,"insts.go:156",(gE [8]),none⟩,
 ⟨some 52,.call ⟨.builtin .append,#[.tmp 49,.tmp 51],#[110,110]⟩,110,"insts.go:156",(gE [0,16]),none⟩,
 ⟨some 8,.assign (.tmp 52),110,"insts.go:156",(gE [24,25,3,11,19,27]),none⟩]
def f30_r13o:Array Oper:=f30_r13l.toArray
@[simp] theorem f30_r13_l:f30_r13o.toList=f30_r13l:=rfl

@[simp] def f30_r14l:List Oper:=[⟨some 53,.binOp .add 3 (.tmp 39) (.const (.int .i64 1)) 3,3,"insts.go:153",#[],none⟩,
 ⟨some 39,.move (.tmp 53),3,"insts.go:153",(gE [0]),none⟩]
def f30_r14o:Array Oper:=f30_r14l.toArray
@[simp] theorem f30_r14_l:f30_r14o.toList=f30_r14l:=rfl

def f30_l0:AC :=
 (.seq (.reg 9 f30_r9o [2,7,8,37,38,39,40]) (.seq (.cond (.tmp 40) .skip (.exit 2)) (.seq (.block 3 (.seq (.reg 10 f30_r10o [2,7,8,12,37,38,39]) (.seq (.reg 11 f30_r11o [2,7,8,12,37,38,39,46]) (.cond (.tmp 46) (.seq (.reg 12 f30_r12o [2,7,8,12,37,38,39]) (.reg 13 f30_r13o [2,7,8,37,38,39])) .skip)))) (.reg 14 f30_r14o [2,7,8,37,38,39]))))
theorem f30_l0_fits:f30_l0.fits 54=true:=by kernel_rfl
def f30_l1:AC :=
 (.seq (.seq (.reg 3 f30_r3o [2,7,8,24]) (.cond (.tmp 24) .skip (.exit 0))) (.block 1 (.seq (.reg 4 f30_r4o [2,7,8,9,10]) (.seq (.reg 5 f30_r5o [2,7,8,9,10]) (.seq (.seq (.reg 6 f30_r6o [2,7,8,9,36]) (.cond (.tmp 36) (.seq (.reg 7 f30_r7o [6]) .ret) .skip)) (.seq (.reg 8 f30_r8o [2,7,8,37,38,39]) (.block 2 (.loop f30_l0))))))))
theorem f30_l1_fits:f30_l1.fits 54=true:=by kernel_rfl
@[simp] def f30_r15l:List Oper:=[⟨some 6,.assign (.const (.bool true)),4,"insts.go:160",#[],none⟩]
def f30_r15o:Array Oper:=f30_r15l.toArray
@[simp] theorem f30_r15_l:f30_r15o.toList=f30_r15l:=rfl

def f30_ac:AC :=
 (.seq (.reg 0 f30_r0o [0,1,2]) (.seq (.reg 1 f30_r1o [0,1,2,7]) (.seq (.reg 2 f30_r2o [2,7,8]) (.seq (.block 0 (.loop f30_l1)) (.seq (.reg 15 f30_r15o [6]) .ret)))))
theorem f30_eq:Tryz.f39.body=some f30_ac.code:=by kernel_rfl
@[simp] theorem f30_nt:Tryz.f39.ntmps=54:=rfl
theorem f30_fits:f30_ac.fits Tryz.f39.ntmps=true:=by kernel_rfl
@[simp] theorem f30_res:Tryz.f39.results.toList=[.tmp 6]:=rfl
@[simp] theorem f30_isb:Tryz.f39.body.isNone=false:=rfl
/- F79 cinnabar/insts.zip -/
@[simp] def f69_r0l:List Oper:=[⟨some 4,.assign (.const (.slice none 0 0)),110,"insts.go:164",#[],none⟩]
def f69_r0o:Array Oper:=f69_r0l.toArray
@[simp] theorem f69_r0_l:f69_r0o.toList=f69_r0l:=rfl

@[simp] def f69_r1l:List Oper:=[⟨some 5,.assign (.const (.slice none 0 0)),110,"insts.go:165",#[],none⟩]
def f69_r1o:Array Oper:=f69_r1l.toArray
@[simp] theorem f69_r1_l:f69_r1o.toList=f69_r1l:=rfl

@[simp] def f69_r2l:List Oper:=[⟨some 7,.move (.tmp 0),37,"insts.go:166",#[],none⟩,
 ⟨some 8,.call ⟨.builtin .len,#[.tmp 7],#[37]⟩,3,"insts.go:166",(gE [0]),none⟩,
 ⟨some 9,.move (.const (.int .i64 0)),3,"insts.go:166",#[],none⟩]
def f69_r2o:Array Oper:=f69_r2l.toArray
@[simp] theorem f69_r2_l:f69_r2o.toList=f69_r2l:=rfl

@[simp] def f69_r3l:List Oper:=[⟨some 10,.binOp .lss 3 (.tmp 9) (.tmp 8) 3,0,"insts.go:166",#[],none⟩]
def f69_r3o:Array Oper:=f69_r3l.toArray
@[simp] theorem f69_r3_l:f69_r3o.toList=f69_r3l:=rfl

@[simp] def f69_r4l:List Oper:=[⟨some 11,.move (.tmp 9),3,"insts.go:166",#[],none⟩,
 ⟨some 6,.assign (.tmp 11),3,"insts.go:166",(gE [0,3]),none⟩]
def f69_r4o:Array Oper:=f69_r4l.toArray
@[simp] theorem f69_r4_l:f69_r4o.toList=f69_r4l:=rfl

@[simp] def f69_r5l:List Oper:=[⟨some 12,.move (.tmp 5),110,"insts.go:167",#[],none⟩,
 ⟨some 13,.move (.tmp 0),37,"insts.go:167",#[],none⟩,
 ⟨some 14,.move (.tmp 6),3,"insts.go:167",#[],none⟩,
 ⟨some 15,.indexAddr 37 (.tmp 13) (.tmp 14),0,"insts.go:167",(gE [8,16]),none⟩,
 ⟨some 16,.load 3 (.tmp 15),3,"insts.go:167",(gE [24]),none⟩,
 ⟨some 17,.move (.tmp 1),37,"insts.go:167",#[],none⟩,
 ⟨some 18,.move (.tmp 6),3,"insts.go:167",#[],none⟩,
 ⟨some 19,.indexAddr 37 (.tmp 17) (.tmp 18),0,"insts.go:167",(gE [40,48]),none⟩,
 ⟨some 20,.load 3 (.tmp 19),3,"insts.go:167",(gE [56]),none⟩,
 ⟨some 21,.build 108 #[(0,.tmp 16),(1,.tmp 20)],108,"insts.go:167",(gE [32,64]),none⟩,
 ⟨some 22,.buildSlice 110 1 #[(0,.tmp 21)],110,"insts.go:167",(gE [72]),none⟩,
 ⟨some 23,.call ⟨.builtin .append,#[.tmp 12,.tmp 22],#[110,110]⟩,110,"insts.go:167",(gE [0,80]),none⟩,
 ⟨some 5,.assign (.tmp 23),110,"insts.go:167",(gE [88,89,3,11,19,27,35,43,51,59,67,75,83,91]),none⟩]
def f69_r5o:Array Oper:=f69_r5l.toArray
@[simp] theorem f69_r5_l:f69_r5o.toList=f69_r5l:=rfl

@[simp] theorem f69_r5_n:f69_r5o.size=13:=rfl
@[simp] def f69_r6l:List Oper:=[⟨some 24,.binOp .add 3 (.tmp 9) (.const (.int .i64 1)) 3,3,"insts.go:166",#[],none⟩,
 ⟨some 9,.move (.tmp 24),3,"insts.go:166",(gE [0]),none⟩]
def f69_r6o:Array Oper:=f69_r6l.toArray
@[simp] theorem f69_r6_l:f69_r6o.toList=f69_r6l:=rfl

def f69_l0:AC :=
 (.seq (.reg 3 f69_r3o [0,1,5,8,9,10]) (.seq (.cond (.tmp 10) .skip (.exit 0)) (.seq (.block 1 (.seq (.reg 4 f69_r4o [0,1,5,6,8,9]) (.draw 5 f69_r5o [0,1,5,8,9]))) (.reg 6 f69_r6o [0,1,5,8,9]))))
theorem f69_l0_fits:f69_l0.fits 26=true:=by kernel_rfl
@[simp] def f69_r7l:List Oper:=[⟨some 25,.move (.tmp 5),110,"insts.go:169",#[],none⟩,
 ⟨some 4,.assign (.tmp 25),110,"insts.go:169",(gE [0,3]),none⟩]
def f69_r7o:Array Oper:=f69_r7l.toArray
@[simp] theorem f69_r7_l:f69_r7o.toList=f69_r7l:=rfl

def f69_ac:AC :=
 (.seq (.reg 0 f69_r0o [0,1]) (.seq (.reg 1 f69_r1o [0,1,5]) (.seq (.seq (.reg 2 f69_r2o [0,1,5,8,9]) (.block 0 (.loop f69_l0))) (.seq (.reg 7 f69_r7o [4]) .ret))))
theorem f69_eq:Tryz.f79.body=some f69_ac.code:=by kernel_rfl
@[simp] theorem f69_nt:Tryz.f79.ntmps=26:=rfl
theorem f69_fits:f69_ac.fits Tryz.f79.ntmps=true:=by kernel_rfl
@[simp] theorem f69_res:Tryz.f79.results.toList=[.tmp 4]:=rfl
@[simp] theorem f69_isb:Tryz.f79.body.isNone=false:=rfl
@[simp] theorem f69_r5_s:zD zB f69_r5o=true:=by kernel_rfl
@[simp] theorem f69_r5_d:yg zB f69_r5o=true:=by kernel_rfl
@[simp] theorem f69_r5_t11:zV zB f69_r5o 11=true:=by kernel_rfl
/- F3 cinnabar/cinnabarlaw16.InstsPuts -/
@[simp] def f200_r0l:List Oper:=[⟨some 3,.box 26 (.tmp 1),0,"law.go:108",#[],none⟩,
 ⟨some 4,.assign (.const (.bool false)),4,"law.go:108",#[],none⟩]
def f200_r0o:Array Oper:=f200_r0l.toArray
@[simp] theorem f200_r0_l:f200_r0o.toList=f200_r0l:=rfl

@[simp] def f200_r1l:List Oper:=[⟨some 11,.move (.tmp 0),22,"law.go:109",#[],none⟩,
 ⟨some 12,.call ⟨.value (.func 4),#[.tmp 11],#[22]⟩,4,"law.go:109",(gE [0]),none⟩,
 ⟨some 13,.unOp .not 4 (.tmp 12),4,"law.go:109",(gE [8]),none⟩,
 ⟨some 14,.move (.tmp 13),4,"law.go:109",(gE [16,9]),none⟩,
 ⟨some 15,.load 26 (.tmp 3),26,"law.go:109",(gE [26]),some (3,false)⟩,
 ⟨some 16,.call ⟨.value (.func 5),#[.tmp 15],#[26]⟩,4,"law.go:109",(gE [32,25,26]),some (3,false)⟩,
 ⟨some 17,.unOp .not 4 (.tmp 16),4,"law.go:109",(gE [40,26]),some (3,false)⟩,
 ⟨some 18,.pick (.tmp 14) (.const (.bool true)) (.tmp 17),4,"law.go:109",(gE [24,48]),none⟩]
def f200_r1o:Array Oper:=f200_r1l.toArray
@[simp] theorem f200_r1_l:f200_r1o.toList=f200_r1l:=rfl

@[simp] theorem f200_r1_g3:zL f200_r1o 3=some 14:=rfl
@[simp] def f200_r2l:List Oper:=[⟨some 19,.call ⟨.value (.func 6),#[],#[]⟩,4,"law.go:110",#[],none⟩,
 ⟨some 4,.assign (.tmp 19),4,"law.go:110",(gE [0,1,3]),none⟩]
def f200_r2o:Array Oper:=f200_r2l.toArray
@[simp] theorem f200_r2_l:f200_r2o.toList=f200_r2l:=rfl

@[simp] def f200_r3l:List Oper:=[⟨some 21,.move (.tmp 0),22,"law.go:112",#[],none⟩,
 ⟨some 22,.load 26 (.tmp 3),26,"law.go:112",#[],none⟩,
 ⟨some 23,.call ⟨.value (.func 7),#[.tmp 21,.tmp 22],#[22,26]⟩,31,"law.go:112",(gE [0,8]),none⟩,
 ⟨some 20,.move (.tmp 23),31,"law.go:112",(gE [16]),none⟩,
 ⟨some 24,.extract (.tmp 20) 0,22,"law.go:112",(gE [24]),none⟩,
 ⟨some 25,.extract (.tmp 20) 1,3,"law.go:112",(gE [24,60]),none⟩,
 ⟨some 26,.extract (.tmp 20) 2,30,"law.go:112",(gE [24,68]),none⟩,
 ⟨some 5,.assign (.tmp 24),22,"law.go:112",(gE [32,17,3,11,19,27,35,45,53]),none⟩,
 ⟨some 6,.assign (.tmp 25),3,"law.go:112",(gE [40,57,3,11,19,27,35,43,53,59]),none⟩,
 ⟨some 7,.assign (.tmp 26),30,"law.go:112",(gE [48,65,3,11,19,27,35,43,51,59,67]),none⟩]
def f200_r3o:Array Oper:=f200_r3l.toArray
@[simp] theorem f200_r3_l:f200_r3o.toList=f200_r3l:=rfl

@[simp] def f200_r4l:List Oper:=[⟨some 28,.move (.tmp 0),22,"law.go:113",#[],none⟩,
 ⟨some 29,.load 26 (.tmp 3),26,"law.go:113",#[],none⟩,
 ⟨some 30,.call ⟨.value (.func 8),#[.tmp 28,.tmp 29],#[22,26]⟩,31,"law.go:113",(gE [0,8]),none⟩,
 ⟨some 27,.move (.tmp 30),31,"law.go:113",(gE [16]),none⟩,
 ⟨some 31,.extract (.tmp 27) 0,22,"law.go:113",(gE [24]),none⟩,
 ⟨some 32,.extract (.tmp 27) 1,3,"law.go:113",(gE [24,60]),none⟩,
 ⟨some 33,.extract (.tmp 27) 2,30,"law.go:113",(gE [24,68]),none⟩,
 ⟨some 8,.assign (.tmp 31),22,"law.go:113",(gE [32,17,3,11,19,27,35,45,53]),none⟩,
 ⟨some 9,.assign (.tmp 32),3,"law.go:113",(gE [40,57,3,11,19,27,35,43,53,59]),none⟩,
 ⟨some 10,.assign (.tmp 33),30,"law.go:113",(gE [48,65,3,11,19,27,35,43,51,59,67]),none⟩]
def f200_r4o:Array Oper:=f200_r4l.toArray
@[simp] theorem f200_r4_l:f200_r4o.toList=f200_r4l:=rfl

@[simp] def f200_r5l:List Oper:=[⟨some 34,.call ⟨.value (.func 6),#[],#[]⟩,4,"law.go:114",#[],none⟩,
 ⟨some 35,.move (.tmp 34),4,"law.go:114",(gE [0,1]),none⟩,
 ⟨some 36,.move (.tmp 7),30,"law.go:114",(gE [10]),some (1,true)⟩,
 ⟨some 37,.move (.tmp 10),30,"law.go:114",(gE [10]),some (1,true)⟩,
 ⟨some 38,.binOp .eql 30 (.tmp 36) (.tmp 37) 30,4,"law.go:114",(gE [16,24,10]),some (1,true)⟩,
 ⟨some 39,.pick (.tmp 35) (.tmp 38) (.const (.bool false)),4,"law.go:114",(gE [8,32]),none⟩,
 ⟨some 40,.move (.tmp 39),4,"law.go:114",(gE [40,9]),none⟩,
 ⟨some 41,.move (.tmp 6),3,"law.go:114",(gE [50]),some (6,true)⟩,
 ⟨some 42,.move (.tmp 9),3,"law.go:114",(gE [50]),some (6,true)⟩,
 ⟨some 43,.binOp .eql 3 (.tmp 41) (.tmp 42) 3,4,"law.go:114",(gE [56,64,50]),some (6,true)⟩,
 ⟨some 44,.pick (.tmp 40) (.tmp 43) (.const (.bool false)),4,"law.go:114",(gE [48,72]),none⟩,
 ⟨some 45,.move (.tmp 44),4,"law.go:114",(gE [80,49]),none⟩,
 ⟨some 46,.move (.tmp 5),22,"law.go:114",(gE [90]),some (11,true)⟩,
 ⟨some 47,.move (.tmp 8),22,"law.go:114",(gE [90]),some (11,true)⟩,
 ⟨some 48,.call ⟨.value (.func 9),#[.tmp 46,.tmp 47],#[22,22]⟩,4,"law.go:114",(gE [96,104,89,90]),some (11,true)⟩,
 ⟨some 49,.pick (.tmp 45) (.tmp 48) (.const (.bool false)),4,"law.go:114",(gE [88,112]),none⟩,
 ⟨some 4,.assign (.tmp 49),4,"law.go:114",(gE [120,113,3,11,19,27,35,43,51,59,67,75,83,91,99,107,115,123]),none⟩]
def tK:Array Oper:=f200_r5l.toArray
@[simp] theorem f200_r5_l:tK.toList=f200_r5l:=rfl

@[simp] theorem f200_r5_g1:zL tK 1=some 35:=rfl
@[simp] theorem f200_r5_g6:zL tK 6=some 40:=rfl
@[simp] theorem f200_r5_g11:zL tK 11=some 45:=rfl
def f200_ac:AC :=
 (.seq (.reg 0 f200_r0o [0,3,15,16,17,36,37,38,41,42,43,46,47,48]) (.seq (.seq (.reg 1 f200_r1o [0,3,18,36,37,38,41,42,43,46,47,48]) (.cond (.tmp 18) (.seq (.reg 2 f200_r2o [4]) .ret) .skip)) (.seq (.reg 3 f200_r3o [0,3,5,6,7,36,37,38,41,42,43,46,47,48]) (.seq (.reg 4 f200_r4o [5,6,7,8,9,10,36,37,38,41,42,43,46,47,48]) (.seq (.reg 5 tK [4]) .ret)))))
theorem f200_eq:Tryz.f3.body=some f200_ac.code:=by kernel_rfl
@[simp] theorem f200_nt:Tryz.f3.ntmps=50:=rfl
theorem f200_fits:f200_ac.fits Tryz.f3.ntmps=true:=by kernel_rfl
@[simp] theorem f200_res:Tryz.f3.results.toList=[.tmp 4]:=rfl
@[simp] theorem f200_isb:Tryz.f3.body.isNone=false:=rfl
/- F7 cinnabar/insts.Put -/
@[simp] def f201_r0l:List Oper:=[⟨some 3,.box 26 (.tmp 1),0,"insts.go:760",#[],none⟩,
 ⟨some 4,.assign (.const (.slice none 0 0)),22,"insts.go:760",#[],none⟩,
 ⟨some 5,.assign (.const (.int .i64 0)),3,"insts.go:760",(gE [9]),none⟩,
 ⟨some 6,.assign (.const (.int .i64 0)),30,"insts.go:760",(gE [17]),none⟩]
def f201_r0o:Array Oper:=f201_r0l.toArray
@[simp] theorem f201_r0_l:f201_r0o.toList=f201_r0l:=rfl

@[simp] def f201_r1l:List Oper:=[⟨some 12,.move (.tmp 0),22,"insts.go:761",#[],none⟩,
 ⟨some 13,.call ⟨.value (.func 16),#[.tmp 12],#[22]⟩,30,"insts.go:761",(gE [0]),none⟩,
 ⟨some 7,.assign (.tmp 13),30,"insts.go:761",(gE [8,9,3,11]),none⟩]
def f201_r1o:Array Oper:=f201_r1l.toArray
@[simp] theorem f201_r1_l:f201_r1o.toList=f201_r1l:=rfl

@[simp] def f201_r2l:List Oper:=[⟨some 14,.move (.tmp 7),30,"insts.go:761",#[],none⟩,
 ⟨some 15,.binOp .neq 30 (.tmp 14) (.const (.int .i64 0)) 30,4,"insts.go:761",(gE [0]),none⟩]
def f201_r2o:Array Oper:=f201_r2l.toArray
@[simp] theorem f201_r2_l:f201_r2o.toList=f201_r2l:=rfl

@[simp] def f201_r3l:List Oper:=[⟨some 16,.move (.tmp 7),30,"insts.go:762",(gE [20]),none⟩,
 ⟨some 4,.assign (.const (.slice none 0 0)),22,"insts.go:762",(gE [5]),none⟩,
 ⟨some 5,.assign (.const (.int .i64 0)),3,"insts.go:762",(gE [9,5,11]),none⟩,
 ⟨some 6,.assign (.tmp 16),30,"insts.go:762",(gE [0,17,3,11,19]),none⟩]
def f201_r3o:Array Oper:=f201_r3l.toArray
@[simp] theorem f201_r3_l:f201_r3o.toList=f201_r3l:=rfl

@[simp] def f201_r4l:List Oper:=[⟨some 17,.move (.tmp 0),22,"insts.go:764",#[],none⟩,
 ⟨some 18,.call ⟨.value (.func 17),#[.tmp 17],#[22]⟩,22,"insts.go:764",(gE [0]),none⟩,
 ⟨some 19,.load 26 (.tmp 3),26,"insts.go:764",#[],none⟩,
 ⟨some 20,.call ⟨.value (.func 18),#[.tmp 19,.func 19],#[26,48]⟩,26,"insts.go:764",(gE [16,9]),none⟩,
 ⟨some 21,.buildSlice 22 1 #[(0,.tmp 20)],22,"insts.go:764",(gE [24]),none⟩,
 ⟨some 22,.call ⟨.builtin .append,#[.tmp 18,.tmp 21],#[22,22]⟩,22,"insts.go:764",(gE [8,32,25]),none⟩,
 ⟨some 8,.assign (.tmp 22),22,"insts.go:764",(gE [40,41,3,11,19,27,35,43]),none⟩]
def xz:Array Oper:=f201_r4l.toArray
@[simp] theorem f201_r4_l:xz.toList=f201_r4l:=rfl

@[simp] theorem f201_r4_n:xz.size=7:=rfl
@[simp] def f201_r5l:List Oper:=[⟨some 23,.move (.tmp 8),22,"insts.go:765",#[],none⟩,
 ⟨some 24,.call ⟨.builtin .len,#[.tmp 23],#[22]⟩,3,"insts.go:765",(gE [0]),none⟩,
 ⟨some 25,.binOp .gtr 3 (.tmp 24) (.const (.int .i64 2000)) 3,4,"insts.go:765",(gE [8]),none⟩]
def f201_r5o:Array Oper:=f201_r5l.toArray
@[simp] theorem f201_r5_l:f201_r5o.toList=f201_r5l:=rfl

@[simp] def f201_r6l:List Oper:=[⟨some 26,.move (.tmp 0),22,"insts.go:767",#[],none⟩,
 ⟨some 27,.load 26 (.tmp 3),26,"insts.go:767",#[],none⟩,
 ⟨some 28,.call ⟨.value (.func 20),#[.tmp 26,.tmp 27],#[22,26]⟩,30,"insts.go:767",(gE [0,8]),none⟩,
 ⟨some 9,.assign (.tmp 28),30,"insts.go:767",(gE [16,17,3,11,19]),none⟩]
def f201_r6o:Array Oper:=f201_r6l.toArray
@[simp] theorem f201_r6_l:f201_r6o.toList=f201_r6l:=rfl

@[simp] def f201_r7l:List Oper:=[⟨some 29,.move (.tmp 9),30,"insts.go:767",#[],none⟩,
 ⟨some 30,.binOp .neq 30 (.tmp 29) (.const (.int .i64 0)) 30,4,"insts.go:767",(gE [0]),none⟩]
def f201_r7o:Array Oper:=f201_r7l.toArray
@[simp] theorem f201_r7_l:f201_r7o.toList=f201_r7l:=rfl

@[simp] def f201_r8l:List Oper:=[⟨some 4,.assign (.const (.slice none 0 0)),22,"insts.go:768",#[],none⟩,
 ⟨some 5,.assign (.const (.int .i64 0)),3,"insts.go:768",(gE [1,3]),none⟩,
 ⟨some 6,.assign (.const (.int .i64 6)),30,"insts.go:768",(gE [9,3,11]),none⟩]
def f201_r8o:Array Oper:=f201_r8l.toArray
@[simp] theorem f201_r8_l:f201_r8o.toList=f201_r8l:=rfl

@[simp] def f201_r9l:List Oper:=[⟨some 31,.move (.tmp 8),22,"insts.go:770",#[],none⟩,
 ⟨some 32,.call ⟨.value (.func 16),#[.tmp 31],#[22]⟩,30,"insts.go:770",(gE [0]),none⟩,
 ⟨some 10,.assign (.tmp 32),30,"insts.go:770",(gE [8,9,3,11]),none⟩]
def f201_r9o:Array Oper:=f201_r9l.toArray
@[simp] theorem f201_r9_l:f201_r9o.toList=f201_r9l:=rfl

@[simp] def f201_r10l:List Oper:=[⟨some 33,.move (.tmp 10),30,"insts.go:770",#[],none⟩,
 ⟨some 34,.binOp .neq 30 (.tmp 33) (.const (.int .i64 0)) 30,4,"insts.go:770",(gE [0]),none⟩]
def f201_r10o:Array Oper:=f201_r10l.toArray
@[simp] theorem f201_r10_l:f201_r10o.toList=f201_r10l:=rfl

@[simp] def f201_r11l:List Oper:=[⟨some 35,.move (.tmp 10),30,"insts.go:771",(gE [20]),none⟩,
 ⟨some 4,.assign (.const (.slice none 0 0)),22,"insts.go:771",(gE [5]),none⟩,
 ⟨some 5,.assign (.const (.int .i64 0)),3,"insts.go:771",(gE [9,5,11]),none⟩,
 ⟨some 6,.assign (.tmp 35),30,"insts.go:771",(gE [0,17,3,11,19]),none⟩]
def f201_r11o:Array Oper:=f201_r11l.toArray
@[simp] theorem f201_r11_l:f201_r11o.toList=f201_r11l:=rfl

@[simp] def f201_r12l:List Oper:=[⟨some 36,.move (.tmp 0),22,"insts.go:773",#[],none⟩,
 ⟨some 37,.call ⟨.builtin .len,#[.tmp 36],#[22]⟩,3,"insts.go:773",(gE [0]),none⟩,
 ⟨some 38,.move (.const (.int .i64 0)),3,"insts.go:773",#[],none⟩]
def f201_r12o:Array Oper:=f201_r12l.toArray
@[simp] theorem f201_r12_l:f201_r12o.toList=f201_r12l:=rfl

@[simp] def f201_r13l:List Oper:=[⟨some 39,.binOp .lss 3 (.tmp 38) (.tmp 37) 3,0,"insts.go:773",#[],none⟩]
def f201_r13o:Array Oper:=f201_r13l.toArray
@[simp] theorem f201_r13_l:f201_r13o.toList=f201_r13l:=rfl

@[simp] def f201_r14l:List Oper:=[⟨some 40,.move (.tmp 38),3,"insts.go:773",#[],none⟩,
 ⟨some 11,.assign (.tmp 40),3,"insts.go:773",(gE [0,3]),none⟩]
def f201_r14o:Array Oper:=f201_r14l.toArray
@[simp] theorem f201_r14_l:f201_r14o.toList=f201_r14l:=rfl

@[simp] def f201_r15l:List Oper:=[⟨some 41,.move (.tmp 8),22,"insts.go:774",#[],none⟩,
 ⟨some 42,.move (.tmp 11),3,"insts.go:774",#[],none⟩,
 ⟨some 43,.move (.tmp 0),22,"insts.go:774",#[],none⟩,
 ⟨some 44,.call ⟨.builtin .len,#[.tmp 43],#[22]⟩,3,"insts.go:774",(gE [16]),none⟩,
 ⟨some 45,.call ⟨.value (.func 21),#[.tmp 41,.tmp 42,.tmp 44],#[22,3,3]⟩,4,"insts.go:774",(gE [0,8,24]),none⟩]
def f201_r15o:Array Oper:=f201_r15l.toArray
@[simp] theorem f201_r15_l:f201_r15o.toList=f201_r15l:=rfl

@[simp] def f201_r16l:List Oper:=[⟨some 46,.move (.tmp 8),22,"insts.go:775",#[],none⟩,
 ⟨some 47,.move (.tmp 0),22,"insts.go:775",#[],none⟩,
 ⟨some 48,.call ⟨.builtin .len,#[.tmp 47],#[22]⟩,3,"insts.go:775",(gE [8]),none⟩,
 ⟨some 49,.move (.tmp 0),22,"insts.go:775",#[],none⟩,
 ⟨some 50,.call ⟨.builtin .len,#[.tmp 49],#[22]⟩,3,"insts.go:775",(gE [24]),none⟩,
 ⟨some 51,.slice 22 (.tmp 46) none (some (.tmp 48)) (some (.tmp 50)),22,"insts.go:775",(gE [0,16,32]),none⟩,
 ⟨some 52,.move (.tmp 11),3,"insts.go:775",(gE [60]),none⟩,
 ⟨some 4,.assign (.tmp 51),22,"insts.go:775",(gE [40,3,11,19,27,35,43,53]),none⟩,
 ⟨some 5,.assign (.tmp 52),3,"insts.go:775",(gE [48,57,3,11,19,27,35,43,51,59]),none⟩,
 ⟨some 6,.assign (.const (.int .i64 0)),30,"insts.go:775",(gE [65,3,11,19,27,35,43,51,59,67]),none⟩]
def f201_r16o:Array Oper:=f201_r16l.toArray
@[simp] theorem f201_r16_l:f201_r16o.toList=f201_r16l:=rfl

@[simp] def f201_r17l:List Oper:=[⟨some 53,.binOp .add 3 (.tmp 38) (.const (.int .i64 1)) 3,3,"insts.go:773",#[],none⟩,
 ⟨some 38,.move (.tmp 53),3,"insts.go:773",(gE [0]),none⟩]
def f201_r17o:Array Oper:=f201_r17l.toArray
@[simp] theorem f201_r17_l:f201_r17o.toList=f201_r17l:=rfl

def uW:AC :=
 (.seq (.reg 13 f201_r13o [0,8,37,38,39]) (.seq (.cond (.tmp 39) .skip (.exit 0)) (.seq (.block 1 (.seq (.reg 14 f201_r14o [0,8,11,37,38]) (.seq (.reg 15 f201_r15o [0,8,11,37,38,45]) (.cond (.tmp 45) (.seq (.reg 16 f201_r16o [4,5,6]) .ret) .skip)))) (.reg 17 f201_r17o [0,8,37,38]))))
theorem f201_l0_fits:uW.fits 60=true:=by kernel_rfl
@[simp] def f201_r18l:List Oper:=[⟨some 54,.move (.tmp 8),22,"insts.go:778",#[],none⟩,
 ⟨some 55,.call ⟨.builtin .len,#[.tmp 54],#[22]⟩,3,"insts.go:778",(gE [0]),none⟩,
 ⟨some 56,.binOp .gtr 3 (.tmp 55) (.const (.int .i64 2000)) 3,4,"insts.go:778",(gE [8]),none⟩]
def f201_r18o:Array Oper:=f201_r18l.toArray
@[simp] theorem f201_r18_l:f201_r18o.toList=f201_r18l:=rfl

@[simp] def f201_r19l:List Oper:=[⟨some 4,.assign (.const (.slice none 0 0)),22,"insts.go:779",#[],none⟩,
 ⟨some 5,.assign (.const (.int .i64 0)),3,"insts.go:779",(gE [1,3]),none⟩,
 ⟨some 6,.assign (.const (.int .i64 6)),30,"insts.go:779",(gE [9,3,11]),none⟩]
def f201_r19o:Array Oper:=f201_r19l.toArray
@[simp] theorem f201_r19_l:f201_r19o.toList=f201_r19l:=rfl

@[simp] def f201_r20l:List Oper:=[⟨some 57,.move (.tmp 8),22,"insts.go:781",#[],none⟩,
 ⟨some 58,.move (.tmp 0),22,"insts.go:781",#[],none⟩,
 ⟨some 59,.call ⟨.builtin .len,#[.tmp 58],#[22]⟩,3,"insts.go:781",(gE [8]),none⟩,
 ⟨some 4,.assign (.tmp 57),22,"insts.go:781",(gE [0,3,13,22]),none⟩,
 ⟨some 5,.assign (.tmp 59),3,"insts.go:781",(gE [16,25,3,11,19,27]),none⟩,
 ⟨some 6,.assign (.const (.int .i64 0)),30,"insts.go:781",(gE [33,3,11,19,27,35]),none⟩]
def f201_r20o:Array Oper:=f201_r20l.toArray
@[simp] theorem f201_r20_l:f201_r20o.toList=f201_r20l:=rfl

def f201_ac:AC :=
 (.seq (.reg 0 f201_r0o [0,3]) (.seq (.seq (.reg 1 f201_r1o [0,3,7]) (.seq (.reg 2 f201_r2o [0,3,7,15]) (.cond (.tmp 15) (.seq (.reg 3 f201_r3o [4,5,6]) .ret) .skip))) (.seq (.draw 4 xz [0,3,8]) (.seq (.seq (.reg 5 f201_r5o [0,3,8,25]) (.cond (.tmp 25) (.seq (.reg 6 f201_r6o [0,8,9]) (.seq (.reg 7 f201_r7o [0,8,30]) (.cond (.tmp 30) (.seq (.reg 8 f201_r8o [4,5,6]) .ret) .skip))) (.seq (.reg 9 f201_r9o [0,8,10]) (.seq (.reg 10 f201_r10o [0,8,10,34]) (.cond (.tmp 34) (.seq (.reg 11 f201_r11o [4,5,6]) .ret) .skip))))) (.seq (.seq (.reg 12 f201_r12o [0,8,37,38]) (.block 0 (.loop uW))) (.seq (.seq (.reg 18 f201_r18o [0,8,56]) (.cond (.tmp 56) (.seq (.reg 19 f201_r19o [4,5,6]) .ret) .skip)) (.seq (.reg 20 f201_r20o [4,5,6]) .ret)))))))
theorem f201_eq:Tryz.f7.body=some f201_ac.code:=by kernel_rfl
@[simp] theorem f201_nt:Tryz.f7.ntmps=60:=rfl
theorem f201_fits:f201_ac.fits Tryz.f7.ntmps=true:=by kernel_rfl
@[simp] theorem f201_res:Tryz.f7.results.toList=[.tmp 4,.tmp 5,.tmp 6]:=rfl
@[simp] theorem f201_isb:Tryz.f7.body.isNone=false:=rfl
@[simp] theorem f201_r4_s:zD zB xz=true:=by kernel_rfl
@[simp] theorem f201_r4_d:yg zB xz=true:=by kernel_rfl
@[simp] theorem f201_r4_t1:zV zB xz 1=false:=by kernel_rfl
@[simp] theorem f201_r4_t3:zV zB xz 3=true:=by kernel_rfl
@[simp] theorem f201_r4_t5:zV zB xz 5=true:=by kernel_rfl
/- F8 cinnabar/cinnabarref16.Put -/
@[simp] def f202_r0l:List Oper:=[⟨some 3,.box 26 (.tmp 1),0,"ref.go:446",#[],none⟩,
 ⟨some 4,.assign (.const (.slice none 0 0)),22,"ref.go:446",#[],none⟩,
 ⟨some 5,.assign (.const (.int .i64 0)),3,"ref.go:446",(gE [9]),none⟩,
 ⟨some 6,.assign (.const (.int .i64 0)),30,"ref.go:446",(gE [17]),none⟩]
def f202_r0o:Array Oper:=f202_r0l.toArray
@[simp] theorem f202_r0_l:f202_r0o.toList=f202_r0l:=rfl

@[simp] def f202_r1l:List Oper:=[⟨some 11,.move (.tmp 0),22,"ref.go:447",#[],none⟩,
 ⟨some 12,.call ⟨.value (.func 22),#[.tmp 11],#[22]⟩,30,"ref.go:447",(gE [0]),none⟩,
 ⟨some 7,.assign (.tmp 12),30,"ref.go:447",(gE [8,9,3,11]),none⟩]
def f202_r1o:Array Oper:=f202_r1l.toArray
@[simp] theorem f202_r1_l:f202_r1o.toList=f202_r1l:=rfl

@[simp] def f202_r2l:List Oper:=[⟨some 13,.move (.tmp 7),30,"ref.go:447",#[],none⟩,
 ⟨some 14,.binOp .neq 30 (.tmp 13) (.const (.int .i64 0)) 30,4,"ref.go:447",(gE [0]),none⟩]
def f202_r2o:Array Oper:=f202_r2l.toArray
@[simp] theorem f202_r2_l:f202_r2o.toList=f202_r2l:=rfl

@[simp] def f202_r3l:List Oper:=[⟨some 15,.move (.tmp 7),30,"ref.go:448",(gE [20]),none⟩,
 ⟨some 4,.assign (.const (.slice none 0 0)),22,"ref.go:448",(gE [5]),none⟩,
 ⟨some 5,.assign (.const (.int .i64 0)),3,"ref.go:448",(gE [9,5,11]),none⟩,
 ⟨some 6,.assign (.tmp 15),30,"ref.go:448",(gE [0,17,3,11,19]),none⟩]
def f202_r3o:Array Oper:=f202_r3l.toArray
@[simp] theorem f202_r3_l:f202_r3o.toList=f202_r3l:=rfl

@[simp] def f202_r4l:List Oper:=[⟨some 16,.move (.tmp 0),22,"ref.go:450",#[],none⟩,
 ⟨some 17,.call ⟨.value (.func 23),#[.tmp 16],#[22]⟩,22,"ref.go:450",(gE [0]),none⟩,
 ⟨some 18,.load 26 (.tmp 3),26,"ref.go:450",#[],none⟩,
 ⟨some 19,.buildSlice 22 1 #[(0,.tmp 18)],22,"ref.go:450",(gE [16]),none⟩,
 ⟨some 20,.call ⟨.builtin .append,#[.tmp 17,.tmp 19],#[22,22]⟩,22,"ref.go:450",(gE [8,24,9]),none⟩,
 ⟨some 8,.assign (.tmp 20),22,"ref.go:450",(gE [32,33,3,11,19,27,35]),none⟩]
def xM:Array Oper:=f202_r4l.toArray
@[simp] theorem f202_r4_l:xM.toList=f202_r4l:=rfl

@[simp] theorem f202_r4_n:xM.size=6:=rfl
@[simp] def f202_r5l:List Oper:=[⟨some 21,.move (.tmp 8),22,"ref.go:451",#[],none⟩,
 ⟨some 22,.load 26 (.tmp 3),26,"ref.go:451",#[],none⟩,
 ⟨some 23,.call ⟨.value (.func 24),#[.tmp 21,.tmp 22],#[22,26]⟩,30,"ref.go:451",(gE [0,8]),none⟩,
 ⟨some 24,.binOp .eql 30 (.tmp 23) (.const (.int .i64 0)) 30,4,"ref.go:451",(gE [16]),none⟩]
def f202_r5o:Array Oper:=f202_r5l.toArray
@[simp] theorem f202_r5_l:f202_r5o.toList=f202_r5l:=rfl

@[simp] def f202_r6l:List Oper:=[⟨some 25,.move (.tmp 8),22,"ref.go:452",#[],none⟩,
 ⟨some 26,.call ⟨.value (.func 25),#[.tmp 25],#[22]⟩,37,"ref.go:452",(gE [0]),none⟩,
 ⟨some 9,.assign (.tmp 26),37,"ref.go:452",(gE [8,9,3,11]),none⟩]
def f202_r6o:Array Oper:=f202_r6l.toArray
@[simp] theorem f202_r6_l:f202_r6o.toList=f202_r6l:=rfl

@[simp] def f202_r7l:List Oper:=[⟨some 27,.move (.tmp 9),37,"ref.go:452",#[],none⟩,
 ⟨some 28,.move (.tmp 0),22,"ref.go:452",#[],none⟩,
 ⟨some 29,.call ⟨.builtin .len,#[.tmp 28],#[22]⟩,3,"ref.go:452",(gE [8]),none⟩,
 ⟨some 30,.indexAddr 37 (.tmp 27) (.tmp 29),0,"ref.go:452",(gE [0,16]),none⟩,
 ⟨some 31,.load 3 (.tmp 30),3,"ref.go:452",(gE [24]),none⟩,
 ⟨some 32,.move (.tmp 0),22,"ref.go:452",#[],none⟩,
 ⟨some 33,.call ⟨.builtin .len,#[.tmp 32],#[22]⟩,3,"ref.go:452",(gE [40]),none⟩,
 ⟨some 34,.binOp .lss 3 (.tmp 31) (.tmp 33) 3,4,"ref.go:452",(gE [32,48]),none⟩]
def f202_r7o:Array Oper:=f202_r7l.toArray
@[simp] theorem f202_r7_l:f202_r7o.toList=f202_r7l:=rfl

@[simp] def f202_r8l:List Oper:=[⟨some 35,.move (.tmp 0),22,"ref.go:453",#[],none⟩,
 ⟨some 36,.call ⟨.value (.func 23),#[.tmp 35],#[22]⟩,22,"ref.go:453",(gE [0]),none⟩,
 ⟨some 37,.move (.tmp 9),37,"ref.go:453",(gE [60]),none⟩,
 ⟨some 38,.move (.tmp 0),22,"ref.go:453",#[],none⟩,
 ⟨some 39,.call ⟨.builtin .len,#[.tmp 38],#[22]⟩,3,"ref.go:453",(gE [24]),none⟩,
 ⟨some 40,.indexAddr 37 (.tmp 37) (.tmp 39),0,"ref.go:453",(gE [16,32,60]),none⟩,
 ⟨some 41,.load 3 (.tmp 40),3,"ref.go:453",(gE [40,60]),none⟩,
 ⟨some 4,.assign (.tmp 36),22,"ref.go:453",(gE [8,9,3,11,21,29,38,45,53]),none⟩,
 ⟨some 5,.assign (.tmp 41),3,"ref.go:453",(gE [48,57,3,11,19,27,35,43,51,59]),none⟩,
 ⟨some 6,.assign (.const (.int .i64 0)),30,"ref.go:453",(gE [65,3,11,19,27,35,43,51,59,67]),none⟩]
def vh:Array Oper:=f202_r8l.toArray
@[simp] theorem f202_r8_l:vh.toList=f202_r8l:=rfl

@[simp] theorem f202_r8_n:vh.size=10:=rfl
@[simp] def f202_r9l:List Oper:=[⟨some 42,.move (.tmp 8),22,"ref.go:456",#[],none⟩,
 ⟨some 43,.call ⟨.value (.func 22),#[.tmp 42],#[22]⟩,30,"ref.go:456",(gE [0]),none⟩,
 ⟨some 10,.assign (.tmp 43),30,"ref.go:456",(gE [8,9,3,11]),none⟩]
def f202_r9o:Array Oper:=f202_r9l.toArray
@[simp] theorem f202_r9_l:f202_r9o.toList=f202_r9l:=rfl

@[simp] def f202_r10l:List Oper:=[⟨some 44,.move (.tmp 10),30,"ref.go:456",#[],none⟩,
 ⟨some 45,.binOp .neq 30 (.tmp 44) (.const (.int .i64 0)) 30,4,"ref.go:456",(gE [0]),none⟩]
def f202_r10o:Array Oper:=f202_r10l.toArray
@[simp] theorem f202_r10_l:f202_r10o.toList=f202_r10l:=rfl

@[simp] def f202_r11l:List Oper:=[⟨some 46,.move (.tmp 10),30,"ref.go:457",(gE [20]),none⟩,
 ⟨some 4,.assign (.const (.slice none 0 0)),22,"ref.go:457",(gE [5]),none⟩,
 ⟨some 5,.assign (.const (.int .i64 0)),3,"ref.go:457",(gE [9,5,11]),none⟩,
 ⟨some 6,.assign (.tmp 46),30,"ref.go:457",(gE [0,17,3,11,19]),none⟩]
def f202_r11o:Array Oper:=f202_r11l.toArray
@[simp] theorem f202_r11_l:f202_r11o.toList=f202_r11l:=rfl

@[simp] def f202_r12l:List Oper:=[⟨some 47,.move (.tmp 8),22,"ref.go:459",#[],none⟩,
 ⟨some 48,.call ⟨.value (.func 23),#[.tmp 47],#[22]⟩,22,"ref.go:459",(gE [0]),none⟩,
 ⟨some 49,.move (.tmp 0),22,"ref.go:459",#[],none⟩,
 ⟨some 50,.call ⟨.builtin .len,#[.tmp 49],#[22]⟩,3,"ref.go:459",(gE [16]),none⟩,
 ⟨some 4,.assign (.tmp 48),22,"ref.go:459",(gE [8,9,3,11,21,30]),none⟩,
 ⟨some 5,.assign (.tmp 50),3,"ref.go:459",(gE [24,33,3,11,19,27,35]),none⟩,
 ⟨some 6,.assign (.const (.int .i64 0)),30,"ref.go:459",(gE [41,3,11,19,27,35,43]),none⟩]
def f202_r12o:Array Oper:=f202_r12l.toArray
@[simp] theorem f202_r12_l:f202_r12o.toList=f202_r12l:=rfl

def f202_ac:AC :=
 (.seq (.reg 0 f202_r0o [0,3]) (.seq (.seq (.reg 1 f202_r1o [0,3,7]) (.seq (.reg 2 f202_r2o [0,3,7,14]) (.cond (.tmp 14) (.seq (.reg 3 f202_r3o [4,5,6]) .ret) .skip))) (.seq (.draw 4 xM [0,3,8]) (.seq (.seq (.reg 5 f202_r5o [0,8,24]) (.cond (.tmp 24) (.seq (.reg 6 f202_r6o [0,8,9]) (.seq (.reg 7 f202_r7o [0,8,9,34]) (.cond (.tmp 34) (.seq (.draw 8 vh [4,5,6]) .ret) .skip))) .skip)) (.seq (.seq (.reg 9 f202_r9o [0,8,10]) (.seq (.reg 10 f202_r10o [0,8,10,45]) (.cond (.tmp 45) (.seq (.reg 11 f202_r11o [4,5,6]) .ret) .skip))) (.seq (.reg 12 f202_r12o [4,5,6]) .ret))))))
theorem f202_eq:Tryz.f8.body=some f202_ac.code:=by kernel_rfl
@[simp] theorem f202_nt:Tryz.f8.ntmps=51:=rfl
theorem f202_fits:f202_ac.fits Tryz.f8.ntmps=true:=by kernel_rfl
@[simp] theorem f202_res:Tryz.f8.results.toList=[.tmp 4,.tmp 5,.tmp 6]:=rfl
@[simp] theorem f202_isb:Tryz.f8.body.isNone=false:=rfl
@[simp] theorem f202_r4_s:zD zB xM=true:=by kernel_rfl
@[simp] theorem f202_r4_d:yg zB xM=true:=by kernel_rfl
@[simp] theorem f202_r8_s:zD zB vh=true:=by kernel_rfl
@[simp] theorem f202_r8_d:yg zB vh=true:=by kernel_rfl
@[simp] theorem f202_r4_t1:zV zB xM 1=false:=by kernel_rfl
@[simp] theorem f202_r4_t4:zV zB xM 4=true:=by kernel_rfl
@[simp] theorem f202_r8_t1:zV zB vh 1=false:=by kernel_rfl
/- F9 cinnabar/cinnabarlaw16.Same -/
@[simp] def f203_r0l:List Oper:=[⟨some 4,.assign (.const (.bool false)),4,"law.go:31",#[],none⟩]
def f203_r0o:Array Oper:=f203_r0l.toArray
@[simp] theorem f203_r0_l:f203_r0o.toList=f203_r0l:=rfl

@[simp] def f203_r1l:List Oper:=[⟨some 5,.move (.tmp 0),22,"law.go:32",#[],none⟩,
 ⟨some 6,.move (.tmp 1),22,"law.go:32",#[],none⟩,
 ⟨some 7,.call ⟨.value (.func 26),#[.tmp 5,.tmp 6,.func 27],#[22,22,59]⟩,4,"law.go:32",(gE [0,8]),none⟩,
 ⟨some 4,.assign (.tmp 7),4,"law.go:32",(gE [16,17,3,11,19]),none⟩]
def f203_r1o:Array Oper:=f203_r1l.toArray
@[simp] theorem f203_r1_l:f203_r1o.toList=f203_r1l:=rfl

def f203_ac:AC :=
 (.seq (.reg 0 f203_r0o [0,1]) (.seq (.reg 1 f203_r1o [4]) .ret))
theorem f203_eq:Tryz.f9.body=some f203_ac.code:=by kernel_rfl
@[simp] theorem f203_nt:Tryz.f9.ntmps=8:=rfl
theorem f203_fits:f203_ac.fits Tryz.f9.ntmps=true:=by kernel_rfl
@[simp] theorem f203_res:Tryz.f9.results.toList=[.tmp 4]:=rfl
@[simp] theorem f203_isb:Tryz.f9.body.isNone=false:=rfl
/- F17 cinnabar/insts.copied -/
@[simp] def f204_r0l:List Oper:=[⟨some 2,.assign (.const (.slice none 0 0)),22,"insts.go:263",#[],none⟩]
def f204_r0o:Array Oper:=f204_r0l.toArray
@[simp] theorem f204_r0_l:f204_r0o.toList=f204_r0l:=rfl

@[simp] def f204_r1l:List Oper:=[⟨some 3,.assign (.const (.slice none 0 0)),22,"insts.go:264",#[],none⟩]
def f204_r1o:Array Oper:=f204_r1l.toArray
@[simp] theorem f204_r1_l:f204_r1o.toList=f204_r1l:=rfl

@[simp] def f204_r2l:List Oper:=[⟨some 6,.move (.tmp 0),22,"insts.go:265",#[],none⟩,
 ⟨some 7,.call ⟨.builtin .len,#[.tmp 6],#[22]⟩,3,"insts.go:265",(gE [0]),none⟩,
 ⟨some 8,.move (.const (.int .i64 0)),3,"insts.go:265",#[],none⟩]
def f204_r2o:Array Oper:=f204_r2l.toArray
@[simp] theorem f204_r2_l:f204_r2o.toList=f204_r2l:=rfl

@[simp] def f204_r3l:List Oper:=[⟨some 9,.binOp .lss 3 (.tmp 8) (.tmp 7) 3,0,"insts.go:265",#[],none⟩]
def f204_r3o:Array Oper:=f204_r3l.toArray
@[simp] theorem f204_r3_l:f204_r3o.toList=f204_r3l:=rfl

@[simp] def f204_r4l:List Oper:=[⟨some 10,.indexAddr 22 (.tmp 6) (.tmp 8),0,"insts.go:265",#[],none⟩,
 ⟨some 11,.load 26 (.tmp 10),26,"insts.go:265",(gE [0]),none⟩,
 ⟨some 5,.alloc 26,0,"insts.go:265",#[],none⟩,
 ⟨none,.store 26 (.tmp 5) (.tmp 11),0,"insts.go:265",(gE [16,8,3,11,19]),none⟩]
def f204_r4o:Array Oper:=f204_r4l.toArray
@[simp] theorem f204_r4_l:f204_r4o.toList=f204_r4l:=rfl

@[simp] def f204_r5l:List Oper:=[⟨some 12,.move (.tmp 3),22,"insts.go:266",#[],none⟩,
 ⟨some 13,.load 26 (.tmp 5),26,"insts.go:266",#[],none⟩,
 ⟨some 14,.call ⟨.value (.func 18),#[.tmp 13,.func 42],#[26,48]⟩,26,"insts.go:266",(gE [8]),none⟩,
 ⟨some 15,.buildSlice 22 1 #[(0,.tmp 14)],22,"insts.go:266",(gE [16]),none⟩,
 ⟨some 16,.call ⟨.builtin .append,#[.tmp 12,.tmp 15],#[22,22]⟩,22,"insts.go:266",(gE [0,24,17]),none⟩,
 ⟨some 3,.assign (.tmp 16),22,"insts.go:266",(gE [32,33,3,11,19,27,35]),none⟩]
def f204_r5o:Array Oper:=f204_r5l.toArray
@[simp] theorem f204_r5_l:f204_r5o.toList=f204_r5l:=rfl

@[simp] def f204_r6l:List Oper:=[⟨some 17,.binOp .add 3 (.tmp 8) (.const (.int .i64 1)) 3,3,"insts.go:265",#[],none⟩,
 ⟨some 8,.move (.tmp 17),3,"insts.go:265",(gE [0]),none⟩]
def f204_r6o:Array Oper:=f204_r6l.toArray
@[simp] theorem f204_r6_l:f204_r6o.toList=f204_r6l:=rfl

def f204_l0:AC :=
 (.seq (.reg 3 f204_r3o [3,6,7,8,9]) (.seq (.cond (.tmp 9) .skip (.exit 0)) (.seq (.block 1 (.seq (.reg 4 f204_r4o [3,5,6,7,8]) (.reg 5 f204_r5o [3,6,7,8]))) (.reg 6 f204_r6o [3,6,7,8]))))
theorem f204_l0_fits:f204_l0.fits 19=true:=by kernel_rfl
@[simp] def f204_r7l:List Oper:=[⟨some 18,.move (.tmp 3),22,"insts.go:268",#[],none⟩,
 ⟨some 2,.assign (.tmp 18),22,"insts.go:268",(gE [0,3]),none⟩]
def f204_r7o:Array Oper:=f204_r7l.toArray
@[simp] theorem f204_r7_l:f204_r7o.toList=f204_r7l:=rfl

def f204_ac:AC :=
 (.seq (.reg 0 f204_r0o [0]) (.seq (.reg 1 f204_r1o [0,3]) (.seq (.seq (.reg 2 f204_r2o [3,6,7,8]) (.block 0 (.loop f204_l0))) (.seq (.reg 7 f204_r7o [2]) .ret))))
theorem f204_eq:Tryz.f17.body=some f204_ac.code:=by kernel_rfl
@[simp] theorem f204_nt:Tryz.f17.ntmps=19:=rfl
theorem f204_fits:f204_ac.fits Tryz.f17.ntmps=true:=by kernel_rfl
@[simp] theorem f204_res:Tryz.f17.results.toList=[.tmp 2]:=rfl
@[simp] theorem f204_isb:Tryz.f17.body.isNone=false:=rfl
/- F18 cinnabar/insts.moved -/
@[simp] def f205_r0l:List Oper:=[⟨some 2,.box 26 (.tmp 0),0,"insts.go:247",#[],none⟩,
 ⟨some 4,.alloc 26,0,"insts.go:247",#[],none⟩]
def f205_r0o:Array Oper:=f205_r0l.toArray
@[simp] theorem f205_r0_l:f205_r0o.toList=f205_r0l:=rfl

@[simp] def f205_r1l:List Oper:=[⟨some 13,.fieldAddr 26 (.tmp 2) 0,0,"insts.go:248",#[],none⟩,
 ⟨some 14,.load 3 (.tmp 13),3,"insts.go:248",(gE [0]),none⟩,
 ⟨some 15,.fieldAddr 26 (.tmp 2) 3,0,"insts.go:248",#[],none⟩,
 ⟨some 16,.load 3 (.tmp 15),3,"insts.go:248",(gE [16]),none⟩,
 ⟨some 17,.build 26 #[(0,.tmp 14),(3,.tmp 16)],26,"insts.go:248",(gE [8,24]),none⟩,
 ⟨some 5,.alloc 26,0,"insts.go:248",#[],none⟩,
 ⟨none,.store 26 (.tmp 5) (.tmp 17),0,"insts.go:248",(gE [40,32,3,11,19,27,35,43]),none⟩]
def f205_r1o:Array Oper:=f205_r1l.toArray
@[simp] theorem f205_r1_l:f205_r1o.toList=f205_r1l:=rfl

@[simp] def f205_r2l:List Oper:=[⟨some 18,.fieldAddr 26 (.tmp 2) 1,0,"insts.go:249",#[],none⟩,
 ⟨some 19,.load 23 (.tmp 18),23,"insts.go:249",(gE [0]),none⟩,
 ⟨some 20,.call ⟨.builtin .len,#[.tmp 19],#[23]⟩,3,"insts.go:249",(gE [8]),none⟩,
 ⟨some 21,.move (.const (.int .i64 0)),3,"insts.go:249",#[],none⟩]
def f205_r2o:Array Oper:=f205_r2l.toArray
@[simp] theorem f205_r2_l:f205_r2o.toList=f205_r2l:=rfl

@[simp] def f205_r3l:List Oper:=[⟨some 22,.binOp .lss 3 (.tmp 21) (.tmp 20) 3,0,"insts.go:249",#[],none⟩]
def f205_r3o:Array Oper:=f205_r3l.toArray
@[simp] theorem f205_r3_l:f205_r3o.toList=f205_r3l:=rfl

@[simp] def f205_r4l:List Oper:=[⟨some 23,.indexAddr 23 (.tmp 19) (.tmp 21),0,"insts.go:249",#[],none⟩,
 ⟨some 24,.load 39 (.tmp 23),39,"insts.go:249",(gE [0]),none⟩,
 ⟨some 7,.alloc 39,0,"insts.go:249",#[],none⟩,
 ⟨none,.store 39 (.tmp 7) (.tmp 24),0,"insts.go:249",(gE [16,8,3,11,19]),none⟩]
def f205_r4o:Array Oper:=f205_r4l.toArray
@[simp] theorem f205_r4_l:f205_r4o.toList=f205_r4l:=rfl

@[simp] def f205_r5l:List Oper:=[⟨some 25,.fieldAddr 39 (.tmp 7) 0,0,"insts.go:250",#[],none⟩,
 ⟨some 26,.load 9 (.tmp 25),9,"insts.go:250",(gE [0]),none⟩,
 ⟨some 27,.build 39 #[(0,.tmp 26)],39,"insts.go:250",(gE [8]),none⟩,
 ⟨some 8,.alloc 39,0,"insts.go:250",#[],none⟩,
 ⟨none,.store 39 (.tmp 8) (.tmp 27),0,"insts.go:250",(gE [24,16,3,11,19,27]),none⟩]
def f205_r5o:Array Oper:=f205_r5l.toArray
@[simp] theorem f205_r5_l:f205_r5o.toList=f205_r5l:=rfl

@[simp] def f205_r6l:List Oper:=[⟨some 28,.fieldAddr 39 (.tmp 7) 1,0,"insts.go:251",#[],none⟩,
 ⟨some 29,.load 37 (.tmp 28),37,"insts.go:251",(gE [0]),none⟩,
 ⟨some 30,.call ⟨.builtin .len,#[.tmp 29],#[37]⟩,3,"insts.go:251",(gE [8]),none⟩,
 ⟨some 31,.move (.const (.int .i64 0)),3,"insts.go:251",#[],none⟩]
def f205_r6o:Array Oper:=f205_r6l.toArray
@[simp] theorem f205_r6_l:f205_r6o.toList=f205_r6l:=rfl

@[simp] def f205_r7l:List Oper:=[⟨some 32,.binOp .lss 3 (.tmp 31) (.tmp 30) 3,0,"insts.go:251",#[],none⟩]
def f205_r7o:Array Oper:=f205_r7l.toArray
@[simp] theorem f205_r7_l:f205_r7o.toList=f205_r7l:=rfl

@[simp] def f205_r8l:List Oper:=[⟨some 33,.indexAddr 37 (.tmp 29) (.tmp 31),0,"insts.go:251",#[],none⟩,
 ⟨some 34,.load 3 (.tmp 33),3,"insts.go:251",(gE [0]),none⟩,
 ⟨some 10,.assign (.tmp 34),3,"insts.go:251",(gE [8,3,11]),none⟩]
def f205_r8o:Array Oper:=f205_r8l.toArray
@[simp] theorem f205_r8_l:f205_r8o.toList=f205_r8l:=rfl

@[simp] def f205_r9l:List Oper:=[⟨some 35,.fieldAddr 39 (.tmp 8) 1,0,"insts.go:252",#[],none⟩,
 ⟨some 36,.load 37 (.tmp 35),37,"insts.go:252",(gE [0]),none⟩,
 ⟨some 37,.move (.tmp 1),48,"insts.go:252",#[],none⟩,
 ⟨some 38,.move (.tmp 10),3,"insts.go:252",#[],none⟩,
 ⟨some 39,.call ⟨.value (.tmp 37),#[.tmp 38],#[3]⟩,3,"insts.go:252",(gE [16,24]),none⟩,
 ⟨some 40,.buildSlice 37 1 #[(0,.tmp 39)],37,"insts.go:252",(gE [32]),none⟩,
 ⟨some 41,.call ⟨.builtin .append,#[.tmp 36,.tmp 40],#[37,37]⟩,37,"insts.go:252",(gE [8,40,33]),none⟩,
 ⟨some 42,.fieldAddr 39 (.tmp 8) 1,0,"insts.go:252",(gE [3,11,19,27,35,43,51]),none⟩,
 ⟨none,.store 37 (.tmp 42) (.tmp 41),0,"insts.go:252",(gE [56,48,49,3,11,19,27,35,43,51]),none⟩]
def wq:Array Oper:=f205_r9l.toArray
@[simp] theorem f205_r9_l:wq.toList=f205_r9l:=rfl

@[simp] theorem f205_r9_n:wq.size=9:=rfl
@[simp] def f205_r10l:List Oper:=[⟨some 43,.binOp .add 3 (.tmp 31) (.const (.int .i64 1)) 3,3,"insts.go:251",#[],none⟩,
 ⟨some 31,.move (.tmp 43),3,"insts.go:251",(gE [0]),none⟩]
def f205_r10o:Array Oper:=f205_r10l.toArray
@[simp] theorem f205_r10_l:f205_r10o.toList=f205_r10l:=rfl

def uV:AC :=
 (.seq (.reg 7 f205_r7o [1,2,4,5,8,19,20,21,29,30,31,32]) (.seq (.cond (.tmp 32) .skip (.exit 2)) (.seq (.block 3 (.seq (.reg 8 f205_r8o [1,2,4,5,8,10,19,20,21,29,30,31]) (.draw 9 wq [1,2,4,5,8,19,20,21,29,30,31]))) (.reg 10 f205_r10o [1,2,4,5,8,19,20,21,29,30,31]))))
theorem f205_l0_fits:uV.fits 74=true:=by kernel_rfl
@[simp] def f205_r11l:List Oper:=[⟨some 44,.fieldAddr 26 (.tmp 5) 1,0,"insts.go:254",#[],none⟩,
 ⟨some 45,.load 23 (.tmp 44),23,"insts.go:254",(gE [0]),none⟩,
 ⟨some 46,.load 39 (.tmp 8),39,"insts.go:254",#[],none⟩,
 ⟨some 47,.buildSlice 23 1 #[(0,.tmp 46)],23,"insts.go:254",(gE [16]),none⟩,
 ⟨some 48,.call ⟨.builtin .append,#[.tmp 45,.tmp 47],#[23,23]⟩,23,"insts.go:254",(gE [8,24]),none⟩,
 ⟨some 49,.fieldAddr 26 (.tmp 5) 1,0,"insts.go:254",(gE [3,11,19,27,35]),none⟩,
 ⟨none,.store 23 (.tmp 49) (.tmp 48),0,"insts.go:254",(gE [40,32,33,3,11,19,27,35]),none⟩]
def vT:Array Oper:=f205_r11l.toArray
@[simp] theorem f205_r11_l:vT.toList=f205_r11l:=rfl

@[simp] def f205_r12l:List Oper:=[⟨some 50,.binOp .add 3 (.tmp 21) (.const (.int .i64 1)) 3,3,"insts.go:249",#[],none⟩,
 ⟨some 21,.move (.tmp 50),3,"insts.go:249",(gE [0]),none⟩]
def f205_r12o:Array Oper:=f205_r12l.toArray
@[simp] theorem f205_r12_l:f205_r12o.toList=f205_r12l:=rfl

def f205_l1:AC :=
 (.seq (.reg 3 f205_r3o [1,2,4,5,19,20,21,22]) (.seq (.cond (.tmp 22) .skip (.exit 0)) (.seq (.block 1 (.seq (.reg 4 f205_r4o [1,2,4,5,7,19,20,21]) (.seq (.reg 5 f205_r5o [1,2,4,5,7,8,19,20,21]) (.seq (.seq (.reg 6 f205_r6o [1,2,4,5,8,19,20,21,29,30,31]) (.block 2 (.loop uV))) (.reg 11 vT [1,2,4,5,19,20,21]))))) (.reg 12 f205_r12o [1,2,4,5,19,20,21]))))
theorem f205_l1_fits:f205_l1.fits 74=true:=by kernel_rfl
@[simp] def f205_r13l:List Oper:=[⟨some 51,.fieldAddr 26 (.tmp 2) 2,0,"insts.go:256",#[],none⟩,
 ⟨some 52,.load 24 (.tmp 51),24,"insts.go:256",(gE [0]),none⟩,
 ⟨some 53,.call ⟨.builtin .len,#[.tmp 52],#[24]⟩,3,"insts.go:256",(gE [8]),none⟩,
 ⟨some 54,.move (.const (.int .i64 0)),3,"insts.go:256",#[],none⟩]
def f205_r13o:Array Oper:=f205_r13l.toArray
@[simp] theorem f205_r13_l:f205_r13o.toList=f205_r13l:=rfl

@[simp] def f205_r14l:List Oper:=[⟨some 55,.binOp .lss 3 (.tmp 54) (.tmp 53) 3,0,"insts.go:256",#[],none⟩]
def f205_r14o:Array Oper:=f205_r14l.toArray
@[simp] theorem f205_r14_l:f205_r14o.toList=f205_r14l:=rfl

@[simp] def f205_r15l:List Oper:=[⟨some 56,.indexAddr 24 (.tmp 52) (.tmp 54),0,"insts.go:256",#[],none⟩,
 ⟨some 57,.load 55 (.tmp 56),55,"insts.go:256",(gE [0]),none⟩,
 ⟨some 12,.alloc 55,0,"insts.go:256",#[],none⟩,
 ⟨none,.store 55 (.tmp 12) (.tmp 57),0,"insts.go:256",(gE [16,8,3,11,19]),none⟩]
def f205_r15o:Array Oper:=f205_r15l.toArray
@[simp] theorem f205_r15_l:f205_r15o.toList=f205_r15l:=rfl

@[simp] def f205_r16l:List Oper:=[⟨some 58,.fieldAddr 26 (.tmp 5) 2,0,"insts.go:257",#[],none⟩,
 ⟨some 59,.load 24 (.tmp 58),24,"insts.go:257",(gE [0]),none⟩,
 ⟨some 60,.move (.tmp 1),48,"insts.go:257",#[],none⟩,
 ⟨some 61,.fieldAddr 55 (.tmp 12) 0,0,"insts.go:257",#[],none⟩,
 ⟨some 62,.load 3 (.tmp 61),3,"insts.go:257",(gE [24]),none⟩,
 ⟨some 63,.call ⟨.value (.tmp 60),#[.tmp 62],#[3]⟩,3,"insts.go:257",(gE [16,32]),none⟩,
 ⟨some 64,.move (.tmp 1),48,"insts.go:257",#[],none⟩,
 ⟨some 65,.fieldAddr 55 (.tmp 12) 1,0,"insts.go:257",#[],none⟩,
 ⟨some 66,.load 3 (.tmp 65),3,"insts.go:257",(gE [56]),none⟩,
 ⟨some 67,.call ⟨.value (.tmp 64),#[.tmp 66],#[3]⟩,3,"insts.go:257",(gE [48,64,41]),none⟩,
 ⟨some 68,.build 55 #[(0,.tmp 63),(1,.tmp 67)],55,"insts.go:257",(gE [40,72]),none⟩,
 ⟨some 69,.buildSlice 24 1 #[(0,.tmp 68)],24,"insts.go:257",(gE [80]),none⟩,
 ⟨some 70,.call ⟨.builtin .append,#[.tmp 59,.tmp 69],#[24,24]⟩,24,"insts.go:257",(gE [8,88,73]),none⟩,
 ⟨some 71,.fieldAddr 26 (.tmp 5) 2,0,"insts.go:257",(gE [3,11,19,27,35,43,51,59,67,75,83,91,99]),none⟩,
 ⟨none,.store 24 (.tmp 71) (.tmp 70),0,"insts.go:257",(gE [104,96,97,3,11,19,27,35,43,51,59,67,75,83,91,99]),none⟩]
def xn:Array Oper:=f205_r16l.toArray
@[simp] theorem f205_r16_l:xn.toList=f205_r16l:=rfl

@[simp] theorem f205_r16_n:xn.size=15:=rfl
@[simp] def f205_r17l:List Oper:=[⟨some 72,.binOp .add 3 (.tmp 54) (.const (.int .i64 1)) 3,3,"insts.go:256",#[],none⟩,
 ⟨some 54,.move (.tmp 72),3,"insts.go:256",(gE [0]),none⟩]
def f205_r17o:Array Oper:=f205_r17l.toArray
@[simp] theorem f205_r17_l:f205_r17o.toList=f205_r17l:=rfl

def uU:AC :=
 (.seq (.reg 14 f205_r14o [1,4,5,52,53,54,55]) (.seq (.cond (.tmp 55) .skip (.exit 4)) (.seq (.block 5 (.seq (.reg 15 f205_r15o [1,4,5,12,52,53,54]) (.draw 16 xn [1,4,5,52,53,54]))) (.reg 17 f205_r17o [1,4,5,52,53,54]))))
theorem f205_l2_fits:uU.fits 74=true:=by kernel_rfl
@[simp] def f205_r18l:List Oper:=[⟨some 73,.load 26 (.tmp 5),26,"insts.go:259",#[],none⟩,
 ⟨none,.store 26 (.tmp 4) (.tmp 73),0,"insts.go:259",(gE [0,3]),none⟩]
def f205_r18o:Array Oper:=f205_r18l.toArray
@[simp] theorem f205_r18_l:f205_r18o.toList=f205_r18l:=rfl

def f205_ac:AC :=
 (.seq (.reg 0 f205_r0o [1,2,4]) (.seq (.reg 1 f205_r1o [1,2,4,5]) (.seq (.seq (.reg 2 f205_r2o [1,2,4,5,19,20,21]) (.block 0 (.loop f205_l1))) (.seq (.seq (.reg 13 f205_r13o [1,4,5,52,53,54]) (.block 4 (.loop uU))) (.seq (.reg 18 f205_r18o [4]) .ret)))))
theorem f205_eq:Tryz.f18.body=some f205_ac.code:=by kernel_rfl
@[simp] theorem f205_nt:Tryz.f18.ntmps=74:=rfl
theorem f205_fits:f205_ac.fits Tryz.f18.ntmps=true:=by kernel_rfl
@[simp] theorem f205_res:Tryz.f18.results.toList=[.cell 4 26]:=rfl
@[simp] theorem f205_isb:Tryz.f18.body.isNone=false:=rfl
@[simp] theorem f205_r9_s:zD zB wq=true:=by kernel_rfl
@[simp] theorem f205_r9_d:yg zB wq=true:=by kernel_rfl
@[simp] theorem f205_r16_s:zD zB xn=true:=by kernel_rfl
@[simp] theorem f205_r16_d:yg zB xn=true:=by kernel_rfl
@[simp] theorem f205_r9_t4:zV zB wq 4=false:=by kernel_rfl
@[simp] theorem f205_r9_t6:zV zB wq 6=true:=by kernel_rfl
@[simp] theorem f205_r9_t8:zV zB wq 8=true:=by kernel_rfl
@[simp] theorem f205_r16_t5:zV zB xn 5=false:=by kernel_rfl
@[simp] theorem f205_r16_t9:zV zB xn 9=false:=by kernel_rfl
@[simp] theorem f205_r16_t12:zV zB xn 12=true:=by kernel_rfl
@[simp] theorem f205_r16_t14:zV zB xn 14=true:=by kernel_rfl
/- F19 cinnabar/insts.Put$1 -/
@[simp] def f206_r0l:List Oper:=[⟨some 2,.assign (.const (.int .i64 0)),3,"insts.go:764",#[],none⟩]
def f206_r0o:Array Oper:=f206_r0l.toArray
@[simp] theorem f206_r0_l:f206_r0o.toList=f206_r0l:=rfl

@[simp] def f206_r1l:List Oper:=[⟨some 3,.move (.tmp 0),3,"insts.go:764",#[],none⟩,
 ⟨some 2,.assign (.tmp 3),3,"insts.go:764",(gE [0,3]),none⟩]
def f206_r1o:Array Oper:=f206_r1l.toArray
@[simp] theorem f206_r1_l:f206_r1o.toList=f206_r1l:=rfl

def f206_ac:AC :=
 (.seq (.reg 0 f206_r0o [0]) (.seq (.reg 1 f206_r1o [2]) .ret))
theorem f206_eq:Tryz.f19.body=some f206_ac.code:=by kernel_rfl
@[simp] theorem f206_nt:Tryz.f19.ntmps=4:=rfl
theorem f206_fits:f206_ac.fits Tryz.f19.ntmps=true:=by kernel_rfl
@[simp] theorem f206_res:Tryz.f19.results.toList=[.tmp 2]:=rfl
@[simp] theorem f206_isb:Tryz.f19.body.isNone=false:=rfl
/- F21 cinnabar/insts.same -/
@[simp] def f207_r0l:List Oper:=[⟨some 6,.assign (.const (.bool false)),4,"insts.go:198",#[],none⟩]
def f207_r0o:Array Oper:=f207_r0l.toArray
@[simp] theorem f207_r0_l:f207_r0o.toList=f207_r0l:=rfl

@[simp] def f207_r1l:List Oper:=[⟨some 7,.move (.tmp 1),3,"insts.go:198",#[],none⟩,
 ⟨some 8,.move (.tmp 2),3,"insts.go:198",#[],none⟩,
 ⟨some 9,.move (.tmp 0),22,"insts.go:198",#[],none⟩,
 ⟨some 10,.call ⟨.value (.func 46),#[.tmp 9],#[22]⟩,74,"insts.go:198",(gE [16]),none⟩,
 ⟨some 11,.call ⟨.value (.func 39),#[.tmp 7,.tmp 8,.tmp 10],#[3,3,74]⟩,4,"insts.go:198",(gE [0,8,24,25]),none⟩,
 ⟨some 6,.assign (.tmp 11),4,"insts.go:198",(gE [32,33,3,11,19,27,35]),none⟩]
def f207_r1o:Array Oper:=f207_r1l.toArray
@[simp] theorem f207_r1_l:f207_r1o.toList=f207_r1l:=rfl

def f207_ac:AC :=
 (.seq (.reg 0 f207_r0o [0,1,2]) (.seq (.reg 1 f207_r1o [6]) .ret))
theorem f207_eq:Tryz.f21.body=some f207_ac.code:=by kernel_rfl
@[simp] theorem f207_nt:Tryz.f21.ntmps=12:=rfl
theorem f207_fits:f207_ac.fits Tryz.f21.ntmps=true:=by kernel_rfl
@[simp] theorem f207_res:Tryz.f21.results.toList=[.tmp 6]:=rfl
@[simp] theorem f207_isb:Tryz.f21.body.isNone=false:=rfl
/- F23 cinnabar/cinnabarref16.Copy -/
@[simp] def f208_r0l:List Oper:=[⟨some 2,.assign (.const (.slice none 0 0)),22,"ref.go:255",#[],none⟩]
def f208_r0o:Array Oper:=f208_r0l.toArray
@[simp] theorem f208_r0_l:f208_r0o.toList=f208_r0l:=rfl

@[simp] def f208_r1l:List Oper:=[⟨some 7,.move (.tmp 0),22,"ref.go:256",#[],none⟩,
 ⟨some 8,.call ⟨.builtin .len,#[.tmp 7],#[22]⟩,3,"ref.go:256",(gE [0]),none⟩,
 ⟨some 9,.makeSlice 37 (.tmp 8) (.tmp 8),37,"ref.go:256",(gE [8,8]),none⟩,
 ⟨some 3,.assign (.tmp 9),37,"ref.go:256",(gE [16,3,11,19]),none⟩]
def f208_r1o:Array Oper:=f208_r1l.toArray
@[simp] theorem f208_r1_l:f208_r1o.toList=f208_r1l:=rfl

@[simp] def f208_r2l:List Oper:=[⟨some 4,.assign (.const (.int .i64 0)),3,"ref.go:257",#[],none⟩]
def f208_r2o:Array Oper:=f208_r2l.toArray
@[simp] theorem f208_r2_l:f208_r2o.toList=f208_r2l:=rfl

@[simp] def f208_r3l:List Oper:=[⟨some 10,.move (.tmp 4),3,"ref.go:257",#[],none⟩,
 ⟨some 11,.move (.tmp 0),22,"ref.go:257",#[],none⟩,
 ⟨some 12,.call ⟨.builtin .len,#[.tmp 11],#[22]⟩,3,"ref.go:257",(gE [8]),none⟩,
 ⟨some 13,.binOp .lss 3 (.tmp 10) (.tmp 12) 3,4,"ref.go:257",(gE [0,16]),none⟩]
def f208_r3o:Array Oper:=f208_r3l.toArray
@[simp] theorem f208_r3_l:f208_r3o.toList=f208_r3l:=rfl

@[simp] def f208_r5l:List Oper:=[⟨some 16,.move (.tmp 3),37,"ref.go:258",#[],none⟩,
 ⟨some 17,.move (.tmp 4),3,"ref.go:258",#[],none⟩,
 ⟨some 18,.move (.tmp 4),3,"ref.go:258",#[],none⟩,
 ⟨some 19,.indexAddr 37 (.tmp 16) (.tmp 17),0,"ref.go:258",(gE [0,8,3,11,19]),none⟩,
 ⟨none,.store 3 (.tmp 19) (.tmp 18),0,"ref.go:258",(gE [24,16,3,11,19]),none⟩]
def f208_r5o:Array Oper:=f208_r5l.toArray
@[simp] theorem f208_r5_l:f208_r5o.toList=f208_r5l:=rfl

@[simp] def f208_r4l:List Oper:=[⟨some 14,.move (.tmp 4),3,"ref.go:257",#[],none⟩,
 ⟨some 15,.binOp .add 3 (.tmp 14) (.const (.int .i64 1)) 3,3,"ref.go:257",(gE [0]),none⟩,
 ⟨some 4,.assign (.tmp 15),3,"ref.go:257",(gE [8,3,11]),none⟩]
def f208_r4o:Array Oper:=f208_r4l.toArray
@[simp] theorem f208_r4_l:f208_r4o.toList=f208_r4l:=rfl

def f208_l0:AC :=
 (.seq (.seq (.reg 3 f208_r3o [0,3,4,13]) (.cond (.tmp 13) .skip (.exit 0))) (.seq (.block 1 (.reg 5 f208_r5o [0,3,4])) (.reg 4 f208_r4o [0,3,4])))
theorem f208_l0_fits:f208_l0.fits 36=true:=by kernel_rfl
@[simp] def f208_r6l:List Oper:=[⟨some 5,.assign (.const (.slice none 0 0)),22,"ref.go:260",#[],none⟩]
def f208_r6o:Array Oper:=f208_r6l.toArray
@[simp] theorem f208_r6_l:f208_r6o.toList=f208_r6l:=rfl

@[simp] def f208_r7l:List Oper:=[⟨some 6,.assign (.const (.int .i64 0)),3,"ref.go:261",#[],none⟩]
def f208_r7o:Array Oper:=f208_r7l.toArray
@[simp] theorem f208_r7_l:f208_r7o.toList=f208_r7l:=rfl

@[simp] def f208_r8l:List Oper:=[⟨some 20,.move (.tmp 6),3,"ref.go:261",#[],none⟩,
 ⟨some 21,.move (.tmp 0),22,"ref.go:261",#[],none⟩,
 ⟨some 22,.call ⟨.builtin .len,#[.tmp 21],#[22]⟩,3,"ref.go:261",(gE [8]),none⟩,
 ⟨some 23,.binOp .lss 3 (.tmp 20) (.tmp 22) 3,4,"ref.go:261",(gE [0,16]),none⟩]
def f208_r8o:Array Oper:=f208_r8l.toArray
@[simp] theorem f208_r8_l:f208_r8o.toList=f208_r8l:=rfl

@[simp] def f208_r10l:List Oper:=[⟨some 26,.move (.tmp 5),22,"ref.go:262",#[],none⟩,
 ⟨some 27,.move (.tmp 0),22,"ref.go:262",#[],none⟩,
 ⟨some 28,.move (.tmp 6),3,"ref.go:262",#[],none⟩,
 ⟨some 29,.indexAddr 22 (.tmp 27) (.tmp 28),0,"ref.go:262",(gE [8,16]),none⟩,
 ⟨some 30,.load 26 (.tmp 29),26,"ref.go:262",(gE [24]),none⟩,
 ⟨some 31,.move (.tmp 3),37,"ref.go:262",#[],none⟩,
 ⟨some 32,.call ⟨.value (.func 48),#[.tmp 30,.tmp 31],#[26,37]⟩,26,"ref.go:262",(gE [32,40]),none⟩,
 ⟨some 33,.buildSlice 22 1 #[(0,.tmp 32)],22,"ref.go:262",(gE [48]),none⟩,
 ⟨some 34,.call ⟨.builtin .append,#[.tmp 26,.tmp 33],#[22,22]⟩,22,"ref.go:262",(gE [0,56,49]),none⟩,
 ⟨some 5,.assign (.tmp 34),22,"ref.go:262",(gE [64,65,3,11,19,27,35,43,51,59,67]),none⟩]
def f208_r10o:Array Oper:=f208_r10l.toArray
@[simp] theorem f208_r10_l:f208_r10o.toList=f208_r10l:=rfl

@[simp] def f208_r9l:List Oper:=[⟨some 24,.move (.tmp 6),3,"ref.go:261",#[],none⟩,
 ⟨some 25,.binOp .add 3 (.tmp 24) (.const (.int .i64 1)) 3,3,"ref.go:261",(gE [0]),none⟩,
 ⟨some 6,.assign (.tmp 25),3,"ref.go:261",(gE [8,3,11]),none⟩]
def f208_r9o:Array Oper:=f208_r9l.toArray
@[simp] theorem f208_r9_l:f208_r9o.toList=f208_r9l:=rfl

def f208_l1:AC :=
 (.seq (.seq (.reg 8 f208_r8o [0,3,5,6,23]) (.cond (.tmp 23) .skip (.exit 2))) (.seq (.block 3 (.reg 10 f208_r10o [0,3,5,6])) (.reg 9 f208_r9o [0,3,5,6])))
theorem f208_l1_fits:f208_l1.fits 36=true:=by kernel_rfl
@[simp] def f208_r11l:List Oper:=[⟨some 35,.move (.tmp 5),22,"ref.go:264",#[],none⟩,
 ⟨some 2,.assign (.tmp 35),22,"ref.go:264",(gE [0,3]),none⟩]
def f208_r11o:Array Oper:=f208_r11l.toArray
@[simp] theorem f208_r11_l:f208_r11o.toList=f208_r11l:=rfl

def f208_ac:AC :=
 (.seq (.reg 0 f208_r0o [0]) (.seq (.reg 1 f208_r1o [0,3]) (.seq (.seq (.reg 2 f208_r2o [0,3,4]) (.block 0 (.loop f208_l0))) (.seq (.reg 6 f208_r6o [0,3,5]) (.seq (.seq (.reg 7 f208_r7o [0,3,5,6]) (.block 2 (.loop f208_l1))) (.seq (.reg 11 f208_r11o [2]) .ret))))))
theorem f208_eq:Tryz.f23.body=some f208_ac.code:=by kernel_rfl
@[simp] theorem f208_nt:Tryz.f23.ntmps=36:=rfl
theorem f208_fits:f208_ac.fits Tryz.f23.ntmps=true:=by kernel_rfl
@[simp] theorem f208_res:Tryz.f23.results.toList=[.tmp 2]:=rfl
@[simp] theorem f208_isb:Tryz.f23.body.isNone=false:=rfl
/- F25 cinnabar/cinnabarref16.Classes -/
@[simp] def f209_r0l:List Oper:=[⟨some 2,.assign (.const (.slice none 0 0)),37,"ref.go:144",#[],none⟩]
def f209_r0o:Array Oper:=f209_r0l.toArray
@[simp] theorem f209_r0_l:f209_r0o.toList=f209_r0l:=rfl

@[simp] def f209_r1l:List Oper:=[⟨some 14,.move (.tmp 0),22,"ref.go:145",#[],none⟩,
 ⟨some 15,.call ⟨.builtin .len,#[.tmp 14],#[22]⟩,3,"ref.go:145",(gE [0]),none⟩,
 ⟨some 16,.makeSlice 37 (.tmp 15) (.tmp 15),37,"ref.go:145",(gE [8,8]),none⟩,
 ⟨some 3,.assign (.tmp 16),37,"ref.go:145",(gE [16,3,11,19]),none⟩]
def f209_r1o:Array Oper:=f209_r1l.toArray
@[simp] theorem f209_r1_l:f209_r1o.toList=f209_r1l:=rfl

@[simp] def f209_r2l:List Oper:=[⟨some 4,.assign (.const (.int .i64 0)),3,"ref.go:146",#[],none⟩]
def f209_r2o:Array Oper:=f209_r2l.toArray
@[simp] theorem f209_r2_l:f209_r2o.toList=f209_r2l:=rfl

@[simp] def f209_r3l:List Oper:=[⟨some 17,.move (.tmp 4),3,"ref.go:146",#[],none⟩,
 ⟨some 18,.move (.tmp 0),22,"ref.go:146",#[],none⟩,
 ⟨some 19,.call ⟨.builtin .len,#[.tmp 18],#[22]⟩,3,"ref.go:146",(gE [8]),none⟩,
 ⟨some 20,.binOp .lss 3 (.tmp 17) (.tmp 19) 3,4,"ref.go:146",(gE [0,16]),none⟩]
def f209_r3o:Array Oper:=f209_r3l.toArray
@[simp] theorem f209_r3_l:f209_r3o.toList=f209_r3l:=rfl

@[simp] def f209_r5l:List Oper:=[⟨some 23,.move (.tmp 3),37,"ref.go:147",#[],none⟩,
 ⟨some 24,.move (.tmp 4),3,"ref.go:147",#[],none⟩,
 ⟨some 25,.indexAddr 37 (.tmp 23) (.tmp 24),0,"ref.go:147",(gE [0,8]),none⟩,
 ⟨some 26,.load 3 (.tmp 25),3,"ref.go:147",(gE [16]),none⟩,
 ⟨some 27,.move (.tmp 4),3,"ref.go:147",#[],none⟩,
 ⟨some 28,.binOp .lss 3 (.tmp 26) (.tmp 27) 3,4,"ref.go:147",(gE [24,32]),none⟩,
 ⟨some 29,.move (.tmp 28),4,"ref.go:147",(gE [40]),none⟩,
 ⟨some 30,.move (.tmp 0),22,"ref.go:147",(gE [50]),some (6,true)⟩,
 ⟨some 31,.move (.tmp 3),37,"ref.go:147",(gE [50]),some (6,true)⟩,
 ⟨some 32,.move (.tmp 4),3,"ref.go:147",(gE [50]),some (6,true)⟩,
 ⟨some 33,.indexAddr 37 (.tmp 31) (.tmp 32),0,"ref.go:147",(gE [64,72,50]),some (6,true)⟩,
 ⟨some 34,.load 3 (.tmp 33),3,"ref.go:147",(gE [80,50]),some (6,true)⟩,
 ⟨some 35,.indexAddr 22 (.tmp 30) (.tmp 34),0,"ref.go:147",(gE [56,88,50]),some (6,true)⟩,
 ⟨some 36,.load 26 (.tmp 35),26,"ref.go:147",(gE [96,50]),some (6,true)⟩,
 ⟨some 37,.move (.tmp 0),22,"ref.go:147",(gE [50]),some (6,true)⟩,
 ⟨some 38,.move (.tmp 4),3,"ref.go:147",(gE [50]),some (6,true)⟩,
 ⟨some 39,.indexAddr 22 (.tmp 37) (.tmp 38),0,"ref.go:147",(gE [112,120,50]),some (6,true)⟩,
 ⟨some 40,.load 26 (.tmp 39),26,"ref.go:147",(gE [128,50]),some (6,true)⟩,
 ⟨some 41,.call ⟨.value (.func 50),#[.tmp 36,.tmp 40],#[26,26]⟩,4,"ref.go:147",(gE [104,136,49,50]),some (6,true)⟩,
 ⟨some 42,.unOp .not 4 (.tmp 41),4,"ref.go:147",(gE [144,50]),some (6,true)⟩,
 ⟨some 43,.pick (.tmp 29) (.tmp 42) (.const (.bool false)),4,"ref.go:147",(gE [48,152]),none⟩]
def xy:Array Oper:=f209_r5l.toArray
@[simp] theorem f209_r5_l:xy.toList=f209_r5l:=rfl

@[simp] theorem f209_r5_g6:zL xy 6=some 29:=rfl
@[simp] theorem f209_r5_n:xy.size=21:=rfl
@[simp] def f209_r6l:List Oper:=[⟨some 44,.move (.tmp 3),37,"ref.go:148",#[],none⟩,
 ⟨some 45,.move (.tmp 4),3,"ref.go:148",#[],none⟩,
 ⟨some 46,.indexAddr 37 (.tmp 44) (.tmp 45),0,"ref.go:148",(gE [0,8]),none⟩,
 ⟨some 47,.load 3 (.tmp 46),3,"ref.go:148",(gE [16]),none⟩,
 ⟨some 48,.binOp .add 3 (.tmp 47) (.const (.int .i64 1)) 3,3,"ref.go:148",(gE [24]),none⟩,
 ⟨some 49,.indexAddr 37 (.tmp 44) (.tmp 45),0,"ref.go:148",(gE [0,8,3,11,19,27,35]),none⟩,
 ⟨none,.store 3 (.tmp 49) (.tmp 48),0,"ref.go:148",(gE [40,32,3,11,19,27,35]),none⟩]
def f209_r6o:Array Oper:=f209_r6l.toArray
@[simp] theorem f209_r6_l:f209_r6o.toList=f209_r6l:=rfl

def f209_l0:AC :=
 (.seq (.seq (.draw 5 xy [0,3,4,30,31,32,33,34,35,36,37,38,39,40,41,42,43,105,106,107,108,109,110,111,112,113]) (.cond (.tmp 43) .skip (.exit 2))) (.block 3 (.reg 6 f209_r6o [0,3,4,30,31,32,33,34,35,36,37,38,39,40,41,42,105,106,107,108,109,110,111,112,113])))
theorem f209_l0_fits:f209_l0.fits 119=true:=by kernel_rfl
@[simp] def f209_r4l:List Oper:=[⟨some 21,.move (.tmp 4),3,"ref.go:146",#[],none⟩,
 ⟨some 22,.binOp .add 3 (.tmp 21) (.const (.int .i64 1)) 3,3,"ref.go:146",(gE [0]),none⟩,
 ⟨some 4,.assign (.tmp 22),3,"ref.go:146",(gE [8,3,11]),none⟩]
def f209_r4o:Array Oper:=f209_r4l.toArray
@[simp] theorem f209_r4_l:f209_r4o.toList=f209_r4l:=rfl

def f209_l1:AC :=
 (.seq (.seq (.reg 3 f209_r3o [0,3,4,20,30,31,32,33,34,35,36,37,38,39,40,41,42,105,106,107,108,109,110,111,112,113]) (.cond (.tmp 20) .skip (.exit 0))) (.seq (.block 1 (.block 2 (.loop f209_l0))) (.reg 4 f209_r4o [0,3,4,30,31,32,33,34,35,36,37,38,39,40,41,42,105,106,107,108,109,110,111,112,113])))
theorem f209_l1_fits:f209_l1.fits 119=true:=by kernel_rfl
@[simp] def f209_r7l:List Oper:=[⟨some 50,.move (.tmp 0),22,"ref.go:153",#[],none⟩,
 ⟨some 51,.call ⟨.builtin .len,#[.tmp 50],#[22]⟩,3,"ref.go:153",(gE [0]),none⟩,
 ⟨some 52,.makeSlice 37 (.tmp 51) (.tmp 51),37,"ref.go:153",(gE [8,8]),none⟩,
 ⟨some 5,.assign (.tmp 52),37,"ref.go:153",(gE [16,3,11,19]),none⟩]
def f209_r7o:Array Oper:=f209_r7l.toArray
@[simp] theorem f209_r7_l:f209_r7o.toList=f209_r7l:=rfl

@[simp] def f209_r8l:List Oper:=[⟨some 6,.assign (.const (.bool false)),4,"ref.go:154",#[],none⟩]
def f209_r8o:Array Oper:=f209_r8l.toArray
@[simp] theorem f209_r8_l:f209_r8o.toList=f209_r8l:=rfl

@[simp] def f209_r9l:List Oper:=[⟨some 53,.makeMap 81 none,81,"ref.go:155",#[],none⟩,
 ⟨some 7,.assign (.tmp 53),81,"ref.go:155",(gE [0,3]),none⟩]
def f209_r9o:Array Oper:=f209_r9l.toArray
@[simp] theorem f209_r9_l:f209_r9o.toList=f209_r9l:=rfl

@[simp] def f209_r10l:List Oper:=[⟨some 8,.assign (.const (.int .i64 0)),3,"ref.go:156",#[],none⟩]
def f209_r10o:Array Oper:=f209_r10l.toArray
@[simp] theorem f209_r10_l:f209_r10o.toList=f209_r10l:=rfl

@[simp] def f209_r11l:List Oper:=[⟨some 54,.move (.tmp 8),3,"ref.go:156",#[],none⟩,
 ⟨some 55,.move (.tmp 0),22,"ref.go:156",#[],none⟩,
 ⟨some 56,.call ⟨.builtin .len,#[.tmp 55],#[22]⟩,3,"ref.go:156",(gE [8]),none⟩,
 ⟨some 57,.binOp .lss 3 (.tmp 54) (.tmp 56) 3,4,"ref.go:156",(gE [0,16]),none⟩]
def f209_r11o:Array Oper:=f209_r11l.toArray
@[simp] theorem f209_r11_l:f209_r11o.toList=f209_r11l:=rfl

@[simp] def f209_r13l:List Oper:=[⟨some 60,.move (.tmp 3),37,"ref.go:157",#[],none⟩,
 ⟨some 61,.move (.tmp 8),3,"ref.go:157",#[],none⟩,
 ⟨some 62,.indexAddr 37 (.tmp 60) (.tmp 61),0,"ref.go:157",(gE [0,8]),none⟩,
 ⟨some 63,.load 3 (.tmp 62),3,"ref.go:157",(gE [16]),none⟩,
 ⟨some 64,.call ⟨.value (.func 51),#[.const (.slice none 0 0),.tmp 63],#[65,3]⟩,65,"ref.go:157",(gE [24]),none⟩,
 ⟨some 9,.assign (.tmp 64),65,"ref.go:157",(gE [32,33,3,11,19,27,35]),none⟩]
def f209_r13o:Array Oper:=f209_r13l.toArray
@[simp] theorem f209_r13_l:f209_r13o.toList=f209_r13l:=rfl

@[simp] def f209_r14l:List Oper:=[⟨some 65,.move (.tmp 0),22,"ref.go:158",#[],none⟩,
 ⟨some 66,.move (.tmp 8),3,"ref.go:158",#[],none⟩,
 ⟨some 67,.indexAddr 22 (.tmp 65) (.tmp 66),0,"ref.go:158",(gE [0,8]),none⟩,
 ⟨some 68,.load 26 (.tmp 67),26,"ref.go:158",(gE [16]),none⟩,
 ⟨some 69,.call ⟨.value (.func 52),#[.tmp 68],#[26]⟩,37,"ref.go:158",(gE [24]),none⟩,
 ⟨some 10,.assign (.tmp 69),37,"ref.go:158",(gE [32,33,3,11,19,27,35]),none⟩]
def f209_r14o:Array Oper:=f209_r14l.toArray
@[simp] theorem f209_r14_l:f209_r14o.toList=f209_r14l:=rfl

@[simp] def f209_r15l:List Oper:=[⟨some 11,.assign (.const (.int .i64 0)),3,"ref.go:159",#[],none⟩]
def f209_r15o:Array Oper:=f209_r15l.toArray
@[simp] theorem f209_r15_l:f209_r15o.toList=f209_r15l:=rfl

@[simp] def f209_r16l:List Oper:=[⟨some 70,.move (.tmp 11),3,"ref.go:159",#[],none⟩,
 ⟨some 71,.move (.tmp 10),37,"ref.go:159",#[],none⟩,
 ⟨some 72,.call ⟨.builtin .len,#[.tmp 71],#[37]⟩,3,"ref.go:159",(gE [8]),none⟩,
 ⟨some 73,.binOp .lss 3 (.tmp 70) (.tmp 72) 3,4,"ref.go:159",(gE [0,16]),none⟩]
def f209_r16o:Array Oper:=f209_r16l.toArray
@[simp] theorem f209_r16_l:f209_r16o.toList=f209_r16l:=rfl

@[simp] def f209_r18l:List Oper:=[⟨some 76,.move (.tmp 9),65,"ref.go:160",#[],none⟩,
 ⟨some 77,.move (.tmp 3),37,"ref.go:160",#[],none⟩,
 ⟨some 78,.move (.tmp 10),37,"ref.go:160",#[],none⟩,
 ⟨some 79,.move (.tmp 11),3,"ref.go:160",#[],none⟩,
 ⟨some 80,.indexAddr 37 (.tmp 78) (.tmp 79),0,"ref.go:160",(gE [16,24]),none⟩,
 ⟨some 81,.load 3 (.tmp 80),3,"ref.go:160",(gE [32]),none⟩,
 ⟨some 82,.indexAddr 37 (.tmp 77) (.tmp 81),0,"ref.go:160",(gE [8,40]),none⟩,
 ⟨some 83,.load 3 (.tmp 82),3,"ref.go:160",(gE [48]),none⟩,
 ⟨some 84,.call ⟨.value (.func 51),#[.tmp 76,.tmp 83],#[65,3]⟩,65,"ref.go:160",(gE [0,56]),none⟩,
 ⟨some 9,.assign (.tmp 84),65,"ref.go:160",(gE [64,65,3,11,19,27,35,43,51,59,67]),none⟩]
def f209_r18o:Array Oper:=f209_r18l.toArray
@[simp] theorem f209_r18_l:f209_r18o.toList=f209_r18l:=rfl

@[simp] def f209_r17l:List Oper:=[⟨some 74,.move (.tmp 11),3,"ref.go:159",#[],none⟩,
 ⟨some 75,.binOp .add 3 (.tmp 74) (.const (.int .i64 1)) 3,3,"ref.go:159",(gE [0]),none⟩,
 ⟨some 11,.assign (.tmp 75),3,"ref.go:159",(gE [8,3,11]),none⟩]
def f209_r17o:Array Oper:=f209_r17l.toArray
@[simp] theorem f209_r17_l:f209_r17o.toList=f209_r17l:=rfl

def f209_l2:AC :=
 (.seq (.seq (.reg 16 f209_r16o [0,3,5,6,7,8,9,10,11,73,105,106,107,108,109,110,111,112,113]) (.cond (.tmp 73) .skip (.exit 8))) (.seq (.block 9 (.reg 18 f209_r18o [0,3,5,6,7,8,9,10,11,105,106,107,108,109,110,111,112,113])) (.reg 17 f209_r17o [0,3,5,6,7,8,9,10,11,105,106,107,108,109,110,111,112,113])))
theorem f209_l2_fits:f209_l2.fits 119=true:=by kernel_rfl
@[simp] def f209_r19l:List Oper:=[⟨some 86,.move (.tmp 7),81,"ref.go:162",#[],none⟩,
 ⟨some 87,.move (.tmp 9),65,"ref.go:162",#[],none⟩,
 ⟨some 88,.convert 65 9 (.tmp 87),9,"ref.go:162",(gE [8]),none⟩,
 ⟨some 89,.lookup 81 (.tmp 86) (.tmp 88) true,84,"ref.go:162",(gE [0,16]),none⟩,
 ⟨some 85,.move (.tmp 89),84,"ref.go:162",(gE [24]),none⟩,
 ⟨some 90,.extract (.tmp 85) 0,3,"ref.go:162",(gE [32]),none⟩,
 ⟨some 91,.extract (.tmp 85) 1,4,"ref.go:162",(gE [32,60]),none⟩,
 ⟨some 12,.assign (.tmp 90),3,"ref.go:162",(gE [40,3,11,19,27,35,43,53]),none⟩,
 ⟨some 13,.assign (.tmp 91),4,"ref.go:162",(gE [48,57,3,11,19,27,35,43,51,59]),none⟩]
def f209_r19o:Array Oper:=f209_r19l.toArray
@[simp] theorem f209_r19_l:f209_r19o.toList=f209_r19l:=rfl

@[simp] def f209_r20l:List Oper:=[⟨some 92,.move (.tmp 13),4,"ref.go:163",#[],none⟩,
 ⟨some 93,.unOp .not 4 (.tmp 92),4,"ref.go:163",(gE [0]),none⟩]
def f209_r20o:Array Oper:=f209_r20l.toArray
@[simp] theorem f209_r20_l:f209_r20o.toList=f209_r20l:=rfl

@[simp] def f209_r21l:List Oper:=[⟨some 94,.move (.tmp 8),3,"ref.go:164",#[],none⟩,
 ⟨some 12,.assign (.tmp 94),3,"ref.go:164",(gE [0,3]),none⟩]
def f209_r21o:Array Oper:=f209_r21l.toArray
@[simp] theorem f209_r21_l:f209_r21o.toList=f209_r21l:=rfl

@[simp] def f209_r22l:List Oper:=[⟨some 95,.move (.tmp 7),81,"ref.go:165",#[],none⟩,
 ⟨some 96,.move (.tmp 9),65,"ref.go:165",#[],none⟩,
 ⟨some 97,.convert 65 9 (.tmp 96),9,"ref.go:165",(gE [8]),none⟩,
 ⟨some 98,.move (.tmp 8),3,"ref.go:165",#[],none⟩,
 ⟨none,.mapUpdate 81 (.tmp 95) (.tmp 97) (.tmp 98),0,"ref.go:165",(gE [0,16,24,3,11,19,27]),none⟩]
def f209_r22o:Array Oper:=f209_r22l.toArray
@[simp] theorem f209_r22_l:f209_r22o.toList=f209_r22l:=rfl

@[simp] def f209_r23l:List Oper:=[⟨some 99,.move (.tmp 5),37,"ref.go:167",#[],none⟩,
 ⟨some 100,.move (.tmp 8),3,"ref.go:167",#[],none⟩,
 ⟨some 101,.move (.tmp 12),3,"ref.go:167",#[],none⟩,
 ⟨some 102,.indexAddr 37 (.tmp 99) (.tmp 100),0,"ref.go:167",(gE [0,8,3,11,19]),none⟩,
 ⟨none,.store 3 (.tmp 102) (.tmp 101),0,"ref.go:167",(gE [24,16,3,11,19]),none⟩]
def f209_r23o:Array Oper:=f209_r23l.toArray
@[simp] theorem f209_r23_l:f209_r23o.toList=f209_r23l:=rfl

@[simp] def f209_r24l:List Oper:=[⟨some 103,.move (.tmp 6),4,"ref.go:168",#[],none⟩,
 ⟨some 104,.move (.tmp 103),4,"ref.go:168",(gE [0]),none⟩,
 ⟨some 105,.move (.tmp 5),37,"ref.go:168",(gE [10]),some (1,false)⟩,
 ⟨some 106,.move (.tmp 8),3,"ref.go:168",(gE [10]),some (1,false)⟩,
 ⟨some 107,.indexAddr 37 (.tmp 105) (.tmp 106),0,"ref.go:168",(gE [16,24,10]),some (1,false)⟩,
 ⟨some 108,.load 3 (.tmp 107),3,"ref.go:168",(gE [32,10]),some (1,false)⟩,
 ⟨some 109,.move (.tmp 3),37,"ref.go:168",(gE [10]),some (1,false)⟩,
 ⟨some 110,.move (.tmp 8),3,"ref.go:168",(gE [10]),some (1,false)⟩,
 ⟨some 111,.indexAddr 37 (.tmp 109) (.tmp 110),0,"ref.go:168",(gE [48,56,10]),some (1,false)⟩,
 ⟨some 112,.load 3 (.tmp 111),3,"ref.go:168",(gE [64,10]),some (1,false)⟩,
 ⟨some 113,.binOp .neq 3 (.tmp 108) (.tmp 112) 3,4,"ref.go:168",(gE [40,72,10]),some (1,false)⟩,
 ⟨some 114,.pick (.tmp 104) (.const (.bool true)) (.tmp 113),4,"ref.go:168",(gE [8,80]),none⟩,
 ⟨some 6,.assign (.tmp 114),4,"ref.go:168",(gE [88,9,3,11,19,27,35,43,51,59,67,75,83,91]),none⟩]
def xm:Array Oper:=f209_r24l.toArray
@[simp] theorem f209_r24_l:xm.toList=f209_r24l:=rfl

@[simp] theorem f209_r24_g1:zL xm 1=some 104:=rfl
@[simp] theorem f209_r24_n:xm.size=13:=rfl
@[simp] def f209_r12l:List Oper:=[⟨some 58,.move (.tmp 8),3,"ref.go:156",#[],none⟩,
 ⟨some 59,.binOp .add 3 (.tmp 58) (.const (.int .i64 1)) 3,3,"ref.go:156",(gE [0]),none⟩,
 ⟨some 8,.assign (.tmp 59),3,"ref.go:156",(gE [8,3,11]),none⟩]
def f209_r12o:Array Oper:=f209_r12l.toArray
@[simp] theorem f209_r12_l:f209_r12o.toList=f209_r12l:=rfl

def f209_l3:AC :=
 (.seq (.seq (.reg 11 f209_r11o [0,3,5,6,7,8,57,105,106,107,108,109,110,111,112,113]) (.cond (.tmp 57) .skip (.exit 6))) (.seq (.block 7 (.seq (.reg 13 f209_r13o [0,3,5,6,7,8,9,105,106,107,108,109,110,111,112,113]) (.seq (.reg 14 f209_r14o [0,3,5,6,7,8,9,10,105,106,107,108,109,110,111,112,113]) (.seq (.seq (.reg 15 f209_r15o [0,3,5,6,7,8,9,10,11,105,106,107,108,109,110,111,112,113]) (.block 8 (.loop f209_l2))) (.seq (.reg 19 f209_r19o [0,3,5,6,7,8,9,12,13,105,106,107,108,109,110,111,112,113]) (.seq (.seq (.reg 20 f209_r20o [0,3,5,6,7,8,9,12,93,105,106,107,108,109,110,111,112,113]) (.cond (.tmp 93) (.seq (.reg 21 f209_r21o [0,3,5,6,7,8,9,12,105,106,107,108,109,110,111,112,113]) (.reg 22 f209_r22o [0,3,5,6,7,8,12,105,106,107,108,109,110,111,112,113])) .skip)) (.seq (.reg 23 f209_r23o [0,3,5,6,7,8,105,106,107,108,109,110,111,112,113]) (.draw 24 xm [0,3,5,6,7,8,105,106,107,108,109,110,111,112,113])))))))) (.reg 12 f209_r12o [0,3,5,6,7,8,105,106,107,108,109,110,111,112,113])))
theorem f209_l3_fits:f209_l3.fits 119=true:=by kernel_rfl
@[simp] def f209_r25l:List Oper:=[⟨some 115,.move (.tmp 5),37,"ref.go:170",#[],none⟩,
 ⟨some 3,.assign (.tmp 115),37,"ref.go:170",(gE [0,3]),none⟩]
def f209_r25o:Array Oper:=f209_r25l.toArray
@[simp] theorem f209_r25_l:f209_r25o.toList=f209_r25l:=rfl

@[simp] def f209_r26l:List Oper:=[⟨some 116,.move (.tmp 6),4,"ref.go:171",#[],none⟩,
 ⟨some 117,.unOp .not 4 (.tmp 116),4,"ref.go:171",(gE [0]),none⟩]
def f209_r26o:Array Oper:=f209_r26l.toArray
@[simp] theorem f209_r26_l:f209_r26o.toList=f209_r26l:=rfl

@[simp] def f209_r27l:List Oper:=[⟨some 118,.move (.tmp 3),37,"ref.go:172",#[],none⟩,
 ⟨some 2,.assign (.tmp 118),37,"ref.go:172",(gE [0,3]),none⟩]
def f209_r27o:Array Oper:=f209_r27l.toArray
@[simp] theorem f209_r27_l:f209_r27o.toList=f209_r27l:=rfl

def f209_l4:AC :=
 (.block 5 (.seq (.reg 7 f209_r7o [0,3,5,105,106,107,108,109,110,111,112,113]) (.seq (.reg 8 f209_r8o [0,3,5,6,105,106,107,108,109,110,111,112,113]) (.seq (.reg 9 f209_r9o [0,3,5,6,7,105,106,107,108,109,110,111,112,113]) (.seq (.seq (.reg 10 f209_r10o [0,3,5,6,7,8,105,106,107,108,109,110,111,112,113]) (.block 6 (.loop f209_l3))) (.seq (.reg 25 f209_r25o [0,3,6,105,106,107,108,109,110,111,112,113]) (.seq (.reg 26 f209_r26o [0,3,105,106,107,108,109,110,111,112,113,117]) (.cond (.tmp 117) (.seq (.reg 27 f209_r27o [2]) .ret) .skip))))))))
theorem f209_l4_fits:f209_l4.fits 119=true:=by kernel_rfl
def f209_ac:AC :=
 (.seq (.reg 0 f209_r0o [0,30,31,32,33,34,35,36,37,38,39,40,41,42,105,106,107,108,109,110,111,112,113]) (.seq (.reg 1 f209_r1o [0,3,30,31,32,33,34,35,36,37,38,39,40,41,42,105,106,107,108,109,110,111,112,113]) (.seq (.seq (.reg 2 f209_r2o [0,3,4,30,31,32,33,34,35,36,37,38,39,40,41,42,105,106,107,108,109,110,111,112,113]) (.block 0 (.loop f209_l1))) (.block 4 (.loop f209_l4)))))
theorem f209_eq:Tryz.f25.body=some f209_ac.code:=by kernel_rfl
@[simp] theorem f209_nt:Tryz.f25.ntmps=119:=rfl
theorem f209_fits:f209_ac.fits Tryz.f25.ntmps=true:=by kernel_rfl
@[simp] theorem f209_res:Tryz.f25.results.toList=[.tmp 2]:=rfl
@[simp] theorem f209_isb:Tryz.f25.body.isNone=false:=rfl
@[simp] theorem f209_r5_s:zD zB xy=true:=by kernel_rfl
@[simp] theorem f209_r5_d:yg zB xy=true:=by kernel_rfl
@[simp] theorem f209_r24_s:zD zB xm=true:=by kernel_rfl
@[simp] theorem f209_r24_d:yg zB xm=true:=by kernel_rfl
@[simp] theorem f209_r5_t18:zV zB xy 18=true:=by kernel_rfl
/- F26 slices.EqualFunc[[]cinnabar/api.Inst,[]cinnabar/api.Inst,cinnabar/api.Inst,cinnabar/api.Inst] -/
@[simp] def f210_r0l:List Oper:=[⟨some 6,.assign (.const (.bool false)),4,"slices.go:37",#[],none⟩]
def f210_r0o:Array Oper:=f210_r0l.toArray
@[simp] theorem f210_r0_l:f210_r0o.toList=f210_r0l:=rfl

@[simp] def f210_r1l:List Oper:=[⟨some 10,.move (.tmp 0),22,"slices.go:38",#[],none⟩,
 ⟨some 11,.call ⟨.builtin .len,#[.tmp 10],#[22]⟩,3,"slices.go:38",(gE [0]),none⟩,
 ⟨some 12,.move (.tmp 1),22,"slices.go:38",#[],none⟩,
 ⟨some 13,.call ⟨.builtin .len,#[.tmp 12],#[22]⟩,3,"slices.go:38",(gE [16]),none⟩,
 ⟨some 14,.binOp .neq 3 (.tmp 11) (.tmp 13) 3,4,"slices.go:38",(gE [8,24]),none⟩]
def f210_r1o:Array Oper:=f210_r1l.toArray
@[simp] theorem f210_r1_l:f210_r1o.toList=f210_r1l:=rfl

@[simp] def f210_r2l:List Oper:=[⟨some 6,.assign (.const (.bool false)),4,"slices.go:39",#[],none⟩]
def f210_r2o:Array Oper:=f210_r2l.toArray
@[simp] theorem f210_r2_l:f210_r2o.toList=f210_r2l:=rfl

@[simp] def f210_r3l:List Oper:=[⟨some 15,.move (.tmp 0),22,"slices.go:41",#[],none⟩,
 ⟨some 16,.call ⟨.builtin .len,#[.tmp 15],#[22]⟩,3,"slices.go:41",(gE [0]),none⟩,
 ⟨some 17,.move (.const (.int .i64 0)),3,"slices.go:41",#[],none⟩]
def f210_r3o:Array Oper:=f210_r3l.toArray
@[simp] theorem f210_r3_l:f210_r3o.toList=f210_r3l:=rfl

@[simp] def f210_r4l:List Oper:=[⟨some 18,.binOp .lss 3 (.tmp 17) (.tmp 16) 3,0,"slices.go:41",#[],none⟩]
def f210_r4o:Array Oper:=f210_r4l.toArray
@[simp] theorem f210_r4_l:f210_r4o.toList=f210_r4l:=rfl

@[simp] def f210_r5l:List Oper:=[⟨some 19,.move (.tmp 17),3,"slices.go:41",#[],none⟩,
 ⟨some 20,.indexAddr 22 (.tmp 15) (.tmp 17),0,"slices.go:41",#[],none⟩,
 ⟨some 21,.load 26 (.tmp 20),26,"slices.go:41",(gE [8]),none⟩,
 ⟨some 8,.alloc 26,0,"slices.go:41",#[],none⟩,
 ⟨some 7,.assign (.tmp 19),3,"slices.go:41",(gE [0,3,11,19,27]),none⟩,
 ⟨none,.store 26 (.tmp 8) (.tmp 21),0,"slices.go:41",(gE [24,16,33,3,11,19,27,35]),none⟩]
def f210_r5o:Array Oper:=f210_r5l.toArray
@[simp] theorem f210_r5_l:f210_r5o.toList=f210_r5l:=rfl

@[simp] def f210_r6l:List Oper:=[⟨some 22,.move (.tmp 1),22,"slices.go:42",#[],none⟩,
 ⟨some 23,.move (.tmp 7),3,"slices.go:42",#[],none⟩,
 ⟨some 24,.indexAddr 22 (.tmp 22) (.tmp 23),0,"slices.go:42",(gE [0,8]),none⟩,
 ⟨some 25,.load 26 (.tmp 24),26,"slices.go:42",(gE [16]),none⟩,
 ⟨some 9,.alloc 26,0,"slices.go:42",#[],none⟩,
 ⟨none,.store 26 (.tmp 9) (.tmp 25),0,"slices.go:42",(gE [32,24,3,11,19,27,35]),none⟩]
def f210_r6o:Array Oper:=f210_r6l.toArray
@[simp] theorem f210_r6_l:f210_r6o.toList=f210_r6l:=rfl

@[simp] def f210_r7l:List Oper:=[⟨some 26,.move (.tmp 2),59,"slices.go:43",#[],none⟩,
 ⟨some 27,.load 26 (.tmp 8),26,"slices.go:43",#[],none⟩,
 ⟨some 28,.load 26 (.tmp 9),26,"slices.go:43",#[],none⟩,
 ⟨some 29,.call ⟨.value (.tmp 26),#[.tmp 27,.tmp 28],#[26,26]⟩,4,"slices.go:43",(gE [0,8,16]),none⟩,
 ⟨some 30,.unOp .not 4 (.tmp 29),4,"slices.go:43",(gE [24]),none⟩]
def f210_r7o:Array Oper:=f210_r7l.toArray
@[simp] theorem f210_r7_l:f210_r7o.toList=f210_r7l:=rfl

@[simp] def f210_r8l:List Oper:=[⟨some 6,.assign (.const (.bool false)),4,"slices.go:44",#[],none⟩]
def f210_r8o:Array Oper:=f210_r8l.toArray
@[simp] theorem f210_r8_l:f210_r8o.toList=f210_r8l:=rfl

@[simp] def f210_r9l:List Oper:=[⟨some 31,.binOp .add 3 (.tmp 17) (.const (.int .i64 1)) 3,3,"slices.go:41",#[],none⟩,
 ⟨some 17,.move (.tmp 31),3,"slices.go:41",(gE [0]),none⟩]
def f210_r9o:Array Oper:=f210_r9l.toArray
@[simp] theorem f210_r9_l:f210_r9o.toList=f210_r9l:=rfl

def f210_l0:AC :=
 (.seq (.reg 4 f210_r4o [1,2,15,16,17,18]) (.seq (.cond (.tmp 18) .skip (.exit 0)) (.seq (.block 1 (.seq (.reg 5 f210_r5o [1,2,7,8,15,16,17]) (.seq (.reg 6 f210_r6o [1,2,8,9,15,16,17]) (.seq (.reg 7 f210_r7o [1,2,15,16,17,30]) (.cond (.tmp 30) (.seq (.reg 8 f210_r8o [6]) .ret) .skip))))) (.reg 9 f210_r9o [1,2,15,16,17]))))
theorem f210_l0_fits:f210_l0.fits 32=true:=by kernel_rfl
@[simp] def f210_r10l:List Oper:=[⟨some 6,.assign (.const (.bool true)),4,"slices.go:47",#[],none⟩]
def f210_r10o:Array Oper:=f210_r10l.toArray
@[simp] theorem f210_r10_l:f210_r10o.toList=f210_r10l:=rfl

def f210_ac:AC :=
 (.seq (.reg 0 f210_r0o [0,1,2]) (.seq (.seq (.reg 1 f210_r1o [0,1,2,14]) (.cond (.tmp 14) (.seq (.reg 2 f210_r2o [6]) .ret) .skip)) (.seq (.seq (.reg 3 f210_r3o [1,2,15,16,17]) (.block 0 (.loop f210_l0))) (.seq (.reg 10 f210_r10o [6]) .ret))))
theorem f210_eq:Tryz.f26.body=some f210_ac.code:=by kernel_rfl
@[simp] theorem f210_nt:Tryz.f26.ntmps=32:=rfl
theorem f210_fits:f210_ac.fits Tryz.f26.ntmps=true:=by kernel_rfl
@[simp] theorem f210_res:Tryz.f26.results.toList=[.tmp 6]:=rfl
@[simp] theorem f210_isb:Tryz.f26.body.isNone=false:=rfl
/- F27 cinnabar/cinnabarlaw16.Same$1 -/
@[simp] def f211_r0l:List Oper:=[⟨some 2,.box 26 (.tmp 0),0,"law.go:32",#[],none⟩,
 ⟨some 3,.box 26 (.tmp 1),0,"law.go:32",#[],none⟩,
 ⟨some 4,.assign (.const (.bool false)),4,"law.go:32",#[],none⟩]
def f211_r0o:Array Oper:=f211_r0l.toArray
@[simp] theorem f211_r0_l:f211_r0o.toList=f211_r0l:=rfl

@[simp] def f211_r1l:List Oper:=[⟨some 5,.fieldAddr 26 (.tmp 2) 0,0,"law.go:33",#[],none⟩,
 ⟨some 6,.load 3 (.tmp 5),3,"law.go:33",(gE [0]),none⟩,
 ⟨some 7,.fieldAddr 26 (.tmp 3) 0,0,"law.go:33",#[],none⟩,
 ⟨some 8,.load 3 (.tmp 7),3,"law.go:33",(gE [16]),none⟩,
 ⟨some 9,.binOp .eql 3 (.tmp 6) (.tmp 8) 3,4,"law.go:33",(gE [8,24]),none⟩,
 ⟨some 10,.move (.tmp 9),4,"law.go:33",(gE [32]),none⟩,
 ⟨some 11,.fieldAddr 26 (.tmp 2) 3,0,"law.go:33",(gE [42]),some (5,true)⟩,
 ⟨some 12,.load 3 (.tmp 11),3,"law.go:33",(gE [48,42]),some (5,true)⟩,
 ⟨some 13,.fieldAddr 26 (.tmp 3) 3,0,"law.go:33",(gE [42]),some (5,true)⟩,
 ⟨some 14,.load 3 (.tmp 13),3,"law.go:33",(gE [64,42]),some (5,true)⟩,
 ⟨some 15,.binOp .eql 3 (.tmp 12) (.tmp 14) 3,4,"law.go:33",(gE [56,72,42]),some (5,true)⟩,
 ⟨some 16,.pick (.tmp 10) (.tmp 15) (.const (.bool false)),4,"law.go:33",(gE [40,80]),none⟩,
 ⟨some 17,.move (.tmp 16),4,"law.go:33",(gE [88,41]),none⟩,
 ⟨some 18,.fieldAddr 26 (.tmp 2) 2,0,"law.go:33",(gE [98]),some (12,true)⟩,
 ⟨some 19,.load 24 (.tmp 18),24,"law.go:33",(gE [104,98]),some (12,true)⟩,
 ⟨some 20,.fieldAddr 26 (.tmp 3) 2,0,"law.go:33",(gE [98]),some (12,true)⟩,
 ⟨some 21,.load 24 (.tmp 20),24,"law.go:33",(gE [120,98]),some (12,true)⟩,
 ⟨some 22,.call ⟨.value (.func 28),#[.tmp 19,.tmp 21],#[24,24]⟩,4,"law.go:33",(gE [112,128,97,98]),some (12,true)⟩,
 ⟨some 23,.pick (.tmp 17) (.tmp 22) (.const (.bool false)),4,"law.go:33",(gE [96,136]),none⟩,
 ⟨some 24,.move (.tmp 23),4,"law.go:33",(gE [144,137]),none⟩,
 ⟨some 25,.fieldAddr 26 (.tmp 2) 1,0,"law.go:33",(gE [154]),some (19,true)⟩,
 ⟨some 26,.load 23 (.tmp 25),23,"law.go:33",(gE [160,154]),some (19,true)⟩,
 ⟨some 27,.fieldAddr 26 (.tmp 3) 1,0,"law.go:33",(gE [154]),some (19,true)⟩,
 ⟨some 28,.load 23 (.tmp 27),23,"law.go:33",(gE [176,154]),some (19,true)⟩,
 ⟨some 29,.call ⟨.value (.func 29),#[.tmp 26,.tmp 28,.func 30],#[23,23,58]⟩,4,"law.go:33",(gE [168,184,153,154]),some (19,true)⟩,
 ⟨some 30,.pick (.tmp 24) (.tmp 29) (.const (.bool false)),4,"law.go:33",(gE [152,192]),none⟩,
 ⟨some 4,.assign (.tmp 30),4,"law.go:33",(gE [200,193,3,11,19,27,35,43,51,59,67,75,83,91,99,107,115,123,131,139,147,155,163,171,179,187,195,203]),none⟩]
def tJ:Array Oper:=f211_r1l.toArray
@[simp] theorem f211_r1_l:tJ.toList=f211_r1l:=rfl

@[simp] theorem f211_r1_g5:zL tJ 5=some 10:=rfl
@[simp] theorem f211_r1_g12:zL tJ 12=some 17:=rfl
@[simp] theorem f211_r1_g19:zL tJ 19=some 24:=rfl
def f211_ac:AC :=
 (.seq (.reg 0 f211_r0o [2,3,11,12,13,14,15,18,19,20,21,22,25,26,27,28,29]) (.seq (.reg 1 tJ [4]) .ret))
theorem f211_eq:Tryz.f27.body=some f211_ac.code:=by kernel_rfl
@[simp] theorem f211_nt:Tryz.f27.ntmps=31:=rfl
theorem f211_fits:f211_ac.fits Tryz.f27.ntmps=true:=by kernel_rfl
@[simp] theorem f211_res:Tryz.f27.results.toList=[.tmp 4]:=rfl
@[simp] theorem f211_isb:Tryz.f27.body.isNone=false:=rfl
/- F28 slices.Equal[[]cinnabar/api.Mode,cinnabar/api.Mode] -/
@[simp] def f212_r0l:List Oper:=[⟨some 4,.assign (.const (.bool false)),4,"slices.go:20",#[],none⟩]
def f212_r0o:Array Oper:=f212_r0l.toArray
@[simp] theorem f212_r0_l:f212_r0o.toList=f212_r0l:=rfl

@[simp] def f212_r1l:List Oper:=[⟨some 6,.move (.tmp 0),24,"slices.go:21",#[],none⟩,
 ⟨some 7,.call ⟨.builtin .len,#[.tmp 6],#[24]⟩,3,"slices.go:21",(gE [0]),none⟩,
 ⟨some 8,.move (.tmp 1),24,"slices.go:21",#[],none⟩,
 ⟨some 9,.call ⟨.builtin .len,#[.tmp 8],#[24]⟩,3,"slices.go:21",(gE [16]),none⟩,
 ⟨some 10,.binOp .neq 3 (.tmp 7) (.tmp 9) 3,4,"slices.go:21",(gE [8,24]),none⟩]
def f212_r1o:Array Oper:=f212_r1l.toArray
@[simp] theorem f212_r1_l:f212_r1o.toList=f212_r1l:=rfl

@[simp] def f212_r2l:List Oper:=[⟨some 4,.assign (.const (.bool false)),4,"slices.go:22",#[],none⟩]
def f212_r2o:Array Oper:=f212_r2l.toArray
@[simp] theorem f212_r2_l:f212_r2o.toList=f212_r2l:=rfl

@[simp] def f212_r3l:List Oper:=[⟨some 11,.move (.tmp 0),24,"slices.go:24",#[],none⟩,
 ⟨some 12,.call ⟨.builtin .len,#[.tmp 11],#[24]⟩,3,"slices.go:24",(gE [0]),none⟩,
 ⟨some 13,.move (.const (.int .i64 0)),3,"slices.go:24",#[],none⟩]
def f212_r3o:Array Oper:=f212_r3l.toArray
@[simp] theorem f212_r3_l:f212_r3o.toList=f212_r3l:=rfl

@[simp] def f212_r4l:List Oper:=[⟨some 14,.binOp .lss 3 (.tmp 13) (.tmp 12) 3,0,"slices.go:24",#[],none⟩]
def f212_r4o:Array Oper:=f212_r4l.toArray
@[simp] theorem f212_r4_l:f212_r4o.toList=f212_r4l:=rfl

@[simp] def f212_r5l:List Oper:=[⟨some 15,.move (.tmp 13),3,"slices.go:24",#[],none⟩,
 ⟨some 5,.assign (.tmp 15),3,"slices.go:24",(gE [0,3]),none⟩]
def f212_r5o:Array Oper:=f212_r5l.toArray
@[simp] theorem f212_r5_l:f212_r5o.toList=f212_r5l:=rfl

@[simp] def f212_r6l:List Oper:=[⟨some 16,.move (.tmp 0),24,"slices.go:25",#[],none⟩,
 ⟨some 17,.move (.tmp 5),3,"slices.go:25",#[],none⟩,
 ⟨some 18,.indexAddr 24 (.tmp 16) (.tmp 17),0,"slices.go:25",(gE [0,8]),none⟩,
 ⟨some 19,.load 55 (.tmp 18),55,"slices.go:25",(gE [16]),none⟩,
 ⟨some 20,.move (.tmp 1),24,"slices.go:25",#[],none⟩,
 ⟨some 21,.move (.tmp 5),3,"slices.go:25",#[],none⟩,
 ⟨some 22,.indexAddr 24 (.tmp 20) (.tmp 21),0,"slices.go:25",(gE [32,40]),none⟩,
 ⟨some 23,.load 55 (.tmp 22),55,"slices.go:25",(gE [48]),none⟩,
 ⟨some 24,.binOp .neq 55 (.tmp 19) (.tmp 23) 55,4,"slices.go:25",(gE [24,56]),none⟩]
def tI:Array Oper:=f212_r6l.toArray
@[simp] theorem f212_r6_l:tI.toList=f212_r6l:=rfl

@[simp] theorem f212_r6_n:tI.size=9:=rfl
@[simp] def f212_r7l:List Oper:=[⟨some 4,.assign (.const (.bool false)),4,"slices.go:26",#[],none⟩]
def f212_r7o:Array Oper:=f212_r7l.toArray
@[simp] theorem f212_r7_l:f212_r7o.toList=f212_r7l:=rfl

@[simp] def f212_r8l:List Oper:=[⟨some 25,.binOp .add 3 (.tmp 13) (.const (.int .i64 1)) 3,3,"slices.go:24",#[],none⟩,
 ⟨some 13,.move (.tmp 25),3,"slices.go:24",(gE [0]),none⟩]
def f212_r8o:Array Oper:=f212_r8l.toArray
@[simp] theorem f212_r8_l:f212_r8o.toList=f212_r8l:=rfl

def f212_l0:AC :=
 (.seq (.reg 4 f212_r4o [0,1,12,13,14]) (.seq (.cond (.tmp 14) .skip (.exit 0)) (.seq (.block 1 (.seq (.reg 5 f212_r5o [0,1,5,12,13]) (.seq (.draw 6 tI [0,1,12,13,24]) (.cond (.tmp 24) (.seq (.reg 7 f212_r7o [4]) .ret) .skip)))) (.reg 8 f212_r8o [0,1,12,13]))))
theorem f212_l0_fits:f212_l0.fits 26=true:=by kernel_rfl
@[simp] def f212_r9l:List Oper:=[⟨some 4,.assign (.const (.bool true)),4,"slices.go:29",#[],none⟩]
def f212_r9o:Array Oper:=f212_r9l.toArray
@[simp] theorem f212_r9_l:f212_r9o.toList=f212_r9l:=rfl

def f212_ac:AC :=
 (.seq (.reg 0 f212_r0o [0,1]) (.seq (.seq (.reg 1 f212_r1o [0,1,10]) (.cond (.tmp 10) (.seq (.reg 2 f212_r2o [4]) .ret) .skip)) (.seq (.seq (.reg 3 f212_r3o [0,1,12,13]) (.block 0 (.loop f212_l0))) (.seq (.reg 9 f212_r9o [4]) .ret))))
theorem f212_eq:Tryz.f28.body=some f212_ac.code:=by kernel_rfl
@[simp] theorem f212_nt:Tryz.f28.ntmps=26:=rfl
theorem f212_fits:f212_ac.fits Tryz.f28.ntmps=true:=by kernel_rfl
@[simp] theorem f212_res:Tryz.f28.results.toList=[.tmp 4]:=rfl
@[simp] theorem f212_isb:Tryz.f28.body.isNone=false:=rfl
@[simp] theorem f212_r6_s:zD zB tI=true:=by kernel_rfl
@[simp] theorem f212_r6_d:yg zB tI=true:=by kernel_rfl
/- F29 slices.EqualFunc[[]cinnabar/api.Alt,[]cinnabar/api.Alt,cinnabar/api.Alt,cinnabar/api.Alt] -/
@[simp] def f213_r0l:List Oper:=[⟨some 6,.assign (.const (.bool false)),4,"slices.go:37",#[],none⟩]
def f213_r0o:Array Oper:=f213_r0l.toArray
@[simp] theorem f213_r0_l:f213_r0o.toList=f213_r0l:=rfl

@[simp] def f213_r1l:List Oper:=[⟨some 10,.move (.tmp 0),23,"slices.go:38",#[],none⟩,
 ⟨some 11,.call ⟨.builtin .len,#[.tmp 10],#[23]⟩,3,"slices.go:38",(gE [0]),none⟩,
 ⟨some 12,.move (.tmp 1),23,"slices.go:38",#[],none⟩,
 ⟨some 13,.call ⟨.builtin .len,#[.tmp 12],#[23]⟩,3,"slices.go:38",(gE [16]),none⟩,
 ⟨some 14,.binOp .neq 3 (.tmp 11) (.tmp 13) 3,4,"slices.go:38",(gE [8,24]),none⟩]
def f213_r1o:Array Oper:=f213_r1l.toArray
@[simp] theorem f213_r1_l:f213_r1o.toList=f213_r1l:=rfl

@[simp] def f213_r2l:List Oper:=[⟨some 6,.assign (.const (.bool false)),4,"slices.go:39",#[],none⟩]
def f213_r2o:Array Oper:=f213_r2l.toArray
@[simp] theorem f213_r2_l:f213_r2o.toList=f213_r2l:=rfl

@[simp] def f213_r3l:List Oper:=[⟨some 15,.move (.tmp 0),23,"slices.go:41",#[],none⟩,
 ⟨some 16,.call ⟨.builtin .len,#[.tmp 15],#[23]⟩,3,"slices.go:41",(gE [0]),none⟩,
 ⟨some 17,.move (.const (.int .i64 0)),3,"slices.go:41",#[],none⟩]
def f213_r3o:Array Oper:=f213_r3l.toArray
@[simp] theorem f213_r3_l:f213_r3o.toList=f213_r3l:=rfl

@[simp] def f213_r4l:List Oper:=[⟨some 18,.binOp .lss 3 (.tmp 17) (.tmp 16) 3,0,"slices.go:41",#[],none⟩]
def f213_r4o:Array Oper:=f213_r4l.toArray
@[simp] theorem f213_r4_l:f213_r4o.toList=f213_r4l:=rfl

@[simp] def f213_r5l:List Oper:=[⟨some 19,.move (.tmp 17),3,"slices.go:41",#[],none⟩,
 ⟨some 20,.indexAddr 23 (.tmp 15) (.tmp 17),0,"slices.go:41",#[],none⟩,
 ⟨some 21,.load 39 (.tmp 20),39,"slices.go:41",(gE [8]),none⟩,
 ⟨some 8,.alloc 39,0,"slices.go:41",#[],none⟩,
 ⟨some 7,.assign (.tmp 19),3,"slices.go:41",(gE [0,3,11,19,27]),none⟩,
 ⟨none,.store 39 (.tmp 8) (.tmp 21),0,"slices.go:41",(gE [24,16,33,3,11,19,27,35]),none⟩]
def f213_r5o:Array Oper:=f213_r5l.toArray
@[simp] theorem f213_r5_l:f213_r5o.toList=f213_r5l:=rfl

@[simp] def f213_r6l:List Oper:=[⟨some 22,.move (.tmp 1),23,"slices.go:42",#[],none⟩,
 ⟨some 23,.move (.tmp 7),3,"slices.go:42",#[],none⟩,
 ⟨some 24,.indexAddr 23 (.tmp 22) (.tmp 23),0,"slices.go:42",(gE [0,8]),none⟩,
 ⟨some 25,.load 39 (.tmp 24),39,"slices.go:42",(gE [16]),none⟩,
 ⟨some 9,.alloc 39,0,"slices.go:42",#[],none⟩,
 ⟨none,.store 39 (.tmp 9) (.tmp 25),0,"slices.go:42",(gE [32,24,3,11,19,27,35]),none⟩]
def f213_r6o:Array Oper:=f213_r6l.toArray
@[simp] theorem f213_r6_l:f213_r6o.toList=f213_r6l:=rfl

@[simp] def f213_r7l:List Oper:=[⟨some 26,.move (.tmp 2),58,"slices.go:43",#[],none⟩,
 ⟨some 27,.load 39 (.tmp 8),39,"slices.go:43",#[],none⟩,
 ⟨some 28,.load 39 (.tmp 9),39,"slices.go:43",#[],none⟩,
 ⟨some 29,.call ⟨.value (.tmp 26),#[.tmp 27,.tmp 28],#[39,39]⟩,4,"slices.go:43",(gE [0,8,16]),none⟩,
 ⟨some 30,.unOp .not 4 (.tmp 29),4,"slices.go:43",(gE [24]),none⟩]
def f213_r7o:Array Oper:=f213_r7l.toArray
@[simp] theorem f213_r7_l:f213_r7o.toList=f213_r7l:=rfl

@[simp] def f213_r8l:List Oper:=[⟨some 6,.assign (.const (.bool false)),4,"slices.go:44",#[],none⟩]
def f213_r8o:Array Oper:=f213_r8l.toArray
@[simp] theorem f213_r8_l:f213_r8o.toList=f213_r8l:=rfl

@[simp] def f213_r9l:List Oper:=[⟨some 31,.binOp .add 3 (.tmp 17) (.const (.int .i64 1)) 3,3,"slices.go:41",#[],none⟩,
 ⟨some 17,.move (.tmp 31),3,"slices.go:41",(gE [0]),none⟩]
def f213_r9o:Array Oper:=f213_r9l.toArray
@[simp] theorem f213_r9_l:f213_r9o.toList=f213_r9l:=rfl

def f213_l0:AC :=
 (.seq (.reg 4 f213_r4o [1,2,15,16,17,18]) (.seq (.cond (.tmp 18) .skip (.exit 0)) (.seq (.block 1 (.seq (.reg 5 f213_r5o [1,2,7,8,15,16,17]) (.seq (.reg 6 f213_r6o [1,2,8,9,15,16,17]) (.seq (.reg 7 f213_r7o [1,2,15,16,17,30]) (.cond (.tmp 30) (.seq (.reg 8 f213_r8o [6]) .ret) .skip))))) (.reg 9 f213_r9o [1,2,15,16,17]))))
theorem f213_l0_fits:f213_l0.fits 32=true:=by kernel_rfl
@[simp] def f213_r10l:List Oper:=[⟨some 6,.assign (.const (.bool true)),4,"slices.go:47",#[],none⟩]
def f213_r10o:Array Oper:=f213_r10l.toArray
@[simp] theorem f213_r10_l:f213_r10o.toList=f213_r10l:=rfl

def f213_ac:AC :=
 (.seq (.reg 0 f213_r0o [0,1,2]) (.seq (.seq (.reg 1 f213_r1o [0,1,2,14]) (.cond (.tmp 14) (.seq (.reg 2 f213_r2o [6]) .ret) .skip)) (.seq (.seq (.reg 3 f213_r3o [1,2,15,16,17]) (.block 0 (.loop f213_l0))) (.seq (.reg 10 f213_r10o [6]) .ret))))
theorem f213_eq:Tryz.f29.body=some f213_ac.code:=by kernel_rfl
@[simp] theorem f213_nt:Tryz.f29.ntmps=32:=rfl
theorem f213_fits:f213_ac.fits Tryz.f29.ntmps=true:=by kernel_rfl
@[simp] theorem f213_res:Tryz.f29.results.toList=[.tmp 6]:=rfl
@[simp] theorem f213_isb:Tryz.f29.body.isNone=false:=rfl
/- F30 cinnabar/cinnabarlaw16.Same$1$1 -/
@[simp] def f214_r0l:List Oper:=[⟨some 2,.box 39 (.tmp 0),0,"law.go:33",#[],none⟩,
 ⟨some 3,.box 39 (.tmp 1),0,"law.go:33",#[],none⟩,
 ⟨some 4,.assign (.const (.bool false)),4,"law.go:33",#[],none⟩]
def f214_r0o:Array Oper:=f214_r0l.toArray
@[simp] theorem f214_r0_l:f214_r0o.toList=f214_r0l:=rfl

@[simp] def f214_r1l:List Oper:=[⟨some 5,.fieldAddr 39 (.tmp 2) 0,0,"law.go:34",#[],none⟩,
 ⟨some 6,.load 9 (.tmp 5),9,"law.go:34",(gE [0]),none⟩,
 ⟨some 7,.fieldAddr 39 (.tmp 3) 0,0,"law.go:34",#[],none⟩,
 ⟨some 8,.load 9 (.tmp 7),9,"law.go:34",(gE [16]),none⟩,
 ⟨some 9,.binOp .eql 9 (.tmp 6) (.tmp 8) 9,4,"law.go:34",(gE [8,24]),none⟩,
 ⟨some 10,.move (.tmp 9),4,"law.go:34",(gE [32]),none⟩,
 ⟨some 11,.fieldAddr 39 (.tmp 2) 1,0,"law.go:34",(gE [42]),some (5,true)⟩,
 ⟨some 12,.load 37 (.tmp 11),37,"law.go:34",(gE [48,42]),some (5,true)⟩,
 ⟨some 13,.fieldAddr 39 (.tmp 3) 1,0,"law.go:34",(gE [42]),some (5,true)⟩,
 ⟨some 14,.load 37 (.tmp 13),37,"law.go:34",(gE [64,42]),some (5,true)⟩,
 ⟨some 15,.call ⟨.value (.func 31),#[.tmp 12,.tmp 14],#[37,37]⟩,4,"law.go:34",(gE [56,72,41,42]),some (5,true)⟩,
 ⟨some 16,.pick (.tmp 10) (.tmp 15) (.const (.bool false)),4,"law.go:34",(gE [40,80]),none⟩,
 ⟨some 4,.assign (.tmp 16),4,"law.go:34",(gE [88,81,3,11,19,27,35,43,51,59,67,75,83,91]),none⟩]
def f214_r1o:Array Oper:=f214_r1l.toArray
@[simp] theorem f214_r1_l:f214_r1o.toList=f214_r1l:=rfl

@[simp] theorem f214_r1_g5:zL f214_r1o 5=some 10:=rfl
def f214_ac:AC :=
 (.seq (.reg 0 f214_r0o [2,3,11,12,13,14,15]) (.seq (.reg 1 f214_r1o [4]) .ret))
theorem f214_eq:Tryz.f30.body=some f214_ac.code:=by kernel_rfl
@[simp] theorem f214_nt:Tryz.f30.ntmps=17:=rfl
theorem f214_fits:f214_ac.fits Tryz.f30.ntmps=true:=by kernel_rfl
@[simp] theorem f214_res:Tryz.f30.results.toList=[.tmp 4]:=rfl
@[simp] theorem f214_isb:Tryz.f30.body.isNone=false:=rfl
/- F31 slices.Equal[[]int,int] -/
@[simp] def f215_r0l:List Oper:=[⟨some 4,.assign (.const (.bool false)),4,"slices.go:20",#[],none⟩]
def f215_r0o:Array Oper:=f215_r0l.toArray
@[simp] theorem f215_r0_l:f215_r0o.toList=f215_r0l:=rfl

@[simp] def f215_r1l:List Oper:=[⟨some 6,.move (.tmp 0),37,"slices.go:21",#[],none⟩,
 ⟨some 7,.call ⟨.builtin .len,#[.tmp 6],#[37]⟩,3,"slices.go:21",(gE [0]),none⟩,
 ⟨some 8,.move (.tmp 1),37,"slices.go:21",#[],none⟩,
 ⟨some 9,.call ⟨.builtin .len,#[.tmp 8],#[37]⟩,3,"slices.go:21",(gE [16]),none⟩,
 ⟨some 10,.binOp .neq 3 (.tmp 7) (.tmp 9) 3,4,"slices.go:21",(gE [8,24]),none⟩]
def f215_r1o:Array Oper:=f215_r1l.toArray
@[simp] theorem f215_r1_l:f215_r1o.toList=f215_r1l:=rfl

@[simp] def f215_r2l:List Oper:=[⟨some 4,.assign (.const (.bool false)),4,"slices.go:22",#[],none⟩]
def f215_r2o:Array Oper:=f215_r2l.toArray
@[simp] theorem f215_r2_l:f215_r2o.toList=f215_r2l:=rfl

@[simp] def f215_r3l:List Oper:=[⟨some 11,.move (.tmp 0),37,"slices.go:24",#[],none⟩,
 ⟨some 12,.call ⟨.builtin .len,#[.tmp 11],#[37]⟩,3,"slices.go:24",(gE [0]),none⟩,
 ⟨some 13,.move (.const (.int .i64 0)),3,"slices.go:24",#[],none⟩]
def f215_r3o:Array Oper:=f215_r3l.toArray
@[simp] theorem f215_r3_l:f215_r3o.toList=f215_r3l:=rfl

@[simp] def f215_r4l:List Oper:=[⟨some 14,.binOp .lss 3 (.tmp 13) (.tmp 12) 3,0,"slices.go:24",#[],none⟩]
def f215_r4o:Array Oper:=f215_r4l.toArray
@[simp] theorem f215_r4_l:f215_r4o.toList=f215_r4l:=rfl

@[simp] def f215_r5l:List Oper:=[⟨some 15,.move (.tmp 13),3,"slices.go:24",#[],none⟩,
 ⟨some 5,.assign (.tmp 15),3,"slices.go:24",(gE [0,3]),none⟩]
def f215_r5o:Array Oper:=f215_r5l.toArray
@[simp] theorem f215_r5_l:f215_r5o.toList=f215_r5l:=rfl

@[simp] def f215_r6l:List Oper:=[⟨some 16,.move (.tmp 0),37,"slices.go:25",#[],none⟩,
 ⟨some 17,.move (.tmp 5),3,"slices.go:25",#[],none⟩,
 ⟨some 18,.indexAddr 37 (.tmp 16) (.tmp 17),0,"slices.go:25",(gE [0,8]),none⟩,
 ⟨some 19,.load 3 (.tmp 18),3,"slices.go:25",(gE [16]),none⟩,
 ⟨some 20,.move (.tmp 1),37,"slices.go:25",#[],none⟩,
 ⟨some 21,.move (.tmp 5),3,"slices.go:25",#[],none⟩,
 ⟨some 22,.indexAddr 37 (.tmp 20) (.tmp 21),0,"slices.go:25",(gE [32,40]),none⟩,
 ⟨some 23,.load 3 (.tmp 22),3,"slices.go:25",(gE [48]),none⟩,
 ⟨some 24,.binOp .neq 3 (.tmp 19) (.tmp 23) 3,4,"slices.go:25",(gE [24,56]),none⟩]
def tH:Array Oper:=f215_r6l.toArray
@[simp] theorem f215_r6_l:tH.toList=f215_r6l:=rfl

@[simp] theorem f215_r6_n:tH.size=9:=rfl
@[simp] def f215_r7l:List Oper:=[⟨some 4,.assign (.const (.bool false)),4,"slices.go:26",#[],none⟩]
def f215_r7o:Array Oper:=f215_r7l.toArray
@[simp] theorem f215_r7_l:f215_r7o.toList=f215_r7l:=rfl

@[simp] def f215_r8l:List Oper:=[⟨some 25,.binOp .add 3 (.tmp 13) (.const (.int .i64 1)) 3,3,"slices.go:24",#[],none⟩,
 ⟨some 13,.move (.tmp 25),3,"slices.go:24",(gE [0]),none⟩]
def f215_r8o:Array Oper:=f215_r8l.toArray
@[simp] theorem f215_r8_l:f215_r8o.toList=f215_r8l:=rfl

def f215_l0:AC :=
 (.seq (.reg 4 f215_r4o [0,1,12,13,14]) (.seq (.cond (.tmp 14) .skip (.exit 0)) (.seq (.block 1 (.seq (.reg 5 f215_r5o [0,1,5,12,13]) (.seq (.draw 6 tH [0,1,12,13,24]) (.cond (.tmp 24) (.seq (.reg 7 f215_r7o [4]) .ret) .skip)))) (.reg 8 f215_r8o [0,1,12,13]))))
theorem f215_l0_fits:f215_l0.fits 26=true:=by kernel_rfl
@[simp] def f215_r9l:List Oper:=[⟨some 4,.assign (.const (.bool true)),4,"slices.go:29",#[],none⟩]
def f215_r9o:Array Oper:=f215_r9l.toArray
@[simp] theorem f215_r9_l:f215_r9o.toList=f215_r9l:=rfl

def f215_ac:AC :=
 (.seq (.reg 0 f215_r0o [0,1]) (.seq (.seq (.reg 1 f215_r1o [0,1,10]) (.cond (.tmp 10) (.seq (.reg 2 f215_r2o [4]) .ret) .skip)) (.seq (.seq (.reg 3 f215_r3o [0,1,12,13]) (.block 0 (.loop f215_l0))) (.seq (.reg 9 f215_r9o [4]) .ret))))
theorem f215_eq:Tryz.f31.body=some f215_ac.code:=by kernel_rfl
@[simp] theorem f215_nt:Tryz.f31.ntmps=26:=rfl
theorem f215_fits:f215_ac.fits Tryz.f31.ntmps=true:=by kernel_rfl
@[simp] theorem f215_res:Tryz.f31.results.toList=[.tmp 4]:=rfl
@[simp] theorem f215_isb:Tryz.f31.body.isNone=false:=rfl
@[simp] theorem f215_r6_s:zD zB tH=true:=by kernel_rfl
@[simp] theorem f215_r6_d:yg zB tH=true:=by kernel_rfl
/- F42 cinnabar/insts.copied$1 -/
@[simp] def f216_r0l:List Oper:=[⟨some 2,.assign (.const (.int .i64 0)),3,"insts.go:266",#[],none⟩]
def f216_r0o:Array Oper:=f216_r0l.toArray
@[simp] theorem f216_r0_l:f216_r0o.toList=f216_r0l:=rfl

@[simp] def f216_r1l:List Oper:=[⟨some 3,.move (.tmp 0),3,"insts.go:266",#[],none⟩,
 ⟨some 2,.assign (.tmp 3),3,"insts.go:266",(gE [0,3]),none⟩]
def f216_r1o:Array Oper:=f216_r1l.toArray
@[simp] theorem f216_r1_l:f216_r1o.toList=f216_r1l:=rfl

def f216_ac:AC :=
 (.seq (.reg 0 f216_r0o [0]) (.seq (.reg 1 f216_r1o [2]) .ret))
theorem f216_eq:Tryz.f42.body=some f216_ac.code:=by kernel_rfl
@[simp] theorem f216_nt:Tryz.f42.ntmps=4:=rfl
theorem f216_fits:f216_ac.fits Tryz.f42.ntmps=true:=by kernel_rfl
@[simp] theorem f216_res:Tryz.f42.results.toList=[.tmp 2]:=rfl
@[simp] theorem f216_isb:Tryz.f42.body.isNone=false:=rfl
/- F46 cinnabar/insts.equal -/
@[simp] def f217_r0l:List Oper:=[⟨some 1,.box 22 (.tmp 0),0,"insts.go:173",#[],none⟩,
 ⟨some 2,.assign (.const (.nilFunc)),74,"insts.go:173",#[],none⟩]
def f217_r0o:Array Oper:=f217_r0l.toArray
@[simp] theorem f217_r0_l:f217_r0o.toList=f217_r0l:=rfl

@[simp] def f217_r1l:List Oper:=[⟨some 3,.makeFunc (.func 77) #[] #[.tmp 1],74,"insts.go:174",#[],none⟩,
 ⟨some 2,.assign (.tmp 3),74,"insts.go:174",(gE [0,3]),none⟩]
def f217_r1o:Array Oper:=f217_r1l.toArray
@[simp] theorem f217_r1_l:f217_r1o.toList=f217_r1l:=rfl

def f217_ac:AC :=
 (.seq (.reg 0 f217_r0o [1]) (.seq (.reg 1 f217_r1o [2]) .ret))
theorem f217_eq:Tryz.f46.body=some f217_ac.code:=by kernel_rfl
@[simp] theorem f217_nt:Tryz.f46.ntmps=4:=rfl
theorem f217_fits:f217_ac.fits Tryz.f46.ntmps=true:=by kernel_rfl
@[simp] theorem f217_res:Tryz.f46.results.toList=[.tmp 2]:=rfl
@[simp] theorem f217_isb:Tryz.f46.body.isNone=false:=rfl
/- F48 cinnabar/cinnabarref16.moved -/
@[simp] def f218_r0l:List Oper:=[⟨some 2,.box 26 (.tmp 0),0,"ref.go:190",#[],none⟩,
 ⟨some 4,.alloc 26,0,"ref.go:190",#[],none⟩]
def f218_r0o:Array Oper:=f218_r0l.toArray
@[simp] theorem f218_r0_l:f218_r0o.toList=f218_r0l:=rfl

@[simp] def f218_r1l:List Oper:=[⟨some 10,.fieldAddr 26 (.tmp 2) 0,0,"ref.go:191",#[],none⟩,
 ⟨some 11,.load 3 (.tmp 10),3,"ref.go:191",(gE [0]),none⟩,
 ⟨some 12,.fieldAddr 26 (.tmp 2) 3,0,"ref.go:191",#[],none⟩,
 ⟨some 13,.load 3 (.tmp 12),3,"ref.go:191",(gE [16]),none⟩,
 ⟨some 14,.build 26 #[(0,.tmp 11),(3,.tmp 13)],26,"ref.go:191",(gE [8,24]),none⟩,
 ⟨some 5,.alloc 26,0,"ref.go:191",#[],none⟩,
 ⟨none,.store 26 (.tmp 5) (.tmp 14),0,"ref.go:191",(gE [40,32,3,11,19,27,35,43]),none⟩]
def f218_r1o:Array Oper:=f218_r1l.toArray
@[simp] theorem f218_r1_l:f218_r1o.toList=f218_r1l:=rfl

@[simp] def f218_r2l:List Oper:=[⟨some 6,.assign (.const (.int .i64 0)),3,"ref.go:192",#[],none⟩]
def f218_r2o:Array Oper:=f218_r2l.toArray
@[simp] theorem f218_r2_l:f218_r2o.toList=f218_r2l:=rfl

@[simp] def f218_r3l:List Oper:=[⟨some 15,.move (.tmp 6),3,"ref.go:192",#[],none⟩,
 ⟨some 16,.fieldAddr 26 (.tmp 2) 1,0,"ref.go:192",#[],none⟩,
 ⟨some 17,.load 23 (.tmp 16),23,"ref.go:192",(gE [8]),none⟩,
 ⟨some 18,.call ⟨.builtin .len,#[.tmp 17],#[23]⟩,3,"ref.go:192",(gE [16]),none⟩,
 ⟨some 19,.binOp .lss 3 (.tmp 15) (.tmp 18) 3,4,"ref.go:192",(gE [0,24]),none⟩]
def f218_r3o:Array Oper:=f218_r3l.toArray
@[simp] theorem f218_r3_l:f218_r3o.toList=f218_r3l:=rfl

@[simp] def f218_r5l:List Oper:=[⟨some 22,.fieldAddr 26 (.tmp 2) 1,0,"ref.go:193",#[],none⟩,
 ⟨some 23,.load 23 (.tmp 22),23,"ref.go:193",(gE [0]),none⟩,
 ⟨some 24,.move (.tmp 6),3,"ref.go:193",#[],none⟩,
 ⟨some 25,.indexAddr 23 (.tmp 23) (.tmp 24),0,"ref.go:193",(gE [8,16]),none⟩,
 ⟨some 26,.fieldAddr 39 (.tmp 25) 0,0,"ref.go:193",(gE [24]),none⟩,
 ⟨some 27,.load 9 (.tmp 26),9,"ref.go:193",(gE [32]),none⟩,
 ⟨some 28,.build 39 #[(0,.tmp 27)],39,"ref.go:193",(gE [40]),none⟩,
 ⟨some 7,.alloc 39,0,"ref.go:193",#[],none⟩,
 ⟨none,.store 39 (.tmp 7) (.tmp 28),0,"ref.go:193",(gE [56,48,3,11,19,27,35,43,51,59]),none⟩]
def f218_r5o:Array Oper:=f218_r5l.toArray
@[simp] theorem f218_r5_l:f218_r5o.toList=f218_r5l:=rfl

@[simp] def f218_r6l:List Oper:=[⟨some 8,.assign (.const (.int .i64 0)),3,"ref.go:194",#[],none⟩]
def f218_r6o:Array Oper:=f218_r6l.toArray
@[simp] theorem f218_r6_l:f218_r6o.toList=f218_r6l:=rfl

@[simp] def f218_r7l:List Oper:=[⟨some 29,.move (.tmp 8),3,"ref.go:194",#[],none⟩,
 ⟨some 30,.fieldAddr 26 (.tmp 2) 1,0,"ref.go:194",#[],none⟩,
 ⟨some 31,.load 23 (.tmp 30),23,"ref.go:194",(gE [8]),none⟩,
 ⟨some 32,.move (.tmp 6),3,"ref.go:194",#[],none⟩,
 ⟨some 33,.indexAddr 23 (.tmp 31) (.tmp 32),0,"ref.go:194",(gE [16,24]),none⟩,
 ⟨some 34,.fieldAddr 39 (.tmp 33) 1,0,"ref.go:194",(gE [32]),none⟩,
 ⟨some 35,.load 37 (.tmp 34),37,"ref.go:194",(gE [40]),none⟩,
 ⟨some 36,.call ⟨.builtin .len,#[.tmp 35],#[37]⟩,3,"ref.go:194",(gE [48]),none⟩,
 ⟨some 37,.binOp .lss 3 (.tmp 29) (.tmp 36) 3,4,"ref.go:194",(gE [0,56]),none⟩]
def f218_r7o:Array Oper:=f218_r7l.toArray
@[simp] theorem f218_r7_l:f218_r7o.toList=f218_r7l:=rfl

@[simp] def f218_r9l:List Oper:=[⟨some 40,.fieldAddr 39 (.tmp 7) 1,0,"ref.go:195",#[],none⟩,
 ⟨some 41,.load 37 (.tmp 40),37,"ref.go:195",(gE [0]),none⟩,
 ⟨some 42,.move (.tmp 1),37,"ref.go:195",#[],none⟩,
 ⟨some 43,.fieldAddr 26 (.tmp 2) 1,0,"ref.go:195",#[],none⟩,
 ⟨some 44,.load 23 (.tmp 43),23,"ref.go:195",(gE [24]),none⟩,
 ⟨some 45,.move (.tmp 6),3,"ref.go:195",#[],none⟩,
 ⟨some 46,.indexAddr 23 (.tmp 44) (.tmp 45),0,"ref.go:195",(gE [32,40]),none⟩,
 ⟨some 47,.fieldAddr 39 (.tmp 46) 1,0,"ref.go:195",(gE [48]),none⟩,
 ⟨some 48,.load 37 (.tmp 47),37,"ref.go:195",(gE [56]),none⟩,
 ⟨some 49,.move (.tmp 8),3,"ref.go:195",#[],none⟩,
 ⟨some 50,.indexAddr 37 (.tmp 48) (.tmp 49),0,"ref.go:195",(gE [64,72]),none⟩,
 ⟨some 51,.load 3 (.tmp 50),3,"ref.go:195",(gE [80]),none⟩,
 ⟨some 52,.indexAddr 37 (.tmp 42) (.tmp 51),0,"ref.go:195",(gE [16,88]),none⟩,
 ⟨some 53,.load 3 (.tmp 52),3,"ref.go:195",(gE [96]),none⟩,
 ⟨some 54,.buildSlice 37 1 #[(0,.tmp 53)],37,"ref.go:195",(gE [104]),none⟩,
 ⟨some 55,.call ⟨.builtin .append,#[.tmp 41,.tmp 54],#[37,37]⟩,37,"ref.go:195",(gE [8,112]),none⟩,
 ⟨some 56,.fieldAddr 39 (.tmp 7) 1,0,"ref.go:195",(gE [3,11,19,27,35,43,51,59,67,75,83,91,99,107,115,123]),none⟩,
 ⟨none,.store 37 (.tmp 56) (.tmp 55),0,"ref.go:195",(gE [128,120,121,3,11,19,27,35,43,51,59,67,75,83,91,99,107,115,123]),none⟩]
def vg:Array Oper:=f218_r9l.toArray
@[simp] theorem f218_r9_l:vg.toList=f218_r9l:=rfl

@[simp] theorem f218_r9_n:vg.size=18:=rfl
@[simp] def f218_r8l:List Oper:=[⟨some 38,.move (.tmp 8),3,"ref.go:194",#[],none⟩,
 ⟨some 39,.binOp .add 3 (.tmp 38) (.const (.int .i64 1)) 3,3,"ref.go:194",(gE [0]),none⟩,
 ⟨some 8,.assign (.tmp 39),3,"ref.go:194",(gE [8,3,11]),none⟩]
def f218_r8o:Array Oper:=f218_r8l.toArray
@[simp] theorem f218_r8_l:f218_r8o.toList=f218_r8l:=rfl

def xX:AC :=
 (.seq (.seq (.reg 7 f218_r7o [1,2,4,5,6,7,8,37]) (.cond (.tmp 37) .skip (.exit 2))) (.seq (.block 3 (.draw 9 vg [1,2,4,5,6,7,8])) (.reg 8 f218_r8o [1,2,4,5,6,7,8])))
theorem f218_l0_fits:xX.fits 95=true:=by kernel_rfl
@[simp] def f218_r10l:List Oper:=[⟨some 57,.fieldAddr 26 (.tmp 5) 1,0,"ref.go:197",#[],none⟩,
 ⟨some 58,.load 23 (.tmp 57),23,"ref.go:197",(gE [0]),none⟩,
 ⟨some 59,.load 39 (.tmp 7),39,"ref.go:197",#[],none⟩,
 ⟨some 60,.buildSlice 23 1 #[(0,.tmp 59)],23,"ref.go:197",(gE [16]),none⟩,
 ⟨some 61,.call ⟨.builtin .append,#[.tmp 58,.tmp 60],#[23,23]⟩,23,"ref.go:197",(gE [8,24]),none⟩,
 ⟨some 62,.fieldAddr 26 (.tmp 5) 1,0,"ref.go:197",(gE [3,11,19,27,35]),none⟩,
 ⟨none,.store 23 (.tmp 62) (.tmp 61),0,"ref.go:197",(gE [40,32,33,3,11,19,27,35]),none⟩]
def xV:Array Oper:=f218_r10l.toArray
@[simp] theorem f218_r10_l:xV.toList=f218_r10l:=rfl

@[simp] def f218_r4l:List Oper:=[⟨some 20,.move (.tmp 6),3,"ref.go:192",#[],none⟩,
 ⟨some 21,.binOp .add 3 (.tmp 20) (.const (.int .i64 1)) 3,3,"ref.go:192",(gE [0]),none⟩,
 ⟨some 6,.assign (.tmp 21),3,"ref.go:192",(gE [8,3,11]),none⟩]
def f218_r4o:Array Oper:=f218_r4l.toArray
@[simp] theorem f218_r4_l:f218_r4o.toList=f218_r4l:=rfl

def vS:AC :=
 (.seq (.seq (.reg 3 f218_r3o [1,2,4,5,6,19]) (.cond (.tmp 19) .skip (.exit 0))) (.seq (.block 1 (.seq (.reg 5 f218_r5o [1,2,4,5,6,7]) (.seq (.seq (.reg 6 f218_r6o [1,2,4,5,6,7,8]) (.block 2 (.loop xX))) (.reg 10 xV [1,2,4,5,6])))) (.reg 4 f218_r4o [1,2,4,5,6])))
theorem f218_l1_fits:vS.fits 95=true:=by kernel_rfl
@[simp] def f218_r11l:List Oper:=[⟨some 9,.assign (.const (.int .i64 0)),3,"ref.go:199",#[],none⟩]
def f218_r11o:Array Oper:=f218_r11l.toArray
@[simp] theorem f218_r11_l:f218_r11o.toList=f218_r11l:=rfl

@[simp] def f218_r12l:List Oper:=[⟨some 63,.move (.tmp 9),3,"ref.go:199",#[],none⟩,
 ⟨some 64,.fieldAddr 26 (.tmp 2) 2,0,"ref.go:199",#[],none⟩,
 ⟨some 65,.load 24 (.tmp 64),24,"ref.go:199",(gE [8]),none⟩,
 ⟨some 66,.call ⟨.builtin .len,#[.tmp 65],#[24]⟩,3,"ref.go:199",(gE [16]),none⟩,
 ⟨some 67,.binOp .lss 3 (.tmp 63) (.tmp 66) 3,4,"ref.go:199",(gE [0,24]),none⟩]
def f218_r12o:Array Oper:=f218_r12l.toArray
@[simp] theorem f218_r12_l:f218_r12o.toList=f218_r12l:=rfl

@[simp] def f218_r14l:List Oper:=[⟨some 70,.fieldAddr 26 (.tmp 5) 2,0,"ref.go:200",#[],none⟩,
 ⟨some 71,.load 24 (.tmp 70),24,"ref.go:200",(gE [0]),none⟩,
 ⟨some 72,.move (.tmp 1),37,"ref.go:200",#[],none⟩,
 ⟨some 73,.fieldAddr 26 (.tmp 2) 2,0,"ref.go:200",#[],none⟩,
 ⟨some 74,.load 24 (.tmp 73),24,"ref.go:200",(gE [24]),none⟩,
 ⟨some 75,.move (.tmp 9),3,"ref.go:200",#[],none⟩,
 ⟨some 76,.indexAddr 24 (.tmp 74) (.tmp 75),0,"ref.go:200",(gE [32,40]),none⟩,
 ⟨some 77,.fieldAddr 55 (.tmp 76) 0,0,"ref.go:200",(gE [48]),none⟩,
 ⟨some 78,.load 3 (.tmp 77),3,"ref.go:200",(gE [56]),none⟩,
 ⟨some 79,.indexAddr 37 (.tmp 72) (.tmp 78),0,"ref.go:200",(gE [16,64]),none⟩,
 ⟨some 80,.load 3 (.tmp 79),3,"ref.go:200",(gE [72]),none⟩,
 ⟨some 81,.move (.tmp 1),37,"ref.go:200",#[],none⟩,
 ⟨some 82,.fieldAddr 26 (.tmp 2) 2,0,"ref.go:200",#[],none⟩,
 ⟨some 83,.load 24 (.tmp 82),24,"ref.go:200",(gE [96]),none⟩,
 ⟨some 84,.move (.tmp 9),3,"ref.go:200",#[],none⟩,
 ⟨some 85,.indexAddr 24 (.tmp 83) (.tmp 84),0,"ref.go:200",(gE [104,112]),none⟩,
 ⟨some 86,.fieldAddr 55 (.tmp 85) 1,0,"ref.go:200",(gE [120]),none⟩,
 ⟨some 87,.load 3 (.tmp 86),3,"ref.go:200",(gE [128]),none⟩,
 ⟨some 88,.indexAddr 37 (.tmp 81) (.tmp 87),0,"ref.go:200",(gE [88,136]),none⟩,
 ⟨some 89,.load 3 (.tmp 88),3,"ref.go:200",(gE [144]),none⟩,
 ⟨some 90,.build 55 #[(0,.tmp 80),(1,.tmp 89)],55,"ref.go:200",(gE [80,152]),none⟩,
 ⟨some 91,.buildSlice 24 1 #[(0,.tmp 90)],24,"ref.go:200",(gE [160]),none⟩,
 ⟨some 92,.call ⟨.builtin .append,#[.tmp 71,.tmp 91],#[24,24]⟩,24,"ref.go:200",(gE [8,168]),none⟩,
 ⟨some 93,.fieldAddr 26 (.tmp 5) 2,0,"ref.go:200",(gE [3,11,19,27,35,43,51,59,67,75,83,91,99,107,115,123,131,139,147,155,163,171,179]),none⟩,
 ⟨none,.store 24 (.tmp 93) (.tmp 92),0,"ref.go:200",(gE [184,176,177,3,11,19,27,35,43,51,59,67,75,83,91,99,107,115,123,131,139,147,155,163,171,179]),none⟩]
def xU:Array Oper:=f218_r14l.toArray
@[simp] theorem f218_r14_l:xU.toList=f218_r14l:=rfl

@[simp] theorem f218_r14_n:xU.size=25:=rfl
@[simp] def f218_r13l:List Oper:=[⟨some 68,.move (.tmp 9),3,"ref.go:199",#[],none⟩,
 ⟨some 69,.binOp .add 3 (.tmp 68) (.const (.int .i64 1)) 3,3,"ref.go:199",(gE [0]),none⟩,
 ⟨some 9,.assign (.tmp 69),3,"ref.go:199",(gE [8,3,11]),none⟩]
def f218_r13o:Array Oper:=f218_r13l.toArray
@[simp] theorem f218_r13_l:f218_r13o.toList=f218_r13l:=rfl

def xW:AC :=
 (.seq (.seq (.reg 12 f218_r12o [1,2,4,5,9,67]) (.cond (.tmp 67) .skip (.exit 4))) (.seq (.block 5 (.draw 14 xU [1,2,4,5,9])) (.reg 13 f218_r13o [1,2,4,5,9])))
theorem f218_l2_fits:xW.fits 95=true:=by kernel_rfl
@[simp] def f218_r15l:List Oper:=[⟨some 94,.load 26 (.tmp 5),26,"ref.go:202",#[],none⟩,
 ⟨none,.store 26 (.tmp 4) (.tmp 94),0,"ref.go:202",(gE [0,3]),none⟩]
def f218_r15o:Array Oper:=f218_r15l.toArray
@[simp] theorem f218_r15_l:f218_r15o.toList=f218_r15l:=rfl

def f218_ac:AC :=
 (.seq (.reg 0 f218_r0o [1,2,4]) (.seq (.reg 1 f218_r1o [1,2,4,5]) (.seq (.seq (.reg 2 f218_r2o [1,2,4,5,6]) (.block 0 (.loop vS))) (.seq (.seq (.reg 11 f218_r11o [1,2,4,5,9]) (.block 4 (.loop xW))) (.seq (.reg 15 f218_r15o [4]) .ret)))))
theorem f218_eq:Tryz.f48.body=some f218_ac.code:=by kernel_rfl
@[simp] theorem f218_nt:Tryz.f48.ntmps=95:=rfl
theorem f218_fits:f218_ac.fits Tryz.f48.ntmps=true:=by kernel_rfl
@[simp] theorem f218_res:Tryz.f48.results.toList=[.cell 4 26]:=rfl
@[simp] theorem f218_isb:Tryz.f48.body.isNone=false:=rfl
@[simp] theorem f218_r9_s:zD zB vg=true:=by kernel_rfl
@[simp] theorem f218_r9_d:yg zB vg=true:=by kernel_rfl
@[simp] theorem f218_r14_s:zD zB xU=true:=by kernel_rfl
@[simp] theorem f218_r14_d:yg zB xU=true:=by kernel_rfl
@[simp] theorem f218_r9_t15:zV zB vg 15=true:=by kernel_rfl
@[simp] theorem f218_r9_t17:zV zB vg 17=true:=by kernel_rfl
@[simp] theorem f218_r14_t22:zV zB xU 22=true:=by kernel_rfl
@[simp] theorem f218_r14_t24:zV zB xU 24=true:=by kernel_rfl
/- F50 cinnabar/cinnabarref16.alike -/
@[simp] def f219_r0l:List Oper:=[⟨some 2,.box 26 (.tmp 0),0,"ref.go:131",#[],none⟩,
 ⟨some 3,.box 26 (.tmp 1),0,"ref.go:131",#[],none⟩,
 ⟨some 4,.assign (.const (.bool false)),4,"ref.go:131",#[],none⟩]
def f219_r0o:Array Oper:=f219_r0l.toArray
@[simp] theorem f219_r0_l:f219_r0o.toList=f219_r0l:=rfl

@[simp] def f219_r1l:List Oper:=[⟨some 6,.fieldAddr 26 (.tmp 2) 0,0,"ref.go:132",#[],none⟩,
 ⟨some 7,.load 3 (.tmp 6),3,"ref.go:132",(gE [0]),none⟩,
 ⟨some 8,.fieldAddr 26 (.tmp 3) 0,0,"ref.go:132",#[],none⟩,
 ⟨some 9,.load 3 (.tmp 8),3,"ref.go:132",(gE [16]),none⟩,
 ⟨some 10,.binOp .neq 3 (.tmp 7) (.tmp 9) 3,4,"ref.go:132",(gE [8,24]),none⟩,
 ⟨some 11,.move (.tmp 10),4,"ref.go:132",(gE [32]),none⟩,
 ⟨some 12,.fieldAddr 26 (.tmp 2) 3,0,"ref.go:132",(gE [42]),some (5,false)⟩,
 ⟨some 13,.load 3 (.tmp 12),3,"ref.go:132",(gE [48,42]),some (5,false)⟩,
 ⟨some 14,.fieldAddr 26 (.tmp 3) 3,0,"ref.go:132",(gE [42]),some (5,false)⟩,
 ⟨some 15,.load 3 (.tmp 14),3,"ref.go:132",(gE [64,42]),some (5,false)⟩,
 ⟨some 16,.binOp .neq 3 (.tmp 13) (.tmp 15) 3,4,"ref.go:132",(gE [56,72,42]),some (5,false)⟩,
 ⟨some 17,.pick (.tmp 11) (.const (.bool true)) (.tmp 16),4,"ref.go:132",(gE [40,80]),none⟩,
 ⟨some 18,.move (.tmp 17),4,"ref.go:132",(gE [88,41]),none⟩,
 ⟨some 19,.fieldAddr 26 (.tmp 2) 1,0,"ref.go:132",(gE [98]),some (12,false)⟩,
 ⟨some 20,.load 23 (.tmp 19),23,"ref.go:132",(gE [104,98]),some (12,false)⟩,
 ⟨some 21,.call ⟨.builtin .len,#[.tmp 20],#[23]⟩,3,"ref.go:132",(gE [112,98]),some (12,false)⟩,
 ⟨some 22,.fieldAddr 26 (.tmp 3) 1,0,"ref.go:132",(gE [98]),some (12,false)⟩,
 ⟨some 23,.load 23 (.tmp 22),23,"ref.go:132",(gE [128,98]),some (12,false)⟩,
 ⟨some 24,.call ⟨.builtin .len,#[.tmp 23],#[23]⟩,3,"ref.go:132",(gE [136,98]),some (12,false)⟩,
 ⟨some 25,.binOp .neq 3 (.tmp 21) (.tmp 24) 3,4,"ref.go:132",(gE [120,144,98]),some (12,false)⟩,
 ⟨some 26,.pick (.tmp 18) (.const (.bool true)) (.tmp 25),4,"ref.go:132",(gE [96,152]),none⟩,
 ⟨some 27,.move (.tmp 26),4,"ref.go:132",(gE [160,97]),none⟩,
 ⟨some 28,.fieldAddr 26 (.tmp 2) 2,0,"ref.go:132",(gE [170]),some (21,false)⟩,
 ⟨some 29,.load 24 (.tmp 28),24,"ref.go:132",(gE [176,170]),some (21,false)⟩,
 ⟨some 30,.call ⟨.builtin .len,#[.tmp 29],#[24]⟩,3,"ref.go:132",(gE [184,170]),some (21,false)⟩,
 ⟨some 31,.fieldAddr 26 (.tmp 3) 2,0,"ref.go:132",(gE [170]),some (21,false)⟩,
 ⟨some 32,.load 24 (.tmp 31),24,"ref.go:132",(gE [200,170]),some (21,false)⟩,
 ⟨some 33,.call ⟨.builtin .len,#[.tmp 32],#[24]⟩,3,"ref.go:132",(gE [208,170]),some (21,false)⟩,
 ⟨some 34,.binOp .neq 3 (.tmp 30) (.tmp 33) 3,4,"ref.go:132",(gE [192,216,170]),some (21,false)⟩,
 ⟨some 35,.pick (.tmp 27) (.const (.bool true)) (.tmp 34),4,"ref.go:132",(gE [168,224]),none⟩]
def uq:Array Oper:=f219_r1l.toArray
@[simp] theorem f219_r1_l:uq.toList=f219_r1l:=rfl

@[simp] theorem f219_r1_g5:zL uq 5=some 11:=rfl
@[simp] theorem f219_r1_g12:zL uq 12=some 18:=rfl
@[simp] theorem f219_r1_g21:zL uq 21=some 27:=rfl
@[simp] def f219_r2l:List Oper:=[⟨some 4,.assign (.const (.bool false)),4,"ref.go:133",#[],none⟩]
def f219_r2o:Array Oper:=f219_r2l.toArray
@[simp] theorem f219_r2_l:f219_r2o.toList=f219_r2l:=rfl

@[simp] def f219_r3l:List Oper:=[⟨some 5,.assign (.const (.int .i64 0)),3,"ref.go:135",#[],none⟩]
def f219_r3o:Array Oper:=f219_r3l.toArray
@[simp] theorem f219_r3_l:f219_r3o.toList=f219_r3l:=rfl

@[simp] def f219_r4l:List Oper:=[⟨some 36,.move (.tmp 5),3,"ref.go:135",#[],none⟩,
 ⟨some 37,.fieldAddr 26 (.tmp 2) 1,0,"ref.go:135",#[],none⟩,
 ⟨some 38,.load 23 (.tmp 37),23,"ref.go:135",(gE [8]),none⟩,
 ⟨some 39,.call ⟨.builtin .len,#[.tmp 38],#[23]⟩,3,"ref.go:135",(gE [16]),none⟩,
 ⟨some 40,.binOp .lss 3 (.tmp 36) (.tmp 39) 3,4,"ref.go:135",(gE [0,24]),none⟩]
def f219_r4o:Array Oper:=f219_r4l.toArray
@[simp] theorem f219_r4_l:f219_r4o.toList=f219_r4l:=rfl

@[simp] def f219_r6l:List Oper:=[⟨some 43,.fieldAddr 26 (.tmp 2) 1,0,"ref.go:136",#[],none⟩,
 ⟨some 44,.load 23 (.tmp 43),23,"ref.go:136",(gE [0]),none⟩,
 ⟨some 45,.move (.tmp 5),3,"ref.go:136",#[],none⟩,
 ⟨some 46,.indexAddr 23 (.tmp 44) (.tmp 45),0,"ref.go:136",(gE [8,16]),none⟩,
 ⟨some 47,.fieldAddr 39 (.tmp 46) 0,0,"ref.go:136",(gE [24]),none⟩,
 ⟨some 48,.load 9 (.tmp 47),9,"ref.go:136",(gE [32]),none⟩,
 ⟨some 49,.fieldAddr 26 (.tmp 3) 1,0,"ref.go:136",#[],none⟩,
 ⟨some 50,.load 23 (.tmp 49),23,"ref.go:136",(gE [48]),none⟩,
 ⟨some 51,.move (.tmp 5),3,"ref.go:136",#[],none⟩,
 ⟨some 52,.indexAddr 23 (.tmp 50) (.tmp 51),0,"ref.go:136",(gE [56,64]),none⟩,
 ⟨some 53,.fieldAddr 39 (.tmp 52) 0,0,"ref.go:136",(gE [72]),none⟩,
 ⟨some 54,.load 9 (.tmp 53),9,"ref.go:136",(gE [80]),none⟩,
 ⟨some 55,.binOp .neq 9 (.tmp 48) (.tmp 54) 9,4,"ref.go:136",(gE [40,88]),none⟩,
 ⟨some 56,.move (.tmp 55),4,"ref.go:136",(gE [96]),none⟩,
 ⟨some 57,.fieldAddr 26 (.tmp 2) 1,0,"ref.go:136",(gE [106]),some (13,false)⟩,
 ⟨some 58,.load 23 (.tmp 57),23,"ref.go:136",(gE [112,106]),some (13,false)⟩,
 ⟨some 59,.move (.tmp 5),3,"ref.go:136",(gE [106]),some (13,false)⟩,
 ⟨some 60,.indexAddr 23 (.tmp 58) (.tmp 59),0,"ref.go:136",(gE [120,128,106]),some (13,false)⟩,
 ⟨some 61,.fieldAddr 39 (.tmp 60) 1,0,"ref.go:136",(gE [136,106]),some (13,false)⟩,
 ⟨some 62,.load 37 (.tmp 61),37,"ref.go:136",(gE [144,106]),some (13,false)⟩,
 ⟨some 63,.call ⟨.builtin .len,#[.tmp 62],#[37]⟩,3,"ref.go:136",(gE [152,106]),some (13,false)⟩,
 ⟨some 64,.fieldAddr 26 (.tmp 3) 1,0,"ref.go:136",(gE [106]),some (13,false)⟩,
 ⟨some 65,.load 23 (.tmp 64),23,"ref.go:136",(gE [168,106]),some (13,false)⟩,
 ⟨some 66,.move (.tmp 5),3,"ref.go:136",(gE [106]),some (13,false)⟩,
 ⟨some 67,.indexAddr 23 (.tmp 65) (.tmp 66),0,"ref.go:136",(gE [176,184,106]),some (13,false)⟩,
 ⟨some 68,.fieldAddr 39 (.tmp 67) 1,0,"ref.go:136",(gE [192,106]),some (13,false)⟩,
 ⟨some 69,.load 37 (.tmp 68),37,"ref.go:136",(gE [200,106]),some (13,false)⟩,
 ⟨some 70,.call ⟨.builtin .len,#[.tmp 69],#[37]⟩,3,"ref.go:136",(gE [208,106]),some (13,false)⟩,
 ⟨some 71,.binOp .neq 3 (.tmp 63) (.tmp 70) 3,4,"ref.go:136",(gE [160,216,106]),some (13,false)⟩,
 ⟨some 72,.pick (.tmp 56) (.const (.bool true)) (.tmp 71),4,"ref.go:136",(gE [104,224]),none⟩]
def vf:Array Oper:=f219_r6l.toArray
@[simp] theorem f219_r6_l:vf.toList=f219_r6l:=rfl

@[simp] theorem f219_r6_g13:zL vf 13=some 56:=rfl
@[simp] theorem f219_r6_n:vf.size=30:=rfl
@[simp] def f219_r7l:List Oper:=[⟨some 4,.assign (.const (.bool false)),4,"ref.go:137",#[],none⟩]
def f219_r7o:Array Oper:=f219_r7l.toArray
@[simp] theorem f219_r7_l:f219_r7o.toList=f219_r7l:=rfl

@[simp] def f219_r5l:List Oper:=[⟨some 41,.move (.tmp 5),3,"ref.go:135",#[],none⟩,
 ⟨some 42,.binOp .add 3 (.tmp 41) (.const (.int .i64 1)) 3,3,"ref.go:135",(gE [0]),none⟩,
 ⟨some 5,.assign (.tmp 42),3,"ref.go:135",(gE [8,3,11]),none⟩]
def f219_r5o:Array Oper:=f219_r5l.toArray
@[simp] theorem f219_r5_l:f219_r5o.toList=f219_r5l:=rfl

def f219_l0:AC :=
 (.seq (.seq (.reg 4 f219_r4o [2,3,5,40,57,58,59,60,61,62,63,64,65,66,67,68,69,70,71]) (.cond (.tmp 40) .skip (.exit 0))) (.seq (.block 1 (.seq (.draw 6 vf [2,3,5,57,58,59,60,61,62,63,64,65,66,67,68,69,70,71,72]) (.cond (.tmp 72) (.seq (.reg 7 f219_r7o [4]) .ret) .skip))) (.reg 5 f219_r5o [2,3,5,57,58,59,60,61,62,63,64,65,66,67,68,69,70,71])))
theorem f219_l0_fits:f219_l0.fits 73=true:=by kernel_rfl
@[simp] def f219_r8l:List Oper:=[⟨some 4,.assign (.const (.bool true)),4,"ref.go:140",#[],none⟩]
def f219_r8o:Array Oper:=f219_r8l.toArray
@[simp] theorem f219_r8_l:f219_r8o.toList=f219_r8l:=rfl

def f219_ac:AC :=
 (.seq (.reg 0 f219_r0o [2,3,12,13,14,15,16,19,20,21,22,23,24,25,28,29,30,31,32,33,34,57,58,59,60,61,62,63,64,65,66,67,68,69,70,71]) (.seq (.seq (.reg 1 uq [2,3,35,57,58,59,60,61,62,63,64,65,66,67,68,69,70,71]) (.cond (.tmp 35) (.seq (.reg 2 f219_r2o [4]) .ret) .skip)) (.seq (.seq (.reg 3 f219_r3o [2,3,5,57,58,59,60,61,62,63,64,65,66,67,68,69,70,71]) (.block 0 (.loop f219_l0))) (.seq (.reg 8 f219_r8o [4]) .ret))))
theorem f219_eq:Tryz.f50.body=some f219_ac.code:=by kernel_rfl
@[simp] theorem f219_nt:Tryz.f50.ntmps=73:=rfl
theorem f219_fits:f219_ac.fits Tryz.f50.ntmps=true:=by kernel_rfl
@[simp] theorem f219_res:Tryz.f50.results.toList=[.tmp 4]:=rfl
@[simp] theorem f219_isb:Tryz.f50.body.isNone=false:=rfl
@[simp] theorem f219_r6_s:zD zB vf=true:=by kernel_rfl
@[simp] theorem f219_r6_d:yg zB vf=true:=by kernel_rfl
/- F51 cinnabar/cinnabarref16.mark -/
@[simp] def f220_r0l:List Oper:=[⟨some 4,.assign (.const (.slice none 0 0)),65,"ref.go:178",#[],none⟩]
def f220_r0o:Array Oper:=f220_r0l.toArray
@[simp] theorem f220_r0_l:f220_r0o.toList=f220_r0l:=rfl

@[simp] def f220_r1l:List Oper:=[⟨some 5,.move (.tmp 0),65,"ref.go:178",#[],none⟩,
 ⟨some 6,.move (.tmp 1),3,"ref.go:178",#[],none⟩,
 ⟨some 7,.binOp .shr 3 (.tmp 6) (.const (.int .u64 16)) 118,3,"ref.go:178",(gE [8]),none⟩,
 ⟨some 8,.convert 3 5 (.tmp 7),5,"ref.go:178",(gE [16]),none⟩,
 ⟨some 9,.move (.tmp 1),3,"ref.go:178",#[],none⟩,
 ⟨some 10,.binOp .shr 3 (.tmp 9) (.const (.int .u64 8)) 118,3,"ref.go:178",(gE [32]),none⟩,
 ⟨some 11,.convert 3 5 (.tmp 10),5,"ref.go:178",(gE [40]),none⟩,
 ⟨some 12,.move (.tmp 1),3,"ref.go:178",#[],none⟩,
 ⟨some 13,.convert 3 5 (.tmp 12),5,"ref.go:178",(gE [56]),none⟩,
 ⟨some 14,.buildSlice 65 3 #[(0,.tmp 8),(1,.tmp 11),(2,.tmp 13)],65,"ref.go:178",(gE [24,48,64]),none⟩,
 ⟨some 15,.call ⟨.builtin .append,#[.tmp 5,.tmp 14],#[65,65]⟩,65,"ref.go:178",(gE [0,72]),none⟩,
 ⟨some 4,.assign (.tmp 15),65,"ref.go:178",(gE [80,81,3,11,19,27,35,43,51,59,67,75,83]),none⟩]
def f220_r1o:Array Oper:=f220_r1l.toArray
@[simp] theorem f220_r1_l:f220_r1o.toList=f220_r1l:=rfl

def f220_ac:AC :=
 (.seq (.reg 0 f220_r0o [0,1]) (.seq (.reg 1 f220_r1o [4]) .ret))
theorem f220_eq:Tryz.f51.body=some f220_ac.code:=by kernel_rfl
@[simp] theorem f220_nt:Tryz.f51.ntmps=16:=rfl
theorem f220_fits:f220_ac.fits Tryz.f51.ntmps=true:=by kernel_rfl
@[simp] theorem f220_res:Tryz.f51.results.toList=[.tmp 4]:=rfl
@[simp] theorem f220_isb:Tryz.f51.body.isNone=false:=rfl
/- F52 cinnabar/cinnabarref16.parts -/
@[simp] def f221_r0l:List Oper:=[⟨some 1,.box 26 (.tmp 0),0,"ref.go:119",#[],none⟩,
 ⟨some 2,.assign (.const (.slice none 0 0)),37,"ref.go:119",#[],none⟩]
def f221_r0o:Array Oper:=f221_r0l.toArray
@[simp] theorem f221_r0_l:f221_r0o.toList=f221_r0l:=rfl

@[simp] def f221_r1l:List Oper:=[⟨some 3,.assign (.const (.slice none 0 0)),37,"ref.go:120",#[],none⟩]
def f221_r1o:Array Oper:=f221_r1l.toArray
@[simp] theorem f221_r1_l:f221_r1o.toList=f221_r1l:=rfl

@[simp] def f221_r2l:List Oper:=[⟨some 4,.assign (.const (.int .i64 0)),3,"ref.go:121",#[],none⟩]
def f221_r2o:Array Oper:=f221_r2l.toArray
@[simp] theorem f221_r2_l:f221_r2o.toList=f221_r2l:=rfl

@[simp] def f221_r3l:List Oper:=[⟨some 6,.move (.tmp 4),3,"ref.go:121",#[],none⟩,
 ⟨some 7,.fieldAddr 26 (.tmp 1) 1,0,"ref.go:121",#[],none⟩,
 ⟨some 8,.load 23 (.tmp 7),23,"ref.go:121",(gE [8]),none⟩,
 ⟨some 9,.call ⟨.builtin .len,#[.tmp 8],#[23]⟩,3,"ref.go:121",(gE [16]),none⟩,
 ⟨some 10,.binOp .lss 3 (.tmp 6) (.tmp 9) 3,4,"ref.go:121",(gE [0,24]),none⟩]
def f221_r3o:Array Oper:=f221_r3l.toArray
@[simp] theorem f221_r3_l:f221_r3o.toList=f221_r3l:=rfl

@[simp] def f221_r5l:List Oper:=[⟨some 13,.move (.tmp 3),37,"ref.go:122",#[],none⟩,
 ⟨some 14,.fieldAddr 26 (.tmp 1) 1,0,"ref.go:122",#[],none⟩,
 ⟨some 15,.load 23 (.tmp 14),23,"ref.go:122",(gE [8]),none⟩,
 ⟨some 16,.move (.tmp 4),3,"ref.go:122",#[],none⟩,
 ⟨some 17,.indexAddr 23 (.tmp 15) (.tmp 16),0,"ref.go:122",(gE [16,24]),none⟩,
 ⟨some 18,.fieldAddr 39 (.tmp 17) 1,0,"ref.go:122",(gE [32]),none⟩,
 ⟨some 19,.load 37 (.tmp 18),37,"ref.go:122",(gE [40]),none⟩,
 ⟨some 20,.call ⟨.builtin .append,#[.tmp 13,.tmp 19],#[37,37]⟩,37,"ref.go:122",(gE [0,48]),none⟩,
 ⟨some 3,.assign (.tmp 20),37,"ref.go:122",(gE [56,57,3,11,19,27,35,43,51,59]),none⟩]
def f221_r5o:Array Oper:=f221_r5l.toArray
@[simp] theorem f221_r5_l:f221_r5o.toList=f221_r5l:=rfl

@[simp] def f221_r4l:List Oper:=[⟨some 11,.move (.tmp 4),3,"ref.go:121",#[],none⟩,
 ⟨some 12,.binOp .add 3 (.tmp 11) (.const (.int .i64 1)) 3,3,"ref.go:121",(gE [0]),none⟩,
 ⟨some 4,.assign (.tmp 12),3,"ref.go:121",(gE [8,3,11]),none⟩]
def f221_r4o:Array Oper:=f221_r4l.toArray
@[simp] theorem f221_r4_l:f221_r4o.toList=f221_r4l:=rfl

def ve:AC :=
 (.seq (.seq (.reg 3 f221_r3o [1,3,4,10]) (.cond (.tmp 10) .skip (.exit 0))) (.seq (.block 1 (.reg 5 f221_r5o [1,3,4])) (.reg 4 f221_r4o [1,3,4])))
theorem f221_l0_fits:ve.fits 44=true:=by kernel_rfl
@[simp] def f221_r6l:List Oper:=[⟨some 5,.assign (.const (.int .i64 0)),3,"ref.go:124",#[],none⟩]
def f221_r6o:Array Oper:=f221_r6l.toArray
@[simp] theorem f221_r6_l:f221_r6o.toList=f221_r6l:=rfl

@[simp] def f221_r7l:List Oper:=[⟨some 21,.move (.tmp 5),3,"ref.go:124",#[],none⟩,
 ⟨some 22,.fieldAddr 26 (.tmp 1) 2,0,"ref.go:124",#[],none⟩,
 ⟨some 23,.load 24 (.tmp 22),24,"ref.go:124",(gE [8]),none⟩,
 ⟨some 24,.call ⟨.builtin .len,#[.tmp 23],#[24]⟩,3,"ref.go:124",(gE [16]),none⟩,
 ⟨some 25,.binOp .lss 3 (.tmp 21) (.tmp 24) 3,4,"ref.go:124",(gE [0,24]),none⟩]
def f221_r7o:Array Oper:=f221_r7l.toArray
@[simp] theorem f221_r7_l:f221_r7o.toList=f221_r7l:=rfl

@[simp] def f221_r9l:List Oper:=[⟨some 28,.move (.tmp 3),37,"ref.go:125",#[],none⟩,
 ⟨some 29,.fieldAddr 26 (.tmp 1) 2,0,"ref.go:125",#[],none⟩,
 ⟨some 30,.load 24 (.tmp 29),24,"ref.go:125",(gE [8]),none⟩,
 ⟨some 31,.move (.tmp 5),3,"ref.go:125",#[],none⟩,
 ⟨some 32,.indexAddr 24 (.tmp 30) (.tmp 31),0,"ref.go:125",(gE [16,24]),none⟩,
 ⟨some 33,.fieldAddr 55 (.tmp 32) 0,0,"ref.go:125",(gE [32]),none⟩,
 ⟨some 34,.load 3 (.tmp 33),3,"ref.go:125",(gE [40]),none⟩,
 ⟨some 35,.fieldAddr 26 (.tmp 1) 2,0,"ref.go:125",#[],none⟩,
 ⟨some 36,.load 24 (.tmp 35),24,"ref.go:125",(gE [56]),none⟩,
 ⟨some 37,.move (.tmp 5),3,"ref.go:125",#[],none⟩,
 ⟨some 38,.indexAddr 24 (.tmp 36) (.tmp 37),0,"ref.go:125",(gE [64,72]),none⟩,
 ⟨some 39,.fieldAddr 55 (.tmp 38) 1,0,"ref.go:125",(gE [80]),none⟩,
 ⟨some 40,.load 3 (.tmp 39),3,"ref.go:125",(gE [88]),none⟩,
 ⟨some 41,.buildSlice 37 2 #[(0,.tmp 34),(1,.tmp 40)],37,"ref.go:125",(gE [48,96]),none⟩,
 ⟨some 42,.call ⟨.builtin .append,#[.tmp 28,.tmp 41],#[37,37]⟩,37,"ref.go:125",(gE [0,104]),none⟩,
 ⟨some 3,.assign (.tmp 42),37,"ref.go:125",(gE [112,113,3,11,19,27,35,43,51,59,67,75,83,91,99,107,115]),none⟩]
def uo:Array Oper:=f221_r9l.toArray
@[simp] theorem f221_r9_l:uo.toList=f221_r9l:=rfl

@[simp] theorem f221_r9_n:uo.size=16:=rfl
@[simp] def f221_r8l:List Oper:=[⟨some 26,.move (.tmp 5),3,"ref.go:124",#[],none⟩,
 ⟨some 27,.binOp .add 3 (.tmp 26) (.const (.int .i64 1)) 3,3,"ref.go:124",(gE [0]),none⟩,
 ⟨some 5,.assign (.tmp 27),3,"ref.go:124",(gE [8,3,11]),none⟩]
def f221_r8o:Array Oper:=f221_r8l.toArray
@[simp] theorem f221_r8_l:f221_r8o.toList=f221_r8l:=rfl

def uS:AC :=
 (.seq (.seq (.reg 7 f221_r7o [1,3,5,25]) (.cond (.tmp 25) .skip (.exit 2))) (.seq (.block 3 (.draw 9 uo [1,3,5])) (.reg 8 f221_r8o [1,3,5])))
theorem f221_l1_fits:uS.fits 44=true:=by kernel_rfl
@[simp] def f221_r10l:List Oper:=[⟨some 43,.move (.tmp 3),37,"ref.go:127",#[],none⟩,
 ⟨some 2,.assign (.tmp 43),37,"ref.go:127",(gE [0,3]),none⟩]
def f221_r10o:Array Oper:=f221_r10l.toArray
@[simp] theorem f221_r10_l:f221_r10o.toList=f221_r10l:=rfl

def f221_ac:AC :=
 (.seq (.reg 0 f221_r0o [1]) (.seq (.reg 1 f221_r1o [1,3]) (.seq (.seq (.reg 2 f221_r2o [1,3,4]) (.block 0 (.loop ve))) (.seq (.seq (.reg 6 f221_r6o [1,3,5]) (.block 2 (.loop uS))) (.seq (.reg 10 f221_r10o [2]) .ret)))))
theorem f221_eq:Tryz.f52.body=some f221_ac.code:=by kernel_rfl
@[simp] theorem f221_nt:Tryz.f52.ntmps=44:=rfl
theorem f221_fits:f221_ac.fits Tryz.f52.ntmps=true:=by kernel_rfl
@[simp] theorem f221_res:Tryz.f52.results.toList=[.tmp 2]:=rfl
@[simp] theorem f221_isb:Tryz.f52.body.isNone=false:=rfl
@[simp] theorem f221_r9_s:zD zB uo=true:=by kernel_rfl
@[simp] theorem f221_r9_d:yg zB uo=true:=by kernel_rfl
@[simp] theorem f221_r9_t14:zV zB uo 14=true:=by kernel_rfl
/- F77 cinnabar/insts.equal$1 -/
@[simp] def f222_r0l:List Oper:=[⟨some 2,.box 108 (.tmp 0),0,"insts.go:174",#[],none⟩,
 ⟨some 3,.assign (.const (.slice none 0 0)),110,"insts.go:174",#[],none⟩,
 ⟨some 4,.assign (.const (.bool false)),4,"insts.go:174",(gE [9]),none⟩]
def f222_r0o:Array Oper:=f222_r0l.toArray
@[simp] theorem f222_r0_l:f222_r0o.toList=f222_r0l:=rfl

@[simp] def f222_r1l:List Oper:=[⟨some 10,.load 22 (.tmp 1),22,"insts.go:175",#[],none⟩,
 ⟨some 11,.fieldAddr 108 (.tmp 2) 0,0,"insts.go:175",#[],none⟩,
 ⟨some 12,.load 3 (.tmp 11),3,"insts.go:175",(gE [8]),none⟩,
 ⟨some 13,.indexAddr 22 (.tmp 10) (.tmp 12),0,"insts.go:175",(gE [0,16]),none⟩,
 ⟨some 14,.load 26 (.tmp 13),26,"insts.go:175",(gE [24]),none⟩,
 ⟨some 15,.load 22 (.tmp 1),22,"insts.go:175",(gE [100]),none⟩,
 ⟨some 16,.fieldAddr 108 (.tmp 2) 1,0,"insts.go:175",(gE [100]),none⟩,
 ⟨some 17,.load 3 (.tmp 16),3,"insts.go:175",(gE [48,100]),none⟩,
 ⟨some 18,.indexAddr 22 (.tmp 15) (.tmp 17),0,"insts.go:175",(gE [40,56,100]),none⟩,
 ⟨some 19,.load 26 (.tmp 18),26,"insts.go:175",(gE [64,100]),none⟩,
 ⟨some 5,.alloc 26,0,"insts.go:175",#[],none⟩,
 ⟨some 6,.alloc 26,0,"insts.go:175",#[],none⟩,
 ⟨none,.store 26 (.tmp 5) (.tmp 14),0,"insts.go:175",(gE [80,32,3,11,19,27,35,45,53,61,69,77,83,91]),none⟩,
 ⟨none,.store 26 (.tmp 6) (.tmp 19),0,"insts.go:175",(gE [88,72,97,3,11,19,27,35,43,51,59,67,75,83,91,99]),none⟩]
def wo:Array Oper:=f222_r1l.toArray
@[simp] theorem f222_r1_l:wo.toList=f222_r1l:=rfl

@[simp] theorem f222_r1_n:wo.size=14:=rfl
@[simp] def f222_r2l:List Oper:=[⟨some 20,.fieldAddr 108 (.tmp 2) 0,0,"insts.go:176",#[],none⟩,
 ⟨some 21,.load 3 (.tmp 20),3,"insts.go:176",(gE [0]),none⟩,
 ⟨some 22,.fieldAddr 108 (.tmp 2) 1,0,"insts.go:176",#[],none⟩,
 ⟨some 23,.load 3 (.tmp 22),3,"insts.go:176",(gE [16]),none⟩,
 ⟨some 24,.binOp .eql 3 (.tmp 21) (.tmp 23) 3,4,"insts.go:176",(gE [8,24]),none⟩]
def f222_r2o:Array Oper:=f222_r2l.toArray
@[simp] theorem f222_r2_l:f222_r2o.toList=f222_r2l:=rfl

@[simp] def f222_r3l:List Oper:=[⟨some 3,.assign (.const (.slice none 0 0)),110,"insts.go:177",#[],none⟩,
 ⟨some 4,.assign (.const (.bool true)),4,"insts.go:177",(gE [1,3]),none⟩]
def f222_r3o:Array Oper:=f222_r3l.toArray
@[simp] theorem f222_r3_l:f222_r3o.toList=f222_r3l:=rfl

@[simp] def f222_r4l:List Oper:=[⟨some 25,.fieldAddr 26 (.tmp 5) 0,0,"insts.go:179",#[],none⟩,
 ⟨some 26,.load 3 (.tmp 25),3,"insts.go:179",(gE [0]),none⟩,
 ⟨some 27,.fieldAddr 26 (.tmp 6) 0,0,"insts.go:179",#[],none⟩,
 ⟨some 28,.load 3 (.tmp 27),3,"insts.go:179",(gE [16]),none⟩,
 ⟨some 29,.binOp .neq 3 (.tmp 26) (.tmp 28) 3,4,"insts.go:179",(gE [8,24]),none⟩,
 ⟨some 30,.move (.tmp 29),4,"insts.go:179",(gE [32]),none⟩,
 ⟨some 31,.fieldAddr 26 (.tmp 5) 3,0,"insts.go:179",(gE [42]),some (5,false)⟩,
 ⟨some 32,.load 3 (.tmp 31),3,"insts.go:179",(gE [48,42]),some (5,false)⟩,
 ⟨some 33,.fieldAddr 26 (.tmp 6) 3,0,"insts.go:179",(gE [42]),some (5,false)⟩,
 ⟨some 34,.load 3 (.tmp 33),3,"insts.go:179",(gE [64,42]),some (5,false)⟩,
 ⟨some 35,.binOp .neq 3 (.tmp 32) (.tmp 34) 3,4,"insts.go:179",(gE [56,72,42]),some (5,false)⟩,
 ⟨some 36,.pick (.tmp 30) (.const (.bool true)) (.tmp 35),4,"insts.go:179",(gE [40,80]),none⟩,
 ⟨some 37,.move (.tmp 36),4,"insts.go:179",(gE [88,41]),none⟩,
 ⟨some 38,.fieldAddr 26 (.tmp 5) 2,0,"insts.go:179",(gE [98]),some (12,false)⟩,
 ⟨some 39,.load 24 (.tmp 38),24,"insts.go:179",(gE [104,98]),some (12,false)⟩,
 ⟨some 40,.call ⟨.builtin .len,#[.tmp 39],#[24]⟩,3,"insts.go:179",(gE [112,98]),some (12,false)⟩,
 ⟨some 41,.fieldAddr 26 (.tmp 6) 2,0,"insts.go:179",(gE [98]),some (12,false)⟩,
 ⟨some 42,.load 24 (.tmp 41),24,"insts.go:179",(gE [128,98]),some (12,false)⟩,
 ⟨some 43,.call ⟨.builtin .len,#[.tmp 42],#[24]⟩,3,"insts.go:179",(gE [136,98]),some (12,false)⟩,
 ⟨some 44,.binOp .neq 3 (.tmp 40) (.tmp 43) 3,4,"insts.go:179",(gE [120,144,98]),some (12,false)⟩,
 ⟨some 45,.pick (.tmp 37) (.const (.bool true)) (.tmp 44),4,"insts.go:179",(gE [96,152]),none⟩,
 ⟨some 46,.move (.tmp 45),4,"insts.go:179",(gE [160,97]),none⟩,
 ⟨some 47,.fieldAddr 26 (.tmp 5) 1,0,"insts.go:179",(gE [170]),some (21,false)⟩,
 ⟨some 48,.load 23 (.tmp 47),23,"insts.go:179",(gE [176,170]),some (21,false)⟩,
 ⟨some 49,.fieldAddr 26 (.tmp 6) 1,0,"insts.go:179",(gE [170]),some (21,false)⟩,
 ⟨some 50,.load 23 (.tmp 49),23,"insts.go:179",(gE [192,170]),some (21,false)⟩,
 ⟨some 51,.call ⟨.value (.func 29),#[.tmp 48,.tmp 50,.func 78],#[23,23,58]⟩,4,"insts.go:179",(gE [184,200,169,170]),some (21,false)⟩,
 ⟨some 52,.unOp .not 4 (.tmp 51),4,"insts.go:179",(gE [208,170]),some (21,false)⟩,
 ⟨some 53,.pick (.tmp 46) (.const (.bool true)) (.tmp 52),4,"insts.go:179",(gE [168,216]),none⟩]
def un:Array Oper:=f222_r4l.toArray
@[simp] theorem f222_r4_l:un.toList=f222_r4l:=rfl

@[simp] theorem f222_r4_g5:zL un 5=some 30:=rfl
@[simp] theorem f222_r4_g12:zL un 12=some 37:=rfl
@[simp] theorem f222_r4_g21:zL un 21=some 46:=rfl
@[simp] def f222_r5l:List Oper:=[⟨some 3,.assign (.const (.slice none 0 0)),110,"insts.go:180",#[],none⟩,
 ⟨some 4,.assign (.const (.bool false)),4,"insts.go:180",(gE [1,3]),none⟩]
def f222_r5o:Array Oper:=f222_r5l.toArray
@[simp] theorem f222_r5_l:f222_r5o.toList=f222_r5l:=rfl

@[simp] def f222_r6l:List Oper:=[⟨some 54,.load 26 (.tmp 5),26,"insts.go:182",#[],none⟩,
 ⟨some 55,.call ⟨.value (.func 59),#[.tmp 54],#[26]⟩,37,"insts.go:182",(gE [0]),none⟩,
 ⟨some 56,.load 26 (.tmp 6),26,"insts.go:182",#[],none⟩,
 ⟨some 57,.call ⟨.value (.func 59),#[.tmp 56],#[26]⟩,37,"insts.go:182",(gE [16,9]),none⟩,
 ⟨some 58,.call ⟨.value (.func 79),#[.tmp 55,.tmp 57],#[37,37]⟩,110,"insts.go:182",(gE [8,24,25]),none⟩,
 ⟨some 7,.assign (.tmp 58),110,"insts.go:182",(gE [32,33,3,11,19,27,35]),none⟩]
def xL:Array Oper:=f222_r6l.toArray
@[simp] theorem f222_r6_l:xL.toList=f222_r6l:=rfl

@[simp] theorem f222_r6_n:xL.size=6:=rfl
@[simp] def f222_r7l:List Oper:=[⟨some 59,.fieldAddr 26 (.tmp 5) 1,0,"insts.go:183",#[],none⟩,
 ⟨some 60,.load 23 (.tmp 59),23,"insts.go:183",(gE [0]),none⟩,
 ⟨some 61,.call ⟨.builtin .len,#[.tmp 60],#[23]⟩,3,"insts.go:183",(gE [8]),none⟩,
 ⟨some 62,.move (.const (.int .i64 0)),3,"insts.go:183",#[],none⟩]
def f222_r7o:Array Oper:=f222_r7l.toArray
@[simp] theorem f222_r7_l:f222_r7o.toList=f222_r7l:=rfl

@[simp] def f222_r8l:List Oper:=[⟨some 63,.binOp .lss 3 (.tmp 62) (.tmp 61) 3,0,"insts.go:183",#[],none⟩]
def f222_r8o:Array Oper:=f222_r8l.toArray
@[simp] theorem f222_r8_l:f222_r8o.toList=f222_r8l:=rfl

@[simp] def f222_r9l:List Oper:=[⟨some 64,.move (.tmp 62),3,"insts.go:183",#[],none⟩,
 ⟨some 65,.indexAddr 23 (.tmp 60) (.tmp 62),0,"insts.go:183",#[],none⟩,
 ⟨some 66,.load 39 (.tmp 65),39,"insts.go:183",(gE [8]),none⟩,
 ⟨some 9,.alloc 39,0,"insts.go:183",#[],none⟩,
 ⟨some 8,.assign (.tmp 64),3,"insts.go:183",(gE [0,3,11,19,27]),none⟩,
 ⟨none,.store 39 (.tmp 9) (.tmp 66),0,"insts.go:183",(gE [24,16,33,3,11,19,27,35]),none⟩]
def f222_r9o:Array Oper:=f222_r9l.toArray
@[simp] theorem f222_r9_l:f222_r9o.toList=f222_r9l:=rfl

@[simp] def f222_r10l:List Oper:=[⟨some 67,.move (.tmp 7),110,"insts.go:184",#[],none⟩,
 ⟨some 68,.fieldAddr 39 (.tmp 9) 1,0,"insts.go:184",#[],none⟩,
 ⟨some 69,.load 37 (.tmp 68),37,"insts.go:184",(gE [8]),none⟩,
 ⟨some 70,.fieldAddr 26 (.tmp 6) 1,0,"insts.go:184",#[],none⟩,
 ⟨some 71,.load 23 (.tmp 70),23,"insts.go:184",(gE [24]),none⟩,
 ⟨some 72,.move (.tmp 8),3,"insts.go:184",#[],none⟩,
 ⟨some 73,.indexAddr 23 (.tmp 71) (.tmp 72),0,"insts.go:184",(gE [32,40]),none⟩,
 ⟨some 74,.fieldAddr 39 (.tmp 73) 1,0,"insts.go:184",(gE [48]),none⟩,
 ⟨some 75,.load 37 (.tmp 74),37,"insts.go:184",(gE [56]),none⟩,
 ⟨some 76,.call ⟨.value (.func 79),#[.tmp 69,.tmp 75],#[37,37]⟩,110,"insts.go:184",(gE [16,64]),none⟩,
 ⟨some 77,.call ⟨.builtin .append,#[.tmp 67,.tmp 76],#[110,110]⟩,110,"insts.go:184",(gE [0,72,73]),none⟩,
 ⟨some 7,.assign (.tmp 77),110,"insts.go:184",(gE [80,81,3,11,19,27,35,43,51,59,67,75,83]),none⟩]
def xT:Array Oper:=f222_r10l.toArray
@[simp] theorem f222_r10_l:xT.toList=f222_r10l:=rfl

@[simp] theorem f222_r10_n:xT.size=12:=rfl
@[simp] def f222_r11l:List Oper:=[⟨some 78,.binOp .add 3 (.tmp 62) (.const (.int .i64 1)) 3,3,"insts.go:183",#[],none⟩,
 ⟨some 62,.move (.tmp 78),3,"insts.go:183",(gE [0]),none⟩]
def f222_r11o:Array Oper:=f222_r11l.toArray
@[simp] theorem f222_r11_l:f222_r11o.toList=f222_r11l:=rfl

def vd:AC :=
 (.seq (.reg 8 f222_r8o [6,7,60,61,62,63]) (.seq (.cond (.tmp 63) .skip (.exit 0)) (.seq (.block 1 (.seq (.reg 9 f222_r9o [6,7,8,9,60,61,62]) (.draw 10 xT [6,7,60,61,62]))) (.reg 11 f222_r11o [6,7,60,61,62]))))
theorem f222_l0_fits:vd.fits 80=true:=by kernel_rfl
@[simp] def f222_r12l:List Oper:=[⟨some 79,.move (.tmp 7),110,"insts.go:186",#[],none⟩,
 ⟨some 3,.assign (.tmp 79),110,"insts.go:186",(gE [0,3]),none⟩,
 ⟨some 4,.assign (.const (.bool true)),4,"insts.go:186",(gE [9,3,11]),none⟩]
def f222_r12o:Array Oper:=f222_r12l.toArray
@[simp] theorem f222_r12_l:f222_r12o.toList=f222_r12l:=rfl

def f222_ac:AC :=
 (.seq (.reg 0 f222_r0o [1,2,31,32,33,34,35,38,39,40,41,42,43,44,47,48,49,50,51,52]) (.seq (.draw 1 wo [2,5,6,31,32,33,34,35,38,39,40,41,42,43,44,47,48,49,50,51,52]) (.seq (.seq (.reg 2 f222_r2o [5,6,24,31,32,33,34,35,38,39,40,41,42,43,44,47,48,49,50,51,52]) (.cond (.tmp 24) (.seq (.reg 3 f222_r3o [3,4]) .ret) .skip)) (.seq (.seq (.reg 4 un [5,6,53]) (.cond (.tmp 53) (.seq (.reg 5 f222_r5o [3,4]) .ret) .skip)) (.seq (.draw 6 xL [5,6,7]) (.seq (.seq (.reg 7 f222_r7o [6,7,60,61,62]) (.block 0 (.loop vd))) (.seq (.reg 12 f222_r12o [3,4]) .ret)))))))
theorem f222_eq:Tryz.f77.body=some f222_ac.code:=by kernel_rfl
@[simp] theorem f222_nt:Tryz.f77.ntmps=80:=rfl
theorem f222_fits:f222_ac.fits Tryz.f77.ntmps=true:=by kernel_rfl
@[simp] theorem f222_res:Tryz.f77.results.toList=[.tmp 3,.tmp 4]:=rfl
@[simp] theorem f222_isb:Tryz.f77.body.isNone=false:=rfl
@[simp] theorem f222_r1_s:zD zB wo=true:=by kernel_rfl
@[simp] theorem f222_r1_d:yg zB wo=true:=by kernel_rfl
@[simp] theorem f222_r6_s:zD zB xL=true:=by kernel_rfl
@[simp] theorem f222_r6_d:yg zB xL=true:=by kernel_rfl
@[simp] theorem f222_r10_s:zD zB xT=true:=by kernel_rfl
@[simp] theorem f222_r10_d:yg zB xT=true:=by kernel_rfl
@[simp] theorem f222_r1_t12:zV zB wo 12=false:=by kernel_rfl
@[simp] theorem f222_r1_t13:zV zB wo 13=true:=by kernel_rfl
@[simp] theorem f222_r6_t1:zV zB xL 1=false:=by kernel_rfl
@[simp] theorem f222_r6_t3:zV zB xL 3=true:=by kernel_rfl
@[simp] theorem f222_r6_t4:zV zB xL 4=true:=by kernel_rfl
@[simp] theorem f222_r10_t9:zV zB xT 9=true:=by kernel_rfl
@[simp] theorem f222_r10_t10:zV zB xT 10=true:=by kernel_rfl
/- F78 cinnabar/insts.equal$1$1 -/
@[simp] def f223_r0l:List Oper:=[⟨some 2,.box 39 (.tmp 0),0,"insts.go:179",#[],none⟩,
 ⟨some 3,.box 39 (.tmp 1),0,"insts.go:179",#[],none⟩,
 ⟨some 4,.assign (.const (.bool false)),4,"insts.go:179",#[],none⟩]
def f223_r0o:Array Oper:=f223_r0l.toArray
@[simp] theorem f223_r0_l:f223_r0o.toList=f223_r0l:=rfl

@[simp] def f223_r1l:List Oper:=[⟨some 5,.load 39 (.tmp 2),39,"insts.go:179",#[],none⟩,
 ⟨some 6,.load 39 (.tmp 3),39,"insts.go:179",#[],none⟩,
 ⟨some 7,.call ⟨.value (.func 43),#[.tmp 5,.tmp 6],#[39,39]⟩,3,"insts.go:179",(gE [0,8]),none⟩,
 ⟨some 8,.binOp .eql 3 (.tmp 7) (.const (.int .i64 0)) 3,4,"insts.go:179",(gE [16]),none⟩,
 ⟨some 4,.assign (.tmp 8),4,"insts.go:179",(gE [24,17,3,11,19,27]),none⟩]
def f223_r1o:Array Oper:=f223_r1l.toArray
@[simp] theorem f223_r1_l:f223_r1o.toList=f223_r1l:=rfl

def f223_ac:AC :=
 (.seq (.reg 0 f223_r0o [2,3]) (.seq (.reg 1 f223_r1o [4]) .ret))
theorem f223_eq:Tryz.f78.body=some f223_ac.code:=by kernel_rfl
@[simp] theorem f223_nt:Tryz.f78.ntmps=9:=rfl
theorem f223_fits:f223_ac.fits Tryz.f78.ntmps=true:=by kernel_rfl
@[simp] theorem f223_res:Tryz.f78.results.toList=[.tmp 4]:=rfl
@[simp] theorem f223_isb:Tryz.f78.body.isNone=false:=rfl
end Go.Proofs.YtchlfjhbijmdiaaGreatDoor.Ai

