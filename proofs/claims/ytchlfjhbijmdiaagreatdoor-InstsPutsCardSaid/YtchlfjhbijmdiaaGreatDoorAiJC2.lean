/- Part of a reckoning of a Go program over abstract values, proved sound against the model. -/
import Derived.Test.YtchlfjhbijmdiaaGreatDoorAiJB3
import Derived.Lib.Bytealg
import Derived.Laws.Strings
set_option linter.unusedSimpArgs false
set_option linter.unusedVariables false
namespace Go.Proofs.YtchlfjhbijmdiaaGreatDoor.Ai
open Go.Proofs
set_option maxRecDepth 100000
set_option maxHeartbeats 4000000

/-! comparing alternatives -/
theorem compare_less:∀(a b:List UInt8),decide (Lib.compareBytes a b<0)=Op.bytesLess a b
 | [],[]=>by simp [Lib.compareBytes,Op.bytesLess]
 | [],_::_=>by simp [Lib.compareBytes,Op.bytesLess]
 | _::_,[]=>by simp [Lib.compareBytes,Op.bytesLess]
 | a::x,b::y=>by
  rw [Lib.compareBytes,Op.bytesLess]
  by_cases h:a<b
  ·simp [h]
  ·by_cases h':b<a
   ·have hne:¬a=b:=fun e=>by subst e; exact h h'
    simp [h,h',hne]
   ·have he:a=b:=UInt8.le_antisymm (UInt8.not_lt.1 h') (UInt8.not_lt.1 h)
    subst he
    simp [h,compare_less x y]
theorem compare_eq:∀(a b:List UInt8),decide (Lib.compareBytes a b=0)=(a == b)
 | [],[]=>by simp [Lib.compareBytes]
 | [],_::_=>by simp [Lib.compareBytes]
 | _::_,[]=>by simp [Lib.compareBytes]
 | a::x,b::y=>by
  rw [Lib.compareBytes]
  by_cases h:a<b
  ·have hne:¬a=b:=fun e=>by subst e; exact absurd h (UInt8.lt_irrefl a)
   simp [h,hne]
  ·by_cases h':b<a
   ·have hne:¬a=b:=fun e=>by subst e; exact h h'
    simp [h,h',hne]
   ·have he:a=b:=UInt8.le_antisymm (UInt8.not_lt.1 h') (UInt8.not_lt.1 h)
    subst he
    have:=compare_eq x y
    simpa [h] using this
def cmpS (a b:ByteArray):Int:=Extern.BytealgCompare.cmp a b
def cmpN (a b:Int):Int:=if a<b then -1 else if b<a then 1 else 0
def orL (l:List Int):Int:=(l.find? fun a=>!decide (a=0)).getD 0
def cmpA (a b:Alt):Int:=orL [cmpS a.name b.name,cmpN a.args.length b.args.length]
def ltA (a b:Alt):Bool:=Op.bytesLess a.name.toList b.name.toList || (a.name.toList == b.name.toList && decide (a.args.length<b.args.length))
theorem cmpA_lt (a b:Alt):decide (0≤cmpA a b)=!ltA a b:=by
 have h1:decide (cmpS a.name b.name<0)=Op.bytesLess a.name.toList b.name.toList:=by
  rw [cmpS,Lib.cmp_eq,compare_less,ByteArray.toList_eq,ByteArray.toList_eq]
 have h2:decide (cmpS a.name b.name=0)=(a.name.toList == b.name.toList):=by
  rw [cmpS,Lib.cmp_eq,compare_eq,ByteArray.toList_eq,ByteArray.toList_eq]
 unfold ltA cmpA orL cmpN
 rw [← h1,← h2]
 generalize cmpS a.name b.name=c
 rw [Bool.eq_iff_iff]
 by_cases hc:c=0
 ·subst hc
  by_cases h3:a.args.length<b.args.length
  ·have:(a.args.length:Int)<b.args.length:=by omega
   simp [h3,this]
  ·have:¬(a.args.length:Int)<b.args.length:=by omega
   by_cases h4:b.args.length<a.args.length
   ·have h5:(b.args.length:Int)<a.args.length:=by omega
    simp [h3,this,h5]
   ·have h5:¬(b.args.length:Int)<a.args.length:=by omega
    simp [h3,this,h5]
 ·simp [hc]

@[simp] theorem beq117:Nat.beq 11 7=false:=rfl
theorem p71 (a b:ByteArray):zx Tryz.prog zB 87 [.str a,.str b] (.int .i64 (cmpS a b)):=by
 have hc:=yn (e:=[]) (f:=[]) .nil .nil
 refine zx.cfg (cfg:=st [] []) rfl ?_
 refine zM (sl:=true) hc (zW hc) yi Tryz.func87 f71_eq f71_nt f71_fits (by simp) (by simp) ?_
 have h:extOp (st [] []) 92 [.str a,.str b]=some (.int .i64 (cmpS a b)):=rfl
 have hb:Tryz.f92.body.isNone=true:=rfl
 simp -implicitDefEqProofs (maxDischargeDepth:=9) (maxSteps:=1000000) [Nat.add_assoc,ze,zq,zt,zr,zd,zp,zs,zy,asInt,zn,zz,sub,zl,zu,za,zk,zb,zj,zg,zh,zf,zA,zw,zo,zm,zi,Int.natCast_inj,f71_ac,h,hb]
def e71:List V→Option V
 | [.str a,.str b]=>some (.int .i64 (cmpS a b))
 | _=>none
theorem t71:∀args v,e71 args=some v→zx Tryz.prog zB 87 args v:=fun args v h=>by
 unfold e71 at h
 split at h
 ·injection h with h; subst h; exact p71 _ _
 ·cases h
theorem p62 (a b:ByteArray):zx Tryz.prog zB 75 [.str a,.str b] (.int .i64 (cmpS a b)):=by
 have hc:=yn (e:=[(87,e71)]) (f:=[]) (.cons t71 .nil) .nil
 refine zx.cfg (cfg:=st [(87,e71)] []) rfl ?_
 refine zM (sl:=true) hc (zW hc) yi Tryz.func75 f62_eq f62_nt f62_fits (by simp) (by simp) ?_
 simp -implicitDefEqProofs (maxDischargeDepth:=9) (maxSteps:=1000000) [Nat.add_assoc,ze,zq,zt,zr,zd,zp,zs,zy,asInt,zn,zz,sub,zl,zu,za,zk,zb,zj,zg,zh,zf,zA,zw,zo,zm,zi,Int.natCast_inj,f62_ac,zF,e71]
def e62:List V→Option V
 | [.str a,.str b]=>some (.int .i64 (cmpS a b))
 | _=>none
theorem t62:∀args v,e62 args=some v→zx Tryz.prog zB 75 args v:=fun args v h=>by
 unfold e62 at h
 split at h
 ·injection h with h; subst h; exact p62 _ _
 ·cases h
theorem p72 (a:Int):zx Tryz.prog zB 88 [.int .i64 a] (.bool false):=by
 have hc:=yn (e:=[]) (f:=[]) .nil .nil
 refine zx.cfg (cfg:=st [] []) rfl ?_
 refine zM (sl:=true) hc (zW hc) yi Tryz.func88 f72_eq f72_nt f72_fits (by simp) (by simp) ?_
 simp -implicitDefEqProofs (maxDischargeDepth:=9) (maxSteps:=1000000) [Nat.add_assoc,ze,zq,zt,zr,zd,zp,zs,zy,asInt,zn,zz,sub,zl,zu,za,zk,zb,zj,zg,zh,zf,zA,zw,zo,zm,zi,Int.natCast_inj,f72_ac]
def e72:List V→Option V
 | [.int .i64 _]=>some (.bool false)
 | _=>none
theorem t72:∀args v,e72 args=some v→zx Tryz.prog zB 88 args v:=fun args v h=>by
 unfold e72 at h
 split at h
 ·injection h with h; subst h; exact p72 _
 ·cases h
theorem p63 (a b:Int):zx Tryz.prog zB 76 [.int .i64 a,.int .i64 b] (.int .i64 (cmpN a b)):=by
 have hc:=yn (e:=[(88,e72)]) (f:=[]) (.cons t72 .nil) .nil
 refine zx.cfg (cfg:=st [(88,e72)] []) rfl ?_
 refine zM (sl:=true) hc (zW hc) yi Tryz.func76 f63_eq f63_nt f63_fits (by simp) (by simp) ?_
 by_cases h:a<b
 ·simp -implicitDefEqProofs (maxDischargeDepth:=9) (maxSteps:=1000000) [Nat.add_assoc,ze,zq,zt,zr,zd,zp,zs,zy,asInt,zn,zz,sub,zl,zu,za,zk,zb,zj,zg,zh,zf,zA,zw,zo,zm,zi,Int.natCast_inj,f63_ac,zF,e72,h,cmpN]
 ·by_cases h':b<a
  ·simp -implicitDefEqProofs (maxDischargeDepth:=9) (maxSteps:=1000000) [Nat.add_assoc,ze,zq,zt,zr,zd,zp,zs,zy,asInt,zn,zz,sub,zl,zu,za,zk,zb,zj,zg,zh,zf,zA,zw,zo,zm,zi,Int.natCast_inj,f63_ac,zF,e72,h,h',cmpN]
  ·simp -implicitDefEqProofs (maxDischargeDepth:=9) (maxSteps:=1000000) [Nat.add_assoc,ze,zq,zt,zr,zd,zp,zs,zy,asInt,zn,zz,sub,zl,zu,za,zk,zb,zj,zg,zh,zf,zA,zw,zo,zm,zi,Int.natCast_inj,f63_ac,zF,e72,h,h',cmpN]
def e63:List V→Option V
 | [.int .i64 a,.int .i64 b]=>some (.int .i64 (cmpN a b))
 | _=>none
theorem t63:∀args v,e63 args=some v→zx Tryz.prog zB 76 args v:=fun args v h=>by
 unfold e63 at h
 split at h
 ·injection h with h; subst h; exact p63 _ _
 ·cases h
theorem orL_hit:∀{l:List Int} {i:Nat} (h:i<l.length),(∀a∈l.take i,a=0)→¬l[i]=0→orL l=l[i]
 | a::l,0,_,_,hp=>by
  simp only [List.getElem_cons_zero] at hp
  simp [orL,hp]
 | a::l,i+1,h,ht,hp=>by
  have h0:a=0:=ht a (by simp)
  have ih:=orL_hit (l:=l) (i:=i) (by simpa using h) (fun b hb=>ht b (by simp [hb])) (by simpa using hp)
  subst h0
  simpa [orL] using ih
theorem orL_none {l:List Int} (h:∀a∈l,a=0):orL l=0:=by
 unfold orL
 rw [List.find?_eq_none.2 (by simpa using h)]; rfl
theorem p61 (l:List Int) (hl:l.length≤1000):zx Tryz.prog zB 74 [.list (l.map vI)] (.int .i64 (orL l)):=by
 have hc:=yn (e:=[]) (f:=[]) .nil .nil
 refine zx.cfg (cfg:=st [] []) rfl ?_
 refine zM (sl:=true) hc (zW hc) yi Tryz.func74 f61_eq f61_nt f61_fits (by simp) (by simp) ?_
 simp -implicitDefEqProofs (maxDischargeDepth:=9) (maxSteps:=1000000) [Nat.add_assoc,ze,zq,zt,zr,zd,zp,zs,zy,asInt,zn,zz,sub,zl,zu,za,zk,zb,zj,zg,zh,zf,zA,zw,zo,zm,zi,Int.natCast_inj,f61_ac]
 refine zO (α:=Nat) (fun i=>[(3,.int .i64 0),(6,.list (l.map vI)),(7,.int .i64 l.length),(8,.int .i64 i)]) (fun i s=>s.wf∧i≤l.length∧(∀a∈l.take i,a=0)) (fun i=>l.length - i) 0 f61_l0_fits (by simp) (by simp) ?_
 rintro i s ⟨hw,hi,ht⟩
 rcases Nat.lt_or_ge i l.length with h | h
 ·have e1:=List.getElem?_eq_getElem h
  have e3:IntKind.i64.wrap ((i:Int)+1)=((i+1:Nat):Int):=zN (by omega) (by omega)
  by_cases h0:l[i]=0
  ·simp -implicitDefEqProofs (maxDischargeDepth:=9) (maxSteps:=1000000) [Nat.add_assoc,ze,zq,zt,zr,zd,zp,zs,zy,asInt,zn,zz,sub,zl,zu,za,zk,zb,zj,zg,zh,zf,zA,zw,zo,zm,zi,Int.natCast_inj,f61_l0,h,hw,e1,e3,h0,vI]
   refine ⟨i+1,by omega,⟨by omega,?_⟩,by simp⟩
   intro a ha
   rw [List.take_succ_eq_append_getElem h] at ha
   rcases List.mem_append.1 ha with ha | ha
   ·exact ht a ha
   ·rw [List.mem_singleton.1 ha]; exact h0
  ·simp -implicitDefEqProofs (maxDischargeDepth:=9) (maxSteps:=1000000) [Nat.add_assoc,ze,zq,zt,zr,zd,zp,zs,zy,asInt,zn,zz,sub,zl,zu,za,zk,zb,zj,zg,zh,zf,zA,zw,zo,zm,zi,Int.natCast_inj,f61_l0,h,hw,e1,e3,h0,vI]
   exact orL_hit h ht h0
 ·have:i=l.length:=by omega
  subst this
  simp -implicitDefEqProofs (maxDischargeDepth:=9) (maxSteps:=1000000) [Nat.add_assoc,ze,zq,zt,zr,zd,zp,zs,zy,asInt,zn,zz,sub,zl,zu,za,zk,zb,zj,zg,zh,zf,zA,zw,zo,zm,zi,Int.natCast_inj,f61_l0,hw]
  exact orL_none (by simpa using ht)
def e61:List V→Option V
 | [.list l]=>(dIL l).bind fun l=>if l.length≤1000 then some (.int .i64 (orL l)) else none
 | _=>none
theorem t61:∀args v,e61 args=some v→zx Tryz.prog zB 74 args v:=fun args v h=>by
 unfold e61 at h
 split at h
 ·simp only [Option.bind_eq_some_iff] at h
  obtain ⟨l,hl,h⟩:=h
  obtain rfl:=dIL_eq hl
  split at h
  ·injection h with h; subst h; exact p61 l ‹_›
  ·cases h
 ·cases h
theorem callOp_lent3 {cfg:Cfg} {cf:CF} {f:FuncId} {args args':List V} {s:S} {v:V} (ht:cfg.tab f args=none) (hp:cfg.pure f=3) (hs:vy tV s args=some args') (hf:V.freeL args'=true) (h2:cfg.tab f args'=some v) (hv:v.flatv=true):zF cfg cf f args s=some (.val v s):=by
 unfold zF wU
 simp [ht,hp,hs,hf,h2,hv]
def eK:List (FuncId×(List V→Option V)):=[(74,e61),(75,e62),(76,e63)]
theorem eK_ok:xa Tryz.prog zB eK:=.cons t61 (.cons t62 (.cons t63 .nil))
theorem call61 {cf:CF} {s:S} {id cp:Nat} {t:TypeId} {ex:Bool} {a b:Int} (hg:s.get id=some (.cells [vI a,vI b] 0 t ex)):zF (st eK []) cf 74 [.arr id 0 2 1 false cp] s=some (.val (.int .i64 (orL [a,b])) s):=by
 have h1:see 99999 s (.arr id 0 2 1 false cp)=some (.list ([a,b].map vI)):=see_arrI (x:=[a,b]) hg rfl (by simp)
 refine callOp_lent3 rfl rfl (args':=[.list ([a,b].map vI)]) ?_ (by simp) ?_ rfl
 ·show vy 100000 s _=_
  simp only [vy,h1]
 ·simp only [st_tab,eK,yB,if_true]
  show ((dIL ([a,b].map vI)).bind fun l=>if l.length≤1000 then some (V.int .i64 (orL l)) else none)=_
  rw [dIL_map]; simp
theorem p35 (a b:Alt):zx Tryz.prog zB 43 [eA a,eA b] (.int .i64 (cmpA a b)):=by
 have hc:=yn (e:=eK) (f:=[]) eK_ok .nil
 refine zx.cfg (cfg:=st eK []) rfl ?_
 refine zM (sl:=true) hc (zW hc) yi Tryz.func43 f35_eq f35_nt f35_fits (by simp) (by simp) ?_
 have h62:=fun s=>zH (cfg:=st eK []) (cf:=cf0 eK []) (s:=s) (f:=75) (args:=[.str a.name,.str b.name]) (v:=.int .i64 (cmpS a.name b.name)) rfl
 have h63:=fun s=>zH (cfg:=st eK []) (cf:=cf0 eK []) (s:=s) (f:=76) (args:=[.int .i64 a.args.length,.int .i64 b.args.length]) (v:=.int .i64 (cmpN a.args.length b.args.length)) rfl
 have h61:∀{s:S} {id cp:Nat} {a b:Int},s.get id=some (.cells [.int .i64 a,.int .i64 b] 0 3 true)→zF (st eK []) (cf0 eK []) 74 [.arr id 0 2 1 false cp] s=some (.val (.int .i64 (orL [a,b])) s):=call61
 simp -implicitDefEqProofs (maxDischargeDepth:=9) (maxSteps:=1000000) [Nat.add_assoc,ze,zq,zt,zr,zd,zp,zs,zy,asInt,zn,zz,sub,zl,zu,za,zk,zb,zj,zg,zh,zf,zA,zw,zo,zm,zi,Int.natCast_inj,f35_ac,eA,eI,h62,h63]
 rw [h61 (a:=cmpS a.name b.name) (b:=cmpN a.args.length b.args.length) (by simp [S.get_add])]
 simp -implicitDefEqProofs (maxDischargeDepth:=9) (maxSteps:=1000000) [Nat.add_assoc,ze,zq,zt,zr,zd,zp,zs,zy,asInt,zn,zz,sub,zl,zu,za,zk,zb,zj,zg,zh,zf,zA,zw,zo,zm,zi,Int.natCast_inj,]
 rfl
end Go.Proofs.YtchlfjhbijmdiaaGreatDoor.Ai

namespace Go.Proofs.YtchlfjhbijmdiaaGreatDoor.Ai
open Go.Proofs
set_option maxRecDepth 100000
set_option maxHeartbeats 4000000

def e35:List V→Option V
 | [v,w]=>(dA v).bind fun a=>(dA w).map fun b=>.int .i64 (cmpA a b)
 | _=>none
theorem t35:∀args v,e35 args=some v→zx Tryz.prog zB 43 args v:=fun args v h=>by
 unfold e35 at h
 split at h
 ·simp only [Option.bind_eq_some_iff,Option.map_eq_some_iff] at h
  obtain ⟨a,ha,b,hb,rfl⟩:=h
  rw [dA_eq ha,dA_eq hb]
  exact p35 a b
 ·cases h
def tB (l:List Inst) (k:Int):Bool:=decide (0≤k) && decide (k<l.length)
def valX (x:Inst):Bool:=decide (x.kind=1) || decide (x.kind=4) || decide (x.kind=5)
theorem p36 (l:List Inst) (hl:l.length≤1000) (k:Int):zx Tryz.prog zB 44 [.list (l.map eX),.int .i64 k] (.bool (tB l k)):=by
 have hc:=yn (e:=[]) (f:=[]) .nil .nil
 refine zx.cfg (cfg:=st [] []) rfl ?_
 refine zM (sl:=true) hc (zW hc) yi Tryz.func44 f36_eq f36_nt f36_fits (by simp) (by simp) ?_
 by_cases h:0≤k
 ·by_cases h':k<l.length
  ·simp -implicitDefEqProofs (maxDischargeDepth:=9) (maxSteps:=1000000) [Nat.add_assoc,ze,zq,zt,zr,zd,zp,zs,zy,asInt,zn,zz,sub,zl,zu,za,zk,zb,zj,zg,zh,zf,zA,zw,zo,zm,zi,Int.natCast_inj,f36_ac,h,h',tB]
  ·simp -implicitDefEqProofs (maxDischargeDepth:=9) (maxSteps:=1000000) [Nat.add_assoc,ze,zq,zt,zr,zd,zp,zs,zy,asInt,zn,zz,sub,zl,zu,za,zk,zb,zj,zg,zh,zf,zA,zw,zo,zm,zi,Int.natCast_inj,f36_ac,h,h',tB]
 ·simp -implicitDefEqProofs (maxDischargeDepth:=9) (maxSteps:=1000000) [Nat.add_assoc,ze,zq,zt,zr,zd,zp,zs,zy,asInt,zn,zz,sub,zl,zu,za,zk,zb,zj,zg,zh,zf,zA,zw,zo,zm,zi,Int.natCast_inj,f36_ac,h,tB]
def e36:List V→Option V
 | [.list l,.int .i64 k]=>(dXs l).bind fun l=>if l.length≤1000 then some (.bool (tB l k)) else none
 | _=>none
theorem t36:∀args v,e36 args=some v→zx Tryz.prog zB 44 args v:=fun args v h=>by
 unfold e36 at h
 split at h
 ·simp only [Option.bind_eq_some_iff] at h
  obtain ⟨l,hl,h⟩:=h
  obtain rfl:=yT hl
  split at h
  ·injection h with h; subst h; exact p36 l ‹_› _
  ·cases h
 ·cases h
theorem p37 (x:Inst):zx Tryz.prog zB 45 [eX x] (.bool (valX x)):=by
 have hc:=yn (e:=[]) (f:=[]) .nil .nil
 refine zx.cfg (cfg:=st [] []) rfl ?_
 refine zM (sl:=true) hc (zW hc) yi Tryz.func45 f37_eq f37_nt f37_fits (by simp) (by simp) ?_
 by_cases h:x.kind=1
 ·simp -implicitDefEqProofs (maxDischargeDepth:=9) (maxSteps:=1000000) [Nat.add_assoc,ze,zq,zt,zr,zd,zp,zs,zy,asInt,zn,zz,sub,zl,zu,za,zk,zb,zj,zg,zh,zf,zA,zw,zo,zm,zi,Int.natCast_inj,f37_ac,eX,h,valX,vI]
 ·by_cases h':x.kind=4
  ·simp -implicitDefEqProofs (maxDischargeDepth:=9) (maxSteps:=1000000) [Nat.add_assoc,ze,zq,zt,zr,zd,zp,zs,zy,asInt,zn,zz,sub,zl,zu,za,zk,zb,zj,zg,zh,zf,zA,zw,zo,zm,zi,Int.natCast_inj,f37_ac,eX,h,h',valX,vI]
  ·simp -implicitDefEqProofs (maxDischargeDepth:=9) (maxSteps:=1000000) [Nat.add_assoc,ze,zq,zt,zr,zd,zp,zs,zy,asInt,zn,zz,sub,zl,zu,za,zk,zb,zj,zg,zh,zf,zA,zw,zo,zm,zi,Int.natCast_inj,f37_ac,eX,h,h',valX,vI]
def e37:List V→Option V:=fun args=>(arg1 dX args).map fun x=>.bool (valX x)
theorem t37:∀args v,e37 args=some v→zx Tryz.prog zB 45 args v:=fun args v h=>by
 unfold e37 at h
 simp only [Option.map_eq_some_iff] at h
 obtain ⟨x,hx,rfl⟩:=h
 obtain ⟨a,rfl,ha⟩:=arg1_eq hx
 rw [tc ha]
 exact p37 x
theorem p64 (a b:Alt):zx Tryz.prog zB 80 [eA a,eA b] (.bool (ltA a b)):=by
 have hc:=yn (e:=[]) (f:=[]) .nil .nil
 refine zx.cfg (cfg:=st [] []) rfl ?_
 refine zM (sl:=true) hc (zW hc) yi Tryz.func80 f64_eq f64_nt f64_fits (by simp) (by simp) ?_
 cases h:Op.bytesLess a.name.toList b.name.toList with
 | true=>simp -implicitDefEqProofs (maxDischargeDepth:=9) (maxSteps:=1000000) [Nat.add_assoc,ze,zq,zt,zr,zd,zp,zs,zy,asInt,zn,zz,sub,zl,zu,za,zk,zb,zj,zg,zh,zf,zA,zw,zo,zm,zi,Int.natCast_inj,f64_ac,eA,eI,h,ltA]
 | false =>
  by_cases h':a.name.toList=b.name.toList
  ·have h2:(a.name.toList == b.name.toList)=true:=by simpa using h'
   have h3:Op.bytesLess b.name.toList b.name.toList=false:=by rw [h'] at h; exact h
   simp -implicitDefEqProofs (maxDischargeDepth:=9) (maxSteps:=1000000) [Nat.add_assoc,ze,zq,zt,zr,zd,zp,zs,zy,asInt,zn,zz,sub,zl,zu,za,zk,zb,zj,zg,zh,zf,zA,zw,zo,zm,zi,Int.natCast_inj,f64_ac,eA,eI,h,h',h2,h3,ltA]
  ·have h2:(a.name.toList == b.name.toList)=false:=by simpa using h'
   simp -implicitDefEqProofs (maxDischargeDepth:=9) (maxSteps:=1000000) [Nat.add_assoc,ze,zq,zt,zr,zd,zp,zs,zy,asInt,zn,zz,sub,zl,zu,za,zk,zb,zj,zg,zh,zf,zA,zw,zo,zm,zi,Int.natCast_inj,f64_ac,eA,eI,h,h',h2,ltA]
def e64:List V→Option V
 | [v,w]=>(dA v).bind fun a=>(dA w).map fun b=>.bool (ltA a b)
 | _=>none
theorem t64:∀args v,e64 args=some v→zx Tryz.prog zB 80 args v:=fun args v h=>by
 unfold e64 at h
 split at h
 ·simp only [Option.bind_eq_some_iff,Option.map_eq_some_iff] at h
  obtain ⟨a,ha,b,hb,rfl⟩:=h
  rw [dA_eq ha,dA_eq hb]
  exact p64 a b
 ·cases h

/-! what is wrong with a table, in plain words -/
def vv (f:Nat→Int):Nat→Int
 | 0=>0
 | n+1=>if vv f n≠0 then vv f n else f n
theorem yM {f:Nat→Int}:∀{n:Nat},(∀j,j<n→f j=0)→vv f n=0
 | 0,_=>rfl
 | n+1,h=>by
  rw [vv,yM (n:=n) fun j hj=>h j (by omega)]
  simpa using h n (by omega)
theorem wY {f:Nat→Int} {i:Nat}:∀{n:Nat},i<n→(∀j,j<i→f j=0)→¬f i=0→vv f n=f i
 | n+1,hi,h,hne=>by
  rw [vv]
  rcases Nat.lt_or_ge i n with h1 | h1
  ·have:=wY (n:=n) h1 h hne
   rw [this]
   simp [hne]
  ·obtain rfl:i=n:=by omega
   rw [yM (n:=i) h]
   simp
theorem xl {f:Nat→Int}:∀{n:Nat},vv f n=0→∀j,j<n→f j=0
 | n+1,h,j,hj=>by
  rw [vv] at h
  by_cases h0:vv f n=0
  ·rw [if_neg (by simpa using h0)] at h
   rcases Nat.lt_or_ge j n with h1 | h1
   ·exact xl h0 j h1
   ·obtain rfl:j=n:=by omega
    exact h
  ·rw [if_pos (by simpa using h0)] at h
   exact absurd h h0
theorem wn {f:Nat→Int} {i:Nat} (h:∀j,j<i→f j=0) (h0:f i=0):∀j,j<i+1→f j=0:=fun j hj=>by
 rcases Nat.lt_or_ge j i with h1 | h1
 ·exact h j h1
 ·obtain rfl:j=i:=by omega
  exact h0
def argE (l:List Inst) (k:Int):Int:=if tB l k=true then (match l[k.toNat]? with | some x=>if valX x=true then 0 else 18 | none=>0) else 5
def argsE' (l:List Inst) (a:Alt):Int:=vv (fun j=>argE l ((a.args[j]?).getD 0)) a.args.length
/-- Whether the one before is not lesser. -/
def unord (alts:List Alt) (i:Nat) (a:Alt):Bool:=match i with
 | 0=>false
 | j+1=>match alts[j]? with | some p=>!ltA p a | none=>false
def wx (l:List Inst) (alts:List Alt) (i:Nat):Int:=match alts[i]? with
 | none=>0
 | some a=>if a.name.size<1∨81<a.name.size then 10 else if unord alts i a=true then 13 else if 32<a.args.length then 6 else argsE' l a
def modE (l:List Inst) (m:Int×Int):Int:=if (tB l m.1 && tB l m.2)=true then (match l[m.1.toNat]? with | some x=>if x.kind=6∨x.kind=3 then 18 else 0 | none=>0) else 5
def vz (l:List Inst) (x:Inst) (j:Nat):Int:=modE l ((x.modes[j]?).getD (0,0))
def ckX (l:List Inst) (x:Inst):Int :=
 if x.kind<0∨6<x.kind then 3 else
 if (¬x.kind=4∧0<x.alts.length)∨(¬x.kind=5∧(0<x.modes.length∨¬x.det=0)) then 4 else
 if x.kind=4∧x.alts.length=0 then 7 else
 if 64<x.alts.length∨32<x.modes.length then 6 else
 if x.det<0∨8≤x.det then 5 else
 if vv (wx l x.alts) x.alts.length=0 then vv (vz l x) x.modes.length else vv (wx l x.alts) x.alts.length
def yX (l:List Inst) (j:Nat):Int:=match l[j]? with | some x=>ckX l x | none=>0
def ckT (l:List Inst):Int:=if vv (yX l) l.length=0 then (if circ l=true then 13 else 0) else vv (yX l) l.length
theorem inst_ok {l:List Inst} (h:vv (yX l) l.length=0) {x:Inst} (hx:x∈l):ckX l x=0:=by
 obtain ⟨j,hj⟩:=List.getElem?_of_mem hx
 have:=xl h j (List.getElem?_eq_some_iff.1 hj).1
 simpa [yX,hj] using this
theorem xK {l:List Inst} {k:Int}:tB l k=true↔0≤k∧k<l.length:=by simp [tB]
theorem ck_alts {l:List Inst} {x:Inst} (h:ckX l x=0):(¬x.kind=4→x.alts=[])∧x.alts.length≤64∧x.modes.length≤32∧vv (wx l x.alts) x.alts.length=0∧vv (vz l x) x.modes.length=0:=by
 unfold ckX at h
 split at h
 ·cases h
 split at h
 ·cases h
 split at h
 ·cases h
 split at h
 ·cases h
 split at h
 ·cases h
 rename_i h1 h2 h3 h4 h5
 split at h
 ·rename_i h6
  refine ⟨fun hk=>?_,by omega,by omega,h6,h⟩
  by_cases ha:x.alts=[]
  ·exact ha
  ·exact absurd (.inl ⟨hk,List.length_pos_iff.2 ha⟩) h2
 ·rename_i h6; exact absurd h h6
theorem good_of {l:List Inst} (h:vv (yX l) l.length=0):goodV l∧tC l:=by
 refine ⟨fun x hx=>?_,fun x hx=>?_⟩
 ·obtain ⟨h1,h2,h3,h4,h5⟩:=ck_alts (inst_ok h hx)
  refine ⟨by omega,fun a ha=>?_⟩
  obtain ⟨j,hj⟩:=List.getElem?_of_mem ha
  have h6:=xl h4 j (List.getElem?_eq_some_iff.1 hj).1
  unfold wx at h6
  rw [hj] at h6
  simp only at h6
  split at h6
  ·cases h6
  split at h6
  ·cases h6
  split at h6
  ·cases h6
  rename_i h7 h8 h9
  refine ⟨by omega,fun k hk=>?_⟩
  obtain ⟨i,hi⟩:=List.getElem?_of_mem hk
  have h10:=xl h6 i (List.getElem?_eq_some_iff.1 hi).1
  simp only [hi,Option.getD_some,argE] at h10
  split at h10
  ·rename_i hh; exact xK.1 hh
  ·cases h10
 ·obtain ⟨h1,h2,h3,h4,h5⟩:=ck_alts (inst_ok h hx)
  refine ⟨by omega,fun k hk=>?_⟩
  obtain ⟨m,hm,hk⟩:=List.mem_flatMap.1 hk
  obtain ⟨j,hj⟩:=List.getElem?_of_mem hm
  have h6:=xl h5 j (List.getElem?_eq_some_iff.1 hj).1
  simp only [vz,hj,Option.getD_some,modE] at h6
  split at h6
  ·rename_i hh
   simp only [Bool.and_eq_true] at hh
   simp only [List.mem_cons,List.not_mem_nil,or_false] at hk
   rcases hk with rfl | rfl
   ·exact xK.1 hh.1
   ·exact xK.1 hh.2
  ·cases h6
end Go.Proofs.YtchlfjhbijmdiaaGreatDoor.Ai

