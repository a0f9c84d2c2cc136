/- Part of a reckoning of a Go program over abstract values, proved sound against the model. -/
import Derived.Test.YtchlfjhbijmdiaaGreatDoorAiJC2
import Derived.Test.YtchlfjhbijmdiaaGreatDoorAiJP3
set_option linter.unusedSimpArgs false
set_option linter.unusedVariables false
namespace Go.Proofs.YtchlfjhbijmdiaaGreatDoor.Ai
open Go.Proofs
set_option maxRecDepth 100000
set_option maxHeartbeats 4000000

/-! equal things are found equal -/
theorem p215 (x:List Int) (hl:x.length≤1000):zx Tryz.prog zB 31 [.list (x.map vI),.list (x.map vI)] (.bool true):=by
 have hc:=yn (e:=[]) (f:=[]) .nil .nil
 refine zx.cfg (cfg:=st [] []) rfl ?_
 refine zM (sl:=true) hc (zW hc) yi Tryz.func31 f215_eq f215_nt f215_fits (by simp) (by simp) ?_
 simp -implicitDefEqProofs (maxDischargeDepth:=9) (maxSteps:=1000000) [Nat.add_assoc,ze,zq,zt,zr,zd,zp,zs,zy,asInt,zn,zz,sub,zl,zu,za,zk,zb,zj,zg,zh,zf,zA,zw,zo,zm,zi,Int.natCast_inj,f215_ac]
 refine zO (α:=Nat) (fun i=>[(0,.list (x.map vI)),(1,.list (x.map vI)),(12,.int .i64 x.length),(13,.int .i64 i)]) (fun i s=>s.wf∧i≤x.length) (fun i=>x.length - i) 0 f215_l0_fits (by simp) (by simp) ?_
 rintro i s ⟨hw,hi⟩
 rcases Nat.lt_or_ge i x.length with h | h
 ·have e1:=List.getElem?_eq_getElem h
  have e3:IntKind.i64.wrap ((i:Int)+1)=((i+1:Nat):Int):=zN (by omega) (by omega)
  simp -implicitDefEqProofs (maxDischargeDepth:=9) (maxSteps:=1000000) [Nat.add_assoc,ze,zq,zt,zr,zd,zp,zs,zy,asInt,zn,zz,sub,zl,zu,za,zk,zb,zj,zg,zh,zf,zA,zw,zo,zm,zi,Int.natCast_inj,f215_l0,h,hw,e1,e3]
  exact ⟨fun hp=>by simp at hp,fun _=>⟨i+1,by omega,by omega,by simp⟩⟩
 ·have:i=x.length:=by omega
  subst this
  simp -implicitDefEqProofs (maxDischargeDepth:=9) (maxSteps:=1000000) [Nat.add_assoc,ze,zq,zt,zr,zd,zp,zs,zy,asInt,zn,zz,sub,zl,zu,za,zk,zb,zj,zg,zh,zf,zA,zw,zo,zm,zi,Int.natCast_inj,f215_l0,hw]
def e215:List V→Option V
 | [.list l,.list m]=>(dIL l).bind fun x=>(dIL m).bind fun y=>if x.length≤1000∧x=y then some (.bool true) else none
 | _=>none
theorem t215:∀args v,e215 args=some v→zx Tryz.prog zB 31 args v:=fun args v h=>by
 unfold e215 at h
 split at h
 ·simp only [Option.bind_eq_some_iff] at h
  obtain ⟨x,hx,y,hy,h⟩:=h
  split at h
  ·rename_i hh
   injection h with h; subst h
   obtain ⟨h1,rfl⟩:=hh
   rw [dIL_eq hx,dIL_eq hy]; exact p215 x h1
  ·cases h
 ·cases h
theorem p212 (x:List (Int×Int)) (hl:x.length≤1000):zx Tryz.prog zB 28 [.list (x.map eM),.list (x.map eM)] (.bool true):=by
 have hc:=yn (e:=[]) (f:=[]) .nil .nil
 refine zx.cfg (cfg:=st [] []) rfl ?_
 refine zM (sl:=true) hc (zW hc) yi Tryz.func28 f212_eq f212_nt f212_fits (by simp) (by simp) ?_
 have hq:∀m:Int×Int,wN (st [] []) .neq 55 (.agg [vI m.1,vI m.2]) (.agg [vI m.1,vI m.2])=some (.bool false):=fun m=>by
  have hk:∀a b:Int,wN (st [] []) .neq 55 (.agg [.int .i64 a,.int .i64 b]) (.agg [.int .i64 a,.int .i64 b])=some (.bool (!((a == a) && ((b == b) && true)))):=fun a b=>by kernel_rfl
  rw [vI,vI,hk]; simp
 simp -implicitDefEqProofs (maxDischargeDepth:=9) (maxSteps:=1000000) [Nat.add_assoc,ze,zq,zt,zr,zd,zp,zs,zy,asInt,zn,zz,sub,zl,zu,za,zk,zb,zj,zg,zh,zf,zA,zw,zo,zm,zi,Int.natCast_inj,f212_ac]
 refine zO (α:=Nat) (fun i=>[(0,.list (x.map eM)),(1,.list (x.map eM)),(12,.int .i64 x.length),(13,.int .i64 i)]) (fun i s=>s.wf∧i≤x.length) (fun i=>x.length - i) 0 f212_l0_fits (by simp) (by simp) ?_
 rintro i s ⟨hw,hi⟩
 rcases Nat.lt_or_ge i x.length with h | h
 ·have e1:=List.getElem?_eq_getElem h
  have e3:IntKind.i64.wrap ((i:Int)+1)=((i+1:Nat):Int):=zN (by omega) (by omega)
  simp -implicitDefEqProofs (maxDischargeDepth:=9) (maxSteps:=1000000) [Nat.add_assoc,ze,zq,zt,zr,zd,zp,zs,zy,asInt,zn,zz,sub,zl,zu,za,zk,zb,zj,zg,zh,zf,zA,zw,zo,zm,zi,Int.natCast_inj,f212_l0,h,hw,e1,e3,eM,hq]
  refine ⟨i+1,by omega,by omega,by simp⟩
 ·have:i=x.length:=by omega
  subst this
  simp -implicitDefEqProofs (maxDischargeDepth:=9) (maxSteps:=1000000) [Nat.add_assoc,ze,zq,zt,zr,zd,zp,zs,zy,asInt,zn,zz,sub,zl,zu,za,zk,zb,zj,zg,zh,zf,zA,zw,zo,zm,zi,Int.natCast_inj,f212_l0,hw]
def e212:List V→Option V
 | [.list l,.list m]=>(dMs l).bind fun x=>(dMs m).bind fun y=>if x.length≤1000∧x=y then some (.bool true) else none
 | _=>none
theorem t212:∀args v,e212 args=some v→zx Tryz.prog zB 28 args v:=fun args v h=>by
 unfold e212 at h
 split at h
 ·simp only [Option.bind_eq_some_iff] at h
  obtain ⟨x,hx,y,hy,h⟩:=h
  split at h
  ·rename_i hh
   injection h with h; subst h
   obtain ⟨h1,rfl⟩:=hh
   rw [dMs_eq hx,dMs_eq hy]; exact p212 x h1
  ·cases h
 ·cases h
theorem p214 (a:Alt) (hl:a.args.length≤1000):zx Tryz.prog zB 30 [eA a,eA a] (.bool true):=by
 have hc:=yn (e:=[(31,e215)]) (f:=[]) (.cons t215 .nil) .nil
 refine zx.cfg (cfg:=st [(31,e215)] []) rfl ?_
 refine zM (sl:=true) hc (zW hc) yi Tryz.func30 f214_eq f214_nt f214_fits (by simp) (by simp) ?_
 have h1:e215 [.list (a.args.map vI),.list (a.args.map vI)]=some (.bool true):=by simp [e215,hl]
 simp -implicitDefEqProofs (maxDischargeDepth:=9) (maxSteps:=1000000) [Nat.add_assoc,ze,zq,zt,zr,zd,zp,zs,zy,asInt,zn,zz,sub,zl,zu,za,zk,zb,zj,zg,zh,zf,zA,zw,zo,zm,zi,Int.natCast_inj,f214_ac,eA,eI,zF,h1]
def e214:List V→Option V
 | [v,w]=>(dA v).bind fun a=>(dA w).bind fun b=>if a.args.length≤1000∧v=w then some (.bool true) else none
 | _=>none
theorem t214:∀args v,e214 args=some v→zx Tryz.prog zB 30 args v:=fun args v h=>by
 unfold e214 at h
 split at h
 ·simp only [Option.bind_eq_some_iff] at h
  obtain ⟨x,hx,y,hy,h⟩:=h
  split at h
  ·rename_i hh
   injection h with h; subst h
   obtain ⟨h1,rfl⟩:=hh
   rw [dA_eq hx]; exact p214 x h1
  ·cases h
 ·cases h
theorem e214_at (a:Alt) (h:a.args.length≤1000):e214 [.agg [.str a.name,.list (a.args.map vI)],.agg [.str a.name,.list (a.args.map vI)]]=some (.bool true):=by
 have:e214 [eA a,eA a]=some (.bool true):=by simp [e214,h]
 exact this
theorem p213s (l:List Alt) (hl:l.length≤1000) (ha:∀a∈l,a.args.length≤1000):zx Tryz.prog zB 29 [.list (l.map eA),.list (l.map eA),.func (.func 30) [] []] (.bool true):=by
 have hc:=yn (e:=[(30,e214)]) (f:=[]) (.cons t214 .nil) .nil
 refine zx.cfg (cfg:=st [(30,e214)] []) rfl ?_
 refine zM (sl:=true) hc (zW hc) yi Tryz.func29 f213_eq f213_nt f213_fits (by simp) (by simp) ?_
 simp -implicitDefEqProofs (maxDischargeDepth:=9) (maxSteps:=1000000) [Nat.add_assoc,ze,zq,zt,zr,zd,zp,zs,zy,asInt,zn,zz,sub,zl,zu,za,zk,zb,zj,zg,zh,zf,zA,zw,zo,zm,zi,Int.natCast_inj,f213_ac]
 refine zO (α:=Nat) (fun i=>[(1,.list (l.map eA)),(2,.func (.func 30) [] []),(15,.list (l.map eA)),(16,.int .i64 l.length),(17,.int .i64 i)]) (fun i s=>s.wf∧i≤l.length) (fun i=>l.length - i) 0 f213_l0_fits (by simp) (by simp) ?_
 rintro i s ⟨hw,hi⟩
 rcases Nat.lt_or_ge i l.length with h | h
 ·have e1:=List.getElem?_eq_getElem h
  have e3:IntKind.i64.wrap ((i:Int)+1)=((i+1:Nat):Int):=zN (by omega) (by omega)
  have e4:=e214_at l[i] (ha _ (List.getElem_mem h))
  simp -implicitDefEqProofs (maxDischargeDepth:=9) (maxSteps:=1000000) [Nat.add_assoc,ze,zq,zt,zr,zd,zp,zs,zy,asInt,zn,zz,sub,zl,zu,za,zk,zb,zj,zg,zh,zf,zA,zw,zo,zm,zi,Int.natCast_inj,f213_l0,h,hw,e1,e3,e4,eA,eI,zF]
  exact ⟨i+1,by omega,by omega,by simp⟩
 ·have:i=l.length:=by omega
  subst this
  simp -implicitDefEqProofs (maxDischargeDepth:=9) (maxSteps:=1000000) [Nat.add_assoc,ze,zq,zt,zr,zd,zp,zs,zy,asInt,zn,zz,sub,zl,zu,za,zk,zb,zj,zg,zh,zf,zA,zw,zo,zm,zi,Int.natCast_inj,f213_l0,hw]
/-- One alternative is as another one, but for what it refers to. -/
def alA (a b:Alt):Bool:=decide (a.name=b.name) && decide (a.args.length=b.args.length)
theorem cmpA_eq (a b:Alt):decide (cmpA a b=0)=alA a b:=by
 have h2:decide (cmpS a.name b.name=0)=(a.name.toList == b.name.toList):=by
  rw [cmpS,Lib.cmp_eq,compare_eq,ByteArray.toList_eq,ByteArray.toList_eq]
 have h3:(a.name.toList == b.name.toList)=decide (a.name=b.name):=by
  rw [Bool.eq_iff_iff]
  simp only [beq_iff_eq,decide_eq_true_eq]
  constructor
  ·intro h
   rw [ByteArray.toList_eq,ByteArray.toList_eq] at h
   exact ByteArray.ext (Array.ext' h)
  ·intro h; rw [h]
 unfold alA cmpA orL cmpN
 rw [← h3,← h2]
 generalize cmpS a.name b.name=c
 rw [Bool.eq_iff_iff]
 by_cases hc:c=0
 ·subst hc
  by_cases h3:a.args.length<b.args.length
  ·have:(a.args.length:Int)<b.args.length:=by omega
   simp [h3,this,orL]
   omega
  ·have:¬(a.args.length:Int)<b.args.length:=by omega
   by_cases h4:b.args.length<a.args.length
   ·have:(b.args.length:Int)<a.args.length:=by omega
    simp [*,orL]
    omega
   ·have:¬(b.args.length:Int)<a.args.length:=by omega
    simp [*,orL]
    omega
 ·simp [hc]
theorem p223 (a b:Alt):zx Tryz.prog zB 78 [eA a,eA b] (.bool (alA a b)):=by
 have hc:=yn (e:=[(43,e35)]) (f:=[]) (.cons t35 .nil) .nil
 refine zx.cfg (cfg:=st [(43,e35)] []) rfl ?_
 refine zM (sl:=true) hc (zW hc) yi Tryz.func78 f223_eq f223_nt f223_fits (by simp) (by simp) ?_
 have h1:e35 [.agg [.str a.name,.list (a.args.map vI)],.agg [.str b.name,.list (b.args.map vI)]]=some (.int .i64 (cmpA a b)):=by
  have:e35 [eA a,eA b]=some (.int .i64 (cmpA a b)):=by simp [e35]
  exact this
 rw [← cmpA_eq]
 simp -implicitDefEqProofs (maxDischargeDepth:=9) (maxSteps:=1000000) [Nat.add_assoc,ze,zq,zt,zr,zd,zp,zs,zy,asInt,zn,zz,sub,zl,zu,za,zk,zb,zj,zg,zh,zf,zA,zw,zo,zm,zi,Int.natCast_inj,f223_ac,eA,eI,zF,h1]
def e223:List V→Option V
 | [v,w]=>(dA v).bind fun a=>(dA w).map fun b=>.bool (alA a b)
 | _=>none
theorem t223:∀args v,e223 args=some v→zx Tryz.prog zB 78 args v:=fun args v h=>by
 unfold e223 at h
 split at h
 ·simp only [Option.bind_eq_some_iff,Option.map_eq_some_iff] at h
  obtain ⟨a,ha,b,hb,rfl⟩:=h
  rw [dA_eq ha,dA_eq hb]
  exact p223 a b
 ·cases h
theorem e223_at (a b:Alt):e223 [.agg [.str a.name,.list (a.args.map vI)],.agg [.str b.name,.list (b.args.map vI)]]=some (.bool (alA a b)):=by
 have:e223 [eA a,eA b]=some (.bool (alA a b)):=by simp [e223]
 exact this
theorem likeA_drop:∀{l m:List Alt} {i:Nat} (h:i<l.length) (h':i<m.length),yE (l.drop i) (m.drop i)=(alA l[i] m[i] && yE (l.drop (i+1)) (m.drop (i+1)))
 | a::l,b::m,0,_,_=>rfl
 | a::l,b::m,i+1,h,h'=>by
  simpa using likeA_drop (l:=l) (m:=m) (i:=i) (by simpa using h) (by simpa using h')
theorem xC:∀{l m:List Alt},yE l m=true→l.length=m.length
 | [],[],_=>rfl
 | a::l,b::m,h=>by
  simp only [yE,Bool.and_eq_true] at h
  simp [xC h.2]
 | [],_::_,h=>by cases h
 | _::_,[],h=>by cases h
theorem p213 (l m:List Alt) (hl:l.length≤1000) (hm:m.length≤1000):zx Tryz.prog zB 29 [.list (l.map eA),.list (m.map eA),.func (.func 78) [] []] (.bool (yE l m)):=by
 have hc:=yn (e:=[(78,e223)]) (f:=[]) (.cons t223 .nil) .nil
 refine zx.cfg (cfg:=st [(78,e223)] []) rfl ?_
 refine zM (sl:=true) hc (zW hc) yi Tryz.func29 f213_eq f213_nt f213_fits (by simp) (by simp) ?_
 by_cases hlm:l.length=m.length
 ·simp -implicitDefEqProofs (maxDischargeDepth:=9) (maxSteps:=1000000) [Nat.add_assoc,ze,zq,zt,zr,zd,zp,zs,zy,asInt,zn,zz,sub,zl,zu,za,zk,zb,zj,zg,zh,zf,zA,zw,zo,zm,zi,Int.natCast_inj,f213_ac,hlm]
  refine zO (α:=Nat) (fun i=>[(1,.list (m.map eA)),(2,.func (.func 78) [] []),(15,.list (l.map eA)),(16,.int .i64 m.length),(17,.int .i64 i)]) (fun i s=>s.wf∧i≤l.length∧yE l m=yE (l.drop i) (m.drop i)) (fun i=>l.length - i) 0 f213_l0_fits (by simp) (by simp) ?_
  rintro i s ⟨hw,hi,ht⟩
  rcases Nat.lt_or_ge i l.length with h | h
  ·have h':i<m.length:=by omega
   have e1:=List.getElem?_eq_getElem h
   have e2:=List.getElem?_eq_getElem h'
   have e3:IntKind.i64.wrap ((i:Int)+1)=((i+1:Nat):Int):=zN (by omega) (by omega)
   have e4:=e223_at l[i] m[i]
   rw [likeA_drop h h'] at ht
   simp -implicitDefEqProofs (maxDischargeDepth:=9) (maxSteps:=1000000) [Nat.add_assoc,ze,zq,zt,zr,zd,zp,zs,zy,asInt,zn,zz,sub,zl,zu,za,zk,zb,zj,zg,zh,zf,zA,zw,zo,zm,zi,Int.natCast_inj,f213_l0,h,h',hw,e1,e2,e3,e4,eA,eI,zF]
   refine ⟨fun hp=>by rw [ht,hp]; rfl,fun hp=>⟨i+1,by omega,⟨by omega,by rw [ht,hp]; rfl⟩,by simp⟩⟩
  ·have:i=l.length:=by omega
   subst this
   have h0:yE l m=true:=by rw [ht,List.drop_length,hlm,List.drop_length]; rfl
   have h1:¬l.length<m.length:=by omega
   simp -implicitDefEqProofs (maxDischargeDepth:=9) (maxSteps:=1000000) [Nat.add_assoc,ze,zq,zt,zr,zd,zp,zs,zy,asInt,zn,zz,sub,zl,zu,za,zk,zb,zj,zg,zh,zf,zA,zw,zo,zm,zi,Int.natCast_inj,f213_l0,hw,h1,h0]
 ·have h0:yE l m=false:=by
   cases h:yE l m with
   | false=>rfl
   | true=>exact absurd (xC h) hlm
  have h1:¬(l.length:Int)=m.length:=by omega
  simp -implicitDefEqProofs (maxDischargeDepth:=9) (maxSteps:=1000000) [Nat.add_assoc,ze,zq,zt,zr,zd,zp,zs,zy,asInt,zn,zz,sub,zl,zu,za,zk,zb,zj,zg,zh,zf,zA,zw,zo,zm,zi,Int.natCast_inj,f213_ac,hlm,h1,h0]
end Go.Proofs.YtchlfjhbijmdiaaGreatDoor.Ai

namespace Go.Proofs.YtchlfjhbijmdiaaGreatDoor.Ai
open Go.Proofs
set_option maxRecDepth 100000
set_option maxHeartbeats 4000000

def vD (x:Inst):Prop:=x.alts.length≤1000∧x.modes.length≤1000∧∀a∈x.alts,a.args.length≤1000
open Classical in
noncomputable def e213:List V→Option V
 | [.list l,.list m,.func (.func g) [] []]=>(dAs l).bind fun x=>(dAs m).bind fun y =>
  if g=30 then if x.length≤1000∧(∀a∈x,a.args.length≤1000)∧l=m then some (.bool true) else none
  else if g=78 then if x.length≤1000∧y.length≤1000 then some (.bool (yE x y)) else none else none
 | _=>none
theorem t213:∀args v,e213 args=some v→zx Tryz.prog zB 29 args v:=fun args v h=>by
 unfold e213 at h
 split at h
 ·simp only [Option.bind_eq_some_iff] at h
  obtain ⟨x,hx,y,hy,h⟩:=h
  split at h
  ·rename_i hg
   subst hg
   split at h
   ·rename_i hh
    injection h with h; subst h
    obtain ⟨h1,h2,rfl⟩:=hh
    rw [dAs_eq hx]; exact p213s x h1 h2
   ·cases h
  ·split at h
   ·rename_i hg
    subst hg
    split at h
    ·rename_i hh
     injection h with h; subst h
     rw [dAs_eq hx,dAs_eq hy]; exact p213 x y hh.1 hh.2
    ·cases h
   ·cases h
 ·cases h
theorem e213_eq (l:List Alt) (h1:l.length≤1000) (h2:∀a∈l,a.args.length≤1000):e213 [.list (l.map eA),.list (l.map eA),.func (.func 30) [] []]=some (.bool true):=by
 unfold e213
 simp only [dAs_map,Option.bind_some,if_true]
 rw [if_pos ⟨h1,h2,trivial⟩]
theorem e213_at (l m:List Alt) (h1:l.length≤1000) (h2:m.length≤1000):e213 [.list (l.map eA),.list (m.map eA),.func (.func 78) [] []]=some (.bool (yE l m)):=by
 unfold e213
 simp only [dAs_map,Option.bind_some]
 rw [if_neg (by decide),if_pos trivial,if_pos ⟨h1,h2⟩]
noncomputable def eS:List (FuncId×(List V→Option V)):=[(28,e212),(29,e213)]
theorem eS_ok:xa Tryz.prog zB eS:=.cons t212 (.cons t213 .nil)
theorem p211 (x:Inst) (hx:vD x):zx Tryz.prog zB 27 [eX x,eX x] (.bool true):=by
 have hc:=yn (e:=eS) (f:=[]) eS_ok .nil
 refine zx.cfg (cfg:=st eS []) rfl ?_
 refine zM (sl:=true) hc (zW hc) yi Tryz.func27 f211_eq f211_nt f211_fits (by simp) (by simp) ?_
 have h212:∀s,zF (st eS []) (cf0 eS []) 28 [.list (x.modes.map eM),.list (x.modes.map eM)] s=some (.val (.bool true) s):=fun s=>zH (v:=.bool true) (by
  have:e212 [.list (x.modes.map eM),.list (x.modes.map eM)]=some (.bool true):=by simp [e212,hx.2.1]
  exact this)
 have h213:∀s,zF (st eS []) (cf0 eS []) 29 [.list (x.alts.map eA),.list (x.alts.map eA),.func (.func 30) [] []] s=some (.val (.bool true) s):=fun s=>zH (v:=.bool true) (e213_eq _ hx.1 hx.2.2)
 simp -implicitDefEqProofs (maxDischargeDepth:=9) (maxSteps:=1000000) [Nat.add_assoc,ze,zq,zt,zr,zd,zp,zs,zy,asInt,zn,zz,sub,zl,zu,za,zk,zb,zj,zg,zh,zf,zA,zw,zo,zm,zi,Int.natCast_inj,f211_ac,eX,vI,h212,h213]
open Classical in
noncomputable def e211:List V→Option V
 | [v,w]=>(dX v).bind fun x=>if vD x∧v=w then some (.bool true) else none
 | _=>none
theorem t211:∀args v,e211 args=some v→zx Tryz.prog zB 27 args v:=fun args v h=>by
 unfold e211 at h
 split at h
 ·simp only [Option.bind_eq_some_iff] at h
  obtain ⟨x,hx,h⟩:=h
  split at h
  ·rename_i hh
   injection h with h; subst h
   obtain ⟨h1,rfl⟩:=hh
   rw [tc hx]; exact p211 x h1
  ·cases h
 ·cases h
theorem e211_at (x:Inst) (h:vD x):e211 [.agg [vI x.kind,.list (x.alts.map eA),.list (x.modes.map eM),vI x.det],.agg [vI x.kind,.list (x.alts.map eA),.list (x.modes.map eM),vI x.det]]=some (.bool true):=by
 have:e211 [eX x,eX x]=some (.bool true):=by
  unfold e211
  simp only [dX_eX,Option.bind_some]
  rw [if_pos ⟨h,rfl⟩]
 exact this
theorem p210 (l:List Inst) (hl:l.length≤1000) (hs:∀x∈l,vD x):zx Tryz.prog zB 26 [.list (l.map eX),.list (l.map eX),.func (.func 27) [] []] (.bool true):=by
 have hc:=yn (e:=[(27,e211)]) (f:=[]) (.cons t211 .nil) .nil
 refine zx.cfg (cfg:=st [(27,e211)] []) rfl ?_
 refine zM (sl:=true) hc (zW hc) yi Tryz.func26 f210_eq f210_nt f210_fits (by simp) (by simp) ?_
 simp -implicitDefEqProofs (maxDischargeDepth:=9) (maxSteps:=1000000) [Nat.add_assoc,ze,zq,zt,zr,zd,zp,zs,zy,asInt,zn,zz,sub,zl,zu,za,zk,zb,zj,zg,zh,zf,zA,zw,zo,zm,zi,Int.natCast_inj,f210_ac]
 refine zO (α:=Nat) (fun i=>[(1,.list (l.map eX)),(2,.func (.func 27) [] []),(15,.list (l.map eX)),(16,.int .i64 l.length),(17,.int .i64 i)]) (fun i s=>s.wf∧i≤l.length) (fun i=>l.length - i) 0 f210_l0_fits (by simp) (by simp) ?_
 rintro i s ⟨hw,hi⟩
 rcases Nat.lt_or_ge i l.length with h | h
 ·have e1:=List.getElem?_eq_getElem h
  have e3:IntKind.i64.wrap ((i:Int)+1)=((i+1:Nat):Int):=zN (by omega) (by omega)
  have e4:=e211_at l[i] (hs _ (List.getElem_mem h))
  simp -implicitDefEqProofs (maxDischargeDepth:=9) (maxSteps:=1000000) [Nat.add_assoc,ze,zq,zt,zr,zd,zp,zs,zy,asInt,zn,zz,sub,zl,zu,za,zk,zb,zj,zg,zh,zf,zA,zw,zo,zm,zi,Int.natCast_inj,f210_l0,h,hw,e1,e3,e4,eX,zF]
  exact ⟨i+1,by omega,by omega,by simp⟩
 ·have:i=l.length:=by omega
  subst this
  simp -implicitDefEqProofs (maxDischargeDepth:=9) (maxSteps:=1000000) [Nat.add_assoc,ze,zq,zt,zr,zd,zp,zs,zy,asInt,zn,zz,sub,zl,zu,za,zk,zb,zj,zg,zh,zf,zA,zw,zo,zm,zi,Int.natCast_inj,f210_l0,hw]
open Classical in
noncomputable def e210:List V→Option V
 | [.list l,.list m,.func (.func 27) [] []]=>(dXs l).bind fun x=>if x.length≤1000∧(∀a∈x,vD a)∧l=m then some (.bool true) else none
 | _=>none
theorem t210:∀args v,e210 args=some v→zx Tryz.prog zB 26 args v:=fun args v h=>by
 unfold e210 at h
 split at h
 ·simp only [Option.bind_eq_some_iff] at h
  obtain ⟨x,hx,h⟩:=h
  split at h
  ·rename_i hh
   injection h with h; subst h
   obtain ⟨h1,h2,rfl⟩:=hh
   rw [yT hx]; exact p210 x h1 h2
  ·cases h
 ·cases h
theorem p203 (l:List Inst) (hl:l.length≤1000) (hs:∀x∈l,vD x):zx Tryz.prog zB 9 [.list (l.map eX),.list (l.map eX)] (.bool true):=by
 have hc:=yn (e:=[(26,e210)]) (f:=[]) (.cons t210 .nil) .nil
 refine zx.cfg (cfg:=st [(26,e210)] []) rfl ?_
 refine zM (sl:=true) hc (zW hc) yi Tryz.func9 f203_eq f203_nt f203_fits (by simp) (by simp) ?_
 have h1:e210 [.list (l.map eX),.list (l.map eX),.func (.func 27) [] []]=some (.bool true):=by
  unfold e210
  simp only [xJ,Option.bind_some]
  rw [if_pos ⟨hl,hs,rfl⟩]
 simp -implicitDefEqProofs (maxDischargeDepth:=9) (maxSteps:=1000000) [Nat.add_assoc,ze,zq,zt,zr,zd,zp,zs,zy,asInt,zn,zz,sub,zl,zu,za,zk,zb,zj,zg,zh,zf,zA,zw,zo,zm,zi,Int.natCast_inj,f203_ac,zF,h1]
open Classical in
noncomputable def e203:List V→Option V
 | [.list l,.list m]=>(dXs l).bind fun x=>if x.length≤1000∧(∀a∈x,vD a)∧l=m then some (.bool true) else none
 | _=>none
theorem t203:∀args v,e203 args=some v→zx Tryz.prog zB 9 args v:=fun args v h=>by
 unfold e203 at h
 split at h
 ·simp only [Option.bind_eq_some_iff] at h
  obtain ⟨x,hx,h⟩:=h
  split at h
  ·rename_i hh
   injection h with h; subst h
   obtain ⟨h1,h2,rfl⟩:=hh
   rw [yT hx]; exact p203 x h1 h2
  ·cases h
 ·cases h
theorem e203_at (l:List Inst) (h1:l.length≤1000) (h2:∀x∈l,vD x):e203 [.list (l.map eX),.list (l.map eX)]=some (.bool true):=by
 unfold e203
 simp only [xJ,Option.bind_some]
 rw [if_pos ⟨h1,h2,rfl⟩]
end Go.Proofs.YtchlfjhbijmdiaaGreatDoor.Ai

