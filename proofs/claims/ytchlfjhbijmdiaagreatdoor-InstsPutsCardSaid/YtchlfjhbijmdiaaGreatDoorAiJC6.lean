/- Part of a reckoning of a Go program over abstract values, proved sound against the model. -/
import Derived.Test.YtchlfjhbijmdiaaGreatDoorAiJC5
import Derived.Test.YtchlfjhbijmdiaaGreatDoorAiJB4
set_option linter.unusedSimpArgs false
set_option linter.unusedVariables false
namespace Go.Proofs.YtchlfjhbijmdiaaGreatDoor.Ai
open Go.Proofs
set_option maxRecDepth 100000
set_option maxHeartbeats 4000000

def e18:List V→Option V
 | [.list l,v]=>(dXs l).bind fun l=>(dX v).bind fun x=>if l.length≤1000 then some (.int .i64 (ckX l x)) else none
 | _=>none
theorem t18:∀args v,e18 args=some v→zx Tryz.prog zB 20 args v:=fun args v h=>by
 unfold e18 at h
 split at h
 ·simp only [Option.bind_eq_some_iff] at h
  obtain ⟨l,hl,x,hx,h⟩:=h
  obtain rfl:=yT hl
  rw [tc hx]
  split at h
  ·injection h with h; subst h; exact p18 l ‹_› x
  ·cases h
 ·cases h
open Classical in
noncomputable def e19:List V→Option V
 | [.list l]=>(dXs l).bind fun l=>if l.length≤19∧tC l then some (.bool (circ l)) else none
 | _=>none
theorem t19:∀args v,e19 args=some v→zx Tryz.prog zB 41 args v:=fun args v h=>by
 unfold e19 at h
 split at h
 ·simp only [Option.bind_eq_some_iff] at h
  obtain ⟨l,hl,h⟩:=h
  obtain rfl:=yT hl
  split at h
  ·rename_i hh; injection h with h; subst h; exact p19 l hh.1 hh.2
  ·cases h
 ·cases h
noncomputable def e8T:List (FuncId×(List V→Option V)):=[(20,e18),(41,e19)]
theorem e8T_ok:xa Tryz.prog zB e8T:=.cons t18 (.cons t19 .nil)
theorem instE_at {l:List Inst} {j:Nat} (h:j<l.length):yX l j=ckX l l[j]:=by simp [yX,List.getElem?_eq_getElem h]
section
variable {l:List Inst} {j:Nat} {s:S} {P:AX→Env→S→Prop}
def env8 (l:List Inst) (j:Nat):Env:=[(0,.list (l.map eX)),(9,.list (l.map eX)),(10,.int .i64 l.length),(11,.int .i64 j)]
theorem b8 (hl:l.length≤19) (h:j<l.length) (hw:s.wf) (hR:¬yX l j=0→∀E' s',yw E' 2=some (.int .i64 (yX l j))→P .ret E' s') (hN:yX l j=0→∀E' s',s'.wf→zI (env8 l (j+1)) E'→P .normal E' s'):yd (st e8T []) (cf0 e8T []) true [] 24 f8_l0 (env8 l j) s P:=by
 have e1:=List.getElem?_eq_getElem h
 have e3:IntKind.i64.wrap ((j:Int)+1)=((j+1:Nat):Int):=zN (by omega) (by omega)
 have q:∀s,zF (st e8T []) (cf0 e8T []) 20 [.list (l.map eX),.agg [vI l[j].kind,.list (l[j].alts.map eA),.list (l[j].modes.map eM),vI l[j].det]] s=some (.val (.int .i64 (yX l j)) s):=fun s=>by
  refine zH ?_
  have:e18 [.list (l.map eX),eX l[j]]=some (.int .i64 (ckX l l[j])):=by
   have:l.length≤1000:=by omega
   simp [e18,this]
  rw [instE_at h]
  simp only [st_tab,e8T,yB,if_true]
  exact this
 by_cases hz:yX l j=0
 ·simp -implicitDefEqProofs (maxDischargeDepth:=9) (maxSteps:=1000000) [Nat.add_assoc,ze,zq,zt,zr,zd,zp,zs,zy,asInt,zn,zz,sub,zl,zu,za,zk,zb,zj,zg,zh,zf,zA,zw,zo,zm,zi,Int.natCast_inj,env8,f8_l0,h,hw,e1,e3,eX,q,hz]
  exact hN hz _ _ (by simp [hw]) (by simp [env8])
 ·simp -implicitDefEqProofs (maxDischargeDepth:=9) (maxSteps:=1000000) [Nat.add_assoc,ze,zq,zt,zr,zd,zp,zs,zy,asInt,zn,zz,sub,zl,zu,za,zk,zb,zj,zg,zh,zf,zA,zw,zo,zm,zi,Int.natCast_inj,env8,f8_l0,h,hw,e1,e3,eX,q,hz]
  exact hR hz _ _ (by simp)
theorem x8 (hP:∀E',zI [(0,.list (l.map eX))] E'→P (.exit 0) E' s):yd (st e8T []) (cf0 e8T []) true [] 24 f8_l0 (env8 l l.length) s P:=by
 simp -implicitDefEqProofs (maxDischargeDepth:=9) (maxSteps:=1000000) [Nat.add_assoc,ze,zq,zt,zr,zd,zp,zs,zy,asInt,zn,zz,sub,zl,zu,za,zk,zb,zj,zg,zh,zf,zA,zw,zo,zm,zi,Int.natCast_inj,env8,f8_l0]
 exact hP _ (by simp)
end
theorem p8 (l:List Inst) (hl:l.length≤19):zx Tryz.prog zB 16 [.list (l.map eX)] (.int .i64 (ckT l)):=by
 have hc:=yn (e:=e8T) (f:=[]) e8T_ok .nil
 refine zx.cfg (cfg:=st e8T []) rfl ?_
 refine zM (sl:=true) hc (zW hc) yi Tryz.func16 f8_eq f8_nt f8_fits (by simp) (by simp) ?_
 have h2:¬(2000:Int)<l.length:=by omega
 simp -implicitDefEqProofs (maxDischargeDepth:=9) (maxSteps:=1000000) [Nat.add_assoc,ze,zq,zt,zr,zd,zp,zs,zy,asInt,zn,zz,sub,zl,zu,za,zk,zb,zj,zg,zh,zf,zA,zw,zo,zm,zi,Int.natCast_inj,f8_ac,h2]
 refine zO (α:=Nat) (env8 l) (fun j s=>s.wf∧j≤l.length∧∀i,i<j→yX l i=0) (fun j=>l.length - j) 0 f8_l0_fits (by simp [env8]) ⟨by simp,Nat.zero_le _,fun i h=>by omega⟩ ?_
 rintro j s ⟨hw,hj,hz⟩
 rcases Nat.lt_or_ge j l.length with h | h
 ·refine b8 hl h hw (fun h1 E' s' hE'=>?_) fun h1 E' s' hw' hE'=>?_
  ·have hv:ckT l=yX l j:=by
    have:=wY h hz h1
    unfold ckT; rw [this,if_neg h1]
   simp -implicitDefEqProofs (maxDischargeDepth:=9) (maxSteps:=1000000) [Nat.add_assoc,ze,zq,zt,zr,zd,zp,zs,zy,asInt,zn,zz,sub,zl,zu,za,zk,zb,zj,zg,zh,zf,zA,zw,zo,zm,zi,Int.natCast_inj,hE',hv]
  ·exact ⟨j+1,by omega,⟨hw',by omega,wn hz h1⟩,hE'⟩
 ·have:j=l.length:=by omega
  subst this
  have h0:=yM hz
  have hg:=(good_of h0).2
  have q:∀s,zF (st e8T []) (cf0 e8T []) 41 [.list (l.map eX)] s=some (.val (.bool (circ l)) s):=fun s=>by
   refine zH ?_
   simp only [st_tab,e8T,yB,show ¬(20:Nat)=41 by decide,if_false,if_true]
   simp [e19,hl,hg]
  refine x8 fun E' hE'=>?_
  obtain ⟨g0,_⟩:=hE'
  simp only at g0
  cases hcc:circ l with
  | true =>
   rw [hcc] at q
   have hv:ckT l=13:=by unfold ckT; rw [if_pos h0,if_pos hcc]
   simp -implicitDefEqProofs (maxDischargeDepth:=9) (maxSteps:=1000000) [Nat.add_assoc,ze,zq,zt,zr,zd,zp,zs,zy,asInt,zn,zz,sub,zl,zu,za,zk,zb,zj,zg,zh,zf,zA,zw,zo,zm,zi,Int.natCast_inj,g0,q,hv]
  | false =>
   rw [hcc] at q
   have hv:ckT l=0:=by unfold ckT; rw [if_pos h0,if_neg (by rw [hcc]; decide)]
   simp -implicitDefEqProofs (maxDischargeDepth:=9) (maxSteps:=1000000) [Nat.add_assoc,ze,zq,zt,zr,zd,zp,zs,zy,asInt,zn,zz,sub,zl,zu,za,zk,zb,zj,zg,zh,zf,zA,zw,zo,zm,zi,Int.natCast_inj,g0,q,hv]
end Go.Proofs.YtchlfjhbijmdiaaGreatDoor.Ai

