/- Part of a reckoning of a Go program over abstract values, proved sound against the model. -/
import Derived.Test.YtchlfjhbijmdiaaGreatDoorAiJD4
import Derived.Test.YtchlfjhbijmdiaaGreatDoorAiJP3
set_option linter.unusedSimpArgs false
set_option linter.unusedVariables false
namespace Go.Proofs.YtchlfjhbijmdiaaGreatDoor.Ai
open Go.Proofs
set_option maxRecDepth 100000
set_option maxHeartbeats 4000000

/-! the parts of an inst -/
def f221_k1:AC:=(.seq (.seq (.reg 6 f221_r6o [1,3,5]) (.block 2 (.loop uS))) (.seq (.reg 10 f221_r10o [2]) .ret))
theorem f221_top:f221_ac=(.seq (.reg 0 f221_r0o [1]) (.seq (.reg 1 f221_r1o [1,3]) (.seq (.seq (.reg 2 f221_r2o [1,3,4]) (.block 0 (.loop ve))) f221_k1))):=rfl
theorem args_len {L:List Alt} (ha:∀a∈L,a.args.length≤100):(L.flatMap (·.args)).length≤L.length*100:=by
 induction L with
 | nil=>simp
 | cons a L ih =>
  have h1:=ih fun c hc=>ha c (by simp [hc])
  have h2:=ha a (by simp)
  simp only [List.flatMap_cons,List.length_append,List.length_cons]
  omega
theorem parts_len {x:Inst} (hx:zQ x):(xB x).length≤20000:=by
 have h1:=args_len hx.2.2
 have h2:=yy x
 have h3:=hx.1
 have h4:=hx.2.1
 unfold xB
 rw [List.length_append]
 omega
section
variable {x:Inst} {s:S}
theorem l221a (hx:zQ x) (hw:s.wf) (h0:s.get 0=some (.cells (cX x) 0 26 true)) (hn:0<s.next) {Q:AX→Env→S→Prop} (hQ:∀t v E',t.wf→0<t.next→t.get 0=some (.cells (cX x) 0 26 true)→Sl t v (x.alts.flatMap (·.args))→yw E' 1=some (.ptr 0 0)→yw E' 3=some v→Q (.exit 0) E' t) :
  yd (st [] []) (cf0 [] []) true [] 44 (.loop ve) [(1,.ptr 0 0),(3,.nils),(4,.int .i64 0)] s Q:=by
 refine zO (α:=Nat×V) (fun a=>[(1,.ptr 0 0),(3,a.2),(4,.int .i64 a.1)]) (fun a t=>t.wf∧0<t.next∧t.get 0=some (.cells (cX x) 0 26 true)∧a.1≤x.alts.length∧Sl t a.2 ((x.alts.take a.1).flatMap (·.args))) (fun a=>x.alts.length - a.1) (0,.nils) f221_l0_fits (by simp [zI]) ⟨hw,hn,h0,Nat.zero_le _,.inl ⟨rfl,rfl⟩⟩ ?_
 rintro ⟨i,v⟩ t ⟨hw,hn,h0,hi,ht⟩
 simp only at hi ht ⊢
 have hxl:=hx.1
 rcases Nat.lt_or_ge i x.alts.length with h | h
 ·have e1:=List.getElem?_eq_getElem h
  have e3:IntKind.i64.wrap ((i:Int)+1)=((i+1:Nat):Int):=zN (by omega) (by omega)
  have hnext:(x.alts.take (i+1)).flatMap (·.args)=(x.alts.take i).flatMap (·.args)++x.alts[i].args:=by
   rw [List.take_succ_eq_append_getElem h,List.flatMap_append]; simp
  have hL:=args_len (L:=x.alts.take i) fun a ha=>hx.2.2 a (List.mem_of_mem_take ha)
  rw [List.length_take] at hL
  have ha1:=hx.2.2 _ (List.getElem_mem h)
  generalize (x.alts.take i).flatMap (·.args)=L at ht hL hnext
  generalize hM:x.alts[i].args=M at hnext ha1
  have hn0:¬0=t.next:=by omega
  have hlay:∀t:S,xD true t (M.map vI)=some (M.map vI,t):=fun t=>layIf_I (by omega)
  by_cases hm0:M=[]
  ·subst hm0
   rw [List.append_nil] at hnext
   rcases ht with ⟨rfl,rfl⟩ | ⟨id,cp,hid,rfl,hgt⟩
   ·simp -implicitDefEqProofs (maxDischargeDepth:=9) (maxSteps:=1000000) [Nat.add_assoc,ze,zq,zt,zr,zd,zp,zs,zy,asInt,zn,zz,sub,zl,zu,za,zk,zb,zj,zg,zh,zf,zA,zw,zo,zm,zi,Int.natCast_inj,ve,h,hw,h0,hn,e1,e3,cX,eA,eI,hM]
    exact ⟨i+1,by omega,_,⟨by omega,.inl ⟨rfl,hnext⟩⟩,rfl,by simp⟩
   ·simp -implicitDefEqProofs (maxDischargeDepth:=9) (maxSteps:=1000000) [Nat.add_assoc,ze,zq,zt,zr,zd,zp,zs,zy,asInt,zn,zz,sub,zl,zu,za,zk,zb,zj,zg,zh,zf,zA,zw,zo,zm,zi,Int.natCast_inj,ve,h,hw,h0,hn,e1,e3,cX,eA,eI,hM,hgt]
    exact ⟨i+1,by omega,_,⟨by omega,.inr ⟨id,cp,hid,by rw [hnext],by rw [hnext]; exact hgt⟩⟩,rfl,by simp⟩
  ·have hm1:¬M.length=0:=fun h=>hm0 (List.eq_nil_of_length_eq_zero h)
   have hs1:M.length*8≤140737488355328:=by omega
   have hs2:M.length≤140737488355328:=by omega
   rcases ht with ⟨rfl,rfl⟩ | ⟨id,cp,hid,rfl,hgt⟩
   ·simp -implicitDefEqProofs (maxDischargeDepth:=9) (maxSteps:=1000000) [Nat.add_assoc,ze,zq,zt,zr,zd,zp,zs,zy,asInt,zn,zz,sub,zl,zu,za,zk,zb,zj,zg,zh,zf,zA,zw,zo,zm,zi,Int.natCast_inj,ve,h,hw,h0,hn,e1,e3,cX,eA,eI,hM,hm0,hm1,hlay,hs1,hs2]
    exact ⟨i+1,by omega,_,⟨hn0,by omega,.inr ⟨t.next,0,by simp,by rw [hnext]; rfl,by rw [hnext]; simp⟩⟩,rfl,by simp⟩
   ·have h4:(L.length+M.length)*8≤140737488355328:=by omega
    have h5:L.length+M.length≤140737488355328:=by omega
    have h0i:¬0=id:=fun e=>by rw [← e,h0] at hgt; injection hgt with hgt; injection hgt with _ _ _ h; cases h
    have h8:((L.map vI).take L.length)=L.map vI:=List.take_of_length_le (by simp)
    simp -implicitDefEqProofs (maxDischargeDepth:=9) (maxSteps:=1000000) [Nat.add_assoc,ze,zq,zt,zr,zd,zp,zs,zy,asInt,zn,zz,sub,zl,zu,za,zk,zb,zj,zg,zh,zf,zA,zw,zo,zm,zi,Int.natCast_inj,ve,h,hw,h0,hn,e1,e3,cX,eA,eI,hM,hm0,hm1,hlay,hgt,hid,h4,h5,h8,hn0,h0i]
    exact ⟨i+1,by omega,_,⟨by omega,.inr ⟨t.next,if L.length+M.length<cp then cp else 0,by simp,by rw [hnext]; simp,by rw [hnext]; simp⟩⟩,rfl,by simp⟩
 ·have:i=x.alts.length:=by omega
  subst this
  rw [List.take_length] at ht
  simp -implicitDefEqProofs (maxDischargeDepth:=9) (maxSteps:=1000000) [Nat.add_assoc,ze,zq,zt,zr,zd,zp,zs,zy,asInt,zn,zz,sub,zl,zu,za,zk,zb,zj,zg,zh,zf,zA,zw,zo,zm,zi,Int.natCast_inj,ve,hw,h0,cX]
  exact hQ _ _ _ hw hn h0 ht rfl rfl
theorem l221b (hx:zQ x) (hw:s.wf) (h0:s.get 0=some (.cells (cX x) 0 26 true)) (hn:0<s.next) {v:V} {L0:List Int} (hL0:L0.length≤10000) (hv:Sl s v L0) {Q:AX→Env→S→Prop} (hQ:∀t v E',t.wf→Sl t v (L0++zR x)→yw E' 3=some v→Q (.exit 2) E' t) :
  yd (st [] []) (cf0 [] []) true [] 44 (.loop uS) [(1,.ptr 0 0),(3,v),(5,.int .i64 0)] s Q:=by
 refine zO (α:=Nat×V) (fun a=>[(1,.ptr 0 0),(3,a.2),(5,.int .i64 a.1)]) (fun a t=>t.wf∧0<t.next∧t.get 0=some (.cells (cX x) 0 26 true)∧a.1≤x.modes.length∧Sl t a.2 (L0++(x.modes.take a.1).flatMap fun m=>[m.1,m.2])) (fun a=>x.modes.length - a.1) (0,v) f221_l1_fits (by simp [zI]) ⟨hw,hn,h0,Nat.zero_le _,by simpa using hv⟩ ?_
 rintro ⟨i,v⟩ t ⟨hw,hn,h0,hi,ht⟩
 simp only at hi ht ⊢
 have hxl:=hx.2.1
 rcases Nat.lt_or_ge i x.modes.length with h | h
 ·have e1:=List.getElem?_eq_getElem h
  have e3:IntKind.i64.wrap ((i:Int)+1)=((i+1:Nat):Int):=zN (by omega) (by omega)
  have hL:(L0++(x.modes.take i).flatMap fun m=>[m.1,m.2]).length≤11000:=by
   have:=yy ⟨0,[],x.modes.take i,0⟩
   simp only [zR] at this
   rw [List.length_append,this,List.length_take]
   omega
  have hnext:(L0++(x.modes.take (i+1)).flatMap fun m=>[m.1,m.2])=(L0++(x.modes.take i).flatMap fun m=>[m.1,m.2])++[x.modes[i].1,x.modes[i].2]:=by rw [endsX_take x i h,List.append_assoc]
  generalize (L0++(x.modes.take i).flatMap fun m=>[m.1,m.2])=L at ht hL hnext
  have hlay:∀(t:S) (a b:Int),xD true t [vI a,vI b]=some ([vI a,vI b],t):=fun t a b=>rfl
  have hn0:¬0=t.next:=by omega
  have hn1:∀k,¬0=t.next+k:=fun k=>by omega
  rcases ht with ⟨rfl,rfl⟩ | ⟨id,cp,hid,rfl,hgt⟩
  ·simp -implicitDefEqProofs (maxDischargeDepth:=9) (maxSteps:=1000000) [Nat.add_assoc,ze,zq,zt,zr,zd,zp,zs,zy,asInt,zn,zz,sub,zl,zu,za,zk,zb,zj,zg,zh,zf,zA,zw,zo,zm,zi,Int.natCast_inj,uS,h,hw,h0,hn,e1,e3,cX,eM,hlay,hn0,hn1]
   exact ⟨i+1,by omega,_,⟨by omega,.inr ⟨t.next+14,0,by simp,by rw [hnext]; rfl,by rw [hnext]; simp⟩⟩,rfl,by simp⟩
  ·have h0i:¬0=id:=fun e=>by rw [← e,h0] at hgt; injection hgt with hgt; injection hgt with _ _ _ h; cases h
   have h4:(L.length+2)*8≤140737488355328:=by omega
   have h5:L.length≤140737488355326:=by omega
   have h6:∀k,¬id=t.next+k:=fun k=>by omega
   have h7:¬id=t.next:=by omega
   have h8:((L.map vI).take L.length)=L.map vI:=List.take_of_length_le (by simp)
   simp -implicitDefEqProofs (maxDischargeDepth:=9) (maxSteps:=1000000) [Nat.add_assoc,ze,zq,zt,zr,zd,zp,zs,zy,asInt,zn,zz,sub,zl,zu,za,zk,zb,zj,zg,zh,zf,zA,zw,zo,zm,zi,Int.natCast_inj,uS,h,hw,h0,hn,e1,e3,cX,eM,hlay,hn0,hn1,hgt,hid,h0i,h4,h5,h6,h7,h8]
   exact ⟨i+1,by omega,_,⟨by omega,.inr ⟨t.next+14,if L.length+2<cp then cp else 0,by simp,by rw [hnext]; simp,by rw [hnext]; simp⟩⟩,rfl,by simp⟩
 ·have:i=x.modes.length:=by omega
  subst this
  rw [List.take_length] at ht
  simp -implicitDefEqProofs (maxDischargeDepth:=9) (maxSteps:=1000000) [Nat.add_assoc,ze,zq,zt,zr,zd,zp,zs,zy,asInt,zn,zz,sub,zl,zu,za,zk,zb,zj,zg,zh,zf,zA,zw,zo,zm,zi,Int.natCast_inj,uS,hw,h0,cX]
  exact hQ _ _ _ hw ht rfl
theorem p221 (x:Inst) (hx:zQ x):zx Tryz.prog zB 52 [eX x] (.list ((xB x).map vI)):=by
 have hc:=yn (e:=[]) (f:=[]) .nil .nil
 refine zx.cfg (cfg:=st [] []) rfl ?_
 refine zM (sl:=true) hc (zW hc) yi Tryz.func52 f221_eq f221_nt f221_fits (by simp) (by simp) ?_
 rw [f221_top]
 simp -implicitDefEqProofs (maxDischargeDepth:=9) (maxSteps:=1000000) [Nat.add_assoc,ze,zq,zt,zr,zd,zp,zs,zy,asInt,zn,zz,sub,zl,zu,za,zk,zb,zj,zg,zh,zf,zA,zw,zo,zm,zi,Int.natCast_inj,eX]
 refine l221a hx ?_ ?_ ?_ ?_
 ·simp
 ·rfl
 ·simp
 intro t v E' hw hn h0 hv h1 h3
 show yd (st [] []) (cf0 [] []) true [] 44 f221_k1 E' t _
 unfold f221_k1
 simp -implicitDefEqProofs (maxDischargeDepth:=9) (maxSteps:=1000000) [Nat.add_assoc,ze,zq,zt,zr,zd,zp,zs,zy,asInt,zn,zz,sub,zl,zu,za,zk,zb,zj,zg,zh,zf,zA,zw,zo,zm,zi,Int.natCast_inj,h1,h3,h0,hw]
 have ha:=args_len hx.2.2
 have hxl:=hx.1
 refine l221b hx hw h0 hn (L0:=x.alts.flatMap (·.args)) (by omega) hv ?_
 intro u w E'' hwu hsl he
 simp -implicitDefEqProofs (maxDischargeDepth:=9) (maxSteps:=1000000) [Nat.add_assoc,ze,zq,zt,zr,zd,zp,zs,zy,asInt,zn,zz,sub,zl,zu,za,zk,zb,zj,zg,zh,zf,zA,zw,zo,zm,zi,Int.natCast_inj,he]
 have hp:=parts_len hx
 change Sl u w (xB x) at hsl
 rcases hsl with ⟨rfl,h0⟩ | ⟨id,cp,hid,rfl,hgt⟩
 ·rw [h0]; exact ⟨rfl,rfl⟩
 ·exact ⟨see_arrI hgt rfl (by have:tV=100000:=rfl; omega),by simp⟩
open Classical in
noncomputable def e221:List V→Option V
 | [v]=>(dX v).bind fun x=>if zQ x then some (.list ((xB x).map vI)) else none
 | _=>none
theorem t221:∀args v,e221 args=some v→zx Tryz.prog zB 52 args v:=fun args v h=>by
 unfold e221 at h
 split at h
 ·simp only [Option.bind_eq_some_iff] at h
  obtain ⟨x,hx,h⟩:=h
  split at h
  ·rename_i hh
   injection h with h; subst h
   rw [tc hx]; exact p221 x hh
  ·cases h
 ·cases h
theorem e221_at (x:Inst) (h:zQ x):e221 [.agg [vI x.kind,.list (x.alts.map eA),.list (x.modes.map eM),vI x.det]]=some (.list ((xB x).map vI)):=by
 have:e221 [eX x]=some (.list ((xB x).map vI)):=by
  unfold e221
  simp only [dX_eX,Option.bind_some]
  rw [if_pos h]
 exact this
end
end Go.Proofs.YtchlfjhbijmdiaaGreatDoor.Ai

