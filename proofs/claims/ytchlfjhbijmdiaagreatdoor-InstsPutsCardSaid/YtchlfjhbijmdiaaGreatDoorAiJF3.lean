/- Part of a reckoning of a Go program over abstract values, proved sound against the model. -/
import Derived.Test.YtchlfjhbijmdiaaGreatDoorAiJD4
set_option linter.unusedSimpArgs false
set_option linter.unusedVariables false
namespace Go.Proofs.YtchlfjhbijmdiaaGreatDoor.Ai
open Go.Proofs
set_option maxRecDepth 100000
set_option maxHeartbeats 4000000

/-! alike -/
def f219_k2:AC:=(.seq (.seq (.reg 3 f219_r3o [2,3,5,57,58,59,60,61,62,63,64,65,66,67,68,69,70,71]) (.block 0 (.loop f219_l0))) (.seq (.reg 8 f219_r8o [4]) .ret))
def f219_k1:AC:=(.seq (.seq (.reg 1 uq [2,3,35,57,58,59,60,61,62,63,64,65,66,67,68,69,70,71]) (.cond (.tmp 35) (.seq (.reg 2 f219_r2o [4]) .ret) .skip)) f219_k2)
theorem f219_top:f219_ac=(.seq (.reg 0 f219_r0o [2,3,12,13,14,15,16,19,20,21,22,23,24,25,28,29,30,31,32,33,34,57,58,59,60,61,62,63,64,65,66,67,68,69,70,71]) f219_k1):=rfl
def f219_m1:AC:=(.seq (.block 1 (.seq (.draw 6 vf [2,3,5,57,58,59,60,61,62,63,64,65,66,67,68,69,70,71,72]) (.cond (.tmp 72) (.seq (.reg 7 f219_r7o [4]) .ret) .skip))) (.reg 5 f219_r5o [2,3,5,57,58,59,60,61,62,63,64,65,66,67,68,69,70,71]))
theorem f219_l0_top:f219_l0=(.seq (.seq (.reg 4 f219_r4o [2,3,5,40,57,58,59,60,61,62,63,64,65,66,67,68,69,70,71]) (.cond (.tmp 40) .skip (.exit 0))) f219_m1):=rfl
theorem nm_ne {a b:ByteArray} (h:¬a=b):¬a.toList=b.toList:=fun e=>by
 rw [ByteArray.toList_eq,ByteArray.toList_eq] at e
 exact h (ByteArray.ext (Array.ext' e))
section
variable {x y:Inst} {s:S} {i:Nat} {P:AX→Env→S→Prop}
def In219 (x y:Inst) (s:S):Prop:=s.wf∧s.get 0=some (.cells (cX x) 0 26 true)∧s.get 1=some (.cells (cX y) 0 26 true)∧1<s.next
theorem b219T (hs:In219 x y s) (hx:x.alts.length≤100) (h:i<x.alts.length) (h':i<y.alts.length) (ht:alA x.alts[i] y.alts[i]=true) (hP:∀E' t,In219 x y t→zI [(2,.ptr 0 0),(3,.ptr 1 0),(5,.int .i64 (i+1:Nat))] E'→P .normal E' t) :
  yd (st [] []) (cf0 [] []) true [] 73 f219_m1 [(2,.ptr 0 0),(3,.ptr 1 0),(5,.int .i64 i),(40,.bool true)] s P:=by
 obtain ⟨hw,h0,h1,hn⟩:=hs
 have e1:=List.getElem?_eq_getElem h
 have e2:=List.getElem?_eq_getElem h'
 have e3:IntKind.i64.wrap ((i:Int)+1)=((i+1:Nat):Int):=zN (by omega) (by omega)
 have ht':=ht
 simp only [alA,Bool.and_eq_true,decide_eq_true_eq] at ht'
 obtain ⟨k1,k2⟩:=ht'
 unfold f219_m1
 simp -implicitDefEqProofs (maxDischargeDepth:=9) (maxSteps:=1000000) [Nat.add_assoc,ze,zq,zt,zr,zd,zp,zs,zy,asInt,zn,zz,sub,zl,zu,za,zk,zb,zj,zg,zh,zf,zA,zw,zo,zm,zi,Int.natCast_inj,hw,h0,h1,hn,h,h',e1,e2,e3,cX,eA,eI,k1,k2]
 exact hP _ _ ⟨zX hw 30,h0,h1,by simp only; omega⟩ (by simp [zI])
theorem b219F (hs:In219 x y s) (hx:x.alts.length≤100) (h:i<x.alts.length) (h':i<y.alts.length) (ht:alA x.alts[i] y.alts[i]=false) (hP:∀E' t,yw E' 4=some (.bool false)→P .ret E' t) :
  yd (st [] []) (cf0 [] []) true [] 73 f219_m1 [(2,.ptr 0 0),(3,.ptr 1 0),(5,.int .i64 i),(40,.bool true)] s P:=by
 obtain ⟨hw,h0,h1,hn⟩:=hs
 have e1:=List.getElem?_eq_getElem h
 have e2:=List.getElem?_eq_getElem h'
 have e3:IntKind.i64.wrap ((i:Int)+1)=((i+1:Nat):Int):=zN (by omega) (by omega)
 simp only [alA] at ht
 unfold f219_m1
 by_cases k1:x.alts[i].name=y.alts[i].name
 ·have k2:¬x.alts[i].args.length=y.alts[i].args.length:=by simpa [k1] using ht
  have k2':¬(x.alts[i].args.length:Int)=y.alts[i].args.length:=by omega
  simp -implicitDefEqProofs (maxDischargeDepth:=9) (maxSteps:=1000000) [Nat.add_assoc,ze,zq,zt,zr,zd,zp,zs,zy,asInt,zn,zz,sub,zl,zu,za,zk,zb,zj,zg,zh,zf,zA,zw,zo,zm,zi,Int.natCast_inj,hw,h0,h1,hn,h,h',e1,e2,e3,cX,eA,eI,k1,k2,k2']
  exact hP _ _ rfl
 ·have k1':=nm_ne k1
  simp -implicitDefEqProofs (maxDischargeDepth:=9) (maxSteps:=1000000) [Nat.add_assoc,ze,zq,zt,zr,zd,zp,zs,zy,asInt,zn,zz,sub,zl,zu,za,zk,zb,zj,zg,zh,zf,zA,zw,zo,zm,zi,Int.natCast_inj,hw,h0,h1,hn,h,h',e1,e2,e3,cX,eA,eI,k1,k1']
  exact hP _ _ rfl
theorem l219 (hs:In219 x y s) (hx:x.alts.length≤100) (hl:x.alts.length=y.alts.length) {Q:AX→Env→S→Prop} (hT:yE x.alts y.alts=true→∀E' t,In219 x y t→Q (.exit 0) E' t) (hF:yE x.alts y.alts=false→∀E' t,yw E' 4=some (.bool false)→Q .ret E' t) :
  yd (st [] []) (cf0 [] []) true [] 73 (.loop f219_l0) [(2,.ptr 0 0),(3,.ptr 1 0),(5,.int .i64 0)] s Q:=by
 refine zO (α:=Nat) (fun i=>[(2,.ptr 0 0),(3,.ptr 1 0),(5,.int .i64 i)]) (fun i t=>In219 x y t∧i≤x.alts.length∧yE x.alts y.alts=yE (x.alts.drop i) (y.alts.drop i)) (fun i=>x.alts.length - i) 0 f219_l0_fits (by simp [zI]) ⟨hs,Nat.zero_le _,rfl⟩ ?_
 rintro i t ⟨ht,hi,hlk⟩
 rw [f219_l0_top]
 obtain ⟨hw,h0,h1,hn⟩:=id ht
 rcases Nat.lt_or_ge i x.alts.length with h | h
 ·have h':i<y.alts.length:=by omega
  rw [likeA_drop h h'] at hlk
  simp -implicitDefEqProofs (maxDischargeDepth:=9) (maxSteps:=1000000) [Nat.add_assoc,ze,zq,zt,zr,zd,zp,zs,zy,asInt,zn,zz,sub,zl,zu,za,zk,zb,zj,zg,zh,zf,zA,zw,zo,zm,zi,Int.natCast_inj,hw,h0,h1,hn,h,h',cX,eA,eI]
  cases hc:alA x.alts[i] y.alts[i] with
  | true =>
   refine b219T ht hx h h' hc fun E' t' ht' hE=>?_
   rw [hc,Bool.true_and] at hlk
   exact ⟨i+1,by omega,⟨ht',by omega,hlk⟩,hE.1,hE.2.1,hE.2.2.1⟩
  | false =>
   refine b219F ht hx h h' hc fun E' t' he=>?_
   rw [hc,Bool.false_and] at hlk
   exact hF hlk _ _ he
 ·have:i=x.alts.length:=by omega
  subst this
  have h2:yE x.alts y.alts=true:=by rw [hlk,List.drop_length,hl,List.drop_length]; rfl
  simp -implicitDefEqProofs (maxDischargeDepth:=9) (maxSteps:=1000000) [Nat.add_assoc,ze,zq,zt,zr,zd,zp,zs,zy,asInt,zn,zz,sub,zl,zu,za,zk,zb,zj,zg,zh,zf,zA,zw,zo,zm,zi,Int.natCast_inj,hw,h0,h1,hn,cX,eA,eI,hl]
  exact hT h2 _ _ ht
theorem k219 (hs:In219 x y s) (hx:x.alts.length≤100):yd (st [] []) (cf0 [] []) true [] 73 f219_k1 [(2,.ptr 0 0),(3,.ptr 1 0)] s (FinK (st [] []) [.tmp 4] (fun w s=>wL s w (.bool (shape x y))) fun _ _=>False):=by
 obtain ⟨hw,h0,h1,hn⟩:=id hs
 unfold f219_k1
 by_cases k1:x.kind=y.kind
 ·by_cases k2:x.det=y.det
  ·by_cases k3:x.alts.length=y.alts.length
   ·by_cases k4:x.modes.length=y.modes.length
    ·have hsh:shape x y=yE x.alts y.alts:=by simp [shape,k1,k2,k4]
     rw [hsh]
     simp -implicitDefEqProofs (maxDischargeDepth:=9) (maxSteps:=1000000) [Nat.add_assoc,ze,zq,zt,zr,zd,zp,zs,zy,asInt,zn,zz,sub,zl,zu,za,zk,zb,zj,zg,zh,zf,zA,zw,zo,zm,zi,Int.natCast_inj,hw,h0,h1,hn,cX,vI,k1,k2,k3,k4,f219_k2]
     refine l219 hs hx k3 (fun h E' t _=>h) (fun h E' t he=>?_)
     simp -implicitDefEqProofs (maxDischargeDepth:=9) (maxSteps:=1000000) [Nat.add_assoc,ze,zq,zt,zr,zd,zp,zs,zy,asInt,zn,zz,sub,zl,zu,za,zk,zb,zj,zg,zh,zf,zA,zw,zo,zm,zi,Int.natCast_inj,he,h]
    ·have k4':¬(x.modes.length:Int)=y.modes.length:=by omega
     have hsh:shape x y=false:=by simp [shape,k4]
     rw [hsh]
     simp -implicitDefEqProofs (maxDischargeDepth:=9) (maxSteps:=1000000) [Nat.add_assoc,ze,zq,zt,zr,zd,zp,zs,zy,asInt,zn,zz,sub,zl,zu,za,zk,zb,zj,zg,zh,zf,zA,zw,zo,zm,zi,Int.natCast_inj,hw,h0,h1,hn,cX,vI,k1,k2,k3,k4,k4']
   ·have k3':¬(x.alts.length:Int)=y.alts.length:=by omega
    have hsh:shape x y=false:=by
     cases h:yE x.alts y.alts with
     | false=>simp [shape,h]
     | true=>exact absurd (xC h) k3
    rw [hsh]
    simp -implicitDefEqProofs (maxDischargeDepth:=9) (maxSteps:=1000000) [Nat.add_assoc,ze,zq,zt,zr,zd,zp,zs,zy,asInt,zn,zz,sub,zl,zu,za,zk,zb,zj,zg,zh,zf,zA,zw,zo,zm,zi,Int.natCast_inj,hw,h0,h1,hn,cX,vI,k1,k2,k3,k3']
  ·have hsh:shape x y=false:=by simp [shape,k2]
   rw [hsh]
   simp -implicitDefEqProofs (maxDischargeDepth:=9) (maxSteps:=1000000) [Nat.add_assoc,ze,zq,zt,zr,zd,zp,zs,zy,asInt,zn,zz,sub,zl,zu,za,zk,zb,zj,zg,zh,zf,zA,zw,zo,zm,zi,Int.natCast_inj,hw,h0,h1,hn,cX,vI,k1,k2]
 ·have hsh:shape x y=false:=by simp [shape,k1]
  rw [hsh]
  simp -implicitDefEqProofs (maxDischargeDepth:=9) (maxSteps:=1000000) [Nat.add_assoc,ze,zq,zt,zr,zd,zp,zs,zy,asInt,zn,zz,sub,zl,zu,za,zk,zb,zj,zg,zh,zf,zA,zw,zo,zm,zi,Int.natCast_inj,hw,h0,h1,hn,cX,vI,k1]
end
theorem p219 (x y:Inst) (hx:zQ x):zx Tryz.prog zB 50 [eX x,eX y] (.bool (shape x y)):=by
 have hc:=yn (e:=[]) (f:=[]) .nil .nil
 refine zx.cfg (cfg:=st [] []) rfl ?_
 refine zM (sl:=true) hc (zW hc) yi Tryz.func50 f219_eq f219_nt f219_fits (by simp) (by simp) ?_
 rw [f219_top]
 simp -implicitDefEqProofs (maxDischargeDepth:=9) (maxSteps:=1000000) [Nat.add_assoc,ze,zq,zt,zr,zd,zp,zs,zy,asInt,zn,zz,sub,zl,zu,za,zk,zb,zj,zg,zh,zf,zA,zw,zo,zm,zi,Int.natCast_inj,eX]
 exact k219 ⟨S.wf_add (S.wf_add S.wf_empty _ _) _ _,by simp [cX],by simp [cX],by simp⟩ hx.1
open Classical in
noncomputable def e219:List V→Option V
 | [v,w]=>(dX v).bind fun x=>(dX w).bind fun y=>if zQ x then some (.bool (shape x y)) else none
 | _=>none
theorem t219:∀args v,e219 args=some v→zx Tryz.prog zB 50 args v:=fun args v h=>by
 unfold e219 at h
 split at h
 ·simp only [Option.bind_eq_some_iff] at h
  obtain ⟨x,hx,y,hy,h⟩:=h
  split at h
  ·rename_i hh
   injection h with h; subst h
   rw [tc hx,tc hy]; exact p219 x y hh
  ·cases h
 ·cases h
theorem e219_at (x y:Inst) (h:zQ x):e219 [.agg [vI x.kind,.list (x.alts.map eA),.list (x.modes.map eM),vI x.det],.agg [vI y.kind,.list (y.alts.map eA),.list (y.modes.map eM),vI y.det]]=some (.bool (shape x y)):=by
 have:e219 [eX x,eX y]=some (.bool (shape x y)):=by
  unfold e219
  simp only [dX_eX,Option.bind_some]
  rw [if_pos h]
 exact this
end Go.Proofs.YtchlfjhbijmdiaaGreatDoor.Ai

