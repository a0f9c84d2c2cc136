/- Part of a reckoning of a Go program over abstract values, proved sound against the model. -/
import Derived.Test.YtchlfjhbijmdiaaGreatDoorAiJF6
set_option linter.unusedSimpArgs false
set_option linter.unusedVariables false
namespace Go.Proofs.YtchlfjhbijmdiaaGreatDoor.Ai
open Go.Proofs
set_option maxRecDepth 100000
set_option maxHeartbeats 4000000

/-! the reference's moved -/
def a218_10:AC:=(.reg 10 xV [1,2,4,5,6])
theorem f218_l1_top:vS=(.seq (.seq (.reg 3 f218_r3o [1,2,4,5,6,19]) (.cond (.tmp 19) .skip (.exit 0))) (.seq (.block 1 (.seq (.reg 5 f218_r5o [1,2,4,5,6,7]) (.seq (.seq (.reg 6 f218_r6o [1,2,4,5,6,7,8]) (.block 2 (.loop xX))) a218_10))) (.reg 4 f218_r4o [1,2,4,5,6]))):=rfl
section
variable {to:List Int} {x:Inst} {s:S} {i4 i5 i8:Nat} {nm:ByteArray} {j:Nat}
def ToId (to:List Int) (k:Int):Prop:=0≤k∧k<to.length∧to[k.toNat]?=some k
theorem l218a (hx:zQ x) (hj:j<x.alts.length) (hto:∀k∈x.alts[j].args,ToId to k) (hw:s.wf) (h0:s.get 0=some (.cells (cX x) 0 26 true)) (hi0:¬i8=0) (hi8:i8<s.next) (h8:s.get i8=some (.cells [.str nm,.nils] 0 39 true)) {Q:AX→Env→S→Prop}
  (hQ:∀t v,t.wf→Kx i8 s t→t.get i8=some (.cells [.str nm,v] 0 39 true)→ArrI s.next t v x.alts[j].args→∀E',zI [(1,.list (to.map vI)),(2,.ptr 0 0),(4,.ptr i4 0),(5,.ptr i5 0),(6,.int .i64 j),(7,.ptr i8 0)] E'→Q (.exit 2) E' t) :
  yd (st [] []) (cf0 [] []) true [] 95 (.loop xX) [(1,.list (to.map vI)),(2,.ptr 0 0),(4,.ptr i4 0),(5,.ptr i5 0),(6,.int .i64 j),(7,.ptr i8 0),(8,.int .i64 0)] s Q:=by
 refine zO (α:=Nat×V) (fun a=>[(1,.list (to.map vI)),(2,.ptr 0 0),(4,.ptr i4 0),(5,.ptr i5 0),(6,.int .i64 j),(7,.ptr i8 0),(8,.int .i64 a.1)]) (fun a t=>t.wf∧Kx i8 s t∧t.get i8=some (.cells [.str nm,a.2] 0 39 true)∧a.1≤x.alts[j].args.length∧ArrI s.next t a.2 (x.alts[j].args.take a.1)) (fun a=>x.alts[j].args.length - a.1) (0,.nils) f218_l0_fits (by simp [zI]) ⟨hw,Kx.refl _ _,h8,Nat.zero_le _,.inl ⟨rfl,rfl,rfl⟩⟩ ?_
 rintro ⟨i,v⟩ t ⟨hw,hk,h8,hi,ht⟩
 simp only at h8 hi ht ⊢
 have h0t:t.get 0=some (.cells (cX x) 0 26 true):=by rw [hk.2 0 (by omega) (by omega)]; exact h0
 have e0:=List.getElem?_eq_getElem hj
 have hM:=hx.2.2 _ (List.getElem_mem hj)
 generalize hMe:x.alts[j].args=M at hi ht hto hM ⊢
 rcases Nat.lt_or_ge i M.length with h | h
 ·have e1:=List.getElem?_eq_getElem h
  have e3:IntKind.i64.wrap ((i:Int)+1)=((i+1:Nat):Int):=zN (by omega) (by omega)
  have hnext:M.take (i+1)=M.take i++[M[i]]:=by rw [List.take_succ_eq_append_getElem h]
  have hL:(M.take i).length=i:=by rw [List.length_take]; omega
  obtain ⟨t1,t2,t3⟩:=hto M[i] (List.getElem_mem h)
  have t4:∀h:M[i].toNat<to.length,to[M[i].toNat]=M[i]:=fun h=>by rw [List.getElem?_eq_getElem h] at t3; injection t3
  generalize M.take i=L at ht hL hnext
  have hlay:∀(t:S) (a:Int),xD true t [.int .i64 a]=some ([.int .i64 a],t):=fun t a=>rfl
  have hk1:=hk.1
  have hi8t:i8<t.next:=by omega
  have h8k:∀k,¬i8=t.next+k:=fun k=>by omega
  have h80:¬i8=t.next:=by omega
  have h8k':∀k,¬t.next+k=i8:=fun k=>by omega
  have h00:∀k,¬0=t.next+k:=fun k=>by omega
  have h01:¬0=i8:=by omega
  rcases ht with ⟨rfl,h1,h2⟩ | ⟨id,cp,hid0,hid,rfl,hgt⟩
  ·simp -implicitDefEqProofs (maxDischargeDepth:=9) (maxSteps:=1000000) [Nat.add_assoc,ze,zq,zt,zr,zd,zp,zs,zy,asInt,zn,zz,sub,zl,zu,za,zk,zb,zj,zg,zh,zf,zA,zw,zo,zm,zi,Int.natCast_inj,xX,h,hj,hw,h8,h0t,cX,hi8t,e0,e1,e3,hMe,t1,t2,t4,eA,eI,hlay,h8k,h80,h00,h01,vI]
   exact ⟨i+1,by omega,⟨S.wf_put (S.wf_add (S.wf_add (zX hw 18) _ _) _ _) _ _ (by simp; omega),(((hk.bump 18).add _ (by omega)).add _ (by omega)).put _,by omega,.inr ⟨t.next+15,0,by omega,by simp,by rw [hnext]; simp [h2],by rw [hnext]; simp [h1,h8k',vI]⟩⟩,by simp⟩
  ·have h6:∀k,¬id=t.next+k:=fun k=>by omega
   have h7:¬id=t.next:=by omega
   have h9:¬i8=id:=by omega
   have h10:¬id=i8:=by omega
   have h4:(i+1)*8≤140737488355328:=by omega
   have h5:i+1≤140737488355328:=by omega
   have h11:((L.map vI).take i)=L.map vI:=List.take_of_length_le (by simp [hL])
   have h02:¬0=id:=fun e=>by rw [← e,h0t] at hgt; injection hgt with hgt; injection hgt with _ _ _ h; cases h
   simp -implicitDefEqProofs (maxDischargeDepth:=9) (maxSteps:=1000000) [Nat.add_assoc,ze,zq,zt,zr,zd,zp,zs,zy,asInt,zn,zz,sub,zl,zu,za,zk,zb,zj,zg,zh,zf,zA,zw,zo,zm,zi,Int.natCast_inj,xX,h,hj,hw,h8,h0t,cX,hi8t,e0,e1,e3,hMe,t1,t2,t4,eA,eI,hlay,h8k,h80,h00,h01,h02,hgt,hid,hL,h4,h5,h6,h7,h9,h10,h11,vI]
   exact ⟨i+1,by omega,⟨S.wf_put (S.wf_add (S.wf_del (S.wf_add (zX hw 18) _ _) _) _ _) _ _ (by simp; omega),((((hk.bump 18).add _ (by omega)).del hid0).add _ (by omega)).put _,by omega,.inr ⟨t.next+15,if i+1<cp then cp else 0,by omega,by simp,by rw [hnext]; simp [hL],by rw [hnext]; simp [h8k',vI]⟩⟩,by simp⟩
 ·have:i=M.length:=by omega
  subst this
  rw [List.take_length] at ht
  simp -implicitDefEqProofs (maxDischargeDepth:=9) (maxSteps:=1000000) [Nat.add_assoc,ze,zq,zt,zr,zd,zp,zs,zy,asInt,zn,zz,sub,zl,zu,za,zk,zb,zj,zg,zh,zf,zA,zw,zo,zm,zi,Int.natCast_inj,xX,hj,hw,h8,h0t,cX,e0,hMe,eA,eI]
  exact hQ _ _ hw hk h8 (by rw [hMe]; exact ht) _ (by simp [zI])
theorem r218b {M:List Int} {b b1:Nat} {t:S} {w v:V} {L:List Alt} {E:Env} (hM:M.length≤1000) (hL:L.length≤1000) (hw:t.wf) (h5:t.get i5=some (.cells [vI x.kind,v,.nils,vI x.det] 0 26 true)) (h8:t.get i8=some (.cells [.str nm,w] 0 39 true)) (hi5:i5<b) (hbn:b≤t.next) (hi8:b≤i8) (hi8t:i8<t.next) (hb:b≤b1) (hI:ArrI b1 t w M) (hA:ArrA b t v L)
  (hE:zI [(1,.list (to.map vI)),(2,.ptr 0 0),(4,.ptr i4 0),(5,.ptr i5 0),(6,.int .i64 j),(7,.ptr i8 0)] E) {P:AX→Env→S→Prop}
  (hP:∀t' v',t'.wf→t.next≤t'.next→(∀j,j<b→¬j=i5→t'.get j=t.get j)→t'.get i5=some (.cells [vI x.kind,v',.nils,vI x.det] 0 26 true)→ArrA b t' v' (L++[⟨nm,M⟩])→∀E',zI [(1,.list (to.map vI)),(2,.ptr 0 0),(4,.ptr i4 0),(5,.ptr i5 0),(6,.int .i64 j)] E'→P .normal E' t') :
  yd (st [] []) (cf0 [] []) true [] 95 (.reg 10 xV [1,2,4,5,6]) E t P:=by
 obtain ⟨q1,q2,q4,q5,q6,q7,_⟩:=hE
 simp only at q1 q2 q4 q5 q6 q7
 have hi5t:i5<t.next:=by omega
 have a1:∀k,¬i5=t.next+k:=fun k=>by omega
 have a2:¬i5=t.next:=by omega
 have a3:∀k,¬i8=t.next+k:=fun k=>by omega
 have a4:¬i8=t.next:=by omega
 have a5:∀k,¬t.next+k=i5:=fun k=>by omega
 have a6:¬t.next+1=i5:=a5 1
 have s1:(L.length+1)*24≤140737488355328:=by omega
 have s2:(L.length+1)*40≤140737488355328:=by omega
 have s3:L.length+1≤140737488355328:=by omega
 have hold:∀(o o2 o3:O) (j:Nat),j<b→¬j=i5→S.get (((t.add t.next o).add (t.next+1) o2).put i5 o3) j=t.get j:=fun o o2 o3 j hj hn=>by
  rw [S.get_put,if_neg (by omega),S.get_add,if_neg (by omega),S.get_add,if_neg (by omega)]
 have f0:M.length=0→fA ⟨nm,M⟩=[.str nm,.list []]:=fun h=>by
  rw [List.eq_nil_of_length_eq_zero h]; rfl
 rcases hI with ⟨rfl,c1,c2⟩ | ⟨ii,ci,hii,hiit,rfl,hgi⟩
 ·rcases hA with ⟨rfl,d1,d2⟩ | ⟨ia,ca,hia,hiat,rfl,hga⟩
  ·simp -implicitDefEqProofs (maxDischargeDepth:=9) (maxSteps:=1000000) [Nat.add_assoc,ze,zq,zt,zr,zd,zp,zs,zy,asInt,zn,zz,sub,zl,zu,za,zk,zb,zj,zg,zh,zf,zA,zw,zo,zm,zi,Int.natCast_inj,hw,h5,h8,hi5t,hi8t,q1,q2,q4,q5,q6,q7,a1,a2,a3,a4,uj]
   exact hP _ (.arr (t.next+1) 0 1 2 true 0) (S.wf_put (S.wf_add (S.wf_add hw _ _) _ _) _ _ (by simp; omega)) (by simp; omega) (hold _ _ _) (by simp) (.inr ⟨t.next+1,0,by omega,by simp,by simp [d2],by simp [d1,f0 c2,a6]⟩) _ (by simp [zI])
  ·have g1:∀k,¬ia=t.next+k:=fun k=>by omega
   have g2:¬ia=t.next:=by omega
   have g3:¬i5=ia:=by omega
   have g4:¬ia=i5:=by omega
   have g5:(L.flatMap fA).length=L.length*2:=zY (f:=fA) (n:=2) (fun _=>rfl) L
   have g6:(L.flatMap fA).take (L.length*2)=L.flatMap fA:=List.take_of_length_le (by omega)
   simp -implicitDefEqProofs (maxDischargeDepth:=9) (maxSteps:=1000000) [Nat.add_assoc,ze,zq,zt,zr,zd,zp,zs,zy,asInt,zn,zz,sub,zl,zu,za,zk,zb,zj,zg,zh,zf,zA,zw,zo,zm,zi,Int.natCast_inj,hw,h5,h8,hi5t,hi8t,q1,q2,q4,q5,q6,q7,a1,a2,a3,a4,uj,hga,hiat,g1,g2,g3,g4,g5,g6,s1,s2,s3]
   exact hP _ (.arr (t.next+1) 0 (L.length+1) 2 true (if L.length+1<ca then ca else 0)) (S.wf_put (S.wf_add (S.wf_del (S.wf_add hw _ _) _) _ _) _ _ (by simp; omega)) (by simp; omega) (fun j hj hn=>by
    rw [S.get_put,if_neg (by omega),S.get_add,if_neg (by omega),S.get_del,if_neg (by omega),S.get_add,if_neg (by omega)]) (by simp) (.inr ⟨t.next+1,if L.length+1<ca then ca else 0,by omega,by simp,by simp,by simp [f0 c2,a6]⟩) _ (by simp [zI])
 ·have b1:∀k,¬ii=t.next+k:=fun k=>by omega
  have b2:¬ii=t.next:=by omega
  have b3:¬i5=ii:=by omega
  have b4:¬ii=i5:=by omega
  have hlay:∀S':S,S'.get ii=some (.cells (M.map vI) 0 3 false)→xD true S' [.str nm,.arr ii 0 M.length 1 false ci]=some ([.str nm,.list (M.map vI)],S'.del ii):=fun S' h=>lay_alt hM rfl h
  rcases hA with ⟨rfl,d1,d2⟩ | ⟨ia,ca,hia,hiat,rfl,hga⟩
  ·simp -implicitDefEqProofs (maxDischargeDepth:=9) (maxSteps:=1000000) [Nat.add_assoc,ze,zq,zt,zr,zd,zp,zs,zy,asInt,zn,zz,sub,zl,zu,za,zk,zb,zj,zg,zh,zf,zA,zw,zo,zm,zi,Int.natCast_inj,hw,h5,h8,hi5t,hi8t,q1,q2,q4,q5,q6,q7,a1,a2,a3,a4,b1,b2,b3,b4,hlay,hgi]
   exact hP _ (.arr (t.next+1) 0 1 2 true 0) (S.wf_put (S.wf_add (S.wf_del (S.wf_add hw _ _) _) _ _) _ _ (by simp; omega)) (by simp; omega) (fun j hj hn=>by
    rw [S.get_put,if_neg (by omega),S.get_add,if_neg (by omega),S.get_del,if_neg (by omega),S.get_add,if_neg (by omega)]) (by simp) (.inr ⟨t.next+1,0,by omega,by simp,by simp [d2],by simp [d1,fA,a6]⟩) _ (by simp [zI])
  ·have g1:∀k,¬ia=t.next+k:=fun k=>by omega
   have g2:¬ia=t.next:=by omega
   have g3:¬i5=ia:=by omega
   have g4:¬ia=i5:=by omega
   have g5:(L.flatMap fA).length=L.length*2:=zY (f:=fA) (n:=2) (fun _=>rfl) L
   have g6:(L.flatMap fA).take (L.length*2)=L.flatMap fA:=List.take_of_length_le (by omega)
   have g7:¬ia=ii:=fun e=>by rw [← e,hga] at hgi; injection hgi with hgi; injection hgi with _ _ h; cases h
   have g8:¬ii=ia:=fun e=>g7 e.symm
   simp -implicitDefEqProofs (maxDischargeDepth:=9) (maxSteps:=1000000) [Nat.add_assoc,ze,zq,zt,zr,zd,zp,zs,zy,asInt,zn,zz,sub,zl,zu,za,zk,zb,zj,zg,zh,zf,zA,zw,zo,zm,zi,Int.natCast_inj,hw,h5,h8,hi5t,hi8t,q1,q2,q4,q5,q6,q7,a1,a2,a3,a4,b1,b2,b3,b4,hlay,hgi,hga,hiat,g1,g2,g3,g4,g5,g6,g7,g8,s1,s2,s3]
   exact hP _ (.arr (t.next+1) 0 (L.length+1) 2 true (if L.length+1<ca then ca else 0)) (S.wf_put (S.wf_add (S.wf_del (S.wf_del (S.wf_add hw _ _) _) _) _ _) _ _ (by simp; omega)) (by simp; omega) (fun j hj hn=>by
    rw [S.get_put,if_neg (by omega),S.get_add,if_neg (by omega),S.get_del,if_neg (by omega),S.get_del,if_neg (by omega),S.get_add,if_neg (by omega)]) (by simp) (.inr ⟨t.next+1,if L.length+1<ca then ca else 0,by omega,by simp,by simp,by simp [fA,a6]⟩) _ (by simp [zI])
end
end Go.Proofs.YtchlfjhbijmdiaaGreatDoor.Ai

namespace Go.Proofs.YtchlfjhbijmdiaaGreatDoor.Ai
open Go.Proofs
set_option maxRecDepth 100000
set_option maxHeartbeats 4000000

section
variable {to:List Int} {x:Inst} {s:S} {i4 i5 i8:Nat} {nm:ByteArray} {j:Nat}
theorem l218c (hx:zQ x) (hto:∀a∈x.alts,∀k∈a.args,ToId to k) (h0:s.get 0=some (.cells (cX x) 0 26 true)) (hi50:¬i5=0) (hw:s.wf) (hi5:i5<s.next) (h5:s.get i5=some (.cells [vI x.kind,.nils,.nils,vI x.det] 0 26 true)) {Q:AX→Env→S→Prop}
  (hQ:∀t v,t.wf→Kx i5 s t→t.get i5=some (.cells [vI x.kind,v,.nils,vI x.det] 0 26 true)→ArrA s.next t v x.alts→∀E',zI [(1,.list (to.map vI)),(2,.ptr 0 0),(4,.ptr i4 0),(5,.ptr i5 0)] E'→Q (.exit 0) E' t) :
  yd (st [] []) (cf0 [] []) true [] 95 (.loop vS) [(1,.list (to.map vI)),(2,.ptr 0 0),(4,.ptr i4 0),(5,.ptr i5 0),(6,.int .i64 0)] s Q:=by
 refine zO (α:=Nat×V) (fun a=>[(1,.list (to.map vI)),(2,.ptr 0 0),(4,.ptr i4 0),(5,.ptr i5 0),(6,.int .i64 a.1)]) (fun a t=>t.wf∧Kx i5 s t∧t.get i5=some (.cells [vI x.kind,a.2,.nils,vI x.det] 0 26 true)∧a.1≤x.alts.length∧ArrA s.next t a.2 (x.alts.take a.1)) (fun a=>x.alts.length - a.1) (0,.nils) f218_l1_fits (by simp [zI]) ⟨hw,Kx.refl _ _,h5,Nat.zero_le _,.inl ⟨rfl,rfl,rfl⟩⟩ ?_
 rintro ⟨i,v⟩ t ⟨hw,hk,h5,hi,ht⟩
 simp only at h5 hi ht ⊢
 have hxl:=hx.1
 rcases Nat.lt_or_ge i x.alts.length with h | h
 ·have e1:=List.getElem?_eq_getElem h
  have e3:IntKind.i64.wrap ((i:Int)+1)=((i+1:Nat):Int):=zN (by omega) (by omega)
  have hnext:x.alts.take (i+1)=x.alts.take i++[x.alts[i]]:=by rw [List.take_succ_eq_append_getElem h]
  have hL:(x.alts.take i).length=i:=by rw [List.length_take]; omega
  have ha1:=hx.2.2 _ (List.getElem_mem h)
  generalize x.alts.take i=L at ht hL hnext
  have hk1:=hk.1
  have hi5t:i5<t.next:=by omega
  have a1:∀k,¬i5=t.next+k:=fun k=>by omega
  have a2:¬i5=t.next:=by omega
  rw [f218_l1_top]
  have h0t:t.get 0=some (.cells (cX x) 0 26 true):=by rw [hk.2 0 (by omega) (by omega)]; exact h0
  simp -implicitDefEqProofs (maxDischargeDepth:=9) (maxSteps:=1000000) [Nat.add_assoc,ze,zq,zt,zr,zd,zp,zs,zy,asInt,zn,zz,sub,zl,zu,za,zk,zb,zj,zg,zh,zf,zA,zw,zo,zm,zi,Int.natCast_inj,h,hw,e1,eA,eI,hi5t,a1,a2,h0t,cX]
  refine l218a (i8:=t.next) hx h (nm:=x.alts[i].name) (hto _ (List.getElem_mem h)) ?_ ?_ ?_ ?_ ?_ ?_
  ·exact S.wf_put (S.wf_add hw _ _) _ _ (by simp)
  ·rw [S.get_put,if_neg (by omega),S.get_add,if_neg (by omega)]; exact h0t
  ·omega
  ·simp
  ·simp
  ·intro t' w hw' hk' h8' hI' E' hE'
   have hold:∀j,j<t.next→t'.get j=t.get j:=fun j hj=>by
    rw [hk'.2 j (by simp; omega) (by omega)]
    rw [S.get_put,if_neg (by omega),S.get_add,if_neg (by omega)]
   have hn':t.next+1≤t'.next:=by have:=hk'.1; simp at this; omega
   have hI2:ArrI (t.next+1) t' w x.alts[i].args:=by simpa using hI'
   show yd (st [] []) (cf0 [] []) true [] 95 (.reg 10 xV [1,2,4,5,6]) E' t' _
   refine r218b (b:=s.next) (b1:=t.next+1) (L:=L) (M:=x.alts[i].args) (by omega) (by omega) hw' (by rw [hold i5 hi5t]; exact h5) h8' hi5 (by omega) (by omega) (by omega) (by omega) hI2 (ht.mono (by omega) fun j _ hj=>hold j hj) hE' ?_
   intro t2 v2 hw2 hn2 hj2 h52 hA2 E2 hE2
   obtain ⟨q1,q2,q4,q5,q6,_⟩:=hE2
   simp only at q1 q2 q4 q5 q6
   have hkk:Kx i5 s t2:=⟨by omega,fun j hj hn=>by rw [hj2 j hj hn,hold j (by omega),hk.2 j hj hn]⟩
   simp -implicitDefEqProofs (maxDischargeDepth:=9) (maxSteps:=1000000) [Nat.add_assoc,ze,zq,zt,zr,zd,zp,zs,zy,asInt,zn,zz,sub,zl,zu,za,zk,zb,zj,zg,zh,zf,zA,zw,zo,zm,zi,Int.natCast_inj,q1,q2,q4,q5,q6,e3]
   exact ⟨i+1,by omega,⟨hw2,hkk,_,h52,by omega,by rw [hnext]; exact hA2⟩,by simp⟩
 ·have:i=x.alts.length:=by omega
  subst this
  rw [List.take_length] at ht
  have h0t:t.get 0=some (.cells (cX x) 0 26 true):=by rw [hk.2 0 (by omega) (by omega)]; exact h0
  simp -implicitDefEqProofs (maxDischargeDepth:=9) (maxSteps:=1000000) [Nat.add_assoc,ze,zq,zt,zr,zd,zp,zs,zy,asInt,zn,zz,sub,zl,zu,za,zk,zb,zj,zg,zh,zf,zA,zw,zo,zm,zi,Int.natCast_inj,vS,hw,h0t,cX]
  exact hQ _ _ hw hk h5 ht _ (by simp [zI])
end
end Go.Proofs.YtchlfjhbijmdiaaGreatDoor.Ai

namespace Go.Proofs.YtchlfjhbijmdiaaGreatDoor.Ai
open Go.Proofs
set_option maxRecDepth 100000
set_option maxHeartbeats 4000000

section
variable {to:List Int} {x:Inst} {s:S} {i4 i5:Nat} {vA:V}
theorem l218d (hx:zQ x) (hto:∀k∈zR x,ToId to k) (h0:s.get 0=some (.cells (cX x) 0 26 true)) (hi50:¬i5=0) (hw:s.wf) (hi5:i5<s.next) (h5:s.get i5=some (.cells [vI x.kind,vA,.nils,vI x.det] 0 26 true)) {Q:AX→Env→S→Prop}
  (hQ:∀t v,t.wf→Kx i5 s t→t.get i5=some (.cells [vI x.kind,vA,v,vI x.det] 0 26 true)→ArrM s.next t v x.modes→∀E',zI [(4,.ptr i4 0),(5,.ptr i5 0)] E'→Q (.exit 4) E' t) :
  yd (st [] []) (cf0 [] []) true [] 95 (.loop xW) [(1,.list (to.map vI)),(2,.ptr 0 0),(4,.ptr i4 0),(5,.ptr i5 0),(9,.int .i64 0)] s Q:=by
 refine zO (α:=Nat×V) (fun a=>[(1,.list (to.map vI)),(2,.ptr 0 0),(4,.ptr i4 0),(5,.ptr i5 0),(9,.int .i64 a.1)]) (fun a t=>t.wf∧Kx i5 s t∧t.get i5=some (.cells [vI x.kind,vA,a.2,vI x.det] 0 26 true)∧a.1≤x.modes.length∧ArrM s.next t a.2 (x.modes.take a.1)) (fun a=>x.modes.length - a.1) (0,.nils) f218_l2_fits (by simp [zI]) ⟨hw,Kx.refl _ _,h5,Nat.zero_le _,.inl ⟨rfl,rfl,rfl⟩⟩ ?_
 rintro ⟨i,v⟩ t ⟨hw,hk,h5,hi,ht⟩
 simp only at h5 hi ht ⊢
 have hxl:=hx.2.1
 rcases Nat.lt_or_ge i x.modes.length with h | h
 ·have e1:=List.getElem?_eq_getElem h
  have e3:IntKind.i64.wrap ((i:Int)+1)=((i+1:Nat):Int):=zN (by omega) (by omega)
  have hnext:x.modes.take (i+1)=x.modes.take i++[x.modes[i]]:=by rw [List.take_succ_eq_append_getElem h]
  have hL:(x.modes.take i).length=i:=by rw [List.length_take]; omega
  generalize x.modes.take i=L at ht hL hnext
  have hm1:x.modes[i].1∈zR x:=List.mem_flatMap.2 ⟨_,List.getElem_mem h,by simp⟩
  have hm2:x.modes[i].2∈zR x:=List.mem_flatMap.2 ⟨_,List.getElem_mem h,by simp⟩
  obtain ⟨t1,t2,t3⟩:=hto _ hm1
  have t4:∀h:x.modes[i].1.toNat<to.length,to[x.modes[i].1.toNat]=x.modes[i].1:=fun h=>by rw [List.getElem?_eq_getElem h] at t3; injection t3
  obtain ⟨u1,u2,u3⟩:=hto _ hm2
  have u4:∀h:x.modes[i].2.toNat<to.length,to[x.modes[i].2.toNat]=x.modes[i].2:=fun h=>by rw [List.getElem?_eq_getElem h] at u3; injection u3
  have h0t:t.get 0=some (.cells (cX x) 0 26 true):=by rw [hk.2 0 (by omega) (by omega)]; exact h0
  have hlay:∀(t:S) (a b:Int),xD true t [.int .i64 a,.int .i64 b]=some ([.int .i64 a,.int .i64 b],t):=fun t a b=>rfl
  have hk1:=hk.1
  have hi5t:i5<t.next:=by omega
  have a1:∀k,¬i5=t.next+k:=fun k=>by omega
  have a2:¬i5=t.next:=by omega
  have a3:∀k,¬t.next+k=i5:=fun k=>by omega
  have h00:∀k,¬0=t.next+k:=fun k=>by omega
  have h01:¬0=i5:=by omega
  have s1:(i+1)*16≤140737488355328:=by omega
  have s3:i+1≤140737488355328:=by omega
  rcases ht with ⟨rfl,d1,d2⟩ | ⟨id,cp,hid0,hid,rfl,hgt⟩
  ·simp -implicitDefEqProofs (maxDischargeDepth:=9) (maxSteps:=1000000) [Nat.add_assoc,ze,zq,zt,zr,zd,zp,zs,zy,asInt,zn,zz,sub,zl,zu,za,zk,zb,zj,zg,zh,zf,zA,zw,zo,zm,zi,Int.natCast_inj,xW,h,hw,h5,h0t,cX,hi5t,e1,e3,eM,hlay,a1,a2,h00,h01,t1,t2,t4,u1,u2,u4,vI]
   exact ⟨i+1,by omega,⟨S.wf_put (S.wf_add (S.wf_add (zX hw 25) _ _) _ _) _ _ (by simp; omega),(((hk.bump 25).add _ (by omega)).add _ (by omega)).put _,by omega,.inr ⟨t.next+22,0,by omega,by simp,by rw [hnext]; simp [d2],by rw [hnext]; simp [d1,a3,fP,vI]⟩⟩,by simp⟩
  ·have h6:∀k,¬id=t.next+k:=fun k=>by omega
   have h7:¬id=t.next:=by omega
   have h9:¬i5=id:=by omega
   have h10:¬id=i5:=by omega
   have g5:(L.flatMap fP).length=L.length*2:=zY (f:=fP) (n:=2) (fun _=>rfl) L
   have g6:(L.flatMap fP).take (i*2)=L.flatMap fP:=List.take_of_length_le (by omega)
   have h02:¬0=id:=fun e=>by rw [← e,h0t] at hgt; injection hgt with hgt; injection hgt with _ _ h; cases h
   simp -implicitDefEqProofs (maxDischargeDepth:=9) (maxSteps:=1000000) [Nat.add_assoc,ze,zq,zt,zr,zd,zp,zs,zy,asInt,zn,zz,sub,zl,zu,za,zk,zb,zj,zg,zh,zf,zA,zw,zo,zm,zi,Int.natCast_inj,xW,h,hw,h5,h0t,cX,hi5t,e1,e3,eM,hlay,a1,a2,h00,h01,h02,t1,t2,t4,u1,u2,u4,hgt,hid,hL,h6,h7,h9,h10,g5,g6,s1,s3,vI]
   exact ⟨i+1,by omega,⟨S.wf_put (S.wf_add (S.wf_del (S.wf_add (zX hw 25) _ _) _) _ _) _ _ (by simp; omega),((((hk.bump 25).add _ (by omega)).del hid0).add _ (by omega)).put _,by omega,.inr ⟨t.next+22,if i+1<cp then cp else 0,by omega,by simp,by rw [hnext]; simp [hL],by rw [hnext]; simp [a3,fP,vI]⟩⟩,by simp⟩
 ·have:i=x.modes.length:=by omega
  subst this
  rw [List.take_length] at ht
  have h0t:t.get 0=some (.cells (cX x) 0 26 true):=by rw [hk.2 0 (by omega) (by omega)]; exact h0
  simp -implicitDefEqProofs (maxDischargeDepth:=9) (maxSteps:=1000000) [Nat.add_assoc,ze,zq,zt,zr,zd,zp,zs,zy,asInt,zn,zz,sub,zl,zu,za,zk,zb,zj,zg,zh,zf,zA,zw,zo,zm,zi,Int.natCast_inj,xW,hw,h0t,cX]
  exact hQ _ _ hw hk h5 ht _ (by simp [zI])
end
def f218_k1:AC:=(.seq (.seq (.reg 11 f218_r11o [1,2,4,5,9]) (.block 4 (.loop xW))) (.seq (.reg 15 f218_r15o [4]) .ret))
theorem f218_top:f218_ac=(.seq (.reg 0 f218_r0o [1,2,4]) (.seq (.reg 1 f218_r1o [1,2,4,5]) (.seq (.seq (.reg 2 f218_r2o [1,2,4,5,6]) (.block 0 (.loop vS))) f218_k1))):=rfl
theorem p218 (to:List Int) (x:Inst) (hx:zQ x) (hto:∀k∈yv x,ToId to k):zx Tryz.prog zB 48 [eX x,.list (to.map vI)] (eX x):=by
 have hc:=yn (e:=[]) (f:=[]) .nil .nil
 refine zx.cfg (cfg:=st [] []) rfl ?_
 refine zM (sl:=true) hc (zW hc) yi Tryz.func48 f218_eq f218_nt f218_fits (by simp) (by simp) ?_
 rw [f218_top]
 simp -implicitDefEqProofs (maxDischargeDepth:=9) (maxSteps:=1000000) [Nat.add_assoc,ze,zq,zt,zr,zd,zp,zs,zy,asInt,zn,zz,sub,zl,zu,za,zk,zb,zj,zg,zh,zf,zA,zw,zo,zm,zi,Int.natCast_inj,eX]
 refine l218c hx (fun a ha k hk=>hto k (List.mem_append.2 (.inr (List.mem_flatMap.2 ⟨a,ha,hk⟩)))) ?_ (by omega) ?_ ?_ ?_ ?_
 ·simp [cX]
 ·exact S.wf_put (S.wf_add (S.wf_add (S.wf_add S.wf_empty _ _) _ _) _ _) _ _ (by simp)
 ·simp
 ·simp
 intro t v hw hk h5 hA E' hE
 obtain ⟨q1,q2,q4,q5,_⟩:=hE
 simp only at q1 q2 q4 q5
 have h0:t.get 0=some (.cells (cX x) 0 26 true):=by
  rw [hk.2 0 (by simp) (by omega)]; simp [cX]
 have hn1:3≤t.next:=by have:=hk.1; simpa using this
 show yd (st [] []) (cf0 [] []) true [] 95 f218_k1 E' t _
 unfold f218_k1
 simp -implicitDefEqProofs (maxDischargeDepth:=9) (maxSteps:=1000000) [Nat.add_assoc,ze,zq,zt,zr,zd,zp,zs,zy,asInt,zn,zz,sub,zl,zu,za,zk,zb,zj,zg,zh,zf,zA,zw,zo,zm,zi,Int.natCast_inj,q1,q2,q4,q5,h0,hw,cX]
 refine l218d (vA:=v) hx (fun k hk=>hto k (List.mem_append.2 (.inl hk))) h0 (by omega) hw (by omega) h5 ?_
 intro u w hwu hku h5u hM E2 hE2
 obtain ⟨q4,q5,_⟩:=hE2
 simp only at q4 q5
 have h1:u.get 1=some (.cells [vI 0,.nils,.nils,vI 0] 0 26 true):=by
  rw [hku.2 1 (by omega) (by omega),hk.2 1 (by simp) (by omega)]; simp [vI]
 have hn2:3≤u.next:=by have:=hku.1; omega
 have o1:=uc hA
 have o2:=uc hM
 simp -implicitDefEqProofs (maxDischargeDepth:=9) (maxSteps:=1000000) [Nat.add_assoc,ze,zq,zt,zr,zd,zp,zs,zy,asInt,zn,zz,sub,zl,zu,za,zk,zb,zj,zg,zh,zf,zA,zw,zo,zm,zi,Int.natCast_inj,q4,q5,h5u,h1,hwu,o1,o2]
 have hA2:ArrA 3 t v x.alts:=by simpa using hA
 have hM2:ArrM 3 u w x.modes:=arr_low hn1 hM
 have hA3:ArrA 3 u v x.alts:=hA2.mono hku.1 fun j hj hj2=>hku.2 j hj2 (by omega)
 exact laid_inst hx (hA3.mono (Nat.le_refl _) fun j hj _=>by rw [S.get_put,if_neg (by omega)]) (hM2.mono (Nat.le_refl _) fun j hj _=>by rw [S.get_put,if_neg (by omega)])
end Go.Proofs.YtchlfjhbijmdiaaGreatDoor.Ai

