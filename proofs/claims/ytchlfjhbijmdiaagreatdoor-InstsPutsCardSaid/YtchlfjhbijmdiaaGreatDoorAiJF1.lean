/- Part of a reckoning of a Go program over abstract values, proved sound against the model. -/
import Derived.Test.YtchlfjhbijmdiaaGreatDoorAiJD4
import Derived.Test.YtchlfjhbijmdiaaGreatDoorAiJP3
import Derived.Test.YtchlfjhbijmdiaaGreatDoorAiJB3
set_option linter.unusedSimpArgs false
set_option linter.unusedVariables false
namespace Go.Proofs.YtchlfjhbijmdiaaGreatDoor.Ai
open Go.Proofs
set_option maxRecDepth 100000
set_option maxHeartbeats 4000000

/-! the step of equality, whole -/
def wz (l:List Inst) (p:Pr):List Pr:=if p.1=p.2 then [] else if shape (zG l p.1) (zG l p.2)=true then (yv (zG l p.1)).zip (yv (zG l p.2)) else []
def uJ (l:List Inst) (p:Pr):Bool:=decide (p.1=p.2) || shape (zG l p.1) (zG l p.2)
theorem step_eq (l:List Inst) (p:Pr):stepE l p=if uJ l p=true then some (wz l p) else none:=by
 unfold stepE uJ wz
 by_cases h:p.1=p.2
 ·simp [h]
 ·by_cases h2:shape (zG l p.1) (zG l p.2)=true <;> simp [h,h2]
theorem vM {t:S} {b:Bool}:wL t (.tup [.nils,.bool b]) (.tup [.list [],.bool b]):=laid_tup2 (w:=.nils) (l:=[]) rfl rfl
def f222_k2:AC:=(.seq (.seq (.reg 4 un [5,6,53]) (.cond (.tmp 53) (.seq (.reg 5 f222_r5o [3,4]) .ret) .skip)) f222_k1)
def f222_k0:AC:=(.seq (.seq (.reg 2 f222_r2o [5,6,24,31,32,33,34,35,38,39,40,41,42,43,44,47,48,49,50,51,52]) (.cond (.tmp 24) (.seq (.reg 3 f222_r3o [3,4]) .ret) .skip)) f222_k2)
theorem f222_top0:f222_ac=(.seq (.reg 0 f222_r0o [1,2,31,32,33,34,35,38,39,40,41,42,43,44,47,48,49,50,51,52]) (.seq (.draw 1 wo [2,5,6,31,32,33,34,35,38,39,40,41,42,43,44,47,48,49,50,51,52]) f222_k0)):=rfl
section
variable {l:List Inst} {s:S} {i2 i5 i6:Nat} {a b:Int} {x y:Inst}
theorem k222A (h2:s.get i2=some (.cells [.int .i64 a,.int .i64 b] 0 108 true)) (hab:a=b) :
  yd (st eQ fQ) (cf0 eQ fQ) true [] 80 f222_k0 [(2,.ptr i2 0),(5,.ptr i5 0),(6,.ptr i6 0)] s (FinK (st eQ fQ) [.tmp 3,.tmp 4] (fun w s=>wL s w (.tup [.list [],.bool true])) fun _ _=>False):=by
 subst hab
 unfold f222_k0
 simp -implicitDefEqProofs (maxDischargeDepth:=9) (maxSteps:=1000000) [Nat.add_assoc,ze,zq,zt,zr,zd,zp,zs,zy,asInt,zn,zz,sub,zl,zu,za,zk,zb,zj,zg,zh,zf,zA,zw,zo,zm,zi,Int.natCast_inj,h2]
 exact vM
theorem k222B (h2:s.get i2=some (.cells [.int .i64 a,.int .i64 b] 0 108 true)) (hab:¬a=b) {P:AX→Env→S→Prop} (h:yd (st eQ fQ) (cf0 eQ fQ) true [] 80 f222_k2 [(5,.ptr i5 0),(6,.ptr i6 0),(24,.bool false)] s P) :
  yd (st eQ fQ) (cf0 eQ fQ) true [] 80 f222_k0 [(2,.ptr i2 0),(5,.ptr i5 0),(6,.ptr i6 0)] s P:=by
 unfold f222_k0
 simp -implicitDefEqProofs (maxDischargeDepth:=9) (maxSteps:=1000000) [Nat.add_assoc,ze,zq,zt,zr,zd,zp,zs,zy,asInt,zn,zz,sub,zl,zu,za,zk,zb,zj,zg,zh,zf,zA,zw,zo,zm,zi,Int.natCast_inj,h2,hab]
 exact h
theorem h213t (hx:zQ x) (hy:zQ y) (s:S):zF (st eQ fQ) (cf0 eQ fQ) 29 [.list (x.alts.map eA),.list (y.alts.map eA),.func (.func 78) [] []] s=some (.val (.bool (yE x.alts y.alts)) s):=tabK (e213_at _ _ (by have:=hx.1; omega) (by have:=hy.1; omega))
theorem k222C (hx:zQ x) (hy:zQ y) (h5:s.get i5=some (.cells (cX x) 0 26 true)) (h6:s.get i6=some (.cells (cX y) 0 26 true)) (hs:shape x y=false) :
  yd (st eQ fQ) (cf0 eQ fQ) true [] 80 f222_k2 [(5,.ptr i5 0),(6,.ptr i6 0),(24,.bool false)] s (FinK (st eQ fQ) [.tmp 3,.tmp 4] (fun w s=>wL s w (.tup [.list [],.bool false])) fun _ _=>False):=by
 have h213:=fun s=>h213t hx hy s
 simp only [shape] at hs
 unfold f222_k2
 by_cases k1:x.kind=y.kind
 ·by_cases k2:x.det=y.det
  ·by_cases k3:x.modes.length=y.modes.length
   ·have k4:yE x.alts y.alts=false:=by simpa [k1,k2,k3] using hs
    simp -implicitDefEqProofs (maxDischargeDepth:=9) (maxSteps:=1000000) [Nat.add_assoc,ze,zq,zt,zr,zd,zp,zs,zy,asInt,zn,zz,sub,zl,zu,za,zk,zb,zj,zg,zh,zf,zA,zw,zo,zm,zi,Int.natCast_inj,h5,h6,cX,vI,h213,k1,k2,k3,k4]
    exact vM
   ·have k3':¬(x.modes.length:Int)=y.modes.length:=by omega
    simp -implicitDefEqProofs (maxDischargeDepth:=9) (maxSteps:=1000000) [Nat.add_assoc,ze,zq,zt,zr,zd,zp,zs,zy,asInt,zn,zz,sub,zl,zu,za,zk,zb,zj,zg,zh,zf,zA,zw,zo,zm,zi,Int.natCast_inj,h5,h6,cX,vI,h213,k1,k2,k3,k3']
    exact vM
  ·simp -implicitDefEqProofs (maxDischargeDepth:=9) (maxSteps:=1000000) [Nat.add_assoc,ze,zq,zt,zr,zd,zp,zs,zy,asInt,zn,zz,sub,zl,zu,za,zk,zb,zj,zg,zh,zf,zA,zw,zo,zm,zi,Int.natCast_inj,h5,h6,cX,vI,h213,k1,k2]
   exact vM
 ·simp -implicitDefEqProofs (maxDischargeDepth:=9) (maxSteps:=1000000) [Nat.add_assoc,ze,zq,zt,zr,zd,zp,zs,zy,asInt,zn,zz,sub,zl,zu,za,zk,zb,zj,zg,zh,zf,zA,zw,zo,zm,zi,Int.natCast_inj,h5,h6,cX,vI,h213,k1]
  exact vM
theorem k222D (hx:zQ x) (hy:zQ y) (h5:s.get i5=some (.cells (cX x) 0 26 true)) (h6:s.get i6=some (.cells (cX y) 0 26 true)) (hs:shape x y=true) {P:AX→Env→S→Prop} (h:yd (st eQ fQ) (cf0 eQ fQ) true [] 80 f222_k1 [(5,.ptr i5 0),(6,.ptr i6 0),(53,.bool false)] s P) :
  yd (st eQ fQ) (cf0 eQ fQ) true [] 80 f222_k2 [(5,.ptr i5 0),(6,.ptr i6 0),(24,.bool false)] s P:=by
 have h213:=fun s=>h213t hx hy s
 have hsh':=hs
 simp only [shape,Bool.and_eq_true,decide_eq_true_eq] at hsh'
 obtain ⟨⟨⟨k1,k2⟩,k3⟩,k4⟩:=hsh'
 unfold f222_k2
 simp -implicitDefEqProofs (maxDischargeDepth:=9) (maxSteps:=1000000) [Nat.add_assoc,ze,zq,zt,zr,zd,zp,zs,zy,asInt,zn,zz,sub,zl,zu,za,zk,zb,zj,zg,zh,zf,zA,zw,zo,zm,zi,Int.natCast_inj,h5,h6,cX,vI,h213,k1,k2,k3,k4]
 exact h
end
theorem p222 (l:List Inst) (hl:l.length≤1000) (hs:∀x∈l,zQ x) (i j:Nat) (hi:i<l.length) (hj:j<l.length):zx Tryz.prog zB 77 [.agg [.int .i64 i,.int .i64 j],.cptr [.list (l.map eX)] 0] (.tup [.list ((wz l (i,j)).map eM),.bool (uJ l (i,j))]):=by
 have hc:=yn (e:=eQ) (f:=fQ) eQ_ok fQ_ok
 refine zx.cfg (cfg:=st eQ fQ) rfl ?_
 refine zM (sl:=true) hc (zW hc) yi Tryz.func77 f222_eq f222_nt f222_fits (by simp) (by simp) ?_
 rw [f222_top0]
 have e1:=List.getElem?_eq_getElem hi
 have e2:=List.getElem?_eq_getElem hj
 have hxi:=hs _ (List.getElem_mem hi)
 have hxj:=hs _ (List.getElem_mem hj)
 have ii:zG l i=l[i]:=yH hi
 have ij:zG l j=l[j]:=yH hj
 simp -implicitDefEqProofs (maxDischargeDepth:=9) (maxSteps:=1000000) [Nat.add_assoc,ze,zq,zt,zr,zd,zp,zs,zy,asInt,zn,zz,sub,zl,zu,za,zk,zb,zj,zg,zh,zf,zA,zw,zo,zm,zi,Int.natCast_inj,hi,hj,e1,e2,eX,vI]
 by_cases hab:i=j
 ·have s1:wz l ((i:Int),(j:Int))=[]:=by simp [wz,hab]
  have s2:uJ l ((i:Int),(j:Int))=true:=by simp [uJ,hab]
  rw [s1,s2]
  exact k222A (a:=i) (b:=j) (by simp) (by rw [hab])
 have hab':¬(i:Int)=j:=by omega
 refine k222B (a:=i) (b:=j) (by simp) hab' ?_
 cases hsh:shape l[i] l[j] with
 | false =>
  have s1:wz l ((i:Int),(j:Int))=[]:=by simp [wz,hab',ii,ij,hsh]
  have s2:uJ l ((i:Int),(j:Int))=false:=by simp [uJ,hab',ii,ij,hsh]
  rw [s1,s2]
  exact k222C hxi hxj (by simp [cX,vI]) (by simp [cX,vI]) hsh
 | true =>
  have s1:wz l ((i:Int),(j:Int))=(yv l[i]).zip (yv l[j]):=by simp [wz,hab',ii,ij,hsh]
  have s2:uJ l ((i:Int),(j:Int))=true:=by simp [uJ,hab',ii,ij,hsh]
  rw [s1,s2]
  refine k222D hxi hxj (by simp [cX,vI]) (by simp [cX,vI]) hsh ?_
  refine k222 hxi hxj hsh ?_ (by simp [cX,vI]) (by simp [cX,vI]) ?_ ?_ (K:=fun _ _=>True) (KP:=fun _ _=>True) (fun _=>trivial)
  ·exact S.wf_put (S.wf_put (S.wf_add (S.wf_add (wf_mk (S.wf_add S.wf_empty _ _) (by simp)) _ _) _ _) _ _ (by simp)) _ _ (by simp)
  ·simp
  ·simp
end Go.Proofs.YtchlfjhbijmdiaaGreatDoor.Ai

namespace Go.Proofs.YtchlfjhbijmdiaaGreatDoor.Ai
open Go.Proofs
set_option maxRecDepth 100000
set_option maxHeartbeats 4000000

/-! maps of pairs -/
def PMap (s:S) (id:Nat) (seen:List Pr):Prop:=∃es c,s.get id=some (.map es c)∧es.map (fun e=>(e.1,e.2.1))=seen.map fun q=>(eM q,V.bool true)
section
variable (e f:List (FuncId×(List V→Option V)))
theorem keyP (p q:Pr):keyEq (st e f) 108 (eM p) (eM q)=some (decide (p=q)):=by
 have hk:∀a b c d:Int,keyEq (st e f) 108 (.agg [.int .i64 a,.int .i64 b]) (.agg [.int .i64 c,.int .i64 d])=some ((a == c) && ((b == d) && true)):=fun a b c d=>by
  have:∀a b c d:Int,aEq zB 108 (.agg [.int .i64 a,.int .i64 b]) (.agg [.int .i64 c,.int .i64 d])=some ((a == c) && ((b == d) && true)):=fun a b c d=>by kernel_rfl
  exact this a b c d
 have:=hk p.1 p.2 q.1 q.2
 rw [show keyEq (st e f) 108 (eM p) (eM q)=some ((p.1 == q.1) && ((p.2 == q.2) && true)) from this]
 congr 1
 rw [Bool.eq_iff_iff]
 simp [Prod.ext_iff]
theorem findP {p:Pr}:∀{es:List (V×V×Nat)} {seen:List Pr} {i:Nat},es.map (fun e=>(e.1,e.2.1))=seen.map (fun q=>(eM q,V.bool true))→∃j,uR (keyEq (st e f) 108) (eM p) es i=some (if p∈seen then some (j,.bool true) else none)
 | [],[],i,_=>⟨0,by simp [uR]⟩
 | x::es,q::seen,i,h=>by
  simp only [List.map_cons,List.cons.injEq,Prod.mk.injEq] at h
  obtain ⟨⟨h1,h2⟩,h3⟩:=h
  unfold uR
  rw [h1,keyP]
  by_cases hq:p=q
  ·refine ⟨i,?_⟩
   simp [hq,h2]
  ·obtain ⟨j,hj⟩:=findP (p:=p) (i:=i+1) h3
   refine ⟨j,?_⟩
   simp [hq,hj]
 | [],_::_,_,h=>by simp at h
 | _::_,[],_,h=>by simp at h
theorem plainP (p:Pr):yL (st e f) 108 (eM p)=true:=by
 have hk:∀a b:Int,yL zB 108 (.agg [.int .i64 a,.int .i64 b])=true:=fun a b=>by kernel_rfl
 exact hk p.1 p.2
theorem lookP {s:S} {id:Nat} {seen:List Pr} (h:PMap s id seen) (p:Pr):yI (st e f) s 109 (.map id) (eM p) false=some (.bool (decide (p∈seen))):=by
 obtain ⟨es,c,h1,h2⟩:=h
 obtain ⟨j,hj⟩:=findP e f (p:=p) (i:=0) h2
 unfold yI
 simp only [st_ty,ty_97,Option.bind_eq_bind,Option.bind_some,und_97,ty_4,plainP,zi,h1,hj]
 by_cases hp:p∈seen <;> simp [hp]
theorem put0 {s:S} {id:Nat} (h:s.get id=some (.map [] 0)) (p:Pr):yj (st e f) s 109 (.map id) (eM p) (.bool true)=some (s.put id (.map [(eM p,.bool true,0)] 1)):=by
 unfold yj
 simp [plainP,h,uR]
end
end Go.Proofs.YtchlfjhbijmdiaaGreatDoor.Ai

namespace Go.Proofs.YtchlfjhbijmdiaaGreatDoor.Ai
open Go.Proofs
set_option maxRecDepth 100000
set_option maxHeartbeats 4000000

/-! the search of 'greatest': pairs that are found -/
open Classical in
noncomputable def e222:List V→Option V
 | [.agg [.int .i64 a,.int .i64 b],.cptr [.list m] 0]=>(dXs m).bind fun l=>if l.length≤1000∧(∀x∈l,zQ x)∧okP l.length (a,b) then some (.tup [.list ((wz l (a,b)).map eM),.bool (uJ l (a,b))]) else none
 | _=>none
theorem t222:∀args v,e222 args=some v→zx Tryz.prog zB 77 args v:=fun args v h=>by
 unfold e222 at h
 split at h
 ·rename_i a b m
  simp only [Option.bind_eq_some_iff] at h
  obtain ⟨l,hx,h⟩:=h
  split at h
  ·rename_i hh
   injection h with h; subst h
   obtain ⟨h1,h2,h3,h4,h5,h6⟩:=hh
   rw [yT hx]
   obtain ⟨i,rfl⟩:=Int.eq_ofNat_of_zero_le h3
   obtain ⟨j,rfl⟩:=Int.eq_ofNat_of_zero_le h5
   exact p222 l h1 h2 i j (by simpa using h4) (by simpa using h6)
  ·cases h
 ·cases h
theorem e222_at (l:List Inst) (h1:l.length≤1000) (h2:∀x∈l,zQ x) (p:Pr) (h3:okP l.length p):e222 [.agg [vI p.1,vI p.2],.cptr [.list (l.map eX)] 0]=some (.tup [.list ((wz l p).map eM),.bool (uJ l p)]):=by
 unfold e222 vI
 simp only [xJ,Option.bind_some]
 rw [if_pos ⟨h1,h2,h3⟩]
noncomputable def eG:List (FuncId×(List V→Option V)):=[(77,e222)]
theorem eG_ok:xa Tryz.prog zB eG:=.cons t222 .nil
/-- The pairs that are still to be looked at. -/
def SlQ (s:S) (v:V) (L:List Pr):Prop:=∃id off cp ex cs,id<s.next∧v=.arr id off L.length 2 true cp∧s.get id=some (.cells cs 0 108 ex)∧cs.drop off=L.flatMap fP∧off+L.length*2≤cs.length
def vZ (l:List Inst):V:=.func (.func 77) [] [.cptr [.list (l.map eX)] 0]
theorem in30 {l:List Inst} {M:List Pr} (hM:∀q∈M,okP l.length q) (hMl:M.length≤100000) {s:S} (hw:s.wf) {m:Nat} {v:V} {r:List Pr×List Pr} (hp:PMap s m r.1) (hv:SlQ s v r.2) (hB:2*unsn l.length r.1+r.2.length≤3000000) {c:V} {Q:AX→Env→S→Prop}
  (hQ:∀t w E',t.wf→PMap t m (addS r M).1→SlQ t w (addS r M).2→yw E' 2=some c→yw E' 7=some (.map m)→yw E' 8=some w→Q (.exit 2) E' t) :
  yd (st eG []) (cf0 eG []) true [] 54 (.loop f30_l0) [(2,c),(7,.map m),(8,v),(37,.list (M.map eM)),(38,.int .i64 M.length),(39,.int .i64 0)] s Q:=by
 refine zO (α:=Nat×V) (fun a=>[(2,c),(7,.map m),(8,a.2),(37,.list (M.map eM)),(38,.int .i64 M.length),(39,.int .i64 a.1)]) (fun a t=>t.wf∧a.1≤M.length∧PMap t m (addS r (M.take a.1)).1∧SlQ t a.2 (addS r (M.take a.1)).2) (fun a=>M.length - a.1) (0,v) f30_l0_fits (by simp [zI]) ⟨hw,Nat.zero_le _,by simpa [addS] using hp,by simpa [addS] using hv⟩ ?_
 rintro ⟨i,v⟩ t ⟨hw,hi,hp,hv⟩
 simp only at hi hp hv ⊢
 rcases Nat.lt_or_ge i M.length with h | h
 ·have e1:=List.getElem?_eq_getElem h
  have e3:IntKind.i64.wrap ((i:Int)+1)=((i+1:Nat):Int):=zN (by omega) (by omega)
  have hnext:=addS_take r h
  have hmeas:=addS_meas (n:=l.length) (m:=M.take i) (r:=r) (fun q hq=>hM q (List.mem_of_mem_take hq))
  generalize hq:M[i]=q at hnext e1
  generalize addS r (M.take i)=u at hnext hmeas hp hv
  obtain ⟨es,cnt,hg,hes⟩:=hp
  obtain ⟨id,off,cp,ex,cs,hid,rfl,hgc,hdr,hle⟩:=hv
  have hmn:m<t.next:=by
   rcases Nat.lt_or_ge m t.next with h | h
   ·exact h
   ·rw [hw m h] at hg; cases hg
  have hmk:∀k,¬m=t.next+k:=fun k=>by omega
  have hm0:¬m=t.next:=by omega
  have hm0':¬t.next=m:=by omega
  have hmk':∀k,¬t.next+k=m:=fun k=>by omega
  have hi0':¬t.next=id:=by omega
  have hik':∀k,¬t.next+k=id:=fun k=>by omega
  have hik:∀k,¬id=t.next+k:=fun k=>by omega
  have hi0:¬id=t.next:=by omega
  have hmi:¬m=id:=fun e=>by rw [e,hgc] at hg; cases hg
  have him:¬id=m:=fun e=>hmi e.symm
  have hlook:∀S':S,S'.get m=some (.map es cnt)→yI (st eG []) S' 109 (.map m) (.agg [vI q.1,vI q.2]) false=some (.bool (decide (q∈u.1))):=fun S' h=>lookP eG [] ⟨es,cnt,h,hes⟩ q
  by_cases hin:q∈u.1
  ·have hadd:addQ u q=u:=by unfold addQ; rw [if_pos hin]
   rw [hadd] at hnext
   simp -implicitDefEqProofs (maxDischargeDepth:=9) (maxSteps:=1000000) [Nat.add_assoc,ze,zq,zt,zr,zd,zp,zs,zy,asInt,zn,zz,sub,zl,zu,za,zk,zb,zj,zg,zh,zf,zA,zw,zo,zm,zi,Int.natCast_inj,f30_l0,h,hw,e1,e3,hq,eM,hlook,hg,hmk,hm0,hin]
   refine ⟨i+1,by omega,_,⟨by omega,⟨es,cnt,by simp [hm0,hg],by rw [hnext]; exact hes⟩,?_⟩,rfl,by simp⟩
   rw [hnext]
   exact ⟨id,off,cp,ex,cs,by simp; omega,rfl,by simp [hi0,hgc],hdr,hle⟩
  ·have hadd:addQ u q=(u.1++[q],u.2++[q]):=by unfold addQ; rw [if_neg hin]
   rw [hadd] at hnext
   have hput:∀S':S,S'.wf→S'.get m=some (.map es cnt)→yj (st eG []) S' 109 (.map m) (.agg [vI q.1,vI q.2]) (.bool true)=some (S'.put m (.map (es++[(eM q,.bool true,cnt)]) (cnt+1))):=fun S' hw' h=>by
    obtain ⟨j,hj⟩:=findP eG [] (p:=q) (i:=0) hes
    show yj (st eG []) S' 109 (.map m) (eM q) (.bool true)=_
    unfold yj
    simp only [st_ty,ty_97,Option.bind_eq_bind,Option.bind_some,und_97,plainP,h,hj]
    simp [hin]
   have hsz1:(u.2.length+1)*16≤140737488355328:=by omega
   have hsz2:u.2.length+1≤140737488355328:=by omega
   have hlay:∀(t:S) (a b:Int),xD true t [vI a,vI b]=some ([vI a,vI b],t):=fun t a b=>rfl
   have htk:(cs.drop off).take (u.2.length*2)=u.2.flatMap fP:=by
    rw [hdr]
    exact List.take_of_length_le (Nat.le_of_eq (zY (f:=fP) (n:=2) (fun _=>rfl) u.2))
   simp -implicitDefEqProofs (maxDischargeDepth:=9) (maxSteps:=1000000) [Nat.add_assoc,ze,zq,zt,zr,zd,zp,zs,zy,asInt,zn,zz,sub,zl,zu,za,zk,zb,zj,zg,zh,zf,zA,zw,zo,zm,zi,Int.natCast_inj,f30_l0,h,hw,e1,e3,hq,eM,hlook,hput,hg,hgc,hid,hle,hmk,hm0,hik,hi0,hm0',hmk',hi0',hik',hmi,him,hin,hsz1,hsz2,hlay,htk]
   refine ⟨i+1,by omega,_,⟨S.wf_add (S.wf_del (S.wf_add (S.wf_put (S.wf_put (S.wf_add hw _ _) _ _ (by simp)) _ _ (by simp; omega)) _ _) _) _ _,by omega,⟨es++[(eM q,.bool true,cnt)],cnt+1,by simp [hmk,hm0,hmi,eM],by rw [hnext]; simp [hes]⟩,?_⟩,rfl,by simp⟩
   rw [hnext]
   exact ⟨t.next+2,0,if u.2.length+1<cp then cp else 0,false,_,by simp,by simp,by simp; rfl,by simp [fP],by simp [zY (f:=fP) (n:=2) (fun _=>rfl)]; omega⟩
 ·have:i=M.length:=by omega
  subst this
  rw [List.take_of_length_le (Nat.le_refl _)] at hp hv
  simp -implicitDefEqProofs (maxDischargeDepth:=9) (maxSteps:=1000000) [Nat.add_assoc,ze,zq,zt,zr,zd,zp,zs,zy,asInt,zn,zz,sub,zl,zu,za,zk,zb,zj,zg,zh,zf,zA,zw,zo,zm,zi,Int.natCast_inj,f30_l0,hw]
  exact hQ _ _ _ hw hp hv rfl rfl rfl
end Go.Proofs.YtchlfjhbijmdiaaGreatDoor.Ai

namespace Go.Proofs.YtchlfjhbijmdiaaGreatDoor.Ai
open Go.Proofs
set_option maxRecDepth 100000
set_option maxHeartbeats 4000000

/-! 'greatest' and 'same' -/
theorem unsn_le (n:Nat) (seen:List Pr):unsn n seen≤n*n:=by
 have h:(pairsOf n).length=n*n:=by
  unfold pairsOf
  have key:∀L:List Nat,(L.flatMap fun (i:Nat)=>(List.range n).map fun (j:Nat)=>((i:Int),(j:Int))).length=L.length*n:=by
   intro L
   induction L with
   | nil=>simp
   | cons a L ih=>rw [List.flatMap_cons,List.length_append,ih]; simp [Nat.add_mul]; omega
  rw [key]; simp
 rw [← h]
 exact List.countP_le_length
theorem stepL_ok {l:List Inst} (hv:yt l) {p:Pr} (h:okP l.length p):∀q∈wz l p,okP l.length q:=by
 intro q hq
 unfold wz at hq
 split at hq
 ·cases hq
 split at hq
 ·obtain ⟨h1,h2,h3,h4⟩:=h
  have a1:=we hv (i:=p.1.toNat) (by omega)
  have a2:=we hv (i:=p.2.toNat) (by omega)
  rw [Int.toNat_of_nonneg h1] at a1
  rw [Int.toNat_of_nonneg h3] at a2
  have hz:=List.of_mem_zip hq
  have b1:=a1 _ hz.1
  have b2:=a2 _ hz.2
  exact ⟨b1.1,b1.2,b2.1,b2.2⟩
 ·cases hq
theorem instAt_small {l:List Inst} {P:Inst→Prop} (hs:∀x∈l,P x) {i:Int} (h0:0≤i) (h1:i<l.length):P (zG l i):=by
 have hit:i.toNat<l.length:=by omega
 have:zG l i=l[i.toNat]:=by simp [zG,List.getElem?_eq_getElem hit]
 rw [this]; exact hs _ (List.getElem_mem hit)
theorem stepL_len {l:List Inst} (hs:∀x∈l,zQ x) {p:Pr} (h:okP l.length p):(wz l p).length≤100000:=by
 unfold wz
 split
 ·simp
 split
 ·have hx:=instAt_small hs h.1 h.2.1
  have h1:(yv (zG l p.1)).length≤20000:=by
   unfold yv
   rw [List.length_append,yy]
   have key:∀(L:List Alt),(∀a∈L,a.args.length≤100)→(L.flatMap (·.args)).length≤L.length*100:=by
    intro L
    induction L with
    | nil=>intro _; simp
    | cons a L ih =>
     intro ha
     have h1:=ih fun c hc=>ha c (by simp [hc])
     have h2:=ha a (by simp)
     simp only [List.flatMap_cons,List.length_append,List.length_cons]
     omega
   have:=key _ hx.2.2
   have h2:=hx.1
   have h3:=hx.2.1
   omega
  rw [List.length_zip]
  omega
 ·simp
def f30_k1:AC:=(.block 1 (.seq (.reg 4 f30_r4o [2,7,8,9,10]) (.seq (.reg 5 f30_r5o [2,7,8,9,10]) (.seq (.seq (.reg 6 f30_r6o [2,7,8,9,36]) (.cond (.tmp 36) (.seq (.reg 7 f30_r7o [6]) .ret) .skip)) (.seq (.reg 8 f30_r8o [2,7,8,37,38,39]) (.block 2 (.loop f30_l0)))))))
theorem f30_l1_top:f30_l1=(.seq (.seq (.reg 3 f30_r3o [2,7,8,24]) (.cond (.tmp 24) .skip (.exit 0))) f30_k1):=rfl
section
variable {l:List Inst} {a b:Int} {m:Nat} {s:S}
theorem call222 (hl:l.length≤1000) (hs:∀x∈l,zQ x) {p:Pr} (hp:okP l.length p) (t:S):zF (st eG []) (cf0 eG []) 77 [.agg [vI p.1,vI p.2],.cptr [.list (l.map eX)] 0] t=some (.val (.tup [.list ((wz l p).map eM),.bool (uJ l p)]) t):=tabK (e222_at l hl hs p hp)
theorem k30 (hl:l.length≤1000) (hs:∀x∈l,zQ x) {p:Pr} (hpk:okP l.length p) (hw:s.wf) {id off cp n:Nat} {ex:Bool} {cs rest:List V} (hid:id<s.next) (hgc:s.get id=some (.cells cs 0 108 ex)) (hdr:cs.drop off=vI p.1::vI p.2::rest) (hle:off+(n+1)*2≤cs.length) {R:AX→Env→S→Prop}
  (hF:uJ l p=false→∀E' t,yw E' 6=some (.bool false)→R .ret E' t)
  (hT:uJ l p=true→yd (st eG []) (cf0 eG []) true [] 54 (.loop f30_l0) [(2,vZ l),(7,.map m),(8,.arr id (off+2) n 2 true (cp - 1)),(37,.list ((wz l p).map eM)),(38,.int .i64 (wz l p).length),(39,.int .i64 0)] s fun e E' s'=>uG e 2 (R .normal E' s') (uG e 1 (R .normal E' s') (R e E' s'))) :
  yd (st eG []) (cf0 eG []) true [] 54 f30_k1 [(2,vZ l),(7,.map m),(8,.arr id off (n+1) 2 true cp),(24,.bool true)] s R:=by
 have h222:=fun t=>call222 hl hs hpk t
 have h2:off+2≤cs.length:=by omega
 have h3:(1:Int)≤(n:Int)+1:=by omega
 unfold f30_k1
 cases hb:uJ l p with
 | false =>
  simp -implicitDefEqProofs (maxDischargeDepth:=9) (maxSteps:=1000000) [Nat.add_assoc,ze,zq,zt,zr,zd,zp,zs,zy,asInt,zn,zz,sub,zl,zu,za,zk,zb,zj,zg,zh,zf,zA,zw,zo,zm,zi,Int.natCast_inj,hw,hgc,hid,hdr,vZ,h222,hb,h2,h3]
  exact hF hb _ _ rfl
 | true =>
  simp -implicitDefEqProofs (maxDischargeDepth:=9) (maxSteps:=1000000) [Nat.add_assoc,ze,zq,zt,zr,zd,zp,zs,zy,asInt,zn,zz,sub,zl,zu,za,zk,zb,zj,zg,zh,zf,zA,zw,zo,zm,zi,Int.natCast_inj,hw,hgc,hid,hdr,vZ,h222,hb,h2,h3]
  exact hT hb
theorem out30 (hl:l.length≤1000) (hs:∀x∈l,zQ x) (hv:yt l) (hab:okP l.length (a,b)) (hw:s.wf) {v:V} (hp:PMap s m [(a,b)]) (hq:SlQ s v [(a,b)]) {Q:AX→Env→S→Prop} (hT:Bis l a b→∀E' t,t.wf→Q (.exit 0) E' t) (hF:¬Bis l a b→∀E' t,yw E' 6=some (.bool false)→Q .ret E' t) :
  yd (st eG []) (cf0 eG []) true [] 54 (.loop f30_l1) [(2,vZ l),(7,.map m),(8,v)] s Q:=by
 refine zO (α:=(List Pr×List Pr)×V) (fun r=>[(2,vZ l),(7,.map m),(8,r.2)]) (fun r t=>t.wf∧GInv l (a,b) r.1.1 r.1.2∧PMap t m r.1.1∧SlQ t r.2 r.1.2∧2*unsn l.length r.1.1+r.1.2.length≤3000000) (fun r=>2*unsn l.length r.1.1+r.1.2.length) (([(a,b)],[(a,b)]),v) f30_l1_fits (by simp [zI]) ⟨hw,ginv_start hab,hp,hq,by
  have:=unsn_le l.length [(a,b)]
  have:=Nat.mul_le_mul hl hl
  simp only [List.length_singleton]
  omega⟩ ?_
 rintro ⟨⟨seen,L⟩,v⟩ t ⟨hw,hg,hp,hq,hB⟩
 simp only at hg hp hq hB ⊢
 rw [f30_l1_top]
 cases L with
 | nil =>
  obtain ⟨id,off,cp,ex,cs,hid,rfl,hgc,hdr,hle⟩:=hq
  simp -implicitDefEqProofs (maxDischargeDepth:=9) (maxSteps:=1000000) [Nat.add_assoc,ze,zq,zt,zr,zd,zp,zs,zy,asInt,zn,zz,sub,zl,zu,za,zk,zb,zj,zg,zh,zf,zA,zw,zo,zm,zi,Int.natCast_inj,hw]
  exact hT (ginv_done hg) _ _ hw
 | cons p ps =>
  have hpk:=hg.2.2.2.2 p (hg.2.1 p (by simp))
  obtain ⟨id,off,cp,ex,cs,hid,rfl,hgc,hdr,hle⟩:=hq
  simp -implicitDefEqProofs (maxDischargeDepth:=9) (maxSteps:=1000000) [Nat.add_assoc,ze,zq,zt,zr,zd,zp,zs,zy,asInt,zn,zz,sub,zl,zu,za,zk,zb,zj,zg,zh,zf,zA,zw,zo,zm,zi,Int.natCast_inj,hw]
  refine k30 hl hs hpk hw hid hgc (rest:=ps.flatMap fP) (by rw [hdr]; simp [fP]) (by simpa using hle) ?_ ?_
  ·intro hb E' t he
   have hn:stepE l p=none:=by rw [step_eq,hb]; rfl
   exact hF (ginv_none hg hn) E' t he
  ·intro hb
   have hn:stepE l p=some (wz l p):=by rw [step_eq,hb]; rfl
   have hok:=stepL_ok hv hpk
   have hst:=ginv_step hg hn hok
   have hme:=addS_meas (n:=l.length) (m:=wz l p) (r:=(seen,ps)) hok
   simp only [List.length_cons] at hB
   refine in30 (r:=(seen,ps)) hok (stepL_len hs hpk) hw hp ⟨id,off+2,cp - 1,ex,cs,hid,rfl,hgc,by rw [← List.drop_drop,hdr]; simp [fP],by simp at hle; simp; omega⟩ (by simp only; omega) ?_
   intro t w E' hwt hpt hqt h2 h7 h8
   simp only at hme
   exact ⟨_,_,by omega,_,⟨hwt,hst,hpt,hqt,by omega⟩,h2,h7,h8⟩
end
theorem closE_free (l:List Inst):(vZ l).free=true:=by
 have:=wZ l
 simp [vZ,V.free,V.freeL,this]
open Classical in
theorem p30 (l:List Inst) (hl:l.length≤1000) (hs:∀x∈l,zQ x) (hv:yt l) (a b:Int) (hab:okP l.length (a,b)):zx Tryz.prog zB 39 [.int .i64 a,.int .i64 b,vZ l] (.bool (decide (Bis l a b))):=by
 have hc:=yn (e:=eG) (f:=[]) eG_ok .nil
 refine zx.cfg (cfg:=st eG []) rfl ?_
 refine zM (sl:=true) hc (zW hc) yi Tryz.func39 f30_eq f30_nt f30_fits (by simp [closE_free]) (by simp [closE_free]) ?_
 have hput:yj (st eG []) (S.empty.add 0 (.map [] 0)) 109 (.map 0) (.agg [.int .i64 a,.int .i64 b]) (.bool true)=some ((S.empty.add 0 (.map [] 0)).put 0 (.map [(eM (a,b),.bool true,0)] 1)):=put0 eG [] (by simp) (a,b)
 simp -implicitDefEqProofs (maxDischargeDepth:=9) (maxSteps:=1000000) [Nat.add_assoc,ze,zq,zt,zr,zd,zp,zs,zy,asInt,zn,zz,sub,zl,zu,za,zk,zb,zj,zg,zh,zf,zA,zw,zo,zm,zi,Int.natCast_inj,f30_ac,hput]
 refine out30 hl hs hv hab (S.wf_add (S.wf_put (S.wf_add S.wf_empty _ _) _ _ (by simp)) _ _) ⟨[(eM (a,b),.bool true,0)],1,by simp,rfl⟩ ⟨1,0,2,true,[.int .i64 a,.int .i64 b],by simp,rfl,by simp,by simp [fP,vI],by simp⟩ ?_ ?_
 ·intro hb E' t _
  exact hb
 ·intro hb E' t he
  simp -implicitDefEqProofs (maxDischargeDepth:=9) (maxSteps:=1000000) [Nat.add_assoc,ze,zq,zt,zr,zd,zp,zs,zy,asInt,zn,zz,sub,zl,zu,za,zk,zb,zj,zg,zh,zf,zA,zw,zo,zm,zi,Int.natCast_inj,he,hb]
open Classical in
noncomputable def e30:List V→Option V
 | [.int .i64 a,.int .i64 b,.func (.func 77) [] [.cptr [.list m] 0]]=>(dXs m).bind fun l=>if l.length≤1000∧(∀x∈l,zQ x)∧yt l∧okP l.length (a,b) then some (.bool (decide (Bis l a b))) else none
 | _=>none
theorem t30:∀args v,e30 args=some v→zx Tryz.prog zB 39 args v:=fun args v h=>by
 unfold e30 at h
 split at h
 ·simp only [Option.bind_eq_some_iff] at h
  obtain ⟨l,hx,h⟩:=h
  split at h
  ·rename_i hh
   injection h with h; subst h
   obtain ⟨h1,h2,h3,h4⟩:=hh
   rw [yT hx]
   exact p30 l h1 h2 h3 _ _ h4
  ·cases h
 ·cases h
open Classical in
theorem e30_at (l:List Inst) (h1:l.length≤1000) (h2:∀x∈l,zQ x) (h3:yt l) {a b:Int} (h4:okP l.length (a,b)):e30 [.int .i64 a,.int .i64 b,vZ l]=some (.bool (decide (Bis l a b))):=by
 unfold e30 vZ
 simp only [xJ,Option.bind_some]
 rw [if_pos ⟨h1,h2,h3,h4⟩]
/-! the closure of equality -/
theorem p217 (l:List Inst):zx Tryz.prog zB 46 [.list (l.map eX)] (vZ l):=by
 have hc:=yn (e:=[]) (f:=[]) .nil .nil
 refine zx.cfg (cfg:=st [] []) rfl ?_
 refine zM (sl:=true) hc (zW hc) yi Tryz.func46 f217_eq f217_nt f217_fits (by simp) (by simp) ?_
 simp -implicitDefEqProofs (maxDischargeDepth:=9) (maxSteps:=1000000) [Nat.add_assoc,ze,zq,zt,zr,zd,zp,zs,zy,asInt,zn,zz,sub,zl,zu,za,zk,zb,zj,zg,zh,zf,zA,zw,zo,zm,zi,Int.natCast_inj,f217_ac]
 refine ⟨?_,closE_free l⟩
 show see 100000 _ _=_
 simp [see,vy,vZ]
end Go.Proofs.YtchlfjhbijmdiaaGreatDoor.Ai

namespace Go.Proofs.YtchlfjhbijmdiaaGreatDoor.Ai
open Go.Proofs
set_option maxRecDepth 100000
set_option maxHeartbeats 4000000

/-! same, and the identity -/
def e217:List V→Option V
 | [.list m]=>(dXs m).map vZ
 | _=>none
theorem t217:∀args v,e217 args=some v→zx Tryz.prog zB 46 args v:=fun args v h=>by
 unfold e217 at h
 split at h
 ·simp only [Option.map_eq_some_iff] at h
  obtain ⟨l,hx,rfl⟩:=h
  rw [yT hx]; exact p217 l
 ·cases h
noncomputable def eE:List (FuncId×(List V→Option V)):=[(46,e217),(39,e30)]
theorem eE_ok:xa Tryz.prog zB eE:=.cons t217 (.cons t30 .nil)
open Classical in
theorem p207 (l:List Inst) (hl:l.length≤1000) (hs:∀x∈l,zQ x) (hv:yt l) (a b:Int) (hab:okP l.length (a,b)):zx Tryz.prog zB 21 [.list (l.map eX),.int .i64 a,.int .i64 b] (.bool (decide (Bis l a b))):=by
 have hc:=yn (e:=eE) (f:=[]) eE_ok .nil
 refine zx.cfg (cfg:=st eE []) rfl ?_
 refine zM (sl:=true) hc (zW hc) yi Tryz.func21 f207_eq f207_nt f207_fits (by simp) (by simp) ?_
 have h1:∀s,zF (st eE []) (cf0 eE []) 46 [.list (l.map eX)] s=some (.val (vZ l) s):=fun s=>tabK (by
  have:e217 [.list (l.map eX)]=some (vZ l):=by simp [e217]
  exact this)
 have h2:∀s,zF (st eE []) (cf0 eE []) 39 [.int .i64 a,.int .i64 b,vZ l] s=some (.val (.bool (decide (Bis l a b))) s):=fun s=>tabK (e30_at l hl hs hv hab)
 simp -implicitDefEqProofs (maxDischargeDepth:=9) (maxSteps:=1000000) [Nat.add_assoc,ze,zq,zt,zr,zd,zp,zs,zy,asInt,zn,zz,sub,zl,zu,za,zk,zb,zj,zg,zh,zf,zA,zw,zo,zm,zi,Int.natCast_inj,f207_ac,h1,h2]
open Classical in
noncomputable def e207:List V→Option V
 | [.list m,.int .i64 a,.int .i64 b]=>(dXs m).bind fun l=>if l.length≤1000∧(∀x∈l,zQ x)∧yt l∧okP l.length (a,b) then some (.bool (decide (Bis l a b))) else none
 | _=>none
theorem t207:∀args v,e207 args=some v→zx Tryz.prog zB 21 args v:=fun args v h=>by
 unfold e207 at h
 split at h
 ·simp only [Option.bind_eq_some_iff] at h
  obtain ⟨l,hx,h⟩:=h
  split at h
  ·rename_i hh
   injection h with h; subst h
   obtain ⟨h1,h2,h3,h4⟩:=hh
   rw [yT hx]
   exact p207 l h1 h2 h3 _ _ h4
  ·cases h
 ·cases h
open Classical in
theorem e207_at (l:List Inst) (h1:l.length≤1000) (h2:∀x∈l,zQ x) (h3:yt l) {a b:Int} (h4:okP l.length (a,b)):e207 [.list (l.map eX),.int .i64 a,.int .i64 b]=some (.bool (decide (Bis l a b))):=by
 unfold e207
 simp only [xJ,Option.bind_some]
 rw [if_pos ⟨h1,h2,h3,h4⟩]
theorem p206 (n:Int):zx Tryz.prog zB 19 [.int .i64 n] (.int .i64 n):=by
 have hc:=yn (e:=[]) (f:=[]) .nil .nil
 refine zx.cfg (cfg:=st [] []) rfl ?_
 refine zM (sl:=true) hc (zW hc) yi Tryz.func19 f206_eq f206_nt f206_fits (by simp) (by simp) ?_
 simp -implicitDefEqProofs (maxDischargeDepth:=9) (maxSteps:=1000000) [Nat.add_assoc,ze,zq,zt,zr,zd,zp,zs,zy,asInt,zn,zz,sub,zl,zu,za,zk,zb,zj,zg,zh,zf,zA,zw,zo,zm,zi,Int.natCast_inj,f206_ac]
theorem p216 (n:Int):zx Tryz.prog zB 42 [.int .i64 n] (.int .i64 n):=by
 have hc:=yn (e:=[]) (f:=[]) .nil .nil
 refine zx.cfg (cfg:=st [] []) rfl ?_
 refine zM (sl:=true) hc (zW hc) yi Tryz.func42 f216_eq f216_nt f216_fits (by simp) (by simp) ?_
 simp -implicitDefEqProofs (maxDischargeDepth:=9) (maxSteps:=1000000) [Nat.add_assoc,ze,zq,zt,zr,zd,zp,zs,zy,asInt,zn,zz,sub,zl,zu,za,zk,zb,zj,zg,zh,zf,zA,zw,zo,zm,zi,Int.natCast_inj,f216_ac]
def eId:List V→Option V
 | [.int .i64 n]=>some (.int .i64 n)
 | _=>none
theorem t206:∀args v,eId args=some v→zx Tryz.prog zB 19 args v:=fun args v h=>by
 unfold eId at h
 split at h
 ·injection h with h; subst h; exact p206 _
 ·cases h
theorem t216:∀args v,eId args=some v→zx Tryz.prog zB 42 args v:=fun args v h=>by
 unfold eId at h
 split at h
 ·injection h with h; subst h; exact p216 _
 ·cases h
end Go.Proofs.YtchlfjhbijmdiaaGreatDoor.Ai

