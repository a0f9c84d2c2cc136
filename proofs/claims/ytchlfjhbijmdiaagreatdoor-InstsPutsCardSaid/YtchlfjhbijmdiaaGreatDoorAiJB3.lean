/- Part of a reckoning of a Go program over abstract values, proved sound against the model. -/
import Derived.Test.YtchlfjhbijmdiaaGreatDoorAiJA3
import Derived.Test.YtchlfjhbijmdiaaGreatDoorAiT8
set_option linter.unusedSimpArgs false
set_option linter.unusedVariables false
namespace Go.Proofs.YtchlfjhbijmdiaaGreatDoor.Ai
open Go.Proofs
set_option maxRecDepth 100000
set_option maxHeartbeats 1000000

section
variable {A B:Prop}
@[simp high] theorem GuardK_tt:wM (some (.bool true)) true A B=A:=by simp
@[simp high] theorem GuardK_ff:wM (some (.bool false)) false A B=A:=by simp
@[simp high] theorem GuardK_tf:wM (some (.bool true)) false A B=B:=by simp
@[simp high] theorem GuardK_ft:wM (some (.bool false)) true A B=B:=by simp
@[simp high] theorem CondK_tt:CondK (some (.bool true)) A B=A:=by simp
@[simp high] theorem CondK_ff:CondK (some (.bool false)) A B=B:=by simp
end
@[simp] theorem beq07:Nat.beq 0 7=false:=rfl
@[simp] theorem beq27:Nat.beq 2 7=false:=rfl
@[simp] theorem beq37:Nat.beq 3 7=false:=rfl
@[simp] theorem beq17:Nat.beq 1 7=false:=rfl
@[simp] theorem beq87:Nat.beq 8 7=false:=rfl
structure Alt where
 name:ByteArray
 args:List Int
structure Inst where
 kind:Int
 alts:List Alt
 modes:List (Int×Int)
 det:Int
def eM (m:Int×Int):V:=.agg [vI m.1,vI m.2]
def eA (a:Alt):V:=.agg [.str a.name,eI a.args]
def eX (x:Inst):V:=.agg [vI x.kind,.list (x.alts.map eA),.list (x.modes.map eM),vI x.det]
@[simp] theorem free_eA (a:Alt):(eA a).free=true:=by simp [eA]
@[simp] theorem free_eM (a:Int×Int):(eM a).free=true:=by simp [eM]
@[simp] theorem freeL_eA (l:List Alt):V.freeL (l.map eA)=true:=vN eA free_eA l
@[simp] theorem freeL_eM (l:List (Int×Int)):V.freeL (l.map eM)=true:=vN eM free_eM l
@[simp] theorem free_eX (a:Inst):(eX a).free=true:=by simp [eX]
@[simp] theorem wZ (l:List Inst):V.freeL (l.map eX)=true:=vN eX free_eX l

def dA:V→Option Alt
 | .agg [.str n,l]=>(dI l).map (⟨n,·⟩)
 | _=>none
def dAs:List V→Option (List Alt)
 | []=>some []
 | v::l=>match dA v,dAs l with
  | some a,some r=>some (a::r)
  | _,_=>none
theorem dA_eq {v:V} {a:Alt} (h:dA v=some a):v=eA a:=by
 unfold dA at h
 split at h
 ·simp only [Option.map_eq_some_iff] at h
  obtain ⟨x,hx,rfl⟩:=h
  rw [dI_eq hx]; rfl
 ·cases h
@[simp] theorem dA_eA (a:Alt):dA (eA a)=some a:=by simp [dA,eA]
theorem dAs_eq:∀{l:List V} {r:List Alt},dAs l=some r→l=r.map eA
 | [],r,h=>by injection h with h; subst h; rfl
 | v::l,r,h=>by
  unfold dAs at h
  split at h
  ·rename_i a r' h1 h2
   injection h with h; subst h
   rw [dA_eq h1,dAs_eq h2]; rfl
  ·cases h
@[simp] theorem dAs_map:∀l:List Alt,dAs (l.map eA)=some l
 | []=>rfl
 | a::l=>by simp [dAs,dAs_map l]

def uH (a:Alt):Bool:=decide (4<a.args.length) || decide (100<a.name.size)
theorem p24 (a:Alt):zx Tryz.prog zB 13 [eA a] (.bool (uH a)):=by
 have hc:=yn (e:=[]) (f:=[]) .nil .nil
 refine zx.cfg (cfg:=st [] []) rfl ?_
 refine zM (sl:=true) hc (zW hc) yi Tryz.func13 f24_eq f24_nt f24_fits (by simp) (by simp) ?_
 by_cases h:4<a.args.length
 ·simp -implicitDefEqProofs (maxDischargeDepth:=9) (maxSteps:=1000000) [Nat.add_assoc,ze,zq,zt,zr,zd,zp,zs,zy,asInt,zn,zz,sub,zl,zu,za,zk,zb,zj,zg,zh,zf,zA,zw,zo,zm,zi,Int.natCast_inj,f24_ac,eA,eI,h,uH]
  omega
 ·simp -implicitDefEqProofs (maxDischargeDepth:=9) (maxSteps:=1000000) [Nat.add_assoc,ze,zq,zt,zr,zd,zp,zs,zy,asInt,zn,zz,sub,zl,zu,za,zk,zb,zj,zg,zh,zf,zA,zw,zo,zm,zi,Int.natCast_inj,f24_ac,eA,eI,h,uH]
  omega
/-- How far the first one is. -/
def idxOf {α:Type} (p:α→Bool) (l:List α):Int:=if l.any p then (l.findIdx p:Int) else -1
theorem idx_hit {α:Type} {p:α→Bool}:∀{l:List α} {i:Nat} (h:i<l.length),(∀a∈l.take i,p a=false)→p l[i]=true→idxOf p l=i
 | a::l,0,_,_,hp=>by
  simp only [List.getElem_cons_zero] at hp
  simp [idxOf,List.findIdx_cons,hp]
 | a::l,i+1,h,ht,hp=>by
  have h0:p a=false:=ht a (by simp)
  have ih:=idx_hit (p:=p) (l:=l) (i:=i) (by simpa using h) (fun b hb=>ht b (by simp [hb])) (by simpa using hp)
  unfold idxOf at ih ⊢
  by_cases hany:l.any p=true
  ·rw [if_pos hany] at ih
   rw [if_pos (by simp [hany]),List.findIdx_cons,h0]
   simp only [cond_false]
   omega
  ·rw [if_neg hany] at ih
   omega
theorem idx_none {α:Type} {p:α→Bool} {l:List α} (h:∀a∈l,p a=false):idxOf p l=-1:=by
 unfold idxOf
 rw [if_neg]
 intro h'
 obtain ⟨a,ha,hp⟩:=List.any_eq_true.1 h'
 rw [h a ha] at hp
 cases hp
theorem idx_nonneg {α:Type} (p:α→Bool) (l:List α):decide (0≤idxOf p l)=l.any p:=by
 unfold idxOf
 split
 ·rename_i h; rw [h]; simp
 ·rename_i h; simp only [Bool.not_eq_true] at h; rw [h]; rfl
theorem take_no {α:Type} {p:α→Bool} {l:List α} {i:Nat} (h:i<l.length) (ht:∀a∈l.take i,p a=false) (hp:p l[i]=false):∀a∈l.take (i+1),p a=false:=by
 intro a ha
 rw [List.take_succ_eq_append_getElem h] at ha
 rcases List.mem_append.1 ha with ha | ha
 ·exact ht a ha
 ·rw [List.mem_singleton.1 ha]; exact hp
def e24:List V→Option V
 | [.agg [.str n,l]]=>(dI l).map fun x=>.bool (uH ⟨n,x⟩)
 | _=>none
theorem t24:∀args v,e24 args=some v→zx Tryz.prog zB 13 args v:=fun args v h=>by
 unfold e24 at h
 split at h
 ·simp only [Option.map_eq_some_iff] at h
  obtain ⟨x,hx,rfl⟩:=h
  rw [dI_eq hx]
  exact p24 ⟨_,x⟩
 ·cases h
theorem e24_at (a:Alt):e24 [.agg [.str a.name,.list (a.args.map vI)]]=some (.bool (uH a)):=by simp [e24]
theorem p41 (l:List Alt) (hl:l.length≤1000):zx Tryz.prog zB 33 [.list (l.map eA),.func (.func 13) [] []] (.int .i64 (idxOf uH l)):=by
 have hc:=yn (e:=[(13,e24)]) (f:=[]) (.cons t24 .nil) .nil
 refine zx.cfg (cfg:=st [(13,e24)] []) rfl ?_
 refine zM (sl:=true) hc (zW hc) yi Tryz.func33 f41_eq f41_nt f41_fits (by simp) (by simp) ?_
 simp -implicitDefEqProofs (maxDischargeDepth:=9) (maxSteps:=1000000) [Nat.add_assoc,ze,zq,zt,zr,zd,zp,zs,zy,asInt,zn,zz,sub,zl,zu,za,zk,zb,zj,zg,zh,zf,zA,zw,zo,zm,zi,Int.natCast_inj,f41_ac]
 refine zO (α:=Nat) (fun i=>[(0,.list (l.map eA)),(1,.func (.func 13) [] []),(7,.int .i64 l.length),(8,.int .i64 i)]) (fun i s=>s.wf∧i≤l.length∧(∀a∈l.take i,uH a=false)) (fun i=>l.length - i) 0 f41_l0_fits (by simp) (by simp) ?_
 rintro i s ⟨hw,hi,ht⟩
 rcases Nat.lt_or_ge i l.length with h | h
 ·have e1:=List.getElem?_eq_getElem h
  have e3:IntKind.i64.wrap ((i:Int)+1)=((i+1:Nat):Int):=zN (by omega) (by omega)
  have e4:=e24_at l[i]
  simp -implicitDefEqProofs (maxDischargeDepth:=9) (maxSteps:=1000000) [Nat.add_assoc,ze,zq,zt,zr,zd,zp,zs,zy,asInt,zn,zz,sub,zl,zu,za,zk,zb,zj,zg,zh,zf,zA,zw,zo,zm,zi,Int.natCast_inj,f41_l0,h,hw,e1,e3,e4,eA,eI,zF]
  exact ⟨fun hp=>idx_hit h ht hp,fun hp=>⟨i+1,by omega,⟨by omega,take_no h ht hp⟩,by simp⟩⟩
 ·have:i=l.length:=by omega
  subst this
  simp -implicitDefEqProofs (maxDischargeDepth:=9) (maxSteps:=1000000) [Nat.add_assoc,ze,zq,zt,zr,zd,zp,zs,zy,asInt,zn,zz,sub,zl,zu,za,zk,zb,zj,zg,zh,zf,zA,zw,zo,zm,zi,Int.natCast_inj,f41_l0,hw]
  exact idx_none (by simpa using ht)
def e41:List V→Option V
 | [.list l,.func (.func 13) [] []]=>(dAs l).bind fun l=>if l.length≤1000 then some (.int .i64 (idxOf uH l)) else none
 | _=>none
theorem t41:∀args v,e41 args=some v→zx Tryz.prog zB 33 args v:=fun args v h=>by
 unfold e41 at h
 split at h
 ·simp only [Option.bind_eq_some_iff] at h
  obtain ⟨l,hl,h⟩:=h
  obtain rfl:=dAs_eq hl
  split at h
  ·rename_i h1; injection h with h; subst h; exact p41 l h1
  ·cases h
 ·cases h
/-- ContainsFunc of alternatives. -/
theorem p23 (l:List Alt) (hl:l.length≤1000):zx Tryz.prog zB 12 [.list (l.map eA),.func (.func 13) [] []] (.bool (l.any uH)):=by
 have hc:=yn (e:=[(33,e41)]) (f:=[]) (.cons t41 .nil) .nil
 refine zx.cfg (cfg:=st [(33,e41)] []) rfl ?_
 refine zM (sl:=true) hc (zW hc) yi Tryz.func12 f23_eq f23_nt f23_fits (by simp) (by simp) ?_
 have h1:e41 [.list (l.map eA),.func (.func 13) [] []]=some (.int .i64 (idxOf uH l)):=by simp [e41,hl]
 have h2:=idx_nonneg uH l
 simp -implicitDefEqProofs (maxDischargeDepth:=9) (maxSteps:=1000000) [Nat.add_assoc,ze,zq,zt,zr,zd,zp,zs,zy,asInt,zn,zz,sub,zl,zu,za,zk,zb,zj,zg,zh,zf,zA,zw,zo,zm,zi,Int.natCast_inj,f23_ac,zF,h1]
 exact h2.symm
def e23:List V→Option V
 | [.list l,.func (.func 13) [] []]=>(dAs l).bind fun l=>if l.length≤1000 then some (.bool (l.any uH)) else none
 | _=>none
theorem t23:∀args v,e23 args=some v→zx Tryz.prog zB 12 args v:=fun args v h=>by
 unfold e23 at h
 split at h
 ·simp only [Option.bind_eq_some_iff] at h
  obtain ⟨l,hl,h⟩:=h
  obtain rfl:=dAs_eq hl
  split at h
  ·rename_i h1; injection h with h; subst h; exact p23 l h1
  ·cases h
 ·cases h
def oneX (x:Inst):Bool:=decide (x.alts.length≤4) && (decide (x.modes.length≤4) && !x.alts.any uH)
theorem p13 (x:Inst):zx Tryz.prog zB 5 [eX x] (.bool (oneX x)):=by
 have hc:=yn (e:=[(12,e23)]) (f:=[]) (.cons t23 .nil) .nil
 refine zx.cfg (cfg:=st [(12,e23)] []) rfl ?_
 refine zM (sl:=true) hc (zW hc) yi Tryz.func5 f13_eq f13_nt f13_fits (by simp) (by simp) ?_
 by_cases h1:x.alts.length≤4
 ·have h3:e23 [.list (x.alts.map eA),.func (.func 13) [] []]=some (.bool (x.alts.any uH)):=by
   have:x.alts.length≤1000:=by omega
   simp [e23,this]
  have h1':(x.alts.length:Int)≤4:=by omega
  by_cases h2:x.modes.length≤4
  ·have h2':(x.modes.length:Int)≤4:=by omega
   simp -implicitDefEqProofs (maxDischargeDepth:=9) (maxSteps:=1000000) [Nat.add_assoc,ze,zq,zt,zr,zd,zp,zs,zy,asInt,zn,zz,sub,zl,zu,za,zk,zb,zj,zg,zh,zf,zA,zw,zo,zm,zi,Int.natCast_inj,f13_ac,eX,zF,h1,h2,h1',h2',h3,oneX]
  ·have h2':¬(x.modes.length:Int)≤4:=by omega
   simp -implicitDefEqProofs (maxDischargeDepth:=9) (maxSteps:=1000000) [Nat.add_assoc,ze,zq,zt,zr,zd,zp,zs,zy,asInt,zn,zz,sub,zl,zu,za,zk,zb,zj,zg,zh,zf,zA,zw,zo,zm,zi,Int.natCast_inj,f13_ac,eX,zF,h1,h2,h1',h2',h3,oneX]
 ·have h1':¬(x.alts.length:Int)≤4:=by omega
  simp -implicitDefEqProofs (maxDischargeDepth:=9) (maxSteps:=1000000) [Nat.add_assoc,ze,zq,zt,zr,zd,zp,zs,zy,asInt,zn,zz,sub,zl,zu,za,zk,zb,zj,zg,zh,zf,zA,zw,zo,zm,zi,Int.natCast_inj,f13_ac,eX,zF,h1,h1',oneX]
end Go.Proofs.YtchlfjhbijmdiaaGreatDoor.Ai

namespace Go.Proofs.YtchlfjhbijmdiaaGreatDoor.Ai
open Go.Proofs
set_option maxRecDepth 100000
set_option maxHeartbeats 1000000

def dM:V→Option (Int×Int)
 | .agg [.int .i64 a,.int .i64 b]=>some (a,b)
 | _=>none
def dMs:List V→Option (List (Int×Int))
 | []=>some []
 | v::l=>match dM v,dMs l with
  | some a,some r=>some (a::r)
  | _,_=>none
theorem dM_eq {v:V} {a:Int×Int} (h:dM v=some a):v=eM a:=by
 unfold dM at h
 split at h
 ·injection h with h; subst h; rfl
 ·cases h
@[simp] theorem dM_eM (a:Int×Int):dM (eM a)=some a:=rfl
theorem dMs_eq:∀{l:List V} {r:List (Int×Int)},dMs l=some r→l=r.map eM
 | [],r,h=>by injection h with h; subst h; rfl
 | v::l,r,h=>by
  unfold dMs at h
  split at h
  ·rename_i a r' h1 h2
   injection h with h; subst h
   rw [dM_eq h1,dMs_eq h2]; rfl
  ·cases h
@[simp] theorem dMs_map:∀l:List (Int×Int),dMs (l.map eM)=some l
 | []=>rfl
 | a::l=>by simp [dMs,dMs_map l]
def dX:V→Option Inst
 | .agg [.int .i64 k,.list al,.list ml,.int .i64 d]=>match dAs al,dMs ml with
  | some a,some m=>some ⟨k,a,m,d⟩
  | _,_=>none
 | _=>none
theorem tc {v:V} {x:Inst} (h:dX v=some x):v=eX x:=by
 unfold dX at h
 split at h
 ·split at h
  ·rename_i h1 h2
   injection h with h; subst h
   rw [dAs_eq h1,dMs_eq h2]; rfl
  ·cases h
 ·cases h
@[simp] theorem dX_eX (x:Inst):dX (eX x)=some x:=by simp [dX,eX,vI]
def dXs:List V→Option (List Inst)
 | []=>some []
 | v::l=>match dX v,dXs l with
  | some a,some r=>some (a::r)
  | _,_=>none
theorem yT:∀{l:List V} {r:List Inst},dXs l=some r→l=r.map eX
 | [],r,h=>by injection h with h; subst h; rfl
 | v::l,r,h=>by
  unfold dXs at h
  split at h
  ·rename_i a r' h1 h2
   injection h with h; subst h
   rw [tc h1,yT h2]; rfl
  ·cases h
@[simp] theorem xJ:∀l:List Inst,dXs (l.map eX)=some l
 | []=>rfl
 | a::l=>by simp [dXs,xJ l]

def e13:List V→Option V:=fun args=>(arg1 dX args).map fun x=>.bool (oneX x)
theorem t13:∀args v,e13 args=some v→zx Tryz.prog zB 5 args v:=fun args v h=>by
 unfold e13 at h
 simp only [Option.map_eq_some_iff] at h
 obtain ⟨x,hx,rfl⟩:=h
 obtain ⟨a,rfl,ha⟩:=arg1_eq hx
 rw [tc ha]
 exact p13 x
theorem e13_at (x:Inst):e13 [.agg [vI x.kind,.list (x.alts.map eA),.list (x.modes.map eM),vI x.det]]=some (.bool (oneX x)):=by
 have:e13 [eX x]=some (.bool (oneX x)):=by simp [e13]
 exact this
theorem p12 (x:Inst):zx Tryz.prog zB 11 [eX x] (.bool (!oneX x)):=by
 have hc:=yn (e:=[(5,e13)]) (f:=[]) (.cons t13 .nil) .nil
 refine zx.cfg (cfg:=st [(5,e13)] []) rfl ?_
 refine zM (sl:=true) hc (zW hc) yi Tryz.func11 f12_eq f12_nt f12_fits (by simp) (by simp) ?_
 have h:=e13_at x
 simp -implicitDefEqProofs (maxDischargeDepth:=9) (maxSteps:=1000000) [Nat.add_assoc,ze,zq,zt,zr,zd,zp,zs,zy,asInt,zn,zz,sub,zl,zu,za,zk,zb,zj,zg,zh,zf,zA,zw,zo,zm,zi,Int.natCast_inj,f12_ac,eX,zF,h]
def e12:List V→Option V:=fun args=>(arg1 dX args).map fun x=>.bool (!oneX x)
theorem t12:∀args v,e12 args=some v→zx Tryz.prog zB 11 args v:=fun args v h=>by
 unfold e12 at h
 simp only [Option.map_eq_some_iff] at h
 obtain ⟨x,hx,rfl⟩:=h
 obtain ⟨a,rfl,ha⟩:=arg1_eq hx
 rw [tc ha]
 exact p12 x
theorem e12_at (x:Inst):e12 [.agg [vI x.kind,.list (x.alts.map eA),.list (x.modes.map eM),vI x.det]]=some (.bool (!oneX x)):=by
 have:e12 [eX x]=some (.bool (!oneX x)):=by simp [e12]
 exact this
def badX (x:Inst):Bool:=!oneX x
theorem p22 (l:List Inst) (hl:l.length≤1000):zx Tryz.prog zB 32 [.list (l.map eX),.func (.func 11) [] []] (.int .i64 (idxOf badX l)):=by
 have hc:=yn (e:=[(11,e12)]) (f:=[]) (.cons t12 .nil) .nil
 refine zx.cfg (cfg:=st [(11,e12)] []) rfl ?_
 refine zM (sl:=true) hc (zW hc) yi Tryz.func32 f22_eq f22_nt f22_fits (by simp) (by simp) ?_
 simp -implicitDefEqProofs (maxDischargeDepth:=9) (maxSteps:=1000000) [Nat.add_assoc,ze,zq,zt,zr,zd,zp,zs,zy,asInt,zn,zz,sub,zl,zu,za,zk,zb,zj,zg,zh,zf,zA,zw,zo,zm,zi,Int.natCast_inj,f22_ac]
 refine zO (α:=Nat) (fun i=>[(0,.list (l.map eX)),(1,.func (.func 11) [] []),(7,.int .i64 l.length),(8,.int .i64 i)]) (fun i s=>s.wf∧i≤l.length∧(∀a∈l.take i,badX a=false)) (fun i=>l.length - i) 0 f22_l0_fits (by simp) (by simp) ?_
 rintro i s ⟨hw,hi,ht⟩
 rcases Nat.lt_or_ge i l.length with h | h
 ·have e1:=List.getElem?_eq_getElem h
  have e3:IntKind.i64.wrap ((i:Int)+1)=((i+1:Nat):Int):=zN (by omega) (by omega)
  have e4:=e12_at l[i]
  simp -implicitDefEqProofs (maxDischargeDepth:=9) (maxSteps:=1000000) [Nat.add_assoc,ze,zq,zt,zr,zd,zp,zs,zy,asInt,zn,zz,sub,zl,zu,za,zk,zb,zj,zg,zh,zf,zA,zw,zo,zm,zi,Int.natCast_inj,f22_l0,h,hw,e1,e3,e4,eX,zF]
  refine ⟨fun hp=>idx_hit h ht (by simp [badX,hp]),fun hp=>⟨i+1,by omega,⟨by omega,take_no h ht (by simp [badX,hp])⟩,by simp⟩⟩
 ·have:i=l.length:=by omega
  subst this
  simp -implicitDefEqProofs (maxDischargeDepth:=9) (maxSteps:=1000000) [Nat.add_assoc,ze,zq,zt,zr,zd,zp,zs,zy,asInt,zn,zz,sub,zl,zu,za,zk,zb,zj,zg,zh,zf,zA,zw,zo,zm,zi,Int.natCast_inj,f22_l0,hw]
  exact idx_none (by simpa using ht)
def e22:List V→Option V
 | [.list l,.func (.func 11) [] []]=>(dXs l).bind fun l=>if l.length≤1000 then some (.int .i64 (idxOf badX l)) else none
 | _=>none
theorem t22:∀args v,e22 args=some v→zx Tryz.prog zB 32 args v:=fun args v h=>by
 unfold e22 at h
 split at h
 ·simp only [Option.bind_eq_some_iff] at h
  obtain ⟨l,hl,h⟩:=h
  obtain rfl:=yT hl
  split at h
  ·rename_i h1; injection h with h; subst h; exact p22 l h1
  ·cases h
 ·cases h
theorem p11 (l:List Inst) (hl:l.length≤1000):zx Tryz.prog zB 10 [.list (l.map eX),.func (.func 11) [] []] (.bool (l.any badX)):=by
 have hc:=yn (e:=[(32,e22)]) (f:=[]) (.cons t22 .nil) .nil
 refine zx.cfg (cfg:=st [(32,e22)] []) rfl ?_
 refine zM (sl:=true) hc (zW hc) yi Tryz.func10 f11_eq f11_nt f11_fits (by simp) (by simp) ?_
 have h1:e22 [.list (l.map eX),.func (.func 11) [] []]=some (.int .i64 (idxOf badX l)):=by simp [e22,hl]
 have h2:=idx_nonneg badX l
 simp -implicitDefEqProofs (maxDischargeDepth:=9) (maxSteps:=1000000) [Nat.add_assoc,ze,zq,zt,zr,zd,zp,zs,zy,asInt,zn,zz,sub,zl,zu,za,zk,zb,zj,zg,zh,zf,zA,zw,zo,zm,zi,Int.natCast_inj,f11_ac,zF,h1]
 exact h2.symm
def e11:List V→Option V
 | [.list l,.func (.func 11) [] []]=>(dXs l).bind fun l=>if l.length≤1000 then some (.bool (l.any badX)) else none
 | _=>none
theorem t11:∀args v,e11 args=some v→zx Tryz.prog zB 10 args v:=fun args v h=>by
 unfold e11 at h
 split at h
 ·simp only [Option.bind_eq_some_iff] at h
  obtain ⟨l,hl,h⟩:=h
  obtain rfl:=yT hl
  split at h
  ·rename_i h1; injection h with h; subst h; exact p11 l h1
  ·cases h
 ·cases h
def few (l:List Inst):Bool:=decide (l.length≤12) && !l.any badX
theorem p4 (l:List Inst):zx Tryz.prog zB 4 [.list (l.map eX)] (.bool (few l)):=by
 have hc:=yn (e:=[(10,e11)]) (f:=[]) (.cons t11 .nil) .nil
 refine zx.cfg (cfg:=st [(10,e11)] []) rfl ?_
 refine zM (sl:=true) hc (zW hc) yi Tryz.func4 f4_eq f4_nt f4_fits (by simp) (by simp) ?_
 by_cases h:l.length≤12
 ·have h':(l.length:Int)≤12:=by omega
  have h1:e11 [.list (l.map eX),.func (.func 11) [] []]=some (.bool (l.any badX)):=by
   have:l.length≤1000:=by omega
   simp [e11,this]
  simp -implicitDefEqProofs (maxDischargeDepth:=9) (maxSteps:=1000000) [Nat.add_assoc,ze,zq,zt,zr,zd,zp,zs,zy,asInt,zn,zz,sub,zl,zu,za,zk,zb,zj,zg,zh,zf,zA,zw,zo,zm,zi,Int.natCast_inj,f4_ac,zF,h1,h,h',few]
 ·have h':¬(l.length:Int)≤12:=by omega
  simp -implicitDefEqProofs (maxDischargeDepth:=9) (maxSteps:=1000000) [Nat.add_assoc,ze,zq,zt,zr,zd,zp,zs,zy,asInt,zn,zz,sub,zl,zu,za,zk,zb,zj,zg,zh,zf,zA,zw,zo,zm,zi,Int.natCast_inj,f4_ac,h,h',few]
end Go.Proofs.YtchlfjhbijmdiaaGreatDoor.Ai

namespace Go.Proofs.YtchlfjhbijmdiaaGreatDoor.Ai
open Go.Proofs
/-- What Check says of the arguments: they are indices, and few. -/
def goodV (l:List Inst):Prop:=∀x∈l,x.alts.length≤1000∧∀a∈x.alts,a.args.length≤1000∧∀k∈a.args,0≤k∧k<l.length
end Go.Proofs.YtchlfjhbijmdiaaGreatDoor.Ai

namespace Go.Proofs.YtchlfjhbijmdiaaGreatDoor.Ai
open Go.Proofs
set_option maxRecDepth 100000

/-! the search for circles, in plain words -/
def zR (x:Inst):List Int:=x.modes.flatMap fun m=>[m.1,m.2]
def iAt (b:List Int) (i:Int):Int:=(b[i.toNat]?).getD 0
def lkL (f:List Int→Int→Bool×List Int):List Int→Int→List Int→Int×List Int
 | [],_,b=>(-1,b)
 | k::ks,j,b=>if (f b k).1=true then (j,(f b k).2) else lkL f ks (j+1) (f b k).2
def lk (l:List Inst):Nat→List Int→Int→Bool×List Int
 | 0,b,_=>(false,b)
 | n+1,b,i =>
  if iAt b i=2 then (false,b) else if iAt b i=1 then (true,b) else
  match l[i.toNat]? with
  | none=>(false,b)
  | some x=>if x.kind=5 then
    if 0≤(lkL (lk l n) (zR x) 0 (b.set i.toNat 1)).1 then (true,(lkL (lk l n) (zR x) 0 (b.set i.toNat 1)).2) else (false,(lkL (lk l n) (zR x) 0 (b.set i.toNat 1)).2.set i.toNat 2)
   else (false,b)
/-- What the state of a search says. -/
def Sn (l:List Inst) (b:List Int):Prop:=b.length=l.length∧∀(i:Nat) x,l[i]?=some x→iAt b i=0∨((iAt b i=1∨iAt b i=2)∧x.kind=5)
theorem wW (b:List Int) (i:Nat) (v:Int) (j:Int):iAt (b.set i v) j=if j.toNat=i∧i<b.length then v else iAt b j:=by
 unfold iAt
 by_cases h:j.toNat=i
 ·subst h
  by_cases hl:j.toNat<b.length
  ·simp [hl]
  ·simp [hl,List.getElem?_eq_none (Nat.le_of_not_lt hl)]
 ·have:¬i=j.toNat:=fun e=>h e.symm
  simp [h,List.getElem?_set,this]
theorem sn_set {l:List Inst} {b:List Int} (h:Sn l b) {i:Nat} {x:Inst} (hx:l[i]?=some x) (hk:x.kind=5) {v:Int} (hv:v=1∨v=2):Sn l (b.set i v):=by
 refine ⟨by simpa using h.1,fun j y hy=>?_⟩
 rw [wW]
 split
 ·rename_i hj
  rw [Int.toNat_natCast] at hj
  rw [hj.1,hx] at hy
  injection hy with hy
  subst hy
  exact .inr ⟨hv,hk⟩
 ·exact h.2 j y hy
theorem lkL_inv {f:List Int→Int→Bool×List Int} {p:List Int→Prop} (hf:∀b k,p b→p (f b k).2):∀(ks:List Int) (j:Int) (b:List Int),p b→p (lkL f ks j b).2
 | [],_,b,h=>h
 | k::ks,j,b,h=>by
  unfold lkL
  split
  ·exact hf b k h
  ·exact lkL_inv hf ks (j+1) _ (hf b k h)
theorem lk_sn {l:List Inst}:∀(n:Nat) (b:List Int) (i:Int),Sn l b→Sn l (lk l n b i).2
 | 0,b,i,h=>h
 | n+1,b,i,h=>by
  unfold lk
  split
  ·exact h
  split
  ·exact h
  split
  ·exact h
  rename_i x hx
  split
  ·rename_i hk
   have hs:=lkL_inv (lk_sn n) (zR x) 0 _ (sn_set h hx hk (.inl rfl))
   split
   ·exact hs
   ·exact sn_set hs hx hk (.inr rfl)
  ·exact h
theorem count_le_set {b:List Int} {i:Nat} {v:Int} (hv:¬v=0):(b.set i v).count 0≤b.count 0:=by
 by_cases hi:i<b.length
 ·rw [List.count_set hi]
  have:(v == 0)=false:=by simpa using hv
  simp only [this]
  split <;> simp
 ·rw [List.set_eq_of_length_le (by omega)]; exact Nat.le_refl _
theorem vY {b:List Int} {i:Nat} {v:Int} (hv:¬v=0) (hi:i<b.length) (h0:iAt b i=0):(b.set i v).count 0+1=b.count 0:=by
 rw [List.count_set hi]
 have:(v == 0)=false:=by simpa using hv
 have h:b[i]=0:=by simpa [iAt,List.getElem?_eq_getElem hi] using h0
 have hc:0<b.count 0:=List.count_pos_iff.2 (h ▸ List.getElem_mem hi)
 simp only [this,h]
 simp
 omega
theorem wm {l:List Inst}:∀(n:Nat) (m:Nat) (b:List Int) (i:Int),b.count 0≤m→(lk l n b i).2.count 0≤m
 | 0,m,b,i,h=>h
 | n+1,m,b,i,h=>by
  unfold lk
  split
  ·exact h
  split
  ·exact h
  split
  ·exact h
  rename_i x hx
  split
  ·have hs:=lkL_inv (f:=lk l n) (p:=fun b=>b.count 0≤m) (fun b k=>wm n m b k) (zR x) 0 (b.set i.toNat 1) (Nat.le_trans (count_le_set (by omega)) h)
   split
   ·exact hs
   ·exact Nat.le_trans (count_le_set (by omega)) hs
  ·exact h
theorem lkL_sn {l:List Inst} {n:Nat} {ks:List Int} {j:Int} {b:List Int} (h:Sn l b):Sn l (lkL (lk l n) ks j b).2:=lkL_inv (lk_sn n) ks j b h
theorem lkL_hit {f:List Int→Int→Bool×List Int} {ks:List Int} {i:Nat} {b:List Int} (h:i<ks.length) (hp:(f b ks[i]).1=true) (j:Int):lkL f (ks.drop i) j b=(j,(f b ks[i]).2):=by
 rw [List.drop_eq_getElem_cons h,lkL,if_pos hp]
theorem lkL_miss {f:List Int→Int→Bool×List Int} {ks:List Int} {i:Nat} {b:List Int} (h:i<ks.length) (hp:(f b ks[i]).1=false) (j:Int):lkL f (ks.drop i) j b=lkL f (ks.drop (i+1)) (j+1) (f b ks[i]).2:=by
 rw [List.drop_eq_getElem_cons h,lkL,if_neg (by rw [hp]; decide)]
theorem lkL_end {f:List Int→Int→Bool×List Int} {ks:List Int} {b:List Int} (j:Int):lkL f (ks.drop ks.length) j b=(-1,b):=by
 rw [List.drop_length]; rfl
/-- What Check says of the modes: they are indices, and few. -/
def tC (l:List Inst):Prop:=∀x∈l,x.modes.length≤400∧∀k∈zR x,0≤k∧k<l.length
def idxs (l:List Inst):List Int:=(List.range l.length).map fun i:Nat=>(i:Int)
def circ (l:List Inst):Bool:=decide (0≤(lkL (lk l 20) (idxs l) 0 (List.replicate l.length 0)).1)
theorem yy (x:Inst):(zR x).length=2*x.modes.length:=by
 unfold zR
 induction x.modes with
 | nil=>rfl
 | cons a l ih=>simp [ih]; omega
theorem vI_inj {a b:Int} (h:vI a=vI b):a=b:=by simpa [vI] using h
theorem wy:∀{l m:List Int},l.map vI=m.map vI→l=m
 | [],[],_=>rfl
 | [],_::_,h=>by simp at h
 | _::_,[],h=>by simp at h
 | a::l,b::m,h=>by
  simp only [List.map_cons,List.cons.injEq] at h
  rw [vI_inj h.1,wy h.2]

/-! functions told by a relation -/
open Classical in
noncomputable def ofD (D:List V→S→V→S→Prop) (args:List V) (s:S):Option (V×S):=if h:∃p:V×S,D args s p.1 p.2 then some (Classical.choose h) else none
theorem ofD_inv {D:List V→S→V→S→Prop} {args:List V} {s:S} {v:V} {s2:S} (h:ofD D args s=some (v,s2)):D args s v s2:=by
 unfold ofD at h
 split at h
 ·rename_i he
  have:=Classical.choose_spec he
  injection h with h
  rw [h] at this
  exact this
 ·cases h
theorem ofD_at {D:List V→S→V→S→Prop} (hu:∀args s v s2 v' s2',D args s v s2→D args s v' s2'→v=v'∧s2=s2') {args:List V} {s:S} {v:V} {s2:S} (h:D args s v s2):ofD D args s=some (v,s2):=by
 have he:∃p:V×S,D args s p.1 p.2:=⟨(v,s2),h⟩
 unfold ofD
 rw [dif_pos he]
 have:=hu _ _ _ _ _ _ (Classical.choose_spec he) h
 congr 1
 exact Prod.ext this.1 this.2
/-- What is kept of a store, but for one object. -/
def Kp (j:Nat) (s t:S):Prop:=s.next≤t.next∧∀i o,i≠j→s.get i=some o→t.get i=some o
theorem Kp.refl (j:Nat) (s:S):Kp j s s:=⟨Nat.le_refl _,fun _ _ _ h=>h⟩
theorem drop_of {j:Nat} {s t:S} {b:List Int} {ty:TypeId} (hw:s.wf) (hk:Kp j s t) (hj:j<s.next) (h1:t.get j=some (.cells (b.map vI) 0 ty true)):DropK s (s.put j (.cells (b.map vI) 0 ty true)) t:=by
 refine ⟨Nat.le_refl _,fun i o hi=>?_⟩
 rw [S.get_put] at hi
 split at hi
 ·rename_i e
  subst e
  injection hi with hi
  subst hi
  exact ⟨h1,hj,.inr (belL_map vI _ (fun _=>rfl) b)⟩
 ·rename_i e
  refine ⟨hk.2 i o e hi,?_,.inl hi⟩
  rcases Nat.lt_or_ge i s.next with h | h
  ·exact h
  ·rw [hw i h] at hi; cases hi
theorem tM {cfg:Cfg} {f:FuncId} {F:List V→S→Option (V×S)} {args:List V} {s s2:S} {v:V} (ht:cfg.tab f args=none) (hp:cfg.pure f=0) (h:F args s=some (v,s2)):zF cfg (CF1 f F) f args s=some (.val v s2):=by
 unfold zF
 simp [ht,hp,CF1,h]
end Go.Proofs.YtchlfjhbijmdiaaGreatDoor.Ai

namespace Go.Proofs.YtchlfjhbijmdiaaGreatDoor.Ai
open Go.Proofs
set_option maxRecDepth 100000
set_option maxHeartbeats 4000000

theorem seeL_vI {s:S}:∀(x:List Int) (k:Nat),x.length+2≤k→vy k s (x.map vI)=some (x.map vI)
 | [],k+1,_=>by simp [vy]
 | a::x,k+1,h=>by
  simp only [List.length_cons] at h
  obtain ⟨k,rfl⟩:∃m,k=m+1:=⟨k - 1,by omega⟩
  rw [List.map_cons]
  unfold vy
  rw [seeL_vI x (k+1) (by omega)]
  rfl
theorem chunk_vI:∀x:List Int,vo false 1 x.length (x.map vI)=x.map vI
 | []=>rfl
 | a::x=>by simp [vo,chunk_vI x]
theorem see_arrI {s:S} {id n cp:Nat} {t:TypeId} {ex:Bool} {x:List Int} {k:Nat} (hg:s.get id=some (.cells (x.map vI) 0 t ex)) (hn:n=x.length) (hk:x.length+3≤k):see k s (.arr id 0 n 1 false cp)=some (.list (x.map vI)):=by
 obtain ⟨k,rfl⟩:∃m,k=m+1:=⟨k - 1,by omega⟩
 subst hn
 unfold see
 rw [hg]
 simp only [Nat.mul_one,List.drop_zero,List.length_map,Nat.zero_add]
 rw [List.take_of_length_le (by simp),seeL_vI x k (by omega)]
 simp [chunk_vI]

theorem endsX_take (x:Inst) (i:Nat) (h:i<x.modes.length):(x.modes.take (i+1)).flatMap (fun m=>[m.1,m.2])=(x.modes.take i).flatMap (fun m=>[m.1,m.2])++[x.modes[i].1,x.modes[i].2]:=by
 rw [List.take_succ_eq_append_getElem h,List.flatMap_append]; rfl
/-- What was appended so far. -/
def Sl (s:S) (v:V) (L:List Int):Prop:=(v=.nils∧L=[])∨∃id cp,id<s.next∧v=.arr id 0 L.length 1 false cp∧s.get id=some (.cells (L.map vI) 0 3 false)
theorem p39 (x:Inst) (hm:x.modes.length≤400):zx Tryz.prog zB 59 [eX x] (.list ((zR x).map vI)):=by
 have hc:=yn (e:=[]) (f:=[]) .nil .nil
 refine zx.cfg (cfg:=st [] []) rfl ?_
 refine zM (sl:=true) hc (zW hc) yi Tryz.func59 f39_eq f39_nt f39_fits (by simp) (by simp) ?_
 simp -implicitDefEqProofs (maxDischargeDepth:=9) (maxSteps:=1000000) [Nat.add_assoc,ze,zq,zt,zr,zd,zp,zs,zy,asInt,zn,zz,sub,zl,zu,za,zk,zb,zj,zg,zh,zf,zA,zw,zo,zm,zi,Int.natCast_inj,f39_ac,eX]
 refine zO (α:=Nat×V) (fun a=>[(3,a.2),(7,.list (x.modes.map eM)),(8,.int .i64 x.modes.length),(9,.int .i64 a.1)]) (fun a s=>s.wf∧a.1≤x.modes.length∧Sl s a.2 ((x.modes.take a.1).flatMap fun m=>[m.1,m.2])) (fun a=>x.modes.length - a.1) (0,.nils) f39_l0_fits (by simp) ⟨by simp,Nat.zero_le _,.inl ⟨rfl,rfl⟩⟩ ?_
 rintro ⟨i,v⟩ s ⟨hw,hi,ht⟩
 simp only at hi ht ⊢
 rcases Nat.lt_or_ge i x.modes.length with h | h
 ·have e1:=List.getElem?_eq_getElem h
  have e3:IntKind.i64.wrap ((i:Int)+1)=((i+1:Nat):Int):=zN (by omega) (by omega)
  have hL:((x.modes.take i).flatMap fun m=>[m.1,m.2]).length=2*i:=by
   have:=yy ⟨0,[],x.modes.take i,0⟩
   simp only [zR] at this
   rw [this,List.length_take,Nat.min_eq_left hi]
  have hnext:=endsX_take x i h
  generalize hLe:(x.modes.take i).flatMap (fun m=>[m.1,m.2])=L at ht hL hnext
  have hlay:∀(t:S) (a b:Int),xD true t [vI a,vI b]=some ([vI a,vI b],t):=fun t a b=>rfl
  rcases ht with ⟨rfl,rfl⟩ | ⟨id,cp,hid,rfl,hgt⟩
  ·simp -implicitDefEqProofs (maxDischargeDepth:=9) (maxSteps:=1000000) [Nat.add_assoc,ze,zq,zt,zr,zd,zp,zs,zy,asInt,zn,zz,sub,zl,zu,za,zk,zb,zj,zg,zh,zf,zA,zw,zo,zm,zi,Int.natCast_inj,f39_l0,h,hw,e1,e3,eM,hlay]
   refine ⟨i+1,by omega,.arr (s.next+2) 0 2 1 false 0,⟨by omega,.inr ⟨s.next+2,0,by simp,by rw [hnext]; rfl,?_⟩⟩,by simp⟩
   rw [hnext]; simp
  ·have h4:(2*i+2)*8≤140737488355328:=by omega
   have h5:2*i≤140737488355326:=by omega
   have h6:¬id=s.next+1:=by omega
   have h7:¬id=s.next:=by omega
   have h8:((L.map vI).take (2*i))=L.map vI:=List.take_of_length_le (by simp [hL])
   simp -implicitDefEqProofs (maxDischargeDepth:=9) (maxSteps:=1000000) [Nat.add_assoc,ze,zq,zt,zr,zd,zp,zs,zy,asInt,zn,zz,sub,zl,zu,za,zk,zb,zj,zg,zh,zf,zA,zw,zo,zm,zi,Int.natCast_inj,f39_l0,h,hw,e1,e3,eM,hgt,hid,hL,hlay,h4,h5,h6,h7,h8]
   refine ⟨i+1,by omega,.arr (s.next+2) 0 (2*i+2) 1 false (if 2*i+2<cp then cp else 0),⟨by omega,.inr ⟨s.next+2,(if 2*i+2<cp then cp else 0),by simp,by rw [hnext]; simp [hL],?_⟩⟩,by simp⟩
   rw [hnext]; simp
 ·have:i=x.modes.length:=by omega
  subst this
  simp -implicitDefEqProofs (maxDischargeDepth:=9) (maxSteps:=1000000) [Nat.add_assoc,ze,zq,zt,zr,zd,zp,zs,zy,asInt,zn,zz,sub,zl,zu,za,zk,zb,zj,zg,zh,zf,zA,zw,zo,zm,zi,Int.natCast_inj,f39_l0,hw]
  rw [List.take_length] at ht
  rcases ht with ⟨rfl,h0⟩ | ⟨id,cp,hid,rfl,hgt⟩
  ·have:zR x=[]:=h0
   rw [this]
   exact ⟨rfl,rfl⟩
  ·have hl:=yy x
   refine ⟨see_arrI hgt rfl ?_,by simp⟩
   have hf:tV=100000:=rfl
   rw [hl,hf]
   omega
end Go.Proofs.YtchlfjhbijmdiaaGreatDoor.Ai

namespace Go.Proofs.YtchlfjhbijmdiaaGreatDoor.Ai
open Go.Proofs
set_option maxRecDepth 100000
set_option maxHeartbeats 4000000

def e39:List V→Option V:=fun args=>(arg1 dX args).bind fun x=>if x.modes.length≤400 then some (.list ((zR x).map vI)) else none
theorem t39:∀args v,e39 args=some v→zx Tryz.prog zB 59 args v:=fun args v h=>by
 unfold e39 at h
 simp only [Option.bind_eq_some_iff] at h
 obtain ⟨x,hx,h⟩:=h
 obtain ⟨a,rfl,ha⟩:=arg1_eq hx
 rw [tc ha]
 split at h
 ·injection h with h; subst h; exact p39 x ‹_›
 ·cases h
theorem e39_at (x:Inst) (h:x.modes.length≤400):e39 [.agg [vI x.kind,.list (x.alts.map eA),.list (x.modes.map eM),vI x.det]]=some (.list ((zR x).map vI)):=by
 have:e39 [eX x]=some (.list ((zR x).map vI)):=by simp [e39,h]
 exact this
def eC:List (FuncId×(List V→Option V)):=[(59,e39)]
theorem eC_ok:xa Tryz.prog zB eC:=.cons t39 .nil
theorem hcC:(st eC []).Ok Tryz.prog:=yn eC_ok .nil

def stO (b:List Int):O:=.cells (b.map vI) 0 3 true
/-- The store of the search. -/
def InC (l:List Inst) (b:List Int) (s:S):Prop:=s.wf∧3<s.next∧b.length=l.length∧s.get 0=some (.cells [.list (l.map eX)] 0 22 true)∧s.get 1=some (stO b) ∧
 s.get 2=some (.cells [.arr 1 0 l.length 1 false (l.length+1)] 0 37 true)∧s.get 3=some (.cells [.func (.func 73) [] [.ptr 0 0,.ptr 2 0,.ptr 3 0]] 0 86 true)
theorem InC.uniq {l:List Inst} {b b':List Int} {s:S} (h:InC l b s) (h':InC l b' s):b=b':=by
 have:=h.2.2.2.2.1.symm.trans h'.2.2.2.2.1
 simp only [stO,Option.some.injEq,O.cells.injEq,and_true] at this
 exact wy this
theorem InC.put {l:List Inst} {b b':List Int} {s:S} (h:InC l b s) (hb:b'.length=l.length):InC l b' (s.put 1 (stO b')):=by
 obtain ⟨h1,h2,h3,h4,h5,h6,h7⟩:=h
 refine ⟨wf_put' h1 (by omega) _,h2,hb,?_,?_,?_,?_⟩ <;> rw [S.get_put] <;> simp [*]
theorem InC.bump {l:List Inst} {b:List Int} {s:S} (h:InC l b s) (n:Nat):InC l b ⟨s.next+n,s.tr⟩:=by
 obtain ⟨h1,h2,h3,h4,h5,h6,h7⟩:=h
 exact ⟨zX h1 n,by simp only; omega,h3,h4,h5,h6,h7⟩
theorem Kp.put {j:Nat} {s t:S} (h:Kp j s t) (o:O):Kp j s (t.put j o):=⟨h.1,fun i p hi hs=>by rw [S.get_put,if_neg hi]; exact h.2 i p hi hs⟩
theorem Kp.bump {j:Nat} {s t:S} (h:Kp j s t) (n:Nat):Kp j s ⟨t.next+n,t.tr⟩:=⟨by have:=h.1; simp only; omega,h.2⟩
theorem Kp.dropC {l:List Inst} {b:List Int} {s t:S} (hk:Kp 1 s t) (hw:s.wf) (hn:3<s.next) (h:InC l b t):DropK s (s.put 1 (stO b)) t:=drop_of hw hk (by omega) h.2.2.2.2.1

def D38 (l:List Inst) (n:Nat) (args:List V) (s:S) (v:V) (s2:S):Prop:=∃(b:List Int) (i:Nat),args=[.int .i64 i,.ptr 0 0,.ptr 2 0,.ptr 3 0]∧InC l b s∧Sn l b∧b.count 0<n∧i<l.length∧v=.bool (lk l n b i).1∧s2=s.put 1 (stO (lk l n b i).2)
def inds (l:List Inst) (ks:List Int):Prop:=ks.length≤1000∧∀k∈ks,0≤k∧k<l.length
def D60 (l:List Inst) (n:Nat) (args:List V) (s:S) (v:V) (s2:S):Prop:=∃(b ks:List Int),args=[.list (ks.map vI),.func (.func 73) [] [.ptr 0 0,.ptr 2 0,.ptr 3 0]]∧InC l b s∧Sn l b∧b.count 0<n∧inds l ks∧v=.int .i64 (lkL (lk l n) ks 0 b).1∧s2=s.put 1 (stO (lkL (lk l n) ks 0 b).2)
def D33 (l:List Inst) (n:Nat) (args:List V) (s:S) (v:V) (s2:S):Prop:=∃(b ks:List Int),args=[.list (ks.map vI),.func (.func 73) [] [.ptr 0 0,.ptr 2 0,.ptr 3 0]]∧InC l b s∧Sn l b∧b.count 0<n∧inds l ks∧v=.bool (decide (0≤(lkL (lk l n) ks 0 b).1))∧s2=s.put 1 (stO (lkL (lk l n) ks 0 b).2)
theorem D38_u {l:List Inst} {n:Nat}:∀args s v s2 v' s2',D38 l n args s v s2→D38 l n args s v' s2'→v=v'∧s2=s2':=by
 rintro args s v s2 v' s2' ⟨b,i,rfl,h,_,_,_,rfl,rfl⟩ ⟨b',i',e,h',_,_,_,rfl,rfl⟩
 obtain rfl:=h.uniq h'
 have:i=i':=by simp only [List.cons.injEq,V.int.injEq,true_and] at e; omega
 subst this
 exact ⟨rfl,rfl⟩
theorem D60_u {l:List Inst} {n:Nat}:∀args s v s2 v' s2',D60 l n args s v s2→D60 l n args s v' s2'→v=v'∧s2=s2':=by
 rintro args s v s2 v' s2' ⟨b,i,rfl,h,_,_,_,rfl,rfl⟩ ⟨b',i',e,h',_,_,_,rfl,rfl⟩
 obtain rfl:=h.uniq h'
 simp only [List.cons.injEq,V.list.injEq,and_true] at e
 obtain rfl:=wy e
 exact ⟨rfl,rfl⟩
theorem D33_u {l:List Inst} {n:Nat}:∀args s v s2 v' s2',D33 l n args s v s2→D33 l n args s v' s2'→v=v'∧s2=s2':=by
 rintro args s v s2 v' s2' ⟨b,i,rfl,h,_,_,_,rfl,rfl⟩ ⟨b',i',e,h',_,_,_,rfl,rfl⟩
 obtain rfl:=h.uniq h'
 simp only [List.cons.injEq,V.list.injEq,and_true] at e
 obtain rfl:=wy e
 exact ⟨rfl,rfl⟩
noncomputable abbrev cf38 (l:List Inst) (n:Nat):CF:=CF1 73 (ofD (D38 l n))
noncomputable abbrev cf60 (l:List Inst) (n:Nat):CF:=CF1 81 (ofD (D60 l n))
noncomputable abbrev cf33 (l:List Inst) (n:Nat):CF:=CF1 53 (ofD (D33 l n))
theorem call38 {l:List Inst} {n:Nat} {b:List Int} {s:S} (h:InC l b s) (hs:Sn l b) (hc:b.count 0<n) {k:Int} (h0:0≤k) (h1:k<l.length):zF (st eC []) (cf38 l n) 73 [vI k,.ptr 0 0,.ptr 2 0,.ptr 3 0] s=some (.val (.bool (lk l n b k).1) (s.put 1 (stO (lk l n b k).2))):=by
 obtain ⟨i,rfl⟩:∃i:Nat,k=i:=⟨k.toNat,by omega⟩
 exact tM (by simp [eC]) (by simp [zm]) (ofD_at D38_u ⟨b,i,rfl,h,hs,hc,by omega,rfl,rfl⟩)
theorem call60 {l:List Inst} {n:Nat} {b:List Int} {s:S} (h:InC l b s) (hs:Sn l b) (hc:b.count 0<n) {ks:List Int} (hk:inds l ks):zF (st eC []) (cf60 l n) 81 [.list (ks.map vI),.func (.func 73) [] [.ptr 0 0,.ptr 2 0,.ptr 3 0]] s=some (.val (.int .i64 (lkL (lk l n) ks 0 b).1) (s.put 1 (stO (lkL (lk l n) ks 0 b).2))) :=
 tM (by simp [eC]) (by simp [zm]) (ofD_at D60_u ⟨b,ks,rfl,h,hs,hc,hk,rfl,rfl⟩)
theorem call33 {l:List Inst} {n:Nat} {b:List Int} {s:S} (h:InC l b s) (hs:Sn l b) (hc:b.count 0<n) {ks:List Int} (hk:inds l ks):zF (st eC []) (cf33 l n) 53 [.list (ks.map vI),.func (.func 73) [] [.ptr 0 0,.ptr 2 0,.ptr 3 0]] s=some (.val (.bool (decide (0≤(lkL (lk l n) ks 0 b).1))) (s.put 1 (stO (lkL (lk l n) ks 0 b).2))) :=
 tM (by simp [eC]) (by simp [zm]) (ofD_at D33_u ⟨b,ks,rfl,h,hs,hc,hk,rfl,rfl⟩)
theorem c60 {l:List Inst} {n:Nat} (h38:wv Tryz.prog (st eC []) (cf38 l n)):wv Tryz.prog (st eC []) (cf60 l n):=by
 refine cf_of (sl:=true) (sp:=[]) hcC h38 yi Tryz.func81 f60_eq f60_nt f60_fits ?_
 intro args s v s2 hF hw
 obtain ⟨b,ks,rfl,hC,hS,hc,hk,rfl,rfl⟩:=ofD_inv hF
 refine ⟨by simp,rfl,?_⟩
 have hn:=hC.2.1
 simp -implicitDefEqProofs (maxDischargeDepth:=9) (maxSteps:=1000000) [Nat.add_assoc,ze,zq,zt,zr,zd,zp,zs,zy,asInt,zn,zz,sub,zl,zu,za,zk,zb,zj,zg,zh,zf,zA,zw,zo,zm,zi,Int.natCast_inj,f60_ac]
 refine zO (α:=Nat×List Int) (fun a=>[(0,.list (ks.map vI)),(1,.func (.func 73) [] [.ptr 0 0,.ptr 2 0,.ptr 3 0]),(7,.int .i64 ks.length),(8,.int .i64 a.1)]) (fun a t=>InC l a.2 t∧Sn l a.2∧a.2.count 0<n∧a.1≤ks.length∧lkL (lk l n) ks 0 b=lkL (lk l n) (ks.drop a.1) a.1 a.2∧Kp 1 s t) (fun a=>ks.length - a.1) (0,b) f60_l0_fits (by simp) ⟨hC,hS,hc,Nat.zero_le _,by simp,Kp.refl 1 s⟩ ?_
 rintro ⟨i,b'⟩ t ⟨hC',hS',hc',hi,he,hkp⟩
 simp only at hC' hS' hc' hi he
 have hl:=hk.1
 rcases Nat.lt_or_ge i ks.length with h | h
 ·have e1:=List.getElem?_eq_getElem h
  have e3:IntKind.i64.wrap ((i:Int)+1)=((i+1:Nat):Int):=zN (by omega) (by omega)
  have hkm:=hk.2 _ (List.getElem_mem h)
  have hcall:=call38 hC' hS' hc' hkm.1 hkm.2
  have hSn:=lk_sn n b' ks[i] hS'
  have hcn:=wm (l:=l) n _ b' ks[i] (Nat.le_refl _)
  have hCn:=hC'.put hSn.1
  cases hr:(lk l n b' ks[i]).1 with
  | true =>
   rw [hr] at hcall
   have hh:=lkL_hit h hr (i:Int)
   simp -implicitDefEqProofs (maxDischargeDepth:=9) (maxSteps:=1000000) [Nat.add_assoc,ze,zq,zt,zr,zd,zp,zs,zy,asInt,zn,zz,sub,zl,zu,za,zk,zb,zj,zg,zh,zf,zA,zw,zo,zm,zi,Int.natCast_inj,f60_l0,h,e1,e3,hcall]
   rw [he,hh]
   exact ⟨rfl,(hkp.put _).dropC hw hn hCn⟩
  | false =>
   rw [hr] at hcall
   have hh:=lkL_miss h hr (i:Int)
   simp -implicitDefEqProofs (maxDischargeDepth:=9) (maxSteps:=1000000) [Nat.add_assoc,ze,zq,zt,zr,zd,zp,zs,zy,asInt,zn,zz,sub,zl,zu,za,zk,zb,zj,zg,zh,zf,zA,zw,zo,zm,zi,Int.natCast_inj,f60_l0,h,e1,e3,hcall]
   refine ⟨i+1,by omega,⟨(lk l n b' ks[i]).2,hCn,hSn,by omega,by omega,by rw [he,hh]; simp,hkp.put _⟩,by simp⟩
 ·have:i=ks.length:=by omega
  subst this
  rw [lkL_end] at he
  simp -implicitDefEqProofs (maxDischargeDepth:=9) (maxSteps:=1000000) [Nat.add_assoc,ze,zq,zt,zr,zd,zp,zs,zy,asInt,zn,zz,sub,zl,zu,za,zk,zb,zj,zg,zh,zf,zA,zw,zo,zm,zi,Int.natCast_inj,f60_l0]
  rw [he]
  exact ⟨rfl,hkp.dropC hw hn hC'⟩
theorem c33 {l:List Inst} {n:Nat} (h60:wv Tryz.prog (st eC []) (cf60 l n)):wv Tryz.prog (st eC []) (cf33 l n):=by
 refine cf_of (sl:=true) (sp:=[]) hcC h60 yi Tryz.func53 f33_eq f33_nt f33_fits ?_
 intro args s v s2 hF hw
 obtain ⟨b,ks,rfl,hC,hS,hc,hk,rfl,rfl⟩:=ofD_inv hF
 refine ⟨by simp,rfl,?_⟩
 have hn:=hC.2.1
 have hcall:=call60 hC hS hc hk
 have hd:=((Kp.refl 1 s).put (stO (lkL (lk l n) ks 0 b).2)).dropC hw hn (hC.put (lkL_sn hS).1)
 simp -implicitDefEqProofs (maxDischargeDepth:=9) (maxSteps:=1000000) [Nat.add_assoc,ze,zq,zt,zr,zd,zp,zs,zy,asInt,zn,zz,sub,zl,zu,za,zk,zb,zj,zg,zh,zf,zA,zw,zo,zm,zi,Int.natCast_inj,f33_ac,hcall]
 exact hd
end Go.Proofs.YtchlfjhbijmdiaaGreatDoor.Ai

