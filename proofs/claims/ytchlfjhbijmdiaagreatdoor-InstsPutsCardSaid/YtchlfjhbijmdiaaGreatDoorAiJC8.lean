/- Part of a reckoning of a Go program over abstract values, proved sound against the model. -/
import Derived.Test.YtchlfjhbijmdiaaGreatDoorAiJC7
import Derived.Test.YtchlfjhbijmdiaaGreatDoorAiJB5
set_option linter.unusedSimpArgs false
set_option linter.unusedVariables false
namespace Go.Proofs.YtchlfjhbijmdiaaGreatDoor.Ai
open Go.Proofs
set_option maxRecDepth 100000
set_option maxHeartbeats 4000000

theorem cfok_cfg {P:Program} {cfg cfg':Cfg} {cf:CF} (hf:∀f,cfg'.fn f=cfg.fn f) (hg:cfg'.glob=cfg.glob) (h:wv P cfg cf):wv P cfg' cf:=by
 have hG:∀x,GOk cfg' x→GOk cfg x:=fun x hx g cs hc=>hx g cs (by rw [hg]; exact hc)
 exact ⟨fun x f fn args cargs e s' hfn hx=>h.1 x f fn args cargs e s' (by rw [← hf]; exact hfn) (hG x hx),fun x id args cargs e s' hx=>h.2 x id args cargs e s' (hG x hx)⟩
def e20:List V→Option V
 | [.list l,v]=>(dXs l).bind fun l=>(dX v).map fun x=>.int .i64 (ckX l x)
 | _=>none
theorem t20:∀args v,e20 args=some v→zx Tryz.prog zB 24 args v:=fun args v h=>by
 unfold e20 at h
 split at h
 ·simp only [Option.bind_eq_some_iff,Option.map_eq_some_iff] at h
  obtain ⟨l,hl,x,hx,rfl⟩:=h
  obtain rfl:=yT hl
  rw [tc hx]
  exact p20 l x
 ·cases h
def e9T:List (FuncId×(List V→Option V)):=[(24,e20)]
theorem e9T_ok:xa Tryz.prog zB e9T:=.cons t20 .nil
theorem hc9:(st e9T []).Ok Tryz.prog:=yn e9T_ok .nil
section
variable {cf:CF} {l:List Inst} {b:List Int} {j:Nat} {s:S} {P:AX→Env→S→Prop}
def env9 (l:List Inst) (j:Nat):Env:=[(0,.list (l.map eX)),(3,.int .i64 j)]
theorem b9_0 (hl:l.length≤19) (h:j<l.length) (hR:¬yX l j=0→∀E',yw E' 2=some (.int .i64 (yX l j))→P .ret E' s) (hN:yX l j=0→∀E',zI (env9 l (j+1)) E'→P .normal E' s):yd (st e9T []) cf true [] 38 f9_l0 (env9 l j) s P:=by
 have e1:=List.getElem?_eq_getElem h
 have e3:IntKind.i64.wrap ((j:Int)+1)=((j+1:Nat):Int):=zN (by omega) (by omega)
 have q:zF (st e9T []) cf 24 [.list (l.map eX),.agg [vI l[j].kind,.list (l[j].alts.map eA),.list (l[j].modes.map eM),vI l[j].det]] s=some (.val (.int .i64 (yX l j)) s):=by
  refine zH ?_
  have:e20 [.list (l.map eX),eX l[j]]=some (.int .i64 (ckX l l[j])):=by simp [e20]
  have hi:yX l j=ckX l l[j]:=by simp [yX,e1]
  rw [hi]
  simp only [st_tab,e9T,yB,if_true]
  exact this
 by_cases hz:yX l j=0
 ·simp -implicitDefEqProofs (maxDischargeDepth:=9) (maxSteps:=1000000) [Nat.add_assoc,ze,zq,zt,zr,zd,zp,zs,zy,asInt,zn,zz,sub,zl,zu,za,zk,zb,zj,zg,zh,zf,zA,zw,zo,zm,zi,Int.natCast_inj,env9,f9_l0,h,e1,e3,eX,q,hz]
  exact hN hz _ (by simp [env9])
 ·simp -implicitDefEqProofs (maxDischargeDepth:=9) (maxSteps:=1000000) [Nat.add_assoc,ze,zq,zt,zr,zd,zp,zs,zy,asInt,zn,zz,sub,zl,zu,za,zk,zb,zj,zg,zh,zf,zA,zw,zo,zm,zi,Int.natCast_inj,env9,f9_l0,h,e1,e3,eX,q,hz]
  exact hR hz _ (by simp)
theorem x9_0 (hP:∀E',zI [(0,.list (l.map eX))] E'→P (.exit 0) E' s):yd (st e9T []) cf true [] 38 f9_l0 (env9 l l.length) s P:=by
 simp -implicitDefEqProofs (maxDischargeDepth:=9) (maxSteps:=1000000) [Nat.add_assoc,ze,zq,zt,zr,zd,zp,zs,zy,asInt,zn,zz,sub,zl,zu,za,zk,zb,zj,zg,zh,zf,zA,zw,zo,zm,zi,Int.natCast_inj,env9,f9_l0]
 exact hP _ (by simp)
def env91 (l:List Inst) (j:Nat):Env:=[(0,.list (l.map eX)),(5,.arr 0 0 l.length 1 false (l.length+1)),(6,.int .i64 j)]
theorem b9_1 (hl:l.length≤19) (h:j<l.length) (hC:InR l b s) (hS:Sn l b) (hc:b.count 0<20) (hR:(lk l 20 b j).1=true→∀E' s',yw E' 2=some (.int .i64 13)→P .ret E' s')
  (hN:(lk l 20 b j).1=false→∀E',zI (env91 l (j+1)) E'→P .normal E' (s.put 0 (stO (lk l 20 b j).2))):yd (st e9T []) (cf21 l 20) true [] 38 f9_l1 (env91 l j) s P:=by
 have e3:IntKind.i64.wrap ((j:Int)+1)=((j+1:Nat):Int):=zN (by omega) (by omega)
 have q:zF (st e9T []) (cf21 l 20) 47 [.list (l.map eX),.int .i64 (j:Int),.arr 0 0 l.length 1 false (l.length+1)] s=_:=call21 (e:=e9T) (fun _=>by simp [e9T]) hC hS hc (k:=j) (by omega) (by omega)
 cases hr:(lk l 20 b j).1 with
 | true =>
  rw [hr] at q
  simp -implicitDefEqProofs (maxDischargeDepth:=9) (maxSteps:=1000000) [Nat.add_assoc,ze,zq,zt,zr,zd,zp,zs,zy,asInt,zn,zz,sub,zl,zu,za,zk,zb,zj,zg,zh,zf,zA,zw,zo,zm,zi,Int.natCast_inj,env91,f9_l1,h,e3,q]
  exact hR hr _ _ (by simp)
 | false =>
  rw [hr] at q
  simp -implicitDefEqProofs (maxDischargeDepth:=9) (maxSteps:=1000000) [Nat.add_assoc,ze,zq,zt,zr,zd,zp,zs,zy,asInt,zn,zz,sub,zl,zu,za,zk,zb,zj,zg,zh,zf,zA,zw,zo,zm,zi,Int.natCast_inj,env91,f9_l1,h,e3,q]
  exact hN hr _ (by simp [env91])
theorem x9_1 (hP:∀E',P (.exit 2) E' s):yd (st e9T []) (cf21 l 20) true [] 38 f9_l1 (env91 l l.length) s P:=by
 simp -implicitDefEqProofs (maxDischargeDepth:=9) (maxSteps:=1000000) [Nat.add_assoc,ze,zq,zt,zr,zd,zp,zs,zy,asInt,zn,zz,sub,zl,zu,za,zk,zb,zj,zg,zh,zf,zA,zw,zo,zm,zi,Int.natCast_inj,env91,f9_l1]
 exact hP _
end
theorem p9 (l:List Inst) (hl:l.length≤19):zx Tryz.prog zB 22 [.list (l.map eX)] (.int .i64 (ckT l)):=by
 by_cases h0:vv (yX l) l.length=0
 case neg =>
  refine zx.cfg (cfg:=st e9T []) rfl ?_
  refine zM (sl:=true) hc9 (zW hc9) yi Tryz.func22 f9_eq f9_nt f9_fits (by simp) (by simp) ?_
  have h2:¬(2000:Int)<l.length:=by omega
  simp -implicitDefEqProofs (maxDischargeDepth:=9) (maxSteps:=1000000) [Nat.add_assoc,ze,zq,zt,zr,zd,zp,zs,zy,asInt,zn,zz,sub,zl,zu,za,zk,zb,zj,zg,zh,zf,zA,zw,zo,zm,zi,Int.natCast_inj,f9_ac,h2]
  refine zO (α:=Nat) (env9 l) (fun j s=>s=S.empty∧j≤l.length∧∀i,i<j→yX l i=0) (fun j=>l.length - j) 0 f9_l0_fits (by simp [env9]) ⟨rfl,Nat.zero_le _,fun i h=>by omega⟩ ?_
  rintro j s ⟨rfl,hj,hz⟩
  rcases Nat.lt_or_ge j l.length with h | h
  ·refine b9_0 hl h (fun h1 E' hE'=>?_) fun h1 E' hE'=>?_
   ·have hv:ckT l=yX l j:=by
     have:=wY h hz h1
     unfold ckT; rw [this,if_neg h1]
    simp -implicitDefEqProofs (maxDischargeDepth:=9) (maxSteps:=1000000) [Nat.add_assoc,ze,zq,zt,zr,zd,zp,zs,zy,asInt,zn,zz,sub,zl,zu,za,zk,zb,zj,zg,zh,zf,zA,zw,zo,zm,zi,Int.natCast_inj,hE',hv]
   ·exact ⟨j+1,by omega,⟨rfl,by omega,wn hz h1⟩,hE'⟩
  ·have:j=l.length:=by omega
   subst this
   exact absurd (yM hz) h0
 case pos =>
 have hgm:=(good_of h0).2
 refine zx.cfg (cfg:=st e9T []) rfl ?_
 refine zM (sl:=true) hc9 (cf:=cf21 l 20) (cfok_cfg (cfg:=st [] []) (fun _=>rfl) rfl (c21_all hgm 20)) yi Tryz.func22 f9_eq f9_nt f9_fits (by simp) (by simp) ?_
 have h2:¬(2000:Int)<l.length:=by omega
 have h8:(l.length:Int)*8≤140737488355328:=by omega
 have h9:(l.length:Int)≤140737488355328:=by omega
 simp -implicitDefEqProofs (maxDischargeDepth:=9) (maxSteps:=1000000) [Nat.add_assoc,ze,zq,zt,zr,zd,zp,zs,zy,asInt,zn,zz,sub,zl,zu,za,zk,zb,zj,zg,zh,zf,zA,zw,zo,zm,zi,Int.natCast_inj,f9_ac,h2]
 refine zO (α:=Nat) (env9 l) (fun j s=>s=S.empty∧j≤l.length) (fun j=>l.length - j) 0 f9_l0_fits (by simp [env9]) ⟨rfl,Nat.zero_le _⟩ ?_
 rintro j s ⟨rfl,hj⟩
 rcases Nat.lt_or_ge j l.length with h | h
 ·refine b9_0 hl h (fun h1 E' hE'=>?_) fun h1 E' hE'=>?_
  ·exact absurd (xl h0 j h) h1
  ·exact ⟨j+1,by omega,⟨rfl,by omega⟩,hE'⟩
 ·have:j=l.length:=by omega
  subst this
  refine x9_0 fun E' hE'=>?_
  obtain ⟨g0,_⟩:=hE'
  simp only at g0
  have hz:=zeros_int l.length
  simp -implicitDefEqProofs (maxDischargeDepth:=9) (maxSteps:=1000000) [Nat.add_assoc,ze,zq,zt,zr,zd,zp,zs,zy,asInt,zn,zz,sub,zl,zu,za,zk,zb,zj,zg,zh,zf,zA,zw,zo,zm,zi,Int.natCast_inj,g0,h8,h9]
  refine zO (α:=Nat×List Int) (fun a=>env91 l a.1) (fun a t=>InR l a.2 t∧Sn l a.2∧a.2.count 0<20∧a.1≤l.length∧lkL (lk l 20) (idxs l) 0 (List.replicate l.length 0)=lkL (lk l 20) ((idxs l).drop a.1) a.1 a.2) (fun a=>l.length - a.1) (0,List.replicate l.length 0) f9_l1_fits (by simp [env91]) ⟨⟨S.wf_add S.wf_empty _ _,by simp [S.empty,S.add],by simp,by simp [S.get_add,stO,hz]⟩,sn_zeros l,by simp; omega,Nat.zero_le _,by simp⟩ ?_
  rintro ⟨i,b⟩ t ⟨hC',hS',hc',hi,he⟩
  simp only at hC' hS' hc' hi he
  rcases Nat.lt_or_ge i l.length with h | h
  ·have h':i<(idxs l).length:=by rw [idxs_len]; exact h
   have hii:=idxs_at l i h'
   have hSn:=lk_sn 20 b i hS'
   have hcn:=wm (l:=l) 20 _ b i (Nat.le_refl _)
   have hCn:=hC'.put hSn.1
   refine b9_1 hl h hC' hS' hc' (fun hr E' s' hE'=>?_) fun hr E' hE'=>?_
   ·have hh:=lkL_hit (f:=lk l 20) (b:=b) h' (by rw [hii]; exact hr) (i:Int)
    have hci:circ l=true:=by unfold circ; rw [he,hh]; simp
    have hv:ckT l=13:=by unfold ckT; rw [if_pos h0,if_pos hci]
    simp -implicitDefEqProofs (maxDischargeDepth:=9) (maxSteps:=1000000) [Nat.add_assoc,ze,zq,zt,zr,zd,zp,zs,zy,asInt,zn,zz,sub,zl,zu,za,zk,zb,zj,zg,zh,zf,zA,zw,zo,zm,zi,Int.natCast_inj,hE',hv]
   ·have hh:=lkL_miss (f:=lk l 20) (b:=b) h' (by rw [hii]; exact hr) (i:Int)
    rw [hii] at hh
    exact ⟨(i+1,(lk l 20 b i).2),by simp only; omega,⟨hCn,hSn,by simp only; omega,by simp only; omega,by simp only; rw [he,hh]; simp⟩,hE'⟩
  ·have:i=(idxs l).length:=by rw [idxs_len]; omega
   have hil:i=l.length:=by omega
   rw [this,lkL_end] at he
   have hf:circ l=false:=by unfold circ; rw [he]; simp
   have hv:ckT l=0:=by unfold ckT; rw [if_pos h0,if_neg (by rw [hf]; decide)]
   subst hil
   refine x9_1 fun E2=>?_
   simp only [xH,yQ,zK,zZ,if_true]
   exact hv
end Go.Proofs.YtchlfjhbijmdiaaGreatDoor.Ai

