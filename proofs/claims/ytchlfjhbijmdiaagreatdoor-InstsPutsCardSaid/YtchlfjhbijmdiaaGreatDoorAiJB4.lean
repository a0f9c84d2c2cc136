/- Part of a reckoning of a Go program over abstract values, proved sound against the model. -/
import Derived.Test.YtchlfjhbijmdiaaGreatDoorAiJB3
set_option linter.unusedSimpArgs false
set_option linter.unusedVariables false
namespace Go.Proofs.YtchlfjhbijmdiaaGreatDoor.Ai
open Go.Proofs
set_option maxRecDepth 100000
set_option maxHeartbeats 4000000

def f38_k1:AC :=
 (.seq (.seq (.draw 6 vQ [0,2,33]) (.cond (.tmp 33) (.seq (.reg 7 f38_r7o [5]) .ret) .skip)) (.seq (.reg 8 f38_r8o []) (.seq (.reg 9 f38_r9o [5]) .ret)))
theorem f38_top:f38_ac=(.seq (.reg 0 f38_r0o [0,1,2,3,13,14,15,16,17]) (.seq (.seq (.reg 1 f38_r1o [0,1,2,3,18]) (.cond (.tmp 18) (.seq (.reg 2 f38_r2o [5]) .ret) .skip)) (.seq (.seq (.reg 3 f38_r3o [0,1,2,3,23]) (.cond (.tmp 23) (.seq (.reg 4 f38_r4o [5]) .ret) .skip)) (.seq (.reg 5 f38_r5o [0,1,2,3]) f38_k1)))):=rfl
def Fin38 (s s2:S) (v:V):AX→Env→S→Prop:=FinK (st eC []) [ResultVar.tmp 5] (fun w t=>w=v∧DropK s s2 t) fun _ _=>False
theorem iAt_get {l:List Inst} {b:List Int} (h:b.length=l.length) {i:Nat} (hi:i<l.length):b[i]?=some (iAt b i):=by
 have:i<b.length:=by omega
 simp [iAt,List.getElem?_eq_getElem this]
theorem wA (b:List Int) (i:Nat) (v:Int):(b.map vI).set i (.int .i64 v)=(b.set i v).map vI:=by
 rw [List.map_set]; rfl
@[simp] theorem agg66:zS T66.und=false:=rfl
theorem xu (b:List Int) (i:Nat) (v:Int) (h:i<b.length):(b.map vI).take i++V.int .i64 v::(b.map vI).drop (i+1)=(b.set i v).map vI:=by
 rw [← wA,List.set_eq_take_append_cons_drop,if_pos (by simpa using h)]
theorem k38 {l:List Inst} (hg:tC l) {n:Nat} {b:List Int} {i:Nat} (hi:i<l.length) {s t:S} {b0:List Int} (hC:InC l b t) (hS:Sn l b) (hc:b.count 0<n) (hk5:l[i].kind=5) (hw:s.wf) (hn:3<s.next) (hkp:Kp 1 s t)
  (hlk:lk l (n+1) b0 i=if 0≤(lkL (lk l n) (zR l[i]) 0 b).1 then (true,(lkL (lk l n) (zR l[i]) 0 b).2) else (false,(lkL (lk l n) (zR l[i]) 0 b).2.set i 2)) :
  yd (st eC []) (cf33 l n) true [] 37 f38_k1 [(0,.int .i64 i),(1,.ptr 0 0),(2,.ptr 2 0),(3,.ptr 3 0)] t (Fin38 s (s.put 1 (stO (lk l (n+1) b0 i).2)) (.bool (lk l (n+1) b0 i).1)):=by
 have hx:=List.getElem_mem hi
 have hgx:=hg _ hx
 have e1:=List.getElem?_eq_getElem hi
 have e39:=fun s=>zH (cfg:=st eC []) (cf:=cf33 l n) (f:=59) (s:=s) (show xi eC 59 _=_ from e39_at l[i] hgx.1)
 have hks:inds l (zR l[i]):=⟨by rw [yy]; omega,hgx.2⟩
 have hcall:=call33 (hC.bump 7) hS hc hks
 have hS':=lkL_sn (n:=n) (ks:=zR l[i]) (j:=0) hS
 have hC1:=(hC.bump 7).put hS'.1
 have hC2:=hC1.put (b':=(lkL (lk l n) (zR l[i]) 0 b).2.set i 2) (by simpa using hS'.1)
 have hkp1:=((hkp.bump 7).put (stO (lkL (lk l n) (zR l[i]) 0 b).2))
 obtain ⟨h1,h2,h3,h4,h5,h6,h7⟩:=hC
 have hb:i<(lkL (lk l n) (zR l[i]) 0 b).2.length:=by rw [hS'.1]; exact hi
 unfold f38_k1 Fin38
 by_cases hr:0≤(lkL (lk l n) (zR l[i]) 0 b).1
 ·rw [if_pos hr] at hlk
  rw [hlk]
  simp only [hr,decide_true] at hcall
  simp -implicitDefEqProofs (maxDischargeDepth:=9) (maxSteps:=1000000) [Nat.add_assoc,ze,zq,zt,zr,zd,zp,zs,zy,asInt,zn,zz,sub,zl,zu,za,zk,zb,zj,zg,zh,zf,zA,zw,zo,zm,zi,Int.natCast_inj,hi,h1,h2,h4,h5,h6,h7,e1,e39,eX,hcall,stO]
  exact hkp1.dropC hw hn hC1
 ·rw [if_neg hr] at hlk
  rw [hlk]
  simp only [hr,decide_false] at hcall
  have hb1:i+1≤(lkL (lk l n) (zR l[i]) 0 b).2.length:=hb
  have hsp:=xu _ i 2 hb
  simp -implicitDefEqProofs (maxDischargeDepth:=9) (maxSteps:=1000000) [Nat.add_assoc,ze,zq,zt,zr,zd,zp,zs,zy,asInt,zn,zz,sub,zl,zu,za,zk,zb,zj,zg,zh,zf,zA,zw,zo,zm,zi,Int.natCast_inj,hi,h1,h2,h4,h5,h6,h7,e1,e39,eX,hcall,hb,hb1,hsp,stO]
  rw [show (List.map vI (lkL (lk l n) (zR l[i]) 0 b).2).set i (vI 2)=((lkL (lk l n) (zR l[i]) 0 b).2.set i 2).map vI from wA _ _ _]
  exact (hkp1.put _).dropC hw hn hC2
theorem c38 {l:List Inst} (hg:tC l) {n:Nat} (h33:wv Tryz.prog (st eC []) (cf33 l n)):wv Tryz.prog (st eC []) (cf38 l (n+1)):=by
 refine cf_of (sl:=true) (sp:=[]) hcC h33 yi Tryz.func73 f38_eq f38_nt f38_fits ?_
 intro args s v s2 hF hw
 obtain ⟨b,i,rfl,hC,hS,hc,hi,rfl,rfl⟩:=ofD_inv hF
 refine ⟨by simp,rfl,?_⟩
 have hn:=hC.2.1
 have hd:=(Kp.refl 1 s).dropC hw hn hC
 have e1:=List.getElem?_eq_getElem hi
 have e2:=iAt_get hC.2.2.1 hi
 have hsn:=hS.2 i _ e1
 obtain ⟨h1,h2,h3,h4,h5,h6,h7⟩:=id hC
 have hn1:1<s.next:=by omega
 rw [f38_top]
 by_cases hk:l[i].kind=5
 ·rcases hsn with h0 | ⟨h0 | h0,_⟩
  ·have hlk:lk l (n+1) b i=if 0≤(lkL (lk l n) (zR l[i]) 0 (b.set i 1)).1 then (true,(lkL (lk l n) (zR l[i]) 0 (b.set i 1)).2) else (false,(lkL (lk l n) (zR l[i]) 0 (b.set i 1)).2.set i 2):=by
    conv=>lhs; unfold lk
    simp [h0,e1,hk]
   have hcs:=vY (v:=1) (by omega) (by omega) h0
   have hk1:=k38 hg hi (hC.put (b':=b.set i 1) (by simpa using h3)) (sn_set hS e1 hk (.inl rfl)) (by omega) hk hw hn ((Kp.refl 1 s).put _) hlk
   have hib:i<b.length:=by omega
   have hib1:i+1≤b.length:=hib
   have hsp:=xu b i 1 hib
   have e5:b[i]=0:=by rw [List.getElem?_eq_getElem hib,h0] at e2; simpa using e2
   simp -implicitDefEqProofs (maxDischargeDepth:=9) (maxSteps:=1000000) [Nat.add_assoc,ze,zq,zt,zr,zd,zp,zs,zy,asInt,zn,zz,sub,zl,zu,za,zk,zb,zj,zg,zh,zf,zA,zw,zo,zm,zi,Int.natCast_inj,stO,hi,h1,hn1,h4,h5,h6,h7,e1,e5,eX,hk,hib,hib1,hsp,vI]
   rw [wA]
   exact hk1
  ·have hlk:lk l (n+1) b i=(true,b):=by
    conv=>lhs; unfold lk
    simp [h0]
   rw [h0] at e2
   rw [hlk]
   simp -implicitDefEqProofs (maxDischargeDepth:=9) (maxSteps:=1000000) [Nat.add_assoc,ze,zq,zt,zr,zd,zp,zs,zy,asInt,zn,zz,sub,zl,zu,za,zk,zb,zj,zg,zh,zf,zA,zw,zo,zm,zi,Int.natCast_inj,stO,hi,h1,h4,h5,h6,h7,e1,e2,eX,hk,vI]
   exact hd
  ·have hlk:lk l (n+1) b i=(false,b):=by
    conv=>lhs; unfold lk
    simp [h0]
   rw [h0] at e2
   rw [hlk]
   simp -implicitDefEqProofs (maxDischargeDepth:=9) (maxSteps:=1000000) [Nat.add_assoc,ze,zq,zt,zr,zd,zp,zs,zy,asInt,zn,zz,sub,zl,zu,za,zk,zb,zj,zg,zh,zf,zA,zw,zo,zm,zi,Int.natCast_inj,stO,hi,h1,h4,h5,h6,h7,e1,e2,eX,hk,vI]
   exact hd
 ·have h0:iAt b i=0:=by
   rcases hsn with h | ⟨_,h⟩
   ·exact h
   ·exact absurd h hk
  have hlk:lk l (n+1) b i=(false,b):=by
   conv=>lhs; unfold lk
   simp [h0,e1,hk]
  rw [hlk]
  simp -implicitDefEqProofs (maxDischargeDepth:=9) (maxSteps:=1000000) [Nat.add_assoc,ze,zq,zt,zr,zd,zp,zs,zy,asInt,zn,zz,sub,zl,zu,za,zk,zb,zj,zg,zh,zf,zA,zw,zo,zm,zi,Int.natCast_inj,stO,hi,h1,h4,h5,h6,h7,e1,e2,eX,hk,vI]
  exact hd
theorem c38_all {l:List Inst} (hg:tC l):∀n,wv Tryz.prog (st eC []) (cf38 l n)
 | 0=>by
  refine cf_of (sl:=true) (sp:=[]) (cf:=cf0 eC []) hcC (zW hcC) yi Tryz.func73 f38_eq f38_nt f38_fits ?_
  intro args s v s2 hF hw
  obtain ⟨b,i,rfl,hC,hS,hc,hi,rfl,rfl⟩:=ofD_inv hF
  exact absurd hc (Nat.not_lt_zero _)
 | n+1=>c38 hg (c33 (c60 (c38_all hg n)))

theorem iAt_zeros (n i:Nat):iAt (List.replicate n 0) i=0:=by
 simp only [iAt,List.getElem?_replicate]
 split <;> simp
theorem sn_zeros (l:List Inst):Sn l (List.replicate l.length 0):=⟨by simp,fun i x _=>.inl (iAt_zeros _ i)⟩
theorem idxs_len (l:List Inst):(idxs l).length=l.length:=by simp [idxs]
theorem idxs_at (l:List Inst) (i:Nat) (h:i<(idxs l).length):(idxs l)[i]=(i:Int):=by simp [idxs]
theorem zeros_int:∀n:Nat,zk [.int .i64 0] n=(List.replicate n (0:Int)).map vI
 | 0=>rfl
 | n+1=>by simp [zk,zeros_int n,List.replicate_succ,vI]
def f19_k1:AC :=
 (.seq (.seq (.reg 4 f19_r4o [4,11,12]) (.block 0 (.loop f19_l0))) (.seq (.reg 10 f19_r10o [2]) .ret))
theorem f19_top:f19_ac=(.seq (.reg 0 f19_r0o [1]) (.seq (.reg 1 f19_r1o [1,3]) (.seq (.reg 2 f19_r2o [1,3,4]) (.seq (.reg 3 f19_r3o [1,4]) f19_k1)))):=rfl
theorem k19 {l:List Inst} (hl:l.length≤19) {s:S} (hC:InC l (List.replicate l.length 0) s):yd (st eC []) (cf38 l 20) true [] 19 f19_k1 [(1,.ptr 0 0),(4,.ptr 3 0)] s (FinK (st eC []) [ResultVar.tmp 2] (fun w s=>wL s w (.bool (circ l))) fun _ _=>False):=by
 obtain ⟨h1,h2,h3,h4,h5,h6,h7⟩:=id hC
 unfold f19_k1
 simp -implicitDefEqProofs (maxDischargeDepth:=9) (maxSteps:=1000000) [Nat.add_assoc,ze,zq,zt,zr,zd,zp,zs,zy,asInt,zn,zz,sub,zl,zu,za,zk,zb,zj,zg,zh,zf,zA,zw,zo,zm,zi,Int.natCast_inj,h4]
 refine zO (α:=Nat×List Int) (fun a=>[(4,.ptr 3 0),(11,.int .i64 l.length),(12,.int .i64 a.1)]) (fun a t=>InC l a.2 t∧Sn l a.2∧a.2.count 0<20∧a.1≤l.length∧lkL (lk l 20) (idxs l) 0 (List.replicate l.length 0)=lkL (lk l 20) ((idxs l).drop a.1) a.1 a.2) (fun a=>l.length - a.1) (0,List.replicate l.length 0) f19_l0_fits (by simp) ⟨hC,sn_zeros l,by simp; omega,Nat.zero_le _,by simp⟩ ?_
 rintro ⟨i,b⟩ t ⟨hC',hS',hc',hi,he⟩
 simp only at hC' hS' hc' hi he
 obtain ⟨k1,k2,k3,k4,k5,k6,k7⟩:=id hC'
 rcases Nat.lt_or_ge i l.length with h | h
 ·have h':i<(idxs l).length:=by rw [idxs_len]; exact h
  have hii:=idxs_at l i h'
  have e3:IntKind.i64.wrap ((i:Int)+1)=((i+1:Nat):Int):=zN (by omega) (by omega)
  have hcall:zF (st eC []) (cf38 l 20) 73 [.int .i64 (i:Int),.ptr 0 0,.ptr 2 0,.ptr 3 0] t=_:=call38 hC' hS' hc' (k:=i) (by omega) (by omega)
  have hSn:=lk_sn 20 b i hS'
  have hcn:=wm (l:=l) 20 _ b i (Nat.le_refl _)
  have hCn:=hC'.put hSn.1
  cases hr:(lk l 20 b i).1 with
  | true =>
   rw [hr] at hcall
   have hh:=lkL_hit (f:=lk l 20) (b:=b) h' (by rw [hii]; exact hr) (i:Int)
   have:circ l=true:=by unfold circ; rw [he,hh]; simp
   simp -implicitDefEqProofs (maxDischargeDepth:=9) (maxSteps:=1000000) [Nat.add_assoc,ze,zq,zt,zr,zd,zp,zs,zy,asInt,zn,zz,sub,zl,zu,za,zk,zb,zj,zg,zh,zf,zA,zw,zo,zm,zi,Int.natCast_inj,f19_l0,h,e3,k7,hcall,this]
  | false =>
   rw [hr] at hcall
   have hh:=lkL_miss (f:=lk l 20) (b:=b) h' (by rw [hii]; exact hr) (i:Int)
   rw [hii] at hh
   simp -implicitDefEqProofs (maxDischargeDepth:=9) (maxSteps:=1000000) [Nat.add_assoc,ze,zq,zt,zr,zd,zp,zs,zy,asInt,zn,zz,sub,zl,zu,za,zk,zb,zj,zg,zh,zf,zA,zw,zo,zm,zi,Int.natCast_inj,f19_l0,h,e3,k7,hcall]
   refine ⟨i+1,by omega,⟨(lk l 20 b i).2,hCn,hSn,by omega,by omega,by rw [he,hh]; simp⟩,by simp⟩
 ·have:i=(idxs l).length:=by rw [idxs_len]; omega
  have hil:i=l.length:=by omega
  rw [this,lkL_end] at he
  have hf:circ l=false:=by unfold circ; rw [he]; simp
  subst hil
  simp -implicitDefEqProofs (maxDischargeDepth:=9) (maxSteps:=1000000) [Nat.add_assoc,ze,zq,zt,zr,zd,zp,zs,zy,asInt,zn,zz,sub,zl,zu,za,zk,zb,zj,zg,zh,zf,zA,zw,zo,zm,zi,Int.natCast_inj,f19_l0,hf]
theorem p19 (l:List Inst) (hl:l.length≤19) (hg:tC l):zx Tryz.prog zB 41 [.list (l.map eX)] (.bool (circ l)):=by
 refine zx.cfg (cfg:=st eC []) rfl ?_
 refine zM (sl:=true) hcC (c38_all hg 20) yi Tryz.func41 f19_eq f19_nt f19_fits (by simp) (by simp) ?_
 rw [f19_top]
 have hk:=fun s=>k19 hl (s:=s)
 have h8:(l.length:Int)*8≤140737488355328:=by omega
 have h9:(l.length:Int)≤140737488355328:=by omega
 have cn:V.nilf.cells=[V.nilf]:=rfl
 simp -implicitDefEqProofs (maxDischargeDepth:=9) (maxSteps:=1000000) [Nat.add_assoc,ze,zq,zt,zr,zd,zp,zs,zy,asInt,zn,zz,sub,zl,zu,za,zk,zb,zj,zg,zh,zf,zA,zw,zo,zm,zi,Int.natCast_inj,h8,h9,cn]
 have hz:=zeros_int l.length
 refine hk _ ⟨?_,?_,by simp,?_,?_,?_,?_⟩
 ·exact S.wf_put (S.wf_add (S.wf_put (S.wf_add (S.wf_add (S.wf_add S.wf_empty _ _) _ _) _ _) _ _ (by simp [S.empty,S.add,S.put])) _ _) _ _ (by simp [S.empty,S.add,S.put])
 ·simp [S.empty,S.add,S.put]
 all_goals simp [S.get_put,S.get_add,stO,hz]
end Go.Proofs.YtchlfjhbijmdiaaGreatDoor.Ai

