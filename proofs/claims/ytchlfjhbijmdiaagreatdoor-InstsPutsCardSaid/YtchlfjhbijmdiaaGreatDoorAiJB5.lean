/- Part of a reckoning of a Go program over abstract values, proved sound against the model. -/
import Derived.Test.YtchlfjhbijmdiaaGreatDoorAiJB4
set_option linter.unusedSimpArgs false
set_option linter.unusedVariables false
namespace Go.Proofs.YtchlfjhbijmdiaaGreatDoor.Ai
open Go.Proofs
set_option maxRecDepth 100000
set_option maxHeartbeats 4000000

/-! the reference's search -/
def InR (l:List Inst) (b:List Int) (s:S):Prop:=s.wf∧0<s.next∧b.length=l.length∧s.get 0=some (stO b)
theorem InR.uniq {l:List Inst} {b b':List Int} {s:S} (h:InR l b s) (h':InR l b' s):b=b':=by
 have:=h.2.2.2.symm.trans h'.2.2.2
 simp only [stO,Option.some.injEq,O.cells.injEq,and_true] at this
 exact wy this
theorem InR.put {l:List Inst} {b b':List Int} {s:S} (h:InR l b s) (hb:b'.length=l.length):InR l b' (s.put 0 (stO b')):=by
 obtain ⟨h1,h2,h3,h4⟩:=h
 exact ⟨wf_put' h1 h2 _,h2,hb,by rw [S.get_put]; simp⟩
theorem Kp.dropR {l:List Inst} {b:List Int} {s t:S} (hk:Kp 0 s t) (hw:s.wf) (hn:0<s.next) (h:InR l b t):DropK s (s.put 0 (stO b)) t:=drop_of hw hk hn h.2.2.2
def D21 (l:List Inst) (n:Nat) (args:List V) (s:S) (v:V) (s2:S):Prop:=∃(b:List Int) (i:Nat),args=[.list (l.map eX),.int .i64 i,.arr 0 0 l.length 1 false (l.length+1)]∧InR l b s∧Sn l b∧b.count 0<n∧i<l.length∧v=.bool (lk l n b i).1∧s2=s.put 0 (stO (lk l n b i).2)
theorem D21_u {l:List Inst} {n:Nat}:∀args s v s2 v' s2',D21 l n args s v s2→D21 l n args s v' s2'→v=v'∧s2=s2':=by
 rintro args s v s2 v' s2' ⟨b,i,rfl,h,_,_,_,rfl,rfl⟩ ⟨b',i',e,h',_,_,_,rfl,rfl⟩
 obtain rfl:=h.uniq h'
 have:i=i':=by simp only [List.cons.injEq,V.int.injEq,true_and] at e; omega
 subst this
 exact ⟨rfl,rfl⟩
noncomputable abbrev cf21 (l:List Inst) (n:Nat):CF:=CF1 47 (ofD (D21 l n))
theorem call21 {e:List (FuncId×(List V→Option V))} (he:∀args,xi e 47 args=none) {l:List Inst} {n:Nat} {b:List Int} {s:S} (h:InR l b s) (hs:Sn l b) (hc:b.count 0<n) {k:Int} (h0:0≤k) (h1:k<l.length):zF (st e []) (cf21 l n) 47 [.list (l.map eX),vI k,.arr 0 0 l.length 1 false (l.length+1)] s=some (.val (.bool (lk l n b k).1) (s.put 0 (stO (lk l n b k).2))):=by
 obtain ⟨i,rfl⟩:∃i:Nat,k=i:=⟨k.toNat,by omega⟩
 exact tM (by simp [he]) (by simp [zm]) (ofD_at D21_u ⟨b,i,rfl,h,hs,hc,by omega,rfl,rfl⟩)
theorem hc0:(st [] []).Ok Tryz.prog:=yn .nil .nil
theorem endsX_drop (x:Inst) (k:Nat) (h:k<x.modes.length):(zR x).drop (2*k)=x.modes[k].1::x.modes[k].2::(zR x).drop (2*(k+1)):=by
 have key:∀(m:List (Int×Int)) (k:Nat) (h:k<m.length),(m.flatMap fun m=>[m.1,m.2]).drop (2*k)=m[k].1::m[k].2::(m.flatMap fun m=>[m.1,m.2]).drop (2*(k+1)):=by
  intro m
  induction m with
  | nil=>intro k h; simp at h
  | cons a m ih =>
   intro k h
   cases k with
   | zero=>simp
   | succ k =>
    have:=ih k (by simpa using h)
    simp only [List.flatMap_cons,List.cons_append,List.nil_append,List.getElem_cons_succ]
    rw [show 2*(k+1)=(2*k+1)+1 by omega,List.drop_succ_cons,List.drop_succ_cons,this,show 2*(k+1+1)=(2*(k+1)+1)+1 by omega,List.drop_succ_cons,List.drop_succ_cons]
 exact key x.modes k h
theorem ends_mem (x:Inst) (k:Nat) (h:k<x.modes.length):x.modes[k].1∈zR x∧x.modes[k].2∈zR x:=by
 unfold zR
 constructor <;> exact List.mem_flatMap.2 ⟨x.modes[k],List.getElem_mem h,by simp⟩
def f21_k1:AC :=
 (.seq (.seq (.reg 6 f21_r6o [0,1,2,7,50,51,52,53,54,55,56,57,58,59,60,61]) (.block 0 (.loop f21_l0))) (.seq (.reg 11 f21_r11o []) (.seq (.reg 12 f21_r12o [6]) .ret)))
theorem f21_top:f21_ac=(.seq (.reg 0 f21_r0o [0,1,2,50,51,52,53,54,55,56,57,58,59,60,61]) (.seq (.seq (.reg 1 f21_r1o [0,1,2,12,50,51,52,53,54,55,56,57,58,59,60,61]) (.cond (.tmp 12) (.seq (.reg 2 f21_r2o [6]) .ret) .skip)) (.seq (.seq (.reg 3 f21_r3o [0,1,2,23,50,51,52,53,54,55,56,57,58,59,60,61]) (.cond (.tmp 23) (.seq (.reg 4 f21_r4o [6]) .ret) .skip)) (.seq (.reg 5 f21_r5o [0,1,2,50,51,52,53,54,55,56,57,58,59,60,61]) f21_k1)))):=rfl
def Fin21 (s s2:S) (v:V):AX→Env→S→Prop:=FinK (st [] []) [ResultVar.tmp 6] (fun w t=>w=v∧DropK s s2 t) fun _ _=>False
theorem k21 {l:List Inst} (hg:tC l) {n:Nat} {b:List Int} {i:Nat} (hi:i<l.length) {s t:S} {b0:List Int} (hC:InR l b t) (hS:Sn l b) (hc:b.count 0<n) (hk5:l[i].kind=5) (hw:s.wf) (hn:0<s.next) (hkp:Kp 0 s t)
  (hlk:lk l (n+1) b0 i=if 0≤(lkL (lk l n) (zR l[i]) 0 b).1 then (true,(lkL (lk l n) (zR l[i]) 0 b).2) else (false,(lkL (lk l n) (zR l[i]) 0 b).2.set i 2)) :
  yd (st [] []) (cf21 l n) true [] 66 f21_k1 [(0,.list (l.map eX)),(1,.int .i64 i),(2,.arr 0 0 l.length 1 false (l.length+1))] t (Fin21 s (s.put 0 (stO (lk l (n+1) b0 i).2)) (.bool (lk l (n+1) b0 i).1)):=by
 have hx:=List.getElem_mem hi
 have hgx:=hg _ hx
 have e1:=List.getElem?_eq_getElem hi
 unfold f21_k1 Fin21
 simp -implicitDefEqProofs (maxDischargeDepth:=9) (maxSteps:=1000000) [Nat.add_assoc,ze,zq,zt,zr,zd,zp,zs,zy,asInt,zn,zz,sub,zl,zu,za,zk,zb,zj,zg,zh,zf,zA,zw,zo,zm,zi,Int.natCast_inj,]
 refine zO (α:=Nat×List Int) (fun a=>[(0,.list (l.map eX)),(1,.int .i64 i),(2,.arr 0 0 l.length 1 false (l.length+1)),(7,.int .i64 a.1)]) (fun a u=>InR l a.2 u∧Sn l a.2∧a.2.count 0<n∧a.1≤l[i].modes.length∧lkL (lk l n) (zR l[i]) 0 b=lkL (lk l n) ((zR l[i]).drop (2*a.1)) (2*a.1:Nat) a.2∧Kp 0 s u) (fun a=>l[i].modes.length - a.1) (0,b) f21_l0_fits (by simp) ⟨hC,hS,hc,Nat.zero_le _,by simp,hkp⟩ ?_
 rintro ⟨k,c⟩ u ⟨hC',hS',hc',hk,he,hkp'⟩
 simp only at hC' hS' hc' hk he
 rcases Nat.lt_or_ge k l[i].modes.length with h | h
 ·have m1:=List.getElem?_eq_getElem h
  have e3:IntKind.i64.wrap ((k:Int)+1)=((k+1:Nat):Int):=zN (by omega) (by omega)
  have hm:=ends_mem l[i] k h
  have q1:=hgx.2 _ hm.1
  have q2:=hgx.2 _ hm.2
  rw [endsX_drop l[i] k h] at he
  have hcall:=call21 (e:=[]) (fun _=>rfl) hC' hS' hc' q1.1 q1.2
  have hSn:=lk_sn n c l[i].modes[k].1 hS'
  have hcn:=wm (l:=l) n _ c l[i].modes[k].1 (Nat.le_refl _)
  have hCn:=hC'.put hSn.1
  cases hr:(lk l n c l[i].modes[k].1).1 with
  | true =>
   rw [hr] at hcall
   rw [lkL,if_pos hr] at he
   have hlk':=hlk
   rw [he,if_pos (by simp only; omega)] at hlk'
   simp -implicitDefEqProofs (maxDischargeDepth:=9) (maxSteps:=1000000) [Nat.add_assoc,ze,zq,zt,zr,zd,zp,zs,zy,asInt,zn,zz,sub,zl,zu,za,zk,zb,zj,zg,zh,zf,zA,zw,zo,zm,zi,Int.natCast_inj,f21_l0,h,hi,e1,m1,e3,hcall,eX,eM]
   rw [hlk']
   exact ⟨rfl,(hkp'.put _).dropR hw hn hCn⟩
  | false =>
   rw [hr] at hcall
   rw [lkL,if_neg (by rw [hr]; decide)] at he
   have hcall2:=call21 (e:=[]) (fun _=>rfl) hCn hSn (Nat.lt_of_le_of_lt hcn hc') q2.1 q2.2
   have hSn2:=lk_sn n _ l[i].modes[k].2 hSn
   have hcn2:=wm (l:=l) n _ _ l[i].modes[k].2 hcn
   have hCn2:=hCn.put hSn2.1
   cases hr2:(lk l n (lk l n c l[i].modes[k].1).2 l[i].modes[k].2).1 with
   | true =>
    rw [hr2] at hcall2
    rw [lkL,if_pos hr2] at he
    have hlk':=hlk
    rw [he,if_pos (by simp only; omega)] at hlk'
    simp -implicitDefEqProofs (maxDischargeDepth:=9) (maxSteps:=1000000) [Nat.add_assoc,ze,zq,zt,zr,zd,zp,zs,zy,asInt,zn,zz,sub,zl,zu,za,zk,zb,zj,zg,zh,zf,zA,zw,zo,zm,zi,Int.natCast_inj,f21_l0,h,hi,e1,m1,e3,hcall,hcall2,eX,eM]
    rw [hlk']
    exact ⟨rfl,((hkp'.put _).put _).dropR hw hn hCn2⟩
   | false =>
    rw [hr2] at hcall2
    rw [lkL,if_neg (by rw [hr2]; decide)] at he
    simp -implicitDefEqProofs (maxDischargeDepth:=9) (maxSteps:=1000000) [Nat.add_assoc,ze,zq,zt,zr,zd,zp,zs,zy,asInt,zn,zz,sub,zl,zu,za,zk,zb,zj,zg,zh,zf,zA,zw,zo,zm,zi,Int.natCast_inj,f21_l0,h,hi,e1,m1,e3,hcall,hcall2,eX,eM]
    refine ⟨k+1,by omega,⟨_,hCn2,hSn2,by omega,by omega,?_,(hkp'.put _).put _⟩,by simp⟩
    rw [he]
    congr 1
 ·have:k=l[i].modes.length:=by omega
  subst this
  have hd:(zR l[i]).drop (2*l[i].modes.length)=[]:=by
   rw [← yy]; exact List.drop_length
  rw [hd,lkL] at he
  rw [he,if_neg (by simp)] at hlk
  replace hlk:lk l (n+1) b0 i=(false,c.set i 2):=hlk
  obtain ⟨h1,h2,h3,h4⟩:=id hC'
  have hib:i<c.length:=by omega
  have hC2:=hC'.put (b':=c.set i 2) (by simpa using h3)
  have hib1:i+1≤c.length:=hib
  have hsp:=xu c i 2 hib
  rw [hlk]
  simp -implicitDefEqProofs (maxDischargeDepth:=9) (maxSteps:=1000000) [Nat.add_assoc,ze,zq,zt,zr,zd,zp,zs,zy,asInt,zn,zz,sub,zl,zu,za,zk,zb,zj,zg,zh,zf,zA,zw,zo,zm,zi,Int.natCast_inj,f21_l0,hi,e1,eX,stO,h2,h4,hib,hib1,hsp]
  rw [show (List.map vI c).set i (vI 2)=(c.set i 2).map vI from wA _ _ _]
  exact (hkp'.put _).dropR hw hn hC2
theorem c21 {l:List Inst} (hg:tC l) {n:Nat} (h21:wv Tryz.prog (st [] []) (cf21 l n)):wv Tryz.prog (st [] []) (cf21 l (n+1)):=by
 refine cf_of (sl:=true) (sp:=[]) hc0 h21 yi Tryz.func47 f21_eq f21_nt f21_fits ?_
 intro args s v s2 hF hw
 obtain ⟨b,i,rfl,hC,hS,hc,hi,rfl,rfl⟩:=ofD_inv hF
 refine ⟨by simp,rfl,?_⟩
 have hn:=hC.2.1
 have hd:=(Kp.refl 0 s).dropR hw hn hC
 have e1:=List.getElem?_eq_getElem hi
 have e2:=iAt_get hC.2.2.1 hi
 have hsn:=hS.2 i _ e1
 obtain ⟨h1,h2,h3,h4⟩:=id hC
 rw [f21_top]
 by_cases hk:l[i].kind=5
 ·rcases hsn with h0 | ⟨h0 | h0,_⟩
  ·have hlk:lk l (n+1) b i=if 0≤(lkL (lk l n) (zR l[i]) 0 (b.set i 1)).1 then (true,(lkL (lk l n) (zR l[i]) 0 (b.set i 1)).2) else (false,(lkL (lk l n) (zR l[i]) 0 (b.set i 1)).2.set i 2):=by
    conv=>lhs; unfold lk
    simp [h0,e1,hk]
   have hcs:=vY (v:=1) (by omega) (by omega) h0
   have hk1:=k21 hg hi (hC.put (b':=b.set i 1) (by simpa using h3)) (sn_set hS e1 hk (.inl rfl)) (by omega) hk hw hn ((Kp.refl 0 s).put _) hlk
   have hib:i<b.length:=by omega
   have hib1:i+1≤b.length:=hib
   have hsp:=xu b i 1 hib
   have e5:b[i]=0:=by rw [List.getElem?_eq_getElem hib,h0] at e2; simpa using e2
   simp -implicitDefEqProofs (maxDischargeDepth:=9) (maxSteps:=1000000) [Nat.add_assoc,ze,zq,zt,zr,zd,zp,zs,zy,asInt,zn,zz,sub,zl,zu,za,zk,zb,zj,zg,zh,zf,zA,zw,zo,zm,zi,Int.natCast_inj,stO,hi,h1,h2,h4,e1,e5,eX,hk,hib,hib1,hsp,vI]
   rw [wA]
   exact hk1
  ·have hlk:lk l (n+1) b i=(true,b):=by
    conv=>lhs; unfold lk
    simp [h0]
   rw [h0] at e2
   rw [hlk]
   simp -implicitDefEqProofs (maxDischargeDepth:=9) (maxSteps:=1000000) [Nat.add_assoc,ze,zq,zt,zr,zd,zp,zs,zy,asInt,zn,zz,sub,zl,zu,za,zk,zb,zj,zg,zh,zf,zA,zw,zo,zm,zi,Int.natCast_inj,stO,hi,h1,h2,h4,e1,e2,eX,hk,vI]
   exact hd
  ·have hlk:lk l (n+1) b i=(false,b):=by
    conv=>lhs; unfold lk
    simp [h0]
   rw [h0] at e2
   rw [hlk]
   simp -implicitDefEqProofs (maxDischargeDepth:=9) (maxSteps:=1000000) [Nat.add_assoc,ze,zq,zt,zr,zd,zp,zs,zy,asInt,zn,zz,sub,zl,zu,za,zk,zb,zj,zg,zh,zf,zA,zw,zo,zm,zi,Int.natCast_inj,stO,hi,h1,h2,h4,e1,e2,eX,hk,vI]
   exact hd
 ·have h0:iAt b i=0:=by
   rcases hsn with h | ⟨_,h⟩
   ·exact h
   ·exact absurd h hk
  have hlk:lk l (n+1) b i=(false,b):=by
   conv=>lhs; unfold lk
   simp [h0,e1,hk]
  rw [h0] at e2
  rw [hlk]
  simp -implicitDefEqProofs (maxDischargeDepth:=9) (maxSteps:=1000000) [Nat.add_assoc,ze,zq,zt,zr,zd,zp,zs,zy,asInt,zn,zz,sub,zl,zu,za,zk,zb,zj,zg,zh,zf,zA,zw,zo,zm,zi,Int.natCast_inj,stO,hi,h1,h2,h4,e1,e2,eX,hk,vI]
  exact hd
theorem c21_all {l:List Inst} (hg:tC l):∀n,wv Tryz.prog (st [] []) (cf21 l n)
 | 0=>by
  refine cf_of (sl:=true) (sp:=[]) (cf:=cf0 [] []) hc0 (zW hc0) yi Tryz.func47 f21_eq f21_nt f21_fits ?_
  intro args s v s2 hF hw
  obtain ⟨b,i,rfl,hC,hS,hc,hi,rfl,rfl⟩:=ofD_inv hF
  exact absurd hc (Nat.not_lt_zero _)
 | n+1=>c21 hg (c21_all hg n)
end Go.Proofs.YtchlfjhbijmdiaaGreatDoor.Ai

