/- Part of a reckoning of a Go program over abstract values, proved sound against the model. -/
import Derived.Test.YtchlfjhbijmdiaaGreatDoorAiJF1
set_option linter.unusedSimpArgs false
set_option linter.unusedVariables false
namespace Go.Proofs.YtchlfjhbijmdiaaGreatDoor.Ai
open Go.Proofs
set_option maxRecDepth 100000
set_option maxHeartbeats 4000000

/-! what stays, but for one object -/
def Kx (i:Nat) (s t:S):Prop:=s.next≤t.next∧∀j,j<s.next→¬j=i→t.get j=s.get j
theorem Kx.refl (i:Nat) (s:S):Kx i s s:=⟨Nat.le_refl _,fun _ _ _=>rfl⟩
theorem Kx.bump {i:Nat} {s t:S} (h:Kx i s t) (n:Nat):Kx i s ⟨t.next+n,t.tr⟩:=⟨by have:=h.1; simp only; omega,fun j hj hi=>h.2 j hj hi⟩
theorem Kx.add {i:Nat} {s t:S} (h:Kx i s t) {n:Nat} (o:O) (hn:s.next≤n):Kx i s (t.add n o):=⟨by have:=h.1; simp only [S.next_add]; omega,fun j hj hi=>by rw [S.get_add,if_neg (by omega)]; exact h.2 j hj hi⟩
theorem Kx.put {i:Nat} {s t:S} (h:Kx i s t) (o:O):Kx i s (t.put i o):=⟨h.1,fun j hj hi=>by rw [S.get_put,if_neg (by omega)]; exact h.2 j hj hi⟩
theorem Kx.putn {i:Nat} {s t:S} (h:Kx i s t) {n:Nat} (o:O) (hn:s.next≤n):Kx i s (t.put n o):=⟨h.1,fun j hj hi=>by rw [S.get_put,if_neg (by omega)]; exact h.2 j hj hi⟩
theorem Kx.del {i:Nat} {s t:S} (h:Kx i s t) {n:Nat} (hn:s.next≤n):Kx i s (t.del n):=⟨h.1,fun j hj hi=>by rw [S.get_del,if_neg (by omega)]; exact h.2 j hj hi⟩
/-- A slice of one's own, of these cells. -/
def Arr (cs:List V) (n sz:Nat) (ag:Bool) (ty:TypeId) (b:Nat) (s:S) (v:V):Prop:=(v=.nils∧cs=[]∧n=0)∨∃id cp,b≤id∧id<s.next∧v=.arr id 0 n sz ag cp∧s.get id=some (.cells cs 0 ty false)
theorem Arr.mono {cs:List V} {n sz:Nat} {ag:Bool} {ty:TypeId} {b:Nat} {s t:S} {v:V} (h:Arr cs n sz ag ty b s v) (hn:s.next≤t.next) (hg:∀j,b≤j→j<s.next→t.get j=s.get j):Arr cs n sz ag ty b t v:=by
 rcases h with h | ⟨id,cp,h1,h2,h3,h4⟩
 ·exact .inl h
 ·exact .inr ⟨id,cp,h1,by omega,h3,by rw [hg id h1 h2]; exact h4⟩
abbrev ArrI (b:Nat) (s:S) (v:V) (L:List Int):Prop:=Arr (L.map vI) L.length 1 false 3 b s v
def fA (a:Alt):List V:=[.str a.name,.list (a.args.map vI)]
abbrev ArrA (b:Nat) (s:S) (v:V) (L:List Alt):Prop:=Arr (L.flatMap fA) L.length 2 true 39 b s v
abbrev ArrM (b:Nat) (s:S) (v:V) (L:List (Int×Int)):Prop:=Arr (L.flatMap fP) L.length 2 true 55 b s v
/-- A function that gives back what it gets. -/
def eJ:List (FuncId×(List V→Option V)):=[(19,eId),(42,eId)]
theorem eJ_ok:xa Tryz.prog zB eJ:=.cons t206 (.cons t216 .nil)
def IdF (g:FuncId):Prop:=g=19∨g=42
theorem callId {g:FuncId} (hg:IdF g) (n:Int) (t:S):zF (st eJ []) (cf0 eJ []) g [.int .i64 n] t=some (.val (.int .i64 n) t):=by
 rcases hg with rfl | rfl
 ·exact tabK rfl
 ·exact tabK rfl
section
variable {g:FuncId} {x:Inst} {s:S} {i4 i5 i8:Nat} {nm:ByteArray} {M:List Int} {j:Nat} {vl:V} {n20:Int}
theorem l205a (hg:IdF g) (hM:M.length≤1000) (hw:s.wf) (hi8:i8<s.next) (h8:s.get i8=some (.cells [.str nm,.nils] 0 39 true)) {Q:AX→Env→S→Prop}
  (hQ:∀t v,t.wf→Kx i8 s t→t.get i8=some (.cells [.str nm,v] 0 39 true)→ArrI s.next t v M→∀E',zI [(1,.func (.func g) [] []),(2,.ptr 0 0),(4,.ptr i4 0),(5,.ptr i5 0),(8,.ptr i8 0),(19,vl),(20,.int .i64 n20),(21,.int .i64 j)] E'→Q (.exit 2) E' t) :
  yd (st eJ []) (cf0 eJ []) true [] 74 (.loop uV) [(1,.func (.func g) [] []),(2,.ptr 0 0),(4,.ptr i4 0),(5,.ptr i5 0),(8,.ptr i8 0),(19,vl),(20,.int .i64 n20),(21,.int .i64 j),(29,.list (M.map vI)),(30,.int .i64 M.length),(31,.int .i64 0)] s Q:=by
 refine zO (α:=Nat×V) (fun a=>[(1,.func (.func g) [] []),(2,.ptr 0 0),(4,.ptr i4 0),(5,.ptr i5 0),(8,.ptr i8 0),(19,vl),(20,.int .i64 n20),(21,.int .i64 j),(29,.list (M.map vI)),(30,.int .i64 M.length),(31,.int .i64 a.1)]) (fun a t=>t.wf∧Kx i8 s t∧t.get i8=some (.cells [.str nm,a.2] 0 39 true)∧a.1≤M.length∧ArrI s.next t a.2 (M.take a.1)) (fun a=>M.length - a.1) (0,.nils) f205_l0_fits (by simp [zI]) ⟨hw,Kx.refl _ _,h8,Nat.zero_le _,.inl ⟨rfl,rfl,rfl⟩⟩ ?_
 rintro ⟨i,v⟩ t ⟨hw,hk,h8,hi,ht⟩
 simp only at h8 hi ht ⊢
 rcases Nat.lt_or_ge i M.length with h | h
 ·have e1:=List.getElem?_eq_getElem h
  have e3:IntKind.i64.wrap ((i:Int)+1)=((i+1:Nat):Int):=zN (by omega) (by omega)
  have hnext:M.take (i+1)=M.take i++[M[i]]:=by rw [List.take_succ_eq_append_getElem h]
  have hL:(M.take i).length=i:=by rw [List.length_take]; omega
  generalize M.take i=L at ht hL hnext
  have hcall:=callId hg
  unfold IdF at hg
  have hlay:∀(t:S) (a:Int),xD true t [.int .i64 a]=some ([.int .i64 a],t):=fun t a=>rfl
  have hk1:=hk.1
  have hi8t:i8<t.next:=by omega
  have h8k:∀k,¬i8=t.next+k:=fun k=>by omega
  have h80:¬i8=t.next:=by omega
  have h8k':∀k,¬t.next+k=i8:=fun k=>by omega
  rcases ht with ⟨rfl,h1,h2⟩ | ⟨id,cp,hid0,hid,rfl,hgt⟩
  ·rcases hg with rfl | rfl
   all_goals
    simp -implicitDefEqProofs (maxDischargeDepth:=9) (maxSteps:=1000000) [Nat.add_assoc,ze,zq,zt,zr,zd,zp,zs,zy,asInt,zn,zz,sub,zl,zu,za,zk,zb,zj,zg,zh,zf,zA,zw,zo,zm,zi,Int.natCast_inj,uV,h,hw,h8,hi8t,e1,e3,eI,hcall,hlay,h8k,h80,vI]
    exact ⟨i+1,by omega,⟨S.wf_put (S.wf_add (S.wf_add (zX hw 9) _ _) _ _) _ _ (by simp; omega),(((hk.bump 9).add _ (by omega)).add _ (by omega)).put _,by omega,.inr ⟨t.next+6,0,by omega,by simp,by rw [hnext]; simp [h2],by rw [hnext]; simp [h1,h8k',vI]⟩⟩,by simp⟩
  ·have h6:∀k,¬id=t.next+k:=fun k=>by omega
   have h7:¬id=t.next:=by omega
   have h9:¬i8=id:=by omega
   have h10:¬id=i8:=by omega
   have h4:(i+1)*8≤140737488355328:=by omega
   have h5:i+1≤140737488355328:=by omega
   have h11:((L.map vI).take i)=L.map vI:=List.take_of_length_le (by simp [hL])
   rcases hg with rfl | rfl
   all_goals
    simp -implicitDefEqProofs (maxDischargeDepth:=9) (maxSteps:=1000000) [Nat.add_assoc,ze,zq,zt,zr,zd,zp,zs,zy,asInt,zn,zz,sub,zl,zu,za,zk,zb,zj,zg,zh,zf,zA,zw,zo,zm,zi,Int.natCast_inj,uV,h,hw,h8,hi8t,e1,e3,eI,hcall,hlay,h8k,h80,hgt,hid,hL,h4,h5,h6,h7,h9,h10,h11,vI]
    exact ⟨i+1,by omega,⟨S.wf_put (S.wf_add (S.wf_del (S.wf_add (zX hw 9) _ _) _) _ _) _ _ (by simp; omega),((((hk.bump 9).add _ (by omega)).del hid0).add _ (by omega)).put _,by omega,.inr ⟨t.next+6,if i+1<cp then cp else 0,by omega,by simp,by rw [hnext]; simp [hL],by rw [hnext]; simp [h8k',vI]⟩⟩,by simp⟩
 ·have:i=M.length:=by omega
  subst this
  rw [List.take_length] at ht
  simp -implicitDefEqProofs (maxDischargeDepth:=9) (maxSteps:=1000000) [Nat.add_assoc,ze,zq,zt,zr,zd,zp,zs,zy,asInt,zn,zz,sub,zl,zu,za,zk,zb,zj,zg,zh,zf,zA,zw,zo,zm,zi,Int.natCast_inj,uV,hw,h8]
  exact hQ _ _ hw hk h8 ht _ (by simp [zI])
theorem uj (t:S):xD true t [.str nm,.nils]=some ([.str nm,.list []],t):=rfl
theorem lay_alt {t:S} {id cp n:Nat} (hM:M.length≤1000) (hn:n=M.length) (hg:t.get id=some (.cells (M.map vI) 0 3 false)):xD true t [.str nm,.arr id 0 n 1 false cp]=some ([.str nm,.list (M.map vI)],t.del id):=by
 subst hn
 have h1:layL 99997 (t.del id) (M.map vI)=some (M.map vI,t.del id):=wE (d:=1) _ _ (fun v hv k hk=>by
  obtain ⟨n,_,rfl⟩:=List.mem_map.1 hv
  exact lay_vI n k hk) (by simp; omega) (by omega)
 have h2:vo false 1 M.length (M.map vI)=M.map vI:=by
  clear h1 hM hg
  induction M with
  | nil=>rfl
  | cons a M ih=>simp [vo,ih]
 show layL 100000 t _=_
 have h3:(M.map vI).take M.length=M.map vI:=List.take_of_length_le (by simp)
 simp [layL,lay,hg,h1,h2,h3]
theorem r205b {b b1:Nat} {t:S} {w v:V} {L:List Alt} {E:Env} (hM:M.length≤1000) (hL:L.length≤1000) (hw:t.wf) (h5:t.get i5=some (.cells [vI x.kind,v,.nils,vI x.det] 0 26 true)) (h8:t.get i8=some (.cells [.str nm,w] 0 39 true)) (hi5:i5<b) (hbn:b≤t.next) (hi8:b≤i8) (hi8t:i8<t.next) (hb:b≤b1) (hI:ArrI b1 t w M) (hA:ArrA b t v L)
  (hE:zI [(1,.func (.func g) [] []),(2,.ptr 0 0),(4,.ptr i4 0),(5,.ptr i5 0),(8,.ptr i8 0),(19,vl),(20,.int .i64 n20),(21,.int .i64 j)] E) {P:AX→Env→S→Prop}
  (hP:∀t' v',t'.wf→t.next≤t'.next→(∀j,j<b→¬j=i5→t'.get j=t.get j)→t'.get i5=some (.cells [vI x.kind,v',.nils,vI x.det] 0 26 true)→ArrA b t' v' (L++[⟨nm,M⟩])→∀E',zI [(1,.func (.func g) [] []),(2,.ptr 0 0),(4,.ptr i4 0),(5,.ptr i5 0),(19,vl),(20,.int .i64 n20),(21,.int .i64 j)] E'→P .normal E' t') :
  yd (st eJ []) (cf0 eJ []) true [] 74 (.reg 11 vT [1,2,4,5,19,20,21]) E t P:=by
 obtain ⟨q1,q2,q4,q5,q8,q19,q20,q21,_⟩:=hE
 simp only at q1 q2 q4 q5 q8 q19 q20 q21
 have hi5t:i5<t.next:=by omega
 have a1:∀k,¬i5=t.next+k:=fun k=>by omega
 have a2:¬i5=t.next:=by omega
 have a3:∀k,¬i8=t.next+k:=fun k=>by omega
 have a4:¬i8=t.next:=by omega
 have a5:∀k,¬t.next+k=i5:=fun k=>by omega
 have a6:¬t.next+1=i5:=a5 1
 have s1:(L.length+1)*24≤140737488355328:=by omega
 have s2:(L.length+1)*40≤140737488355328:=by omega
 have s3:L.length+1≤140737488355328:=by omega
 have hold:∀(o o2 o3:O) (j:Nat),j<b→¬j=i5→S.get (((t.add t.next o).add (t.next+1) o2).put i5 o3) j=t.get j:=fun o o2 o3 j hj hn=>by
  rw [S.get_put,if_neg (by omega),S.get_add,if_neg (by omega),S.get_add,if_neg (by omega)]
 have f0:M.length=0→fA ⟨nm,M⟩=[.str nm,.list []]:=fun h=>by
  rw [List.eq_nil_of_length_eq_zero h]; rfl
 rcases hI with ⟨rfl,c1,c2⟩ | ⟨ii,ci,hii,hiit,rfl,hgi⟩
 ·rcases hA with ⟨rfl,d1,d2⟩ | ⟨ia,ca,hia,hiat,rfl,hga⟩
  ·simp -implicitDefEqProofs (maxDischargeDepth:=9) (maxSteps:=1000000) [Nat.add_assoc,ze,zq,zt,zr,zd,zp,zs,zy,asInt,zn,zz,sub,zl,zu,za,zk,zb,zj,zg,zh,zf,zA,zw,zo,zm,zi,Int.natCast_inj,hw,h5,h8,hi5t,hi8t,q1,q2,q4,q5,q8,q19,q20,q21,a1,a2,a3,a4,uj]
   exact hP _ (.arr (t.next+1) 0 1 2 true 0) (S.wf_put (S.wf_add (S.wf_add hw _ _) _ _) _ _ (by simp; omega)) (by simp; omega) (hold _ _ _) (by simp) (.inr ⟨t.next+1,0,by omega,by simp,by simp [d2],by simp [d1,f0 c2,a6]⟩) _ (by simp [zI])
  ·have g1:∀k,¬ia=t.next+k:=fun k=>by omega
   have g2:¬ia=t.next:=by omega
   have g3:¬i5=ia:=by omega
   have g4:¬ia=i5:=by omega
   have g5:(L.flatMap fA).length=L.length*2:=zY (f:=fA) (n:=2) (fun _=>rfl) L
   have g6:(L.flatMap fA).take (L.length*2)=L.flatMap fA:=List.take_of_length_le (by omega)
   simp -implicitDefEqProofs (maxDischargeDepth:=9) (maxSteps:=1000000) [Nat.add_assoc,ze,zq,zt,zr,zd,zp,zs,zy,asInt,zn,zz,sub,zl,zu,za,zk,zb,zj,zg,zh,zf,zA,zw,zo,zm,zi,Int.natCast_inj,hw,h5,h8,hi5t,hi8t,q1,q2,q4,q5,q8,q19,q20,q21,a1,a2,a3,a4,uj,hga,hiat,g1,g2,g3,g4,g5,g6,s1,s2,s3]
   exact hP _ (.arr (t.next+1) 0 (L.length+1) 2 true (if L.length+1<ca then ca else 0)) (S.wf_put (S.wf_add (S.wf_del (S.wf_add hw _ _) _) _ _) _ _ (by simp; omega)) (by simp; omega) (fun j hj hn=>by
    rw [S.get_put,if_neg (by omega),S.get_add,if_neg (by omega),S.get_del,if_neg (by omega),S.get_add,if_neg (by omega)]) (by simp) (.inr ⟨t.next+1,if L.length+1<ca then ca else 0,by omega,by simp,by simp,by simp [f0 c2,a6]⟩) _ (by simp [zI])
 ·have b1:∀k,¬ii=t.next+k:=fun k=>by omega
  have b2:¬ii=t.next:=by omega
  have b3:¬i5=ii:=by omega
  have b4:¬ii=i5:=by omega
  have hlay:∀S':S,S'.get ii=some (.cells (M.map vI) 0 3 false)→xD true S' [.str nm,.arr ii 0 M.length 1 false ci]=some ([.str nm,.list (M.map vI)],S'.del ii):=fun S' h=>lay_alt hM rfl h
  rcases hA with ⟨rfl,d1,d2⟩ | ⟨ia,ca,hia,hiat,rfl,hga⟩
  ·simp -implicitDefEqProofs (maxDischargeDepth:=9) (maxSteps:=1000000) [Nat.add_assoc,ze,zq,zt,zr,zd,zp,zs,zy,asInt,zn,zz,sub,zl,zu,za,zk,zb,zj,zg,zh,zf,zA,zw,zo,zm,zi,Int.natCast_inj,hw,h5,h8,hi5t,hi8t,q1,q2,q4,q5,q8,q19,q20,q21,a1,a2,a3,a4,b1,b2,b3,b4,hlay,hgi]
   exact hP _ (.arr (t.next+1) 0 1 2 true 0) (S.wf_put (S.wf_add (S.wf_del (S.wf_add hw _ _) _) _ _) _ _ (by simp; omega)) (by simp; omega) (fun j hj hn=>by
    rw [S.get_put,if_neg (by omega),S.get_add,if_neg (by omega),S.get_del,if_neg (by omega),S.get_add,if_neg (by omega)]) (by simp) (.inr ⟨t.next+1,0,by omega,by simp,by simp [d2],by simp [d1,fA,a6]⟩) _ (by simp [zI])
  ·have g1:∀k,¬ia=t.next+k:=fun k=>by omega
   have g2:¬ia=t.next:=by omega
   have g3:¬i5=ia:=by omega
   have g4:¬ia=i5:=by omega
   have g5:(L.flatMap fA).length=L.length*2:=zY (f:=fA) (n:=2) (fun _=>rfl) L
   have g6:(L.flatMap fA).take (L.length*2)=L.flatMap fA:=List.take_of_length_le (by omega)
   have g7:¬ia=ii:=fun e=>by rw [← e,hga] at hgi; injection hgi with hgi; injection hgi with _ _ h; cases h
   have g8:¬ii=ia:=fun e=>g7 e.symm
   simp -implicitDefEqProofs (maxDischargeDepth:=9) (maxSteps:=1000000) [Nat.add_assoc,ze,zq,zt,zr,zd,zp,zs,zy,asInt,zn,zz,sub,zl,zu,za,zk,zb,zj,zg,zh,zf,zA,zw,zo,zm,zi,Int.natCast_inj,hw,h5,h8,hi5t,hi8t,q1,q2,q4,q5,q8,q19,q20,q21,a1,a2,a3,a4,b1,b2,b3,b4,hlay,hgi,hga,hiat,g1,g2,g3,g4,g5,g6,g7,g8,s1,s2,s3]
   exact hP _ (.arr (t.next+1) 0 (L.length+1) 2 true (if L.length+1<ca then ca else 0)) (S.wf_put (S.wf_add (S.wf_del (S.wf_del (S.wf_add hw _ _) _) _) _ _) _ _ (by simp; omega)) (by simp; omega) (fun j hj hn=>by
    rw [S.get_put,if_neg (by omega),S.get_add,if_neg (by omega),S.get_del,if_neg (by omega),S.get_del,if_neg (by omega),S.get_add,if_neg (by omega)]) (by simp) (.inr ⟨t.next+1,if L.length+1<ca then ca else 0,by omega,by simp,by simp,by simp [fA,a6]⟩) _ (by simp [zI])
end
end Go.Proofs.YtchlfjhbijmdiaaGreatDoor.Ai

namespace Go.Proofs.YtchlfjhbijmdiaaGreatDoor.Ai
open Go.Proofs
set_option maxRecDepth 100000
set_option maxHeartbeats 4000000

def a205_11:AC:=(.reg 11 vT [1,2,4,5,19,20,21])
theorem f205_l1_top:f205_l1=(.seq (.reg 3 f205_r3o [1,2,4,5,19,20,21,22]) (.seq (.cond (.tmp 22) .skip (.exit 0)) (.seq (.block 1 (.seq (.reg 4 f205_r4o [1,2,4,5,7,19,20,21]) (.seq (.reg 5 f205_r5o [1,2,4,5,7,8,19,20,21]) (.seq (.seq (.reg 6 f205_r6o [1,2,4,5,8,19,20,21,29,30,31]) (.block 2 (.loop uV))) a205_11)))) (.reg 12 f205_r12o [1,2,4,5,19,20,21])))):=rfl
section
variable {g:FuncId} {x:Inst} {s:S} {i4 i5:Nat}
theorem l205c (hg:IdF g) (hx:zQ x) (hw:s.wf) (hi5:i5<s.next) (h5:s.get i5=some (.cells [vI x.kind,.nils,.nils,vI x.det] 0 26 true)) {Q:AX→Env→S→Prop}
  (hQ:∀t v,t.wf→Kx i5 s t→t.get i5=some (.cells [vI x.kind,v,.nils,vI x.det] 0 26 true)→ArrA s.next t v x.alts→∀E',zI [(1,.func (.func g) [] []),(2,.ptr 0 0),(4,.ptr i4 0),(5,.ptr i5 0)] E'→Q (.exit 0) E' t) :
  yd (st eJ []) (cf0 eJ []) true [] 74 (.loop f205_l1) [(1,.func (.func g) [] []),(2,.ptr 0 0),(4,.ptr i4 0),(5,.ptr i5 0),(19,.list (x.alts.map eA)),(20,.int .i64 x.alts.length),(21,.int .i64 0)] s Q:=by
 refine zO (α:=Nat×V) (fun a=>[(1,.func (.func g) [] []),(2,.ptr 0 0),(4,.ptr i4 0),(5,.ptr i5 0),(19,.list (x.alts.map eA)),(20,.int .i64 x.alts.length),(21,.int .i64 a.1)]) (fun a t=>t.wf∧Kx i5 s t∧t.get i5=some (.cells [vI x.kind,a.2,.nils,vI x.det] 0 26 true)∧a.1≤x.alts.length∧ArrA s.next t a.2 (x.alts.take a.1)) (fun a=>x.alts.length - a.1) (0,.nils) f205_l1_fits (by simp [zI]) ⟨hw,Kx.refl _ _,h5,Nat.zero_le _,.inl ⟨rfl,rfl,rfl⟩⟩ ?_
 rintro ⟨i,v⟩ t ⟨hw,hk,h5,hi,ht⟩
 simp only at h5 hi ht ⊢
 have hxl:=hx.1
 rcases Nat.lt_or_ge i x.alts.length with h | h
 ·have e1:=List.getElem?_eq_getElem h
  have e3:IntKind.i64.wrap ((i:Int)+1)=((i+1:Nat):Int):=zN (by omega) (by omega)
  have hnext:x.alts.take (i+1)=x.alts.take i++[x.alts[i]]:=by rw [List.take_succ_eq_append_getElem h]
  have hL:(x.alts.take i).length=i:=by rw [List.length_take]; omega
  have ha1:=hx.2.2 _ (List.getElem_mem h)
  generalize x.alts.take i=L at ht hL hnext
  have hk1:=hk.1
  have hi5t:i5<t.next:=by omega
  have a1:∀k,¬i5=t.next+k:=fun k=>by omega
  have a2:¬i5=t.next:=by omega
  rw [f205_l1_top]
  simp -implicitDefEqProofs (maxDischargeDepth:=9) (maxSteps:=1000000) [Nat.add_assoc,ze,zq,zt,zr,zd,zp,zs,zy,asInt,zn,zz,sub,zl,zu,za,zk,zb,zj,zg,zh,zf,zA,zw,zo,zm,zi,Int.natCast_inj,h,hw,e1,eA,eI,hi5t,a1,a2]
  refine l205a (i8:=t.next+1) hg (M:=x.alts[i].args) (nm:=x.alts[i].name) (by omega) ?_ ?_ ?_ ?_
  ·exact S.wf_put (S.wf_add (S.wf_put (S.wf_add hw _ _) _ _ (by simp)) _ _) _ _ (by simp)
  ·simp
  ·simp
  ·intro t' w hw' hk' h8' hI' E' hE'
   have hold:∀j,j<t.next→t'.get j=t.get j:=fun j hj=>by
    rw [hk'.2 j (by simp; omega) (by omega)]
    rw [S.get_put,if_neg (by omega),S.get_add,if_neg (by omega),S.get_put,if_neg (by omega),S.get_add,if_neg (by omega)]
   have hn':t.next+2≤t'.next:=by have:=hk'.1; simp at this; omega
   have hI2:ArrI (t.next+2) t' w x.alts[i].args:=by simpa using hI'
   show yd (st eJ []) (cf0 eJ []) true [] 74 (.reg 11 vT [1,2,4,5,19,20,21]) E' t' _
   refine r205b (b:=s.next) (b1:=t.next+2) (L:=L) (M:=x.alts[i].args) (by omega) (by omega) hw' (by rw [hold i5 hi5t]; exact h5) h8' hi5 (by omega) (by omega) (by omega) (by omega) hI2 (ht.mono (by omega) fun j _ hj=>hold j hj) hE' ?_
   intro t2 v2 hw2 hn2 hj2 h52 hA2 E2 hE2
   obtain ⟨q1,q2,q4,q5,q19,q20,q21,_⟩:=hE2
   simp only at q1 q2 q4 q5 q19 q20 q21
   have hkk:Kx i5 s t2:=⟨by omega,fun j hj hn=>by rw [hj2 j hj hn,hold j (by omega),hk.2 j hj hn]⟩
   simp -implicitDefEqProofs (maxDischargeDepth:=9) (maxSteps:=1000000) [Nat.add_assoc,ze,zq,zt,zr,zd,zp,zs,zy,asInt,zn,zz,sub,zl,zu,za,zk,zb,zj,zg,zh,zf,zA,zw,zo,zm,zi,Int.natCast_inj,q1,q2,q4,q5,q19,q20,q21,e3]
   exact ⟨i+1,by omega,⟨hw2,hkk,_,h52,by omega,by rw [hnext]; exact hA2⟩,by simp⟩
 ·have:i=x.alts.length:=by omega
  subst this
  rw [List.take_length] at ht
  simp -implicitDefEqProofs (maxDischargeDepth:=9) (maxSteps:=1000000) [Nat.add_assoc,ze,zq,zt,zr,zd,zp,zs,zy,asInt,zn,zz,sub,zl,zu,za,zk,zb,zj,zg,zh,zf,zA,zw,zo,zm,zi,Int.natCast_inj,f205_l1,hw]
  exact hQ _ _ hw hk h5 ht _ (by simp [zI])
end
end Go.Proofs.YtchlfjhbijmdiaaGreatDoor.Ai

namespace Go.Proofs.YtchlfjhbijmdiaaGreatDoor.Ai
open Go.Proofs
set_option maxRecDepth 100000
set_option maxHeartbeats 4000000

theorem Kx.mk {i:Nat} {s t:S} (h:Kx i s t) {n:Nat} (hn:t.next≤n):Kx i s ⟨n,t.tr⟩:=⟨by have:=h.1; simp only; omega,fun j hj hi=>h.2 j hj hi⟩
section
variable {g:FuncId} {x:Inst} {s:S} {i4 i5:Nat} {vA:V}
theorem l205d (hg:IdF g) (hx:zQ x) (hw:s.wf) (hi5:i5<s.next) (h5:s.get i5=some (.cells [vI x.kind,vA,.nils,vI x.det] 0 26 true)) {Q:AX→Env→S→Prop}
  (hQ:∀t v,t.wf→Kx i5 s t→t.get i5=some (.cells [vI x.kind,vA,v,vI x.det] 0 26 true)→ArrM s.next t v x.modes→∀E',zI [(4,.ptr i4 0),(5,.ptr i5 0)] E'→Q (.exit 4) E' t) :
  yd (st eJ []) (cf0 eJ []) true [] 74 (.loop uU) [(1,.func (.func g) [] []),(4,.ptr i4 0),(5,.ptr i5 0),(52,.list (x.modes.map eM)),(53,.int .i64 x.modes.length),(54,.int .i64 0)] s Q:=by
 refine zO (α:=Nat×V) (fun a=>[(1,.func (.func g) [] []),(4,.ptr i4 0),(5,.ptr i5 0),(52,.list (x.modes.map eM)),(53,.int .i64 x.modes.length),(54,.int .i64 a.1)]) (fun a t=>t.wf∧Kx i5 s t∧t.get i5=some (.cells [vI x.kind,vA,a.2,vI x.det] 0 26 true)∧a.1≤x.modes.length∧ArrM s.next t a.2 (x.modes.take a.1)) (fun a=>x.modes.length - a.1) (0,.nils) f205_l2_fits (by simp [zI]) ⟨hw,Kx.refl _ _,h5,Nat.zero_le _,.inl ⟨rfl,rfl,rfl⟩⟩ ?_
 rintro ⟨i,v⟩ t ⟨hw,hk,h5,hi,ht⟩
 simp only at h5 hi ht ⊢
 have hxl:=hx.2.1
 rcases Nat.lt_or_ge i x.modes.length with h | h
 ·have e1:=List.getElem?_eq_getElem h
  have e3:IntKind.i64.wrap ((i:Int)+1)=((i+1:Nat):Int):=zN (by omega) (by omega)
  have hnext:x.modes.take (i+1)=x.modes.take i++[x.modes[i]]:=by rw [List.take_succ_eq_append_getElem h]
  have hL:(x.modes.take i).length=i:=by rw [List.length_take]; omega
  generalize x.modes.take i=L at ht hL hnext
  have hcall:=callId hg
  unfold IdF at hg
  have hlay:∀(t:S) (a b:Int),xD true t [.int .i64 a,.int .i64 b]=some ([.int .i64 a,.int .i64 b],t):=fun t a b=>rfl
  have hk1:=hk.1
  have hi5t:i5<t.next:=by omega
  have a1:∀k,¬i5=t.next+k:=fun k=>by omega
  have a2:¬i5=t.next:=by omega
  have a3:∀k,¬t.next+k=i5:=fun k=>by omega
  have s1:(i+1)*16≤140737488355328:=by omega
  have s3:i+1≤140737488355328:=by omega
  rcases ht with ⟨rfl,d1,d2⟩ | ⟨id,cp,hid0,hid,rfl,hgt⟩
  ·rcases hg with rfl | rfl
   all_goals
    simp -implicitDefEqProofs (maxDischargeDepth:=9) (maxSteps:=1000000) [Nat.add_assoc,ze,zq,zt,zr,zd,zp,zs,zy,asInt,zn,zz,sub,zl,zu,za,zk,zb,zj,zg,zh,zf,zA,zw,zo,zm,zi,Int.natCast_inj,uU,h,hw,h5,hi5t,e1,e3,eM,hcall,hlay,a1,a2,vI]
    exact ⟨i+1,by omega,⟨S.wf_put (S.wf_add (S.wf_add (wf_mk (S.wf_put (S.wf_add hw _ _) _ _ (by simp)) (by simp)) _ _) _ _) _ _ (by simp; omega),(((((hk.add _ hk1).putn _ hk1).mk (by simp)).add _ (by omega)).add _ (by omega)).put _,by omega,.inr ⟨t.next+13,0,by omega,by simp,by rw [hnext]; simp [d2],by rw [hnext]; simp [d1,a3,fP,vI]⟩⟩,by simp⟩
  ·have h6:∀k,¬id=t.next+k:=fun k=>by omega
   have h7:¬id=t.next:=by omega
   have h9:¬i5=id:=by omega
   have h10:¬id=i5:=by omega
   have g5:(L.flatMap fP).length=L.length*2:=zY (f:=fP) (n:=2) (fun _=>rfl) L
   have g6:(L.flatMap fP).take (i*2)=L.flatMap fP:=List.take_of_length_le (by omega)
   rcases hg with rfl | rfl
   all_goals
    simp -implicitDefEqProofs (maxDischargeDepth:=9) (maxSteps:=1000000) [Nat.add_assoc,ze,zq,zt,zr,zd,zp,zs,zy,asInt,zn,zz,sub,zl,zu,za,zk,zb,zj,zg,zh,zf,zA,zw,zo,zm,zi,Int.natCast_inj,uU,h,hw,h5,hi5t,e1,e3,eM,hcall,hlay,a1,a2,hgt,hid,hL,h6,h7,h9,h10,g5,g6,s1,s3,vI]
    exact ⟨i+1,by omega,⟨S.wf_put (S.wf_add (S.wf_del (S.wf_add (wf_mk (S.wf_put (S.wf_add hw _ _) _ _ (by simp)) (by simp)) _ _) _) _ _) _ _ (by simp; omega),((((((hk.add _ hk1).putn _ hk1).mk (by simp)).add _ (by omega)).del hid0).add _ (by omega)).put _,by omega,.inr ⟨t.next+13,if i+1<cp then cp else 0,by omega,by simp,by rw [hnext]; simp [hL],by rw [hnext]; simp [a3,fP,vI]⟩⟩,by simp⟩
 ·have:i=x.modes.length:=by omega
  subst this
  rw [List.take_length] at ht
  simp -implicitDefEqProofs (maxDischargeDepth:=9) (maxSteps:=1000000) [Nat.add_assoc,ze,zq,zt,zr,zd,zp,zs,zy,asInt,zn,zz,sub,zl,zu,za,zk,zb,zj,zg,zh,zf,zA,zw,zo,zm,zi,Int.natCast_inj,uU,hw]
  exact hQ _ _ hw hk h5 ht _ (by simp [zI])
end
/-! what is seen of such slices -/
theorem see_Arr {α:Type} {f:α→List V} {sz:Nat} {ty:TypeId} (hf:∀a,(f a).length=sz) {s:S} {v:V} {L:List α} {b k:Nat} (hv:∀a,∀v∈f a,v.one=true∧∀k,see (k+1) s v=some v) (h:Arr (L.flatMap f) L.length sz true ty b s v) (hL:L.length*sz+3≤k):see k s v=some (.list (L.map fun a=>.agg (f a))):=by
 refine slG_seek (ty:=ty) hf hv ?_ hL
 rcases h with ⟨h1,_,h3⟩ | ⟨id,cp,_,h2,h3,h4⟩
 ·exact .inl ⟨h1,List.eq_nil_of_length_eq_zero h3⟩
 ·exact .inr ⟨id,cp,h2,h3,h4⟩
theorem fA_v {s:S} (a:Alt):∀v∈fA a,v.one=true∧∀k,see (k+1) s v=some v:=by
 intro v hv
 simp only [fA,List.mem_cons,List.not_mem_nil,or_false] at hv
 rcases hv with rfl | rfl <;> exact ⟨rfl,fun _=>rfl⟩
theorem laid_inst {x:Inst} (hx:zQ x) {s:S} {v w:V} {b c:Nat} (h1:ArrA b s v x.alts) (h2:ArrM c s w x.modes):wL s (.agg [vI x.kind,v,w,vI x.det]) (eX x):=by
 have g1:∀k,90000≤k→see k s v=some (.list (x.alts.map eA)):=fun k hk=>see_Arr (sz:=2) (L:=x.alts) (fun _=>rfl) fA_v h1 (by have:=hx.1; omega)
 have g2:∀k,90000≤k→see k s w=some (.list (x.modes.map eM)):=fun k hk=>see_Arr (sz:=2) (L:=x.modes) (fun _=>rfl) fP_v h2 (by have:=hx.2.1; omega)
 refine ⟨?_,free_eX x⟩
 show see (99999+1) s _=_
 unfold see
 show (match vy (99998+1) s [vI x.kind,v,w,vI x.det] with | some cs'=>some (V.agg cs') | none=>none)=_
 simp only [vy,g1 99997 (by omega),g2 99996 (by omega)]
 rfl
theorem uc {cs:List V} {n sz:Nat} {ag:Bool} {ty:TypeId} {b:Nat} {s:S} {v:V} (h:Arr cs n sz ag ty b s v):v.one=true:=by
 rcases h with ⟨rfl,_⟩ | ⟨_,_,_,_,rfl,_⟩ <;> rfl
theorem arr_low {cs:List V} {n sz:Nat} {ag:Bool} {ty:TypeId} {b c:Nat} {s:S} {v:V} (hb:c≤b) (h:Arr cs n sz ag ty b s v):Arr cs n sz ag ty c s v:=by
 rcases h with h | ⟨id,cp,h1,h2⟩
 ·exact .inl h
 ·exact .inr ⟨id,cp,by omega,h2⟩
def f205_k1:AC:=(.seq (.seq (.reg 13 f205_r13o [1,4,5,52,53,54]) (.block 4 (.loop uU))) (.seq (.reg 18 f205_r18o [4]) .ret))
theorem f205_top:f205_ac=(.seq (.reg 0 f205_r0o [1,2,4]) (.seq (.reg 1 f205_r1o [1,2,4,5]) (.seq (.seq (.reg 2 f205_r2o [1,2,4,5,19,20,21]) (.block 0 (.loop f205_l1))) f205_k1))):=rfl
theorem p205 {g:FuncId} (hg:IdF g) (x:Inst) (hx:zQ x):zx Tryz.prog zB 18 [eX x,.func (.func g) [] []] (eX x):=by
 have hc:=yn (e:=eJ) (f:=[]) eJ_ok .nil
 refine zx.cfg (cfg:=st eJ []) rfl ?_
 refine zM (sl:=true) hc (zW hc) yi Tryz.func18 f205_eq f205_nt f205_fits (by simp) (by simp) ?_
 rw [f205_top]
 simp -implicitDefEqProofs (maxDischargeDepth:=9) (maxSteps:=1000000) [Nat.add_assoc,ze,zq,zt,zr,zd,zp,zs,zy,asInt,zn,zz,sub,zl,zu,za,zk,zb,zj,zg,zh,zf,zA,zw,zo,zm,zi,Int.natCast_inj,eX]
 refine l205c hg hx ?_ ?_ ?_ ?_
 ·exact S.wf_put (S.wf_add (S.wf_add (S.wf_add S.wf_empty _ _) _ _) _ _) _ _ (by simp)
 ·simp
 ·simp
 intro t v hw hk h5 hA E' hE
 obtain ⟨q1,q2,q4,q5,_⟩:=hE
 simp only at q1 q2 q4 q5
 have h0:t.get 0=some (.cells (cX x) 0 26 true):=by
  rw [hk.2 0 (by simp) (by omega)]; simp [cX]
 have hn1:3≤t.next:=by have:=hk.1; simpa using this
 show yd (st eJ []) (cf0 eJ []) true [] 74 f205_k1 E' t _
 unfold f205_k1
 simp -implicitDefEqProofs (maxDischargeDepth:=9) (maxSteps:=1000000) [Nat.add_assoc,ze,zq,zt,zr,zd,zp,zs,zy,asInt,zn,zz,sub,zl,zu,za,zk,zb,zj,zg,zh,zf,zA,zw,zo,zm,zi,Int.natCast_inj,q1,q2,q4,q5,h0,hw,cX]
 refine l205d (vA:=v) hg hx hw (by omega) h5 ?_
 intro u w hwu hku h5u hM E2 hE2
 obtain ⟨q4,q5,_⟩:=hE2
 simp only at q4 q5
 have h1:u.get 1=some (.cells [vI 0,.nils,.nils,vI 0] 0 26 true):=by
  rw [hku.2 1 (by omega) (by omega),hk.2 1 (by simp) (by omega)]; simp [vI]
 have hn2:3≤u.next:=by have:=hku.1; omega
 have o1:=uc hA
 have o2:=uc hM
 simp -implicitDefEqProofs (maxDischargeDepth:=9) (maxSteps:=1000000) [Nat.add_assoc,ze,zq,zt,zr,zd,zp,zs,zy,asInt,zn,zz,sub,zl,zu,za,zk,zb,zj,zg,zh,zf,zA,zw,zo,zm,zi,Int.natCast_inj,q4,q5,h5u,h1,hwu,o1,o2]
 have hA2:ArrA 3 t v x.alts:=by simpa using hA
 have hM2:ArrM 3 u w x.modes:=arr_low hn1 hM
 have hA3:ArrA 3 u v x.alts:=hA2.mono hku.1 fun j hj hj2=>hku.2 j hj2 (by omega)
 exact laid_inst hx (hA3.mono (Nat.le_refl _) fun j hj _=>by rw [S.get_put,if_neg (by omega)]) (hM2.mono (Nat.le_refl _) fun j hj _=>by rw [S.get_put,if_neg (by omega)])
end Go.Proofs.YtchlfjhbijmdiaaGreatDoor.Ai

