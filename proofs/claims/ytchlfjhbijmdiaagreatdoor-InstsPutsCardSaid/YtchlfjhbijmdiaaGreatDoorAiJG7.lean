/- Part of a reckoning of a Go program over abstract values, proved sound against the model. -/
import Derived.Test.YtchlfjhbijmdiaaGreatDoorAiJG4
import Derived.Test.YtchlfjhbijmdiaaGreatDoorAiJB4
set_option linter.unusedSimpArgs false
set_option linter.unusedVariables false
namespace Go.Proofs.YtchlfjhbijmdiaaGreatDoor.Ai
open Go.Proofs
set_option maxRecDepth 100000
/-! where some functions are told by what they do with their arguments -/
def pures7:List (Nat×Nat):=(48,7)::(51,7)::zm
noncomputable def cfg7:Cfg:=wc Tryz.prog maskD globD pures7 [] (fun _ _=>none)
theorem exts7:xN Tryz.prog pures7=true:=by kernel_rfl
theorem fns7:vc Tryz.prog cfg7=true:=by kernel_rfl
noncomputable def st7 (e f:List (FuncId×(List V→Option V))):Cfg:=stg Tryz.prog maskD globD pures7 [] zo e f
theorem st7_ok {e f:List (FuncId×(List V→Option V))} (he:xa Tryz.prog zB e) (hf:FtOk Tryz.prog (st [] []) f):(st7 e f).Ok Tryz.prog:=stg_ok mixed glob_free fns7 exts7 (c0:=zB) rfl he fun g h hm args v hh=>(hf g h hm args v hh).cfg rfl rfl rfl
section
variable (e f:List (FuncId×(List V→Option V)))
@[simp] theorem st7_ty (t:TypeId):(st7 e f).ty t=zB.ty t:=rfl
@[simp] theorem st7_fn (g:FuncId):(st7 e f).fn g=zB.fn g:=rfl
@[simp] theorem st7_pure (g:FuncId):(st7 e f).pure g=te pures7 g:=rfl
@[simp] theorem st7_raw (g:FuncId):(st7 e f).raw g=false:=rfl
@[simp] theorem st7_tab (g:FuncId) (args:List V):(st7 e f).tab g args=xi e g args:=rfl
@[simp] theorem st7_ftab (g:FuncId) (args:List V):(st7 e f).ftab g args=xi f g args:=rfl
@[simp] theorem st7_fresh (g:FuncId):(st7 e f).fresh g=zo g:=rfl
@[simp] theorem st7_fld (t:TypeId) (k:Nat):yC (st7 e f) t k=yC zB t k:=rfl
@[simp] theorem st7_bld (t:TypeId) (ps:List (Nat×V)):xh (st7 e f) t ps=xh zB t ps:=aBuild_ty (c:=st7 e f) (c':=zB) rfl t ps
@[simp] theorem st7_simple (o:Array Oper):zD (st7 e f) o=zD cfg7 o:=rfl
@[simp] theorem st7_draw (o:Array Oper):yg (st7 e f) o=yg cfg7 o:=rfl
@[simp] theorem st7_tail (o:Array Oper) (j:Nat):zV (st7 e f) o j=zV cfg7 o j:=rfl
@[simp] theorem st7_kind (o:Oper):zC (st7 e f) o=zC cfg7 o:=rfl
@[simp] theorem st7_layr:(st7 e f).layr=false:=rfl
end
attribute [simp] pures7
noncomputable abbrev cf7 (e f:List (FuncId×(List V→Option V))):CF:=run (st7 e f) 0
end Go.Proofs.YtchlfjhbijmdiaaGreatDoor.Ai

namespace Go.Proofs.YtchlfjhbijmdiaaGreatDoor.Ai
open Go.Proofs
set_option maxRecDepth 100000
set_option maxHeartbeats 4000000

def sp218:SpE:=⟨fun args s=>∃x to iT cT exT,args=[eX x,.arr iT 0 (List.length to) 1 false cT]∧iT<s.next∧s.get iT=some (.cells (to.map vI) 0 3 exT)∧zQ x∧∀k∈yv x,ToId to k,
 fun args s v s'=>∃x va vm,args.head?=some (eX x)∧v=.agg [vI x.kind,va,vm,vI x.det]∧s.keeps s'∧s'.wf∧ArrA s.next s' va x.alts∧ArrM s.next s' vm x.modes,
 fun _ _ _ _=>False⟩
theorem spec218':tR Tryz.prog (st [] []) 48 sp218:=by
 have hc:=yn (e:=[]) (f:=[]) .nil .nil
 refine spec_of (sl:=true) hc (zW hc) yi Tryz.func48 (by rfl) f218_eq f218_nt f218_fits ?_
 rintro args s ⟨x,to,iT,cT,exT,rfl,hiT,hT,hx,hto⟩ hw
 refine ⟨by simp,?_⟩
 rw [f218_top]
 have q1:∀k,¬iT=s.next+k:=fun k=>by omega
 have q2:¬iT=s.next:=by omega
 simp -implicitDefEqProofs (maxDischargeDepth:=9) (maxSteps:=1000000) [Nat.add_assoc,ze,zq,zt,zr,zd,zp,zs,zy,asInt,zn,zz,sub,zl,zu,za,zk,zb,zj,zg,zh,zf,zA,zw,zo,zm,zi,Int.natCast_inj,eX,hw]
 refine l218cq (ib:=s.next) (iT:=iT) (to:=to) (exT:=exT) ?_ ?_ ?_ ?_ hx (fun a ha k hk=>hto k (List.mem_append.2 (.inr (List.mem_flatMap.2 ⟨a,ha,hk⟩)))) ?_ ?_ ?_ ?_ ?_ ?_
 ·simp; omega
 ·simp [q1,q2,hT]
 ·simp; omega
 ·omega
 ·simp [cX]
 ·omega
 ·exact S.wf_put (S.wf_add (S.wf_add (S.wf_add hw _ _) _ _) _ _) _ _ (by simp)
 ·simp
 ·simp
 intro t v hwt hk h5 hA E' hE
 obtain ⟨e1,e2,e4,e5,_⟩:=hE
 simp only at e1 e2 e4 e5
 have hn1:s.next+3≤t.next:=by have:=hk.1; simp at this; omega
 have old:∀j,j<s.next→t.get j=s.get j:=fun j hj=>by
  rw [hk.2 j (by simp; omega) (by omega),S.get_put,if_neg (by omega),S.get_add,if_neg (by omega),S.get_add,if_neg (by omega),S.get_add,if_neg (by omega)]
 have h0:t.get s.next=some (.cells (cX x) 0 26 true):=by
  rw [hk.2 s.next (by simp; omega) (by omega)]; simp [cX]
 have hTt:t.get iT=some (.cells (to.map vI) 0 3 exT):=by rw [old iT hiT]; exact hT
 show yd (st [] []) (cf0 [] []) true [] 95 f218_k1 E' t _
 unfold f218_k1
 simp -implicitDefEqProofs (maxDischargeDepth:=9) (maxSteps:=1000000) [Nat.add_assoc,ze,zq,zt,zr,zd,zp,zs,zy,asInt,zn,zz,sub,zl,zu,za,zk,zb,zj,zg,zh,zf,zA,zw,zo,zm,zi,Int.natCast_inj,e1,e2,e4,e5,h0,hwt,cX]
 refine l218dq (vA:=v) (ib:=s.next) (iT:=iT) (to:=to) (exT:=exT) (by omega) hTt (by omega) (by omega) hx (fun k hk=>hto k (List.mem_append.2 (.inl hk))) h0 (by omega) hwt (by omega) h5 ?_
 intro u w hwu hku h5u hM E2 hE2
 obtain ⟨e4,e5,_⟩:=hE2
 simp only at e4 e5
 have h1:u.get (s.next+1)=some (.cells [vI 0,.nils,.nils,vI 0] 0 26 true):=by
  rw [hku.2 _ (by omega) (by omega),hk.2 _ (by simp <;> omega) (by omega)]; simp [vI]
 have o1:=uc hA
 have o2:=uc hM
 have hun:=hku.1
 simp -implicitDefEqProofs (maxDischargeDepth:=9) (maxSteps:=1000000) [Nat.add_assoc,ze,zq,zt,zr,zd,zp,zs,zy,asInt,zn,zz,sub,zl,zu,za,zk,zb,zj,zg,zh,zf,zA,zw,zo,zm,zi,Int.natCast_inj,e4,e5,h5u,h1,hwu,o1,o2]
 have hA2:ArrA (s.next+3) t v x.alts:=by simpa using hA
 have hwf:(u.put (s.next+1) (.cells [vI x.kind,v,w,vI x.det] 0 26 true)).wf:=S.wf_put hwu _ _ (by omega)
 have hA3:ArrA (s.next+3) u v x.alts:=hA2.mono hku.1 fun j hj hj2=>hku.2 j hj2 (by omega)
 refine ⟨x,v,w,rfl,rfl,⟨by simp; omega,fun j hj=>?_,fun _=>hwf⟩,hwf,arr_low (by omega) (hA3.mono (Nat.le_refl _) fun j hj _=>by rw [S.get_put,if_neg (by omega)]),arr_low (by omega) (hM.mono (Nat.le_refl _) fun j hj _=>by rw [S.get_put,if_neg (by omega)])⟩
 rw [S.get_put,if_neg (by omega),hku.2 j (by omega) (by omega),old j hj]
theorem spec218 {e f:List (FuncId×(List V→Option V))}:tR Tryz.prog (st7 e f) 48 sp218:=fun x args cargs hg=>spec218' x args cargs hg
end Go.Proofs.YtchlfjhbijmdiaaGreatDoor.Ai

namespace Go.Proofs.YtchlfjhbijmdiaaGreatDoor.Ai
open Go.Proofs
set_option maxRecDepth 100000
set_option maxHeartbeats 4000000

/-! what is laid, and what is taken away with it -/
def dl:V→S→S
 | .arr id _ _ _ _ _,s=>s.del id
 | _,s=>s
@[simp] theorem dl_next (v:V) (s:S):(dl v s).next=s.next:=by cases v <;> rfl
theorem dl_wf {s:S} (h:s.wf) (v:V):(dl v s).wf:=by
 cases v <;> first | exact h | exact S.wf_del h _
theorem dl_get {cs:List V} {n sz:Nat} {ag:Bool} {ty:TypeId} {b:Nat} {s:S} {v:V} (h:Arr cs n sz ag ty b s v) (S':S) {j:Nat} (hj:j<b):(dl v S').get j=S'.get j:=by
 rcases h with ⟨rfl,_⟩ | ⟨id,cp,h1,_,rfl,_⟩
 ·rfl
 ·show (S'.del id).get j=_
  rw [S.get_del,if_neg (by omega)]
theorem dl_keeps {cs:List V} {n sz:Nat} {ag:Bool} {ty:TypeId} {b:Nat} {s s0 t:S} {v:V} (h:Arr cs n sz ag ty b s v) (hb:s0.next≤b) (hk:s0.keeps t):s0.keeps (dl v t):=by
 rcases h with ⟨rfl,_⟩ | ⟨id,cp,h1,_,rfl,_⟩
 ·exact hk
 ·exact hk.del (by omega)
theorem lay_Arr {α:Type} {f:α→List V} {sz:Nat} {ty:TypeId} (hf:∀a,(f a).length=sz) (hv:∀a,∀v∈f a,v.one=true∧∀k (S':S),1≤k→lay k S' v=some (v,S')) {L:List α} {b k:Nat} {s S':S} {v:V} (h:Arr (L.flatMap f) L.length sz true ty b s v) (hS:∀j,b≤j→j<s.next→S'.get j=s.get j) (hL:L.length*sz+5≤k):lay k S' v=some (.list (L.map fun a=>.agg (f a)),dl v S'):=by
 obtain ⟨k,rfl⟩:∃m,k=m+1:=⟨k - 1,by omega⟩
 rcases h with ⟨rfl,_,h3⟩ | ⟨id,cp,h1,h2,rfl,h4⟩
 ·rw [List.eq_nil_of_length_eq_zero h3]; rfl
 ·have hg:=(hS id h1 h2).trans h4
  have hlen:(L.flatMap f).length=L.length*sz:=zY hf L
  have h5:layL k (S'.del id) (L.flatMap f)=some (L.flatMap f,S'.del id):=wE (d:=1) _ _ (fun v hm k hk=>by
   obtain ⟨a,_,ha⟩:=List.mem_flatMap.1 hm
   exact (hv a v ha).2 k _ hk) (by omega) (by omega)
  have h6:(L.flatMap f).all V.one=true:=by
   rw [List.all_eq_true]
   intro v hm
   obtain ⟨a,_,ha⟩:=List.mem_flatMap.1 hm
   exact (hv a v ha).1
  have h7:(L.flatMap f).take (L.length*sz)=L.flatMap f:=List.take_of_length_le (by omega)
  unfold lay
  rw [hg]
  simp only [List.drop_zero,Nat.zero_add,h7,h5,h6,if_true,chunk_ag hf L]
  rw [if_pos ⟨by omega,fun h=>by cases h⟩]
  rfl
theorem fA_l (a:Alt):∀v∈fA a,v.one=true∧∀k (S':S),1≤k→lay k S' v=some (v,S'):=by
 intro v hv
 simp only [fA,List.mem_cons,List.not_mem_nil,or_false] at hv
 rcases hv with rfl | rfl <;> exact ⟨rfl,fun k S' hk=>by obtain ⟨k,rfl⟩:∃m,k=m+1:=⟨k - 1,by omega⟩; rfl⟩
theorem fP_l (a:Int×Int):∀v∈fP a,v.one=true∧∀k (S':S),1≤k→lay k S' v=some (v,S'):=by
 intro v hv
 simp only [fP,List.mem_cons,List.not_mem_nil,or_false] at hv
 rcases hv with rfl | rfl <;> exact ⟨rfl,fun k S' hk=>by obtain ⟨k,rfl⟩:∃m,k=m+1:=⟨k - 1,by omega⟩; rfl⟩
/-- An inst that is laid. -/
theorem lay_inst {x:Inst} (hx:zQ x) {s S':S} {va vm:V} {b:Nat} (h1:ArrA b s va x.alts) (h2:ArrM b s vm x.modes) (hS:∀j,b≤j→j<s.next→S'.get j=s.get j):xD true S' [vI x.kind,va,vm,vI x.det]=some ([vI x.kind,.list (x.alts.map eA),.list (x.modes.map eM),vI x.det],dl vm (dl va S')):=by
 have g1:∀k,90000≤k→lay k S' va=some (.list (x.alts.map eA),dl va S'):=fun k hk=>lay_Arr (sz:=2) (L:=x.alts) (fun _=>rfl) fA_l h1 hS (by have:=hx.1; omega)
 have g2:∀k,90000≤k→lay k (dl va S') vm=some (.list (x.modes.map eM),dl vm (dl va S')):=fun k hk=>by
  refine lay_Arr (sz:=2) (ty:=55) (L:=x.modes) (fun _=>rfl) fP_l (b:=b) (s:=dl va s) ?_ (fun j hj hj2=>?_) (by have:=hx.2.1; omega)
  ·rcases h2 with h2 | ⟨id,cp,e1,e2,e3,e4⟩
   ·exact .inl h2
   ·refine .inr ⟨id,cp,e1,by simpa using e2,e3,?_⟩
    rcases h1 with ⟨rfl,_⟩ | ⟨ia,ca,c1,c2,rfl,c4⟩
    ·exact e4
    ·show (s.del ia).get id=_
     rw [S.get_del,if_neg]
     ·exact e4
     ·intro e
      rw [e,c4] at e4
      injection e4 with e4
      injection e4 with _ _ h
      cases h
  ·rcases h1 with ⟨rfl,_⟩ | ⟨ia,ca,c1,c2,rfl,c4⟩
   ·exact hS j hj hj2
   ·show (S'.del ia).get j=(s.del ia).get j
    rw [S.get_del,S.get_del]
    split
    ·rfl
    ·exact hS j hj hj2
 show layL (99999+1) S' _=_
 have g0:∀(k:Nat) (S0:S) (n:Int),1≤k→lay k S0 (vI n)=some (vI n,S0):=fun k S0 n hk=>lay_vI n k hk
 simp only [layL,g0 99999 S' x.kind (by omega),g1 99998 (by omega),g2 99997 (by omega),g0 99996 _ x.det (by omega)]
end Go.Proofs.YtchlfjhbijmdiaaGreatDoor.Ai

namespace Go.Proofs.YtchlfjhbijmdiaaGreatDoor.Ai
open Go.Proofs
set_option maxRecDepth 100000
set_option maxHeartbeats 4000000

/-! the reference's Copy -/
def wH (n i:Nat):List Int:=(List.range n).map fun j=>if j<i then (j:Int) else 0
theorem tF (n i:Nat):(wH n i).length=n:=by simp [wH]
theorem fillN_zero (n:Nat):wH n 0=List.replicate n 0:=by
 refine List.ext_getElem (by simp [wH]) fun j h1 h2=>by simp [wH]
theorem fillN_set {n i:Nat} (h:i<n):(wH n i).set i i=wH n (i+1):=by
 refine List.ext_getElem (by simp [wH]) fun j h1 h2=>?_
 rw [List.getElem_set]
 simp only [wH,List.getElem_map,List.getElem_range]
 split
 ·rename_i e; subst e; simp
 ·rename_i e
  by_cases hj:j<i
  ·rw [if_pos hj,if_pos (by omega)]
  ·rw [if_neg hj,if_neg (by omega)]
theorem fillN_toId {n:Nat} {k:Int} (h0:0≤k) (h1:k<n):ToId (wH n n) k:=by
 refine ⟨h0,by rw [tF]; exact h1,?_⟩
 have hk:k.toNat<n:=by omega
 rw [List.getElem?_eq_getElem (by rw [tF]; exact hk)]
 simp [wH,hk]
 omega
theorem zerosI:∀n:Nat,zk [.int .i64 0] n=(List.replicate n (0:Int)).map vI
 | 0=>rfl
 | n+1=>by simp [zk,zerosI n,List.replicate_succ,vI]
theorem sp7_ok {e f:List (FuncId×(List V→Option V))}:∀g se,(g,se)∈[(48,sp218)]→tR Tryz.prog (st7 e f) g se:=fun g se h=>by
 simp only [List.mem_singleton,Prod.mk.injEq] at h
 obtain ⟨rfl,rfl⟩:=h
 exact spec218
theorem cf7_ok {e f:List (FuncId×(List V→Option V))} (h:(st7 e f).Ok Tryz.prog):wv Tryz.prog (st7 e f) (cf7 e f):=run_ok h 0
def f208_k1:AC:=(.seq (.reg 6 f208_r6o [0,3,5]) (.seq (.seq (.reg 7 f208_r7o [0,3,5,6]) (.block 2 (.loop f208_l1))) (.seq (.reg 11 f208_r11o [2]) .ret)))
theorem f208_top:f208_ac=(.seq (.reg 0 f208_r0o [0]) (.seq (.reg 1 f208_r1o [0,3]) (.seq (.seq (.reg 2 f208_r2o [0,3,4]) (.block 0 (.loop f208_l0))) f208_k1))):=rfl
def b208:AC:=(.reg 10 f208_r10o [0,3,5,6])
theorem f208_l1_top:f208_l1=(.seq (.seq (.reg 8 f208_r8o [0,3,5,6,23]) (.cond (.tmp 23) .skip (.exit 2))) (.seq (.block 3 b208) (.reg 9 f208_r9o [0,3,5,6]))):=rfl
section
variable {l:List Inst} {s0 s:S} {iT cT:Nat}
theorem l208a (hl:l.length≤1000) (hw:s.wf) (hk:s0.keeps s) (hi0:s0.next≤iT) (hiT:iT<s.next) (hT:s.get iT=some (.cells ((wH l.length 0).map vI) 0 3 true)) {Q:AX→Env→S→Prop} (hQ:∀t,t.wf→s0.keeps t→iT<t.next→t.get iT=some (.cells ((wH l.length l.length).map vI) 0 3 true)→∀E',zI [(0,.list (l.map eX)),(3,.arr iT 0 l.length 1 false cT)] E'→Q (.exit 0) E' t) :
  yd (st7 [] []) (cf7 [] []) true [(48,sp218)] 36 (.loop f208_l0) [(0,.list (l.map eX)),(3,.arr iT 0 l.length 1 false cT),(4,.int .i64 0)] s Q:=by
 refine zO (α:=Nat) (fun a=>[(0,.list (l.map eX)),(3,.arr iT 0 l.length 1 false cT),(4,.int .i64 a)]) (fun a t=>t.wf∧s0.keeps t∧iT<t.next∧a≤l.length∧t.get iT=some (.cells ((wH l.length a).map vI) 0 3 true)) (fun a=>l.length - a) 0 f208_l0_fits (by simp [zI]) ⟨hw,hk,hiT,Nat.zero_le _,hT⟩ ?_
 rintro i t ⟨hw,hk,hiT,hi,hT⟩
 have hlen:=tF l.length i
 rcases Nat.lt_or_ge i l.length with h | h
 ·have e3:IntKind.i64.wrap ((i:Int)+1)=((i+1:Nat):Int):=zN (by omega) (by omega)
  have hsp:=xu (wH l.length i) i i (by rw [hlen]; exact h)
  rw [fillN_set h] at hsp
  have hi1:i+1≤l.length:=h
  simp -implicitDefEqProofs (maxDischargeDepth:=9) (maxSteps:=1000000) [Nat.add_assoc,ze,zq,zt,zr,zd,zp,zs,zy,asInt,zn,zz,sub,zl,zu,za,zk,zb,zj,zg,zh,zf,zA,zw,zo,zm,zi,Int.natCast_inj,f208_l0,h,hw,hiT,hT,e3,hlen,hsp,hi1,vI]
  exact ⟨i+1,by omega,⟨hk.put _ hi0 hiT,by omega,rfl⟩,by simp⟩
 ·have:i=l.length:=by omega
  subst this
  simp -implicitDefEqProofs (maxDischargeDepth:=9) (maxSteps:=1000000) [Nat.add_assoc,ze,zq,zt,zr,zd,zp,zs,zy,asInt,zn,zz,sub,zl,zu,za,zk,zb,zj,zg,zh,zf,zA,zw,zo,zm,zi,Int.natCast_inj,f208_l0,hw]
  exact hQ _ hw hk hiT hT _ (by simp [zI])
theorem b208_ok (hl:l.length≤1000) (hs:∀x∈l,zQ x) (hv:yt l) {i:Nat} (h:i<l.length) (hw:s.wf) (hk:s0.keeps s) (hi0:s0.next≤iT) (hiT:iT<s.next) (hT:s.get iT=some (.cells ((wH l.length l.length).map vI) 0 3 true)) {v:V} {L:List Inst} (hLl:L.length=i) (ht:SlN cX 4 26 s0 s v L) {P:AX→Env→S→Prop}
  (hP:∀t v',t.wf→s0.keeps t→iT<t.next→t.get iT=some (.cells ((wH l.length l.length).map vI) 0 3 true)→SlN cX 4 26 s0 t v' (L++[l[i]])→∀E',zI [(0,.list (l.map eX)),(3,.arr iT 0 l.length 1 false cT),(5,v'),(6,.int .i64 i)] E'→P .normal E' t) :
  yd (st7 [] []) (cf7 [] []) true [(48,sp218)] 36 b208 [(0,.list (l.map eX)),(3,.arr iT 0 l.length 1 false cT),(5,v),(6,.int .i64 i),(23,.bool true)] s P:=by
 have e1:=List.getElem?_eq_getElem h
 have hx:=hs _ (List.getElem_mem h)
 unfold b208
 simp -implicitDefEqProofs (maxDischargeDepth:=9) (maxSteps:=1000000) [Nat.add_assoc,ze,zq,zt,zr,zd,zp,zs,zy,asInt,zn,zz,sub,zl,zu,za,zk,zb,zj,zg,zh,zf,zA,zw,zo,zm,zi,Int.natCast_inj,h,hw,e1,eX]
 refine ⟨⟨l[i],wH l.length l.length,iT,cT,true,by rw [tF]; rfl,hiT,hT,hx,fun k hk=>?_⟩,?_,fun ch s' h=>h.elim⟩
 ·have:=we hv h k
  rw [yH h] at this
  exact fillN_toId (this hk).1 (this hk).2
 intro w s2 hR
 obtain ⟨x',va,vm,hx',rfl,hk2,hw2,hA,hM⟩:=hR
 have h2:eX l[i]=eX x':=Option.some.inj hx'
 have h3:some l[i]=some x':=by rw [← dX_eX l[i],← dX_eX x',h2]
 injection h3 with h3
 subst h3
 have o1:=uc hA
 have o2:=uc hM
 have hn2:=hk2.1
 have hn0:=hk.1
 have hlay:xD true (s2.add s2.next (.cells [vI l[i].kind,va,vm,vI l[i].det] 0 26 true)) [vI l[i].kind,va,vm,vI l[i].det]=some ([vI l[i].kind,.list (l[i].alts.map eA),.list (l[i].modes.map eM),vI l[i].det],dl vm (dl va (s2.add s2.next (.cells [vI l[i].kind,va,vm,vI l[i].det] 0 26 true)))):=lay_inst hx hA hM fun j _ hj=>by rw [S.get_add,if_neg (by omega)]
 have hgd:∀(o:O) (j:Nat),j<s.next→(dl vm (dl va (s2.add s2.next o))).get j=s.get j:=fun o j hj=>by
  rw [dl_get hM _ hj,dl_get hA _ hj,S.get_add,if_neg (by omega),hk2.at hj]
 have hkd:∀o:O,s0.keeps (dl vm (dl va (s2.add s2.next o))):=fun o=>dl_keeps hM hn0 (dl_keeps hA hn0 ((hk.trans hk2).add _ (by omega)))
 have hwd:∀o:O,(dl vm (dl va (s2.add s2.next o))).wf:=fun o=>dl_wf (dl_wf (S.wf_add hw2 _ _) _) _
 rcases ht with ⟨rfl,rfl⟩ | ⟨id,cp,hid0,hid,rfl,hgt,_⟩
 ·simp -implicitDefEqProofs (maxDischargeDepth:=9) (maxSteps:=1000000) [Nat.add_assoc,ze,zq,zt,zr,zd,zp,zs,zy,asInt,zn,zz,sub,zl,zu,za,zk,zb,zj,zg,zh,zf,zA,zw,zo,zm,zi,Int.natCast_inj,o1,o2,hlay]
  exact hP _ (.arr (s2.next+1) 0 1 4 true 0) (S.wf_add (hwd _) _ _) ((hkd _).add _ (by omega)) (by simp; omega) (by rw [S.get_add,if_neg (by omega),hgd _ iT hiT]; exact hT) (.inr ⟨s2.next+1,0,by omega,by simp,rfl,by simp [cX],by simp⟩) _ (by simp [zI])
 ·have hfl:(L.flatMap cX).length=i*4:=by rw [zY (f:=cX) (n:=4) (fun _=>rfl) L,hLl]
  have h4:(i+1)*64≤140737488355328:=by omega
  have h5:i+1≤140737488355328:=by omega
  have h8:(L.flatMap cX).take (i*4)=L.flatMap cX:=List.take_of_length_le (by omega)
  have hgi:∀o:O,(dl vm (dl va (s2.add s2.next o))).get id=some (.cells (L.flatMap cX) 0 26 false):=fun o=>by rw [hgd o id hid]; exact hgt
  have hTid:¬iT=id:=fun e=>by rw [e,hgt] at hT; injection hT with hT; injection hT with _ _ h; cases h
  simp -implicitDefEqProofs (maxDischargeDepth:=9) (maxSteps:=1000000) [Nat.add_assoc,ze,zq,zt,zr,zd,zp,zs,zy,asInt,zn,zz,sub,zl,zu,za,zk,zb,zj,zg,zh,zf,zA,zw,zo,zm,zi,Int.natCast_inj,o1,o2,hlay,hgi,hLl,hfl,h4,h5,h8]
  exact hP _ (.arr (s2.next+1) 0 (i+1) 4 true (if i+1<cp then cp else 0)) (S.wf_add (S.wf_del (hwd _) _) _ _) (((hkd _).del hid0).add _ (by omega)) (by simp; omega) (by rw [S.get_add,if_neg (by omega),S.get_del,if_neg hTid,hgd _ iT hiT]; exact hT) (.inr ⟨s2.next+1,if i+1<cp then cp else 0,by omega,by simp,by simp [hLl],by simp [cX],by simp⟩) _ (by simp [zI])
theorem l208b (hl:l.length≤1000) (hs:∀x∈l,zQ x) (hv:yt l) (hw:s.wf) (hk:s0.keeps s) (hi0:s0.next≤iT) (hiT:iT<s.next) (hT:s.get iT=some (.cells ((wH l.length l.length).map vI) 0 3 true)) {Q:AX→Env→S→Prop} (hQ:∀t v,s0.keeps t→SlN cX 4 26 s0 t v l→∀E',yw E' 5=some v→Q (.exit 2) E' t) :
  yd (st7 [] []) (cf7 [] []) true [(48,sp218)] 36 (.loop f208_l1) [(0,.list (l.map eX)),(3,.arr iT 0 l.length 1 false cT),(5,.nils),(6,.int .i64 0)] s Q:=by
 refine zO (α:=Nat×V) (fun a=>[(0,.list (l.map eX)),(3,.arr iT 0 l.length 1 false cT),(5,a.2),(6,.int .i64 a.1)]) (fun a t=>t.wf∧s0.keeps t∧iT<t.next∧a.1≤l.length∧t.get iT=some (.cells ((wH l.length l.length).map vI) 0 3 true)∧SlN cX 4 26 s0 t a.2 (l.take a.1)) (fun a=>l.length - a.1) (0,.nils) f208_l1_fits (by simp [zI]) ⟨hw,hk,hiT,Nat.zero_le _,hT,.inl ⟨rfl,rfl⟩⟩ ?_
 rintro ⟨i,v⟩ t ⟨hw,hk,hiT,hi,hT,ht⟩
 simp only at hi ht ⊢
 rw [f208_l1_top]
 rcases Nat.lt_or_ge i l.length with h | h
 ·have e3:IntKind.i64.wrap ((i:Int)+1)=((i+1:Nat):Int):=zN (by omega) (by omega)
  have hnext:l.take (i+1)=l.take i++[l[i]]:=by rw [List.take_succ_eq_append_getElem h]
  simp -implicitDefEqProofs (maxDischargeDepth:=9) (maxSteps:=1000000) [Nat.add_assoc,ze,zq,zt,zr,zd,zp,zs,zy,asInt,zn,zz,sub,zl,zu,za,zk,zb,zj,zg,zh,zf,zA,zw,zo,zm,zi,Int.natCast_inj,h,hw,e3]
  refine b208_ok hl hs hv h hw hk hi0 hiT hT (by rw [List.length_take]; omega) ht ?_
  intro u w hwu hku hiu hTu htu E' hE
  obtain ⟨q0,q3,q5,q6,_⟩:=hE
  simp only at q0 q3 q5 q6
  simp -implicitDefEqProofs (maxDischargeDepth:=9) (maxSteps:=1000000) [Nat.add_assoc,ze,zq,zt,zr,zd,zp,zs,zy,asInt,zn,zz,sub,zl,zu,za,zk,zb,zj,zg,zh,zf,zA,zw,zo,zm,zi,Int.natCast_inj,q0,q3,q5,q6,e3]
  exact ⟨i+1,by omega,_,⟨hwu,hku,hiu,by omega,hTu,by rw [hnext]; exact htu⟩,rfl,by simp⟩
 ·have:i=l.length:=by omega
  subst this
  rw [List.take_length] at ht
  simp -implicitDefEqProofs (maxDischargeDepth:=9) (maxSteps:=1000000) [Nat.add_assoc,ze,zq,zt,zr,zd,zp,zs,zy,asInt,zn,zz,sub,zl,zu,za,zk,zb,zj,zg,zh,zf,zA,zw,zo,zm,zi,Int.natCast_inj,hw]
  exact hQ _ _ hk ht _ rfl
end
theorem fr208 (l:List Inst) (hl:l.length≤1000) (hs:∀x∈l,zQ x) (hv:yt l):yK Tryz.prog (st [] []) 23 [.list (l.map eX)] (bif l.isEmpty then .nils else .list (l.map eX)):=by
 have hc:=st7_ok (e:=[]) (f:=[]) .nil .nil
 refine yK.cfg (cfg:=st7 [] []) ?_ rfl rfl rfl
 refine fresh_run (sl:=true) hc (cf7_ok hc) sp7_ok Tryz.func23 f208_eq f208_nt f208_fits (by simp) rfl ty_35 ?_
 intro s0 hw0
 rw [f208_top]
 have s1:(l.length:Int)*8≤140737488355328:=by omega
 have s2:(l.length:Int)≤140737488355328:=by omega
 simp -implicitDefEqProofs (maxDischargeDepth:=9) (maxSteps:=1000000) [Nat.add_assoc,ze,zq,zt,zr,zd,zp,zs,zy,asInt,zn,zz,sub,zl,zu,za,zk,zb,zj,zg,zh,zf,zA,zw,zo,zm,zi,Int.natCast_inj,zerosI,s1,s2]
 refine l208a (s0:=s0) (l:=l) hl (S.wf_add hw0 _ _) ((S.keeps.refl s0).add _ (Nat.le_refl _)) (Nat.le_refl _) (by simp) (by simp [fillN_zero]) ?_
 intro t hwt hkt hit hTt E' hE
 obtain ⟨q0,q3,_⟩:=hE
 simp only at q0 q3
 show yd (st7 [] []) (cf7 [] []) true [(48,sp218)] 36 f208_k1 E' t _
 unfold f208_k1
 simp -implicitDefEqProofs (maxDischargeDepth:=9) (maxSteps:=1000000) [Nat.add_assoc,ze,zq,zt,zr,zd,zp,zs,zy,asInt,zn,zz,sub,zl,zu,za,zk,zb,zj,zg,zh,zf,zA,zw,zo,zm,zi,Int.natCast_inj,q0,q3,hwt]
 refine l208b (s0:=s0) hl hs hv hwt hkt (Nat.le_refl _) hit hTt ?_
 intro u w hku hsl E2 he
 simp -implicitDefEqProofs (maxDischargeDepth:=9) (maxSteps:=1000000) [Nat.add_assoc,ze,zq,zt,zr,zd,zp,zs,zy,asInt,zn,zz,sub,zl,zu,za,zk,zb,zj,zg,zh,zf,zA,zw,zo,zm,zi,Int.natCast_inj,he]
 refine ⟨hku,?_⟩
 cases l with
 | nil =>
  rcases hsl with ⟨rfl,_⟩ | ⟨id,cp,_,_,_,_,hg⟩
  ·rfl
  ·exact absurd rfl hg
 | cons a x=>exact freshV_of hsl size_35 agg_35 (wZ _)
end Go.Proofs.YtchlfjhbijmdiaaGreatDoor.Ai

