/- Part of a reckoning of a Go program over abstract values, proved sound against the model. -/
import Derived.Test.YtchlfjhbijmdiaaGreatDoorAiJH6
import Derived.Test.YtchlfjhbijmdiaaGreatDoorAiJP6
import Derived.Test.YtchlfjhbijmdiaaGreatDoorAiJC8
import Derived.Test.YtchlfjhbijmdiaaGreatDoorAiJC6
set_option linter.unusedSimpArgs false
set_option linter.unusedVariables false
namespace Go.Proofs.YtchlfjhbijmdiaaGreatDoor.Ai
open Go.Proofs
set_option maxRecDepth 100000
set_option maxHeartbeats 4000000

/-! tables for Put -/
def e8p:List V→Option V
 | [.list l]=>(dXs l).bind fun x=>if x.length≤19 then some (.int .i64 (ckT x)) else none
 | _=>none
theorem t8p:∀args v,e8p args=some v→zx Tryz.prog zB 16 args v:=fun args v h=>by
 unfold e8p at h
 split at h
 ·simp only [Option.bind_eq_some_iff] at h
  obtain ⟨x,hx,h⟩:=h
  split at h
  ·rename_i hh
   injection h with h; subst h
   rw [yT hx]; exact p8 x hh
  ·cases h
 ·cases h
theorem t9p:∀args v,e8p args=some v→zx Tryz.prog zB 22 args v:=fun args v h=>by
 unfold e8p at h
 split at h
 ·simp only [Option.bind_eq_some_iff] at h
  obtain ⟨x,hx,h⟩:=h
  split at h
  ·rename_i hh
   injection h with h; subst h
   rw [yT hx]; exact p9 x hh
  ·cases h
 ·cases h
theorem e8p_at {l:List Inst} (h:l.length≤19):e8p [.list (l.map eX)]=some (.int .i64 (ckT l)):=by
 simp [e8p,h]
open Classical in
noncomputable def ft204:List V→Option V
 | [.list m]=>(dXs m).bind fun l=>if l.length≤1000∧∀x∈l,zQ x then some (bif l.isEmpty then .nils else .list (l.map eX)) else none
 | _=>none
theorem ft204_ok:∀args v,ft204 args=some v→yK Tryz.prog (st [] []) 17 args v:=fun args v h=>by
 unfold ft204 at h
 split at h
 ·simp only [Option.bind_eq_some_iff] at h
  obtain ⟨l,hx,h⟩:=h
  split at h
  ·rename_i hh
   injection h with h; subst h
   rw [yT hx]; exact fr204 l hh.1 hh.2
  ·cases h
 ·cases h
open Classical in
noncomputable def ft208:List V→Option V
 | [.list m]=>(dXs m).bind fun l=>if l.length≤1000∧(∀x∈l,zQ x)∧yt l then some (bif l.isEmpty then .nils else .list (l.map eX)) else none
 | _=>none
theorem ft208_ok:∀args v,ft208 args=some v→yK Tryz.prog (st [] []) 23 args v:=fun args v h=>by
 unfold ft208 at h
 split at h
 ·simp only [Option.bind_eq_some_iff] at h
  obtain ⟨l,hx,h⟩:=h
  split at h
  ·rename_i hh
   injection h with h; subst h
   rw [yT hx]; exact fr208 l hh.1 hh.2.1 hh.2.2
  ·cases h
 ·cases h
theorem ft204_at {l:List Inst} (h1:l.length≤1000) (h2:∀x∈l,zQ x):ft204 [.list (l.map eX)]=some (bif l.isEmpty then .nils else .list (l.map eX)):=by
 unfold ft204
 simp only [xJ,Option.bind_some]
 rw [if_pos ⟨h1,h2⟩]
theorem ft208_at {l:List Inst} (h1:l.length≤1000) (h2:∀x∈l,zQ x) (h3:yt l):ft208 [.list (l.map eX)]=some (bif l.isEmpty then .nils else .list (l.map eX)):=by
 unfold ft208
 simp only [xJ,Option.bind_some]
 rw [if_pos ⟨h1,h2,h3⟩]
def vP (r:PutR):V:=.tup [.list (r.1.map eX),vI r.2.1,vI r.2.2]
theorem xE {t:S} {w:V} {l:List V} {a b:Int} (h:see 99998 t w=some (.list l)) (hf:V.freeL l=true):wL t (.tup [w,vI a,vI b]) (.tup [.list l,vI a,vI b]):=by
 refine ⟨?_,by simp [hf]⟩
 show see (99999+1) t (.tup [w,vI a,vI b])=_
 unfold see
 show (match vy (99998+1) t [w,vI a,vI b] with | some cs'=>some (V.tup cs') | none=>none)=_
 unfold vy
 rw [h]
 rfl
noncomputable def eP:List (FuncId×(List V→Option V)):=[(16,e8p),(18,e205),(21,e207)]
theorem eP_ok:xa Tryz.prog zB eP:=.cons t8p (.cons t205 (.cons t207 .nil))
noncomputable def fPu:List (FuncId×(List V→Option V)):=[(17,ft204)]
theorem fPu_ok:FtOk Tryz.prog (st [] []) fPu:=.cons ft204_ok .nil
noncomputable abbrev cfL (e f:List (FuncId×(List V→Option V))):CF:=run (stL e f) 0
theorem cfL_ok {e f:List (FuncId×(List V→Option V))} (h:(stL e f).Ok Tryz.prog):wv Tryz.prog (stL e f) (cfL e f):=run_ok h 0
theorem noSpL {e f:List (FuncId×(List V→Option V))}:∀g se,(g,se)∈([]:List (FuncId×SpE))→tR Tryz.prog (stL e f) g se:=fun _ _ h=>by cases h
theorem all_eX2 (L:List Inst):((L.map eX).all fun e=>e.cells.length == T35.size && e.cells.all V.one)=true:=by
 rw [List.all_eq_true]
 intro v hv
 obtain ⟨a,_,rfl⟩:=List.mem_map.1 hv
 simp [eX,vI]
theorem thawX {e f:List (FuncId×(List V→Option V))} {g:FuncId} (hg:zo g=some (26,none)) {M:List Inst} (hM:¬M=[]) (nw:Nat) (s:S):zA (stL e f) nw g (.list (M.map eX)) s=some (.arr nw 0 M.length 4 true 0,s.add nw (.cells (M.flatMap cX) 0 26 false)):=by
 have h1:=all_eX2 M
 have h2:(M.map eX).isEmpty=false:=by cases M with
  | nil=>exact absurd rfl hM
  | cons a l=>rfl
 have h3:(M.map eX).flatMap V.cells=M.flatMap cX:=cells_G cX M
 unfold zA
 simp only [stL_fresh,hg,stL_ty,ty_35]
 unfold zw
 rw [h2,if_neg (by decide),if_pos ⟨h1,by rw [size_35]; decide⟩,size_35,agg_35,List.length_map,h3]
theorem thawX0 {e f:List (FuncId×(List V→Option V))} {g:FuncId} (hg:zo g=some (26,none)) (nw:Nat) (s:S):zA (stL e f) nw g .nils s=some (.nils,s):=by
 unfold zA
 simp only [stL_fresh,hg,stL_ty,ty_35]
theorem cX_l (a:Inst):∀v∈cX a,v.one=true∧∀k (S':S),1≤k→lay k S' v=some (v,S'):=by
 intro v hv
 simp only [cX,List.mem_cons,List.not_mem_nil,or_false] at hv
 rcases hv with rfl | rfl | rfl | rfl <;> exact ⟨rfl,fun k S' hk=>by obtain ⟨k,rfl⟩:∃m,k=m+1:=⟨k - 1,by omega⟩; rfl⟩
/-- A table that is laid. -/
theorem lay_all {L:List Inst} (hL:L.length≤1000) {S':S} {id cp n:Nat} (hn:n=L.length) (hg:S'.get id=some (.cells (L.flatMap cX) 0 26 false)):lay tV S' (.arr id 0 n 4 true cp)=some (.list (L.map eX),S'.del id):=by
 subst hn
 have hid:id<id+1:=by omega
 have hlen:(L.flatMap cX).length=L.length*4:=zY (f:=cX) (n:=4) (fun _=>rfl) L
 have h5:layL 99999 (S'.del id) (L.flatMap cX)=some (L.flatMap cX,S'.del id):=wE (d:=1) _ _ (fun v hm k hk=>by
  obtain ⟨a,_,ha⟩:=List.mem_flatMap.1 hm
  exact (cX_l a v ha).2 k _ hk) (by omega) (by omega)
 have h6:(L.flatMap cX).all V.one=true:=by
  rw [List.all_eq_true]
  intro v hm
  obtain ⟨a,_,ha⟩:=List.mem_flatMap.1 hm
  exact (cX_l a v ha).1
 have h7:(L.flatMap cX).take (L.length*4)=L.flatMap cX:=List.take_of_length_le (by omega)
 show lay (99999+1) S' _=_
 unfold lay
 rw [hg]
 simp only [List.drop_zero,Nat.zero_add,h7,h5,h6,if_true,chunk_ag (f:=cX) (n:=4) (fun _=>rfl) L]
 rw [if_pos ⟨by omega,fun h=>by cases h⟩]
 rfl
end Go.Proofs.YtchlfjhbijmdiaaGreatDoor.Ai

namespace Go.Proofs.YtchlfjhbijmdiaaGreatDoor.Ai
open Go.Proofs
set_option maxRecDepth 100000
set_option maxHeartbeats 4000000

/-! insts.Put -/
def f201_k4:AC:=(.seq (.seq (.reg 18 f201_r18o [0,8,56]) (.cond (.tmp 56) (.seq (.reg 19 f201_r19o [4,5,6]) .ret) .skip)) (.seq (.reg 20 f201_r20o [4,5,6]) .ret))
def f201_k3:AC:=(.seq (.seq (.reg 12 f201_r12o [0,8,37,38]) (.block 0 (.loop uW))) f201_k4)
def f201_x9:AC:=(.seq (.reg 9 f201_r9o [0,8,10]) (.seq (.reg 10 f201_r10o [0,8,10,34]) (.cond (.tmp 34) (.seq (.reg 11 f201_r11o [4,5,6]) .ret) .skip)))
def f201_x6:AC:=(.seq (.reg 6 f201_r6o [0,8,9]) (.seq (.reg 7 f201_r7o [0,8,30]) (.cond (.tmp 30) (.seq (.reg 8 f201_r8o [4,5,6]) .ret) .skip)))
def f201_k2:AC:=(.seq (.seq (.reg 5 f201_r5o [0,3,8,25]) (.cond (.tmp 25) f201_x6 f201_x9)) f201_k3)
def f201_k1:AC:=(.seq (.draw 4 xz [0,3,8]) f201_k2)
theorem f201_top:f201_ac=(.seq (.reg 0 f201_r0o [0,3]) (.seq (.seq (.reg 1 f201_r1o [0,3,7]) (.seq (.reg 2 f201_r2o [0,3,7,15]) (.cond (.tmp 15) (.seq (.reg 3 f201_r3o [4,5,6]) .ret) .skip))) f201_k1)):=rfl
section
variable {l:List Inst} {x:Inst} {s:S} {P:AX→Env→S→Prop} {i3:Nat}
abbrev RP (A:AC) (E:Env) (s:S) (P:AX→Env→S→Prop):Prop:=yd (stL eP fPu) (cfL eP fPu) true [] 60 A E s P
/-- Whether the code ended with a result. -/
def Ret3 (P:AX→Env→S→Prop) (v a b:V):Prop:=∀E t,yw E 4=some v→yw E 5=some a→yw E 6=some b→P .ret E t
theorem k201_1 (hl:l.length≤12) (hs:∀y∈l,zQ y) (hx:zQ x) (hw:s.wf) (hi3:i3<s.next) (h3:s.get i3=some (.cells (cX x) 0 26 true)) {E:Env} (hE:zI [(0,.list (l.map eX)),(3,.ptr i3 0)] E) (hP:∀t,t.wf→∀E',zI [(0,.list (l.map eX)),(8,.list ((l++[x]).map eX))] E'→P .normal E' t):RP (.draw 4 xz [0,3,8]) E s P:=by
 obtain ⟨q0,q3,_⟩:=hE
 simp only at q0 q3
 have hcall:∀t,zF (stL eP fPu) (cfL eP fPu) 18 [.agg [vI x.kind,.list (x.alts.map eA),.list (x.modes.map eM),vI x.det],.func (.func 19) [] []] t=some (.val (.agg [vI x.kind,.list (x.alts.map eA),.list (x.modes.map eM),vI x.det]) t):=fun t=>zH (e205_at _ hx idF6)
 have h204:=ft204_at (l:=l) (by omega) hs
 have hlay:=fun t=>lay_cX t x
 have a1:∀k,¬i3=s.next+k:=fun k=>by omega
 have a2:¬i3=s.next:=by omega
 by_cases hl0:l=[]
 ·subst hl0
  have h204':xi fPu 17 [.list []]=some .nils:=h204
  have hall:∀(S':S) (id:Nat),S'.get id=some (.cells [vI x.kind,.list (x.alts.map eA),.list (x.modes.map eM),vI x.det] 0 26 false)→lay tV S' (.arr id 0 1 4 true 0)=some (.list [eX x],S'.del id):=fun S' id hg=>lay_all (L:=[x]) (by simp) rfl (by rw [hg]; simp [cX])
  have hth:=thawX0 (e:=eP) (f:=fPu) (g:=17) rfl
  simp -implicitDefEqProofs (maxDischargeDepth:=9) (maxSteps:=1000000) [Nat.add_assoc,ze,zq,zt,zr,zd,zp,zs,zy,asInt,zn,zz,sub,zl,zu,za,zk,zb,zj,zg,zh,zf,zo,zm,zi,Int.natCast_inj,q0,q3,hw,hi3,h3,cX,h204',hth,hcall,hlay,hall,a1,a2,eX]
  exact hP _ (S.wf_del (S.wf_add (S.wf_add (zX hw 7) _ _) _ _) _) _ (by simp [zI,eX])
 ·have h204':xi fPu 17 [.list (l.map eX)]=some (.list (l.map eX)):=by
   have:l.isEmpty=false:=by cases l with
    | nil=>exact absurd rfl hl0
    | cons a l=>rfl
   rw [this] at h204
   exact h204
  have hth:=thawX (e:=eP) (f:=fPu) (g:=17) rfl hl0
  have hfl:(l.flatMap cX).length=l.length*4:=zY (f:=cX) (n:=4) (fun _=>rfl) l
  have hall:∀(S':S) (id cp:Nat),S'.get id=some (.cells (l.flatMap cX++[vI x.kind,.list (x.alts.map eA),.list (x.modes.map eM),vI x.det]) 0 26 false)→lay tV S' (.arr id 0 (l.length+1) 4 true cp)=some (.list ((l++[x]).map eX),S'.del id):=fun S' id cp hg=>lay_all (L:=l++[x]) (by simp; omega) (by simp) (by rw [hg]; simp [cX])
  have s1:(l.length+1)*64≤140737488355328:=by omega
  have s2:l.length+1≤140737488355328:=by omega
  have h8:(l.flatMap cX).take (l.length*4)=l.flatMap cX:=List.take_of_length_le (by omega)
  simp -implicitDefEqProofs (maxDischargeDepth:=9) (maxSteps:=1000000) [Nat.add_assoc,ze,zq,zt,zr,zd,zp,zs,zy,asInt,zn,zz,sub,zl,zu,za,zk,zb,zj,zg,zh,zf,zo,zm,zi,Int.natCast_inj,q0,q3,hw,hi3,h3,cX,h204',hth,hcall,hlay,hall,a1,a2,hl0,hfl,h8,s1,s2,eX]
  exact hP _ (S.wf_del (S.wf_add (S.wf_del (S.wf_add (S.wf_add (zX hw 7) _ _) _ _) _) _ _) _) _ (by simp [zI,eX])
theorem valid_of {l:List Inst} (h:ckT l=0):yt l:=fun y hy k hk=>by
 obtain ⟨g1,g2⟩:=good_of (ckT_zero h).1
 unfold yv at hk
 rcases List.mem_append.1 hk with hk | hk
 ·exact (g2 y hy).2 k hk
 ·obtain ⟨a,ha,hk⟩:=List.mem_flatMap.1 hk
  exact ((g1 y hy).2 a ha).2 k hk
theorem k201_2 (hl:l.length≤12) (hw:s.wf) {E:Env} (hE:zI [(0,.list (l.map eX)),(8,.list ((l++[x]).map eX))] E) (hF:¬ckT (l++[x])=0→Ret3 P .nils (.int .i64 0) (.int .i64 (ckT (l++[x])))) (hT:ckT (l++[x])=0→∀t,t.wf→∀E',zI [(0,.list (l.map eX)),(8,.list ((l++[x]).map eX))] E'→RP f201_k3 E' t P):RP f201_k2 E s P:=by
 obtain ⟨q0,q8,_⟩:=hE
 simp only at q0 q8
 have hln:((l++[x]).length:Int)=l.length+1:=by simp
 obtain ⟨A,hA⟩:∃A,l++[x]=A:=⟨_,rfl⟩
 rw [hA] at q8 hF hT hln
 have hAl:A.length≤19:=by rw [← hA]; simp; omega
 have h8:∀t,zF (stL eP fPu) (cfL eP fPu) 16 [.list (A.map eX)] t=some (.val (.int .i64 (ckT A)) t):=fun t=>zH (e8p_at hAl)
 have g1:¬(2000:Int)<A.length:=by omega
 have g2:¬2000<A.length:=by omega
 unfold f201_k2
 by_cases hc:ckT A=0
 ·simp -implicitDefEqProofs (maxDischargeDepth:=9) (maxSteps:=1000000) [Nat.add_assoc,ze,zq,zt,zr,zd,zp,zs,zy,asInt,zn,zz,sub,zl,zu,za,zk,zb,zj,zg,zh,zf,zA,zw,zo,zm,zi,Int.natCast_inj,q0,q8,hw,g1,g2,f201_x9,h8,hc]
  exact hT hc _ hw _ (by simp [zI])
 ·simp -implicitDefEqProofs (maxDischargeDepth:=9) (maxSteps:=1000000) [Nat.add_assoc,ze,zq,zt,zr,zd,zp,zs,zy,asInt,zn,zz,sub,zl,zu,za,zk,zb,zj,zg,zh,zf,zA,zw,zo,zm,zi,Int.natCast_inj,q0,q8,hw,g1,g2,f201_x9,h8,hc]
  exact hF hc _ _ (by simp) (by simp) (by simp)
theorem l201 (hl:l.length≤12) (hs:∀y∈l++[x],zQ y) (hv:yt (l++[x])) (hw:s.wf) {E:Env} (hE:zI [(0,.list (l.map eX)),(8,.list ((l++[x]).map eX)),(37,.int .i64 l.length),(38,.int .i64 0)] E) {Q:AX→Env→S→Prop} (hF:findB l x=none→∀E' t,t.wf→zI [(0,.list (l.map eX)),(8,.list ((l++[x]).map eX))] E'→Q (.exit 0) E' t) (hT:∀k:Nat,findB l x=some k→Ret3 Q (.list (l.map eX)) (.int .i64 k) (.int .i64 0)):RP (.loop uW) E s Q:=by
 refine zO (α:=Nat) (fun i=>[(0,.list (l.map eX)),(8,.list ((l++[x]).map eX)),(37,.int .i64 l.length),(38,.int .i64 i)]) (fun i t=>t.wf∧i≤l.length∧∀j,j<i→¬Bis (l++[x]) (j:Int) l.length) (fun i=>l.length - i) 0 f201_l0_fits hE ⟨hw,Nat.zero_le _,fun j hj=>by omega⟩ ?_
 rintro i t ⟨hw,hi,hn⟩
 have hAl:(l++[x]).length≤1000:=by simp; omega
 have hAl1:((l++[x]).length:Int)=l.length+1:=by simp
 have hok:i<l.length→okP (l++[x]).length ((i:Int),(l.length:Int)):=fun h=>⟨by simp only; omega,by rw [hAl1]; simp only; omega,by simp only; omega,by rw [hAl1]; simp only; omega⟩
 obtain ⟨A,hA⟩:∃A,l++[x]=A:=⟨_,rfl⟩
 have hAm:A.map eX=l.map eX++[eX x]:=by rw [← hA]; simp
 have hAn:A.length=l.length+1:=by rw [← hA]; simp
 rcases Nat.lt_or_ge i l.length with h | h
 ·have e3:IntKind.i64.wrap ((i:Int)+1)=((i+1:Nat):Int):=zN (by omega) (by omega)
  have h207:∀t,zF (stL eP fPu) (cfL eP fPu) 21 [.list (A.map eX),.int .i64 i,.int .i64 l.length] t=some (.val (.bool (@decide (Bis A i l.length) (Classical.propDecidable _))) t):=fun t=>zH (by
   have:=e207_at A (by rw [← hA]; exact hAl) (by rw [← hA]; exact hs) (by rw [← hA]; exact hv) (a:=i) (b:=l.length) (by rw [← hA]; exact hok h)
   exact this)
  rw [hA] at hn ⊢
  by_cases hb:Bis A (i:Int) l.length
  ·have hf:findB l x=some i:=by
    unfold findB
    rw [List.find?_range_eq_some]
    refine ⟨by rw [hA]; simpa using hb,by simpa using h,fun j hj=>?_⟩
    rw [hA]
    simpa using hn j hj
   have hd:@decide (Bis A i l.length) (Classical.propDecidable _)=true:=by simpa using hb
   rw [hd] at h207
   have hh:Option.all (fun v=>v.cells.length == 4) (Option.map eX A.head?)=true:=by
    cases A with
    | nil=>rfl
    | cons a A=>simp [eX,V.cells]
   have hle:(l.length:Int)≤(l.length:Int)+1:=by omega
   have htk:(A.map eX).take l.length=l.map eX:=by rw [hAm]; simp
   simp -implicitDefEqProofs (maxDischargeDepth:=9) (maxSteps:=1000000) [Nat.add_assoc,ze,zq,zt,zr,zd,zp,zs,zy,asInt,zn,zz,sub,zl,zu,za,zk,zb,zj,zg,zh,zf,zA,zw,zo,zm,zi,Int.natCast_inj,uW,h,hw,h207,hAn,hh,hle,htk]
   exact hT i hf _ _ (by simp) (by simp) (by simp)
  ·have hd:@decide (Bis A i l.length) (Classical.propDecidable _)=false:=by simpa using hb
   rw [hd] at h207
   simp -implicitDefEqProofs (maxDischargeDepth:=9) (maxSteps:=1000000) [Nat.add_assoc,ze,zq,zt,zr,zd,zp,zs,zy,asInt,zn,zz,sub,zl,zu,za,zk,zb,zj,zg,zh,zf,zA,zw,zo,zm,zi,Int.natCast_inj,uW,h,hw,h207,e3]
   refine ⟨i+1,by omega,⟨by omega,fun j hj=>?_⟩,by simp⟩
   rcases Nat.lt_or_ge j i with h1 | h1
   ·exact hn j h1
   ·have:j=i:=by omega
    subst this; exact hb
 ·have:i=l.length:=by omega
  subst this
  have hf:findB l x=none:=by
   unfold findB
   rw [List.find?_eq_none]
   intro j hj hb
   simp only [decide_eq_true_eq] at hb
   exact hn j (List.mem_range.1 hj) hb
  simp -implicitDefEqProofs (maxDischargeDepth:=9) (maxSteps:=1000000) [Nat.add_assoc,ze,zq,zt,zr,zd,zp,zs,zy,asInt,zn,zz,sub,zl,zu,za,zk,zb,zj,zg,zh,zf,zA,zw,zo,zm,zi,Int.natCast_inj,uW,hw]
  exact hF hf _ _ hw (by simp [zI])
theorem k201_3 (hl:l.length≤12) (hs:∀y∈l++[x],zQ y) (hv:yt (l++[x])) (hw:s.wf) {E:Env} (hE:zI [(0,.list (l.map eX)),(8,.list ((l++[x]).map eX))] E) (hF:findB l x=none→Ret3 P (.list ((l++[x]).map eX)) (.int .i64 l.length) (.int .i64 0)) (hT:∀k:Nat,findB l x=some k→Ret3 P (.list (l.map eX)) (.int .i64 k) (.int .i64 0)):RP f201_k3 E s P:=by
 obtain ⟨q0,q8,_⟩:=hE
 simp only at q0 q8
 unfold f201_k3
 simp -implicitDefEqProofs (maxDischargeDepth:=9) (maxSteps:=1000000) [Nat.add_assoc,ze,zq,zt,zr,zd,zp,zs,zy,asInt,zn,zz,sub,zl,zu,za,zk,zb,zj,zg,zh,zf,zA,zw,zo,zm,zi,Int.natCast_inj,q0,q8,hw,-List.map_append]
 refine l201 hl hs hv hw (by simp only [zI,eget_cons]; simp) ?_ ?_
 ·intro hf E' t hwt hE'
  obtain ⟨q0,q8,_⟩:=hE'
  simp only at q0 q8
  show RP f201_k4 E' t P
  have hAn:(l++[x]).length=l.length+1:=by simp
  obtain ⟨A,hA⟩:∃A,l++[x]=A:=⟨_,rfl⟩
  rw [hA] at q8 hF hAn
  have g1:¬(2000:Int)<A.length:=by omega
  have g2:¬2000<A.length:=by omega
  have g3:¬(2000:Int)<(l.length:Int)+1:=by omega
  unfold f201_k4
  simp -implicitDefEqProofs (maxDischargeDepth:=9) (maxSteps:=1000000) [Nat.add_assoc,ze,zq,zt,zr,zd,zp,zs,zy,asInt,zn,zz,sub,zl,zu,za,zk,zb,zj,zg,zh,zf,zA,zw,zo,zm,zi,Int.natCast_inj,q0,q8,hwt,hAn,g1,g2,g3]
  exact hF hf _ _ (by simp) (by simp) (by simp)
 ·intro k hf E' t h4 h5 h6
  exact hT k hf E' t h4 h5 h6
end
theorem p201 (l:List Inst) (x:Inst) (hl:l.length≤12) (hs:∀y∈l,zQ y) (hx:zQ x):zx Tryz.prog zB 7 [.list (l.map eX),eX x] (vP (putA l x)):=by
 have hc:=stL_ok (e:=eP) (f:=fPu) eP_ok fPu_ok
 refine zx.cfg (cfg:=stL eP fPu) rfl ?_
 refine zM (sl:=true) hc (cfL_ok hc) noSpL Tryz.func7 f201_eq f201_nt f201_fits (by simp) (by simp) ?_
 rw [f201_top]
 have h8:∀t,zF (stL eP fPu) (cfL eP fPu) 16 [.list (l.map eX)] t=some (.val (.int .i64 (ckT l)) t):=fun t=>zH (e8p_at (by omega))
 have hsa:∀y∈l++[x],zQ y:=fun y hy=>by
  rcases List.mem_append.1 hy with hy | hy
  ·exact hs y hy
  ·rw [List.mem_singleton.1 hy]; exact hx
 by_cases hc0:ckT l=0
 ·simp -implicitDefEqProofs (maxDischargeDepth:=9) (maxSteps:=1000000) [Nat.add_assoc,ze,zq,zt,zr,zd,zp,zs,zy,asInt,zn,zz,sub,zl,zu,za,zk,zb,zj,zg,zh,zf,zA,zw,zo,zm,zi,Int.natCast_inj,h8,hc0,eX]
  show RP f201_k1 _ _ _
  unfold f201_k1
  rw [RP,yN]
  refine k201_1 (i3:=0) hl hs hx (S.wf_add S.wf_empty _ _) (by simp) (by simp [cX]) (by simp [zI]) fun t hwt E' hE=>?_
  rw [zK]
  refine k201_2 hl hwt hE ?_ ?_
  ·intro hne E t h4 h5 h6
   have hp:putA l x=([],0,ckT (l++[x])):=by unfold putA; rw [if_pos hc0,if_neg hne]
   rw [hp]
   simp -implicitDefEqProofs (maxDischargeDepth:=9) (maxSteps:=1000000) [Nat.add_assoc,ze,zq,zt,zr,zd,zp,zs,zy,asInt,zn,zz,sub,zl,zu,za,zk,zb,zj,zg,zh,zf,zA,zw,zo,zm,zi,Int.natCast_inj,h4,h5,h6]
   exact xE (w:=.nils) (l:=[]) rfl rfl
  ·intro hT0 t2 hw2 E2 hE2
   refine k201_3 hl hsa (valid_of hT0) hw2 hE2 ?_ ?_
   ·intro hf E t h4 h5 h6
    have hp:putA l x=(l++[x],(l.length:Int),0):=by unfold putA; rw [if_pos hc0,if_pos hT0,hf]
    rw [hp]
    simp -implicitDefEqProofs (maxDischargeDepth:=9) (maxSteps:=1000000) [Nat.add_assoc,ze,zq,zt,zr,zd,zp,zs,zy,asInt,zn,zz,sub,zl,zu,za,zk,zb,zj,zg,zh,zf,zA,zw,zo,zm,zi,Int.natCast_inj,h4,h5,h6,-List.map_append]
    exact xE rfl (wZ _)
   ·intro k hf E t h4 h5 h6
    have hp:putA l x=(l,(k:Int),0):=by unfold putA; rw [if_pos hc0,if_pos hT0,hf]
    rw [hp]
    simp -implicitDefEqProofs (maxDischargeDepth:=9) (maxSteps:=1000000) [Nat.add_assoc,ze,zq,zt,zr,zd,zp,zs,zy,asInt,zn,zz,sub,zl,zu,za,zk,zb,zj,zg,zh,zf,zA,zw,zo,zm,zi,Int.natCast_inj,h4,h5,h6]
    exact xE rfl (wZ _)
 ·have hp:putA l x=([],0,ckT l):=by unfold putA; rw [if_neg hc0]
  rw [hp]
  simp -implicitDefEqProofs (maxDischargeDepth:=9) (maxSteps:=1000000) [Nat.add_assoc,ze,zq,zt,zr,zd,zp,zs,zy,asInt,zn,zz,sub,zl,zu,za,zk,zb,zj,zg,zh,zf,zA,zw,zo,zm,zi,Int.natCast_inj,h8,hc0,eX]
  exact xE (w:=.nils) (l:=[]) rfl rfl
open Classical in
noncomputable def e201:List V→Option V
 | [.list m,v]=>(dXs m).bind fun l=>(dX v).bind fun x=>if l.length≤12∧(∀y∈l,zQ y)∧zQ x then some (vP (putA l x)) else none
 | _=>none
theorem t201:∀args v,e201 args=some v→zx Tryz.prog zB 7 args v:=fun args v h=>by
 unfold e201 at h
 split at h
 ·simp only [Option.bind_eq_some_iff] at h
  obtain ⟨l,hl,x,hx,h⟩:=h
  split at h
  ·rename_i hh
   injection h with h; subst h
   rw [yT hl,tc hx]; exact p201 l x hh.1 hh.2.1 hh.2.2
  ·cases h
 ·cases h
theorem e201_at (l:List Inst) (x:Inst) (h1:l.length≤12) (h2:∀y∈l,zQ y) (h3:zQ x):e201 [.list (l.map eX),.agg [vI x.kind,.list (x.alts.map eA),.list (x.modes.map eM),vI x.det]]=some (vP (putA l x)):=by
 have:e201 [.list (l.map eX),eX x]=some (vP (putA l x)):=by
  unfold e201
  simp only [xJ,dX_eX,Option.bind_some]
  rw [if_pos ⟨h1,h2,h3⟩]
 exact this
end Go.Proofs.YtchlfjhbijmdiaaGreatDoor.Ai

namespace Go.Proofs.YtchlfjhbijmdiaaGreatDoor.Ai
open Go.Proofs
set_option maxRecDepth 100000
set_option maxHeartbeats 4000000

/-! the reference's Put -/
def f202_x3:AC:=(.seq (.seq (.reg 9 f202_r9o [0,8,10]) (.seq (.reg 10 f202_r10o [0,8,10,45]) (.cond (.tmp 45) (.seq (.reg 11 f202_r11o [4,5,6]) .ret) .skip))) (.seq (.reg 12 f202_r12o [4,5,6]) .ret))
def f202_x8:AC:=(.seq (.draw 8 vh [4,5,6]) .ret)
def f202_x6:AC:=(.seq (.reg 6 f202_r6o [0,8,9]) (.seq (.reg 7 f202_r7o [0,8,9,34]) (.cond (.tmp 34) f202_x8 .skip)))
def f202_k2:AC:=(.seq (.seq (.reg 5 f202_r5o [0,8,24]) (.cond (.tmp 24) f202_x6 .skip)) f202_x3)
def f202_k1:AC:=(.seq (.draw 4 xM [0,3,8]) f202_k2)
theorem f202_top:f202_ac=(.seq (.reg 0 f202_r0o [0,3]) (.seq (.seq (.reg 1 f202_r1o [0,3,7]) (.seq (.reg 2 f202_r2o [0,3,7,14]) (.cond (.tmp 14) (.seq (.reg 3 f202_r3o [4,5,6]) .ret) .skip))) f202_k1)):=rfl
noncomputable def eR2:List (FuncId×(List V→Option V)):=[(22,e8p),(24,e20),(25,e209)]
theorem eR2_ok:xa Tryz.prog zB eR2:=.cons t9p (.cons t20 (.cons t209 .nil))
noncomputable def fR2:List (FuncId×(List V→Option V)):=[(23,ft208)]
theorem fR2_ok:FtOk Tryz.prog (st [] []) fR2:=.cons ft208_ok .nil
theorem e20_at (A:List Inst) (x:Inst):e20 [.list (A.map eX),.agg [vI x.kind,.list (x.alts.map eA),.list (x.modes.map eM),vI x.det]]=some (.int .i64 (ckX A x)):=by
 have:e20 [.list (A.map eX),eX x]=some (.int .i64 (ckX A x)):=by simp [e20]
 exact this
section
variable {l:List Inst} {x:Inst} {s:S} {P:AX→Env→S→Prop} {i3:Nat}
abbrev RR (A:AC) (E:Env) (s:S) (P:AX→Env→S→Prop):Prop:=yd (stL eR2 fR2) (cfL eR2 fR2) true [] 51 A E s P
theorem k202_1 (hl:l.length≤12) (hs:∀y∈l,zQ y) (hv:yt l) (hw:s.wf) (hi3:i3<s.next) (h3:s.get i3=some (.cells (cX x) 0 26 true)) {E:Env} (hE:zI [(0,.list (l.map eX)),(3,.ptr i3 0)] E) (hP:∀t,t.wf→i3<t.next→t.get i3=some (.cells (cX x) 0 26 true)→∀E',zI [(0,.list (l.map eX)),(3,.ptr i3 0),(8,.list ((l++[x]).map eX))] E'→P .normal E' t):RR (.draw 4 xM [0,3,8]) E s P:=by
 obtain ⟨q0,q3,_⟩:=hE
 simp only at q0 q3
 have h208:=ft208_at (l:=l) (by omega) hs hv
 have hlay:=fun t=>lay_cX t x
 have a1:∀k,¬i3=s.next+k:=fun k=>by omega
 have a2:¬i3=s.next:=by omega
 by_cases hl0:l=[]
 ·subst hl0
  have h208':xi fR2 23 [.list []]=some .nils:=h208
  have hall:∀(S':S) (id:Nat),S'.get id=some (.cells [vI x.kind,.list (x.alts.map eA),.list (x.modes.map eM),vI x.det] 0 26 false)→lay tV S' (.arr id 0 1 4 true 0)=some (.list [eX x],S'.del id):=fun S' id hg=>lay_all (L:=[x]) (by simp) rfl (by rw [hg]; simp [cX])
  have hth:=thawX0 (e:=eR2) (f:=fR2) (g:=23) rfl
  simp -implicitDefEqProofs (maxDischargeDepth:=9) (maxSteps:=1000000) [Nat.add_assoc,ze,zq,zt,zr,zd,zp,zs,zy,asInt,zn,zz,sub,zl,zu,za,zk,zb,zj,zg,zh,zf,zo,zm,zi,Int.natCast_inj,q0,q3,hw,hi3,h3,cX,h208',hth,hlay,hall,a1,a2,eX]
  exact hP _ (S.wf_del (S.wf_add (S.wf_add (zX hw 6) _ _) _ _) _) (by simp; omega) (by simp [a1,a2,h3]) _ (by simp [zI,eX])
 ·have h208':xi fR2 23 [.list (l.map eX)]=some (.list (l.map eX)):=by
   have:l.isEmpty=false:=by cases l with
    | nil=>exact absurd rfl hl0
    | cons a l=>rfl
   rw [this] at h208
   exact h208
  have hth:=thawX (e:=eR2) (f:=fR2) (g:=23) rfl hl0
  have hfl:(l.flatMap cX).length=l.length*4:=zY (f:=cX) (n:=4) (fun _=>rfl) l
  have hall:∀(S':S) (id cp:Nat),S'.get id=some (.cells (l.flatMap cX++[vI x.kind,.list (x.alts.map eA),.list (x.modes.map eM),vI x.det]) 0 26 false)→lay tV S' (.arr id 0 (l.length+1) 4 true cp)=some (.list ((l++[x]).map eX),S'.del id):=fun S' id cp hg=>lay_all (L:=l++[x]) (by simp; omega) (by simp) (by rw [hg]; simp [cX])
  have s1:(l.length+1)*64≤140737488355328:=by omega
  have s2:l.length+1≤140737488355328:=by omega
  have h8:(l.flatMap cX).take (l.length*4)=l.flatMap cX:=List.take_of_length_le (by omega)
  simp -implicitDefEqProofs (maxDischargeDepth:=9) (maxSteps:=1000000) [Nat.add_assoc,ze,zq,zt,zr,zd,zp,zs,zy,asInt,zn,zz,sub,zl,zu,za,zk,zb,zj,zg,zh,zf,zo,zm,zi,Int.natCast_inj,q0,q3,hw,hi3,h3,cX,h208',hth,hlay,hall,a1,a2,hl0,hfl,h8,s1,s2,eX]
  exact hP _ (S.wf_del (S.wf_add (S.wf_del (S.wf_add (S.wf_add (zX hw 6) _ _) _ _) _) _ _) _) (by simp; omega) (by simp [a1,a2,h3]) _ (by simp [zI,eX])
theorem valid_inst {A:List Inst} (h:vv (yX A) A.length=0):yt A:=fun y hy k hk=>by
 obtain ⟨g1,g2⟩:=good_of h
 unfold yv at hk
 rcases List.mem_append.1 hk with hk | hk
 ·exact (g2 y hy).2 k hk
 ·obtain ⟨a,ha,hk⟩:=List.mem_flatMap.1 hk
  exact ((g1 y hy).2 a ha).2 k hk
/-- A result that is a copy. -/
def RetC (P:AX→Env→S→Prop) (L:List Inst) (a b:Int):Prop:=∀E t w,see 99998 t w=some (.list (L.map eX))→yw E 4=some w→yw E 5=some (.int .i64 a)→yw E 6=some (.int .i64 b)→P .ret E t
theorem x202_8 (hl:l.length≤12) (hs:∀y∈l,zQ y) (hv:yt l) (hw:s.wf) {A:List Inst} (hA:A.length=l.length+1) {E:Env} (hE:zI [(0,.list (l.map eX)),(9,.list ((cls A).map vI))] E) (hP:RetC P l (iAt (cls A) l.length) 0):RR f202_x8 E s P:=by
 obtain ⟨q0,q9,_⟩:=hE
 simp only at q0 q9
 have h208:=ft208_at (l:=l) (by omega) hs hv
 have hcl:(cls A).length=l.length+1:=by simp [cls,hA]
 have hc1:(cls A)[l.length]?=some (iAt (cls A) l.length):=iAt_lt (k:=(l.length:Int)) (by omega) (by simp; omega)
 have hc2:∀h':l.length<(cls A).length,(cls A)[l.length]=iAt (cls A) l.length:=fun h'=>by rw [List.getElem?_eq_getElem h'] at hc1; injection hc1
 generalize cls A=C at *
 unfold f202_x8
 by_cases hl0:l=[]
 ·subst hl0
  have h208':xi fR2 23 [.list []]=some .nils:=h208
  have hth:=thawX0 (e:=eR2) (f:=fR2) (g:=23) rfl
  simp only [List.length_nil] at hc1 hc2 hcl
  simp -implicitDefEqProofs (maxDischargeDepth:=9) (maxSteps:=1000000) [Nat.add_assoc,ze,zq,zt,zr,zd,zp,zs,zy,asInt,zn,zz,sub,zl,zu,za,zk,zb,zj,zg,zh,zf,zo,zm,zi,Int.natCast_inj,q0,q9,hw,h208',hth,hc1,hc2,hcl]
  exact hP _ _ .nils rfl (by simp) (by simp [vI]) (by simp)
 ·have h208':xi fR2 23 [.list (l.map eX)]=some (.list (l.map eX)):=by
   have:l.isEmpty=false:=by cases l with
    | nil=>exact absurd rfl hl0
    | cons a l=>rfl
   rw [this] at h208
   exact h208
  have hth:=thawX (e:=eR2) (f:=fR2) (g:=23) rfl hl0
  simp -implicitDefEqProofs (maxDischargeDepth:=9) (maxSteps:=1000000) [Nat.add_assoc,ze,zq,zt,zr,zd,zp,zs,zy,asInt,zn,zz,sub,zl,zu,za,zk,zb,zj,zg,zh,zf,zo,zm,zi,Int.natCast_inj,q0,q9,hw,h208',hth,hc1,hc2,hcl]
  exact hP _ _ (.arr (s.next+1) 0 l.length 4 true 0) (see_arrG (f:=cX) (sz:=4) (x:=l) (t:=26) (ex:=false) (fun _=>rfl) cX_v (by simp) rfl (by omega)) (by simp) (by simp [vI]) (by simp)
theorem k202_2 (hl:l.length≤12) (hs:∀y∈l++[x],zQ y) (hw:s.wf) (hi3:i3<s.next) (h3:s.get i3=some (.cells (cX x) 0 26 true)) (hf:vv (yX l) l.length=0) {E:Env} (hE:zI [(0,.list (l.map eX)),(3,.ptr i3 0),(8,.list ((l++[x]).map eX))] E)
  (hT:putC l x=true→∀E',zI [(0,.list (l.map eX)),(9,.list ((cls (l++[x])).map vI))] E'→RR f202_x8 E' s P) (hF:putC l x=false→∀E',zI [(0,.list (l.map eX)),(8,.list ((l++[x]).map eX))] E'→RR f202_x3 E' s P):RR f202_k2 E s P:=by
 obtain ⟨q0,q3,q8,_⟩:=hE
 simp only at q0 q3 q8
 have hva:ckX (l++[x]) x=0→yt (l++[x]):=fun h=>valid_inst (fst_all hf h)
 have hAn:(l++[x]).length=l.length+1:=by simp
 unfold putC at hT hF
 obtain ⟨A,hA⟩:∃A,l++[x]=A:=⟨_,rfl⟩
 rw [hA] at q8 hs hva hAn hT hF
 have h20:∀t,zF (stL eR2 fR2) (cfL eR2 fR2) 24 [.list (A.map eX),.agg [vI x.kind,.list (x.alts.map eA),.list (x.modes.map eM),vI x.det]] t=some (.val (.int .i64 (ckX A x)) t):=fun t=>zH (e20_at A x)
 simp only [vI] at h20
 unfold f202_k2
 by_cases hc:ckX A x=0
 ·have h209:∀t,zF (stL eR2 fR2) (cfL eR2 fR2) 25 [.list (A.map eX)] t=some (.val (.list ((cls A).map vI)) t):=fun t=>zH (e209_at A (by omega) hs (hva hc))
  have hcl:(cls A).length=l.length+1:=by simp [cls,hAn]
  have hc1:(cls A)[l.length]?=some (iAt (cls A) l.length):=iAt_lt (k:=(l.length:Int)) (by omega) (by simp; omega)
  have hc2:∀h':l.length<(cls A).length,(cls A)[l.length]=iAt (cls A) l.length:=fun h'=>by rw [List.getElem?_eq_getElem h'] at hc1; injection hc1
  by_cases hd:iAt (cls A) l.length<l.length
  ·simp -implicitDefEqProofs (maxDischargeDepth:=9) (maxSteps:=1000000) [Nat.add_assoc,ze,zq,zt,zr,zd,zp,zs,zy,asInt,zn,zz,sub,zl,zu,za,zk,zb,zj,zg,zh,zf,zA,zw,zo,zm,zi,Int.natCast_inj,q0,q3,q8,hw,hi3,h3,cX,h20,hc,f202_x6,h209,hcl,hc1,hc2,hd,vI]
   exact hT (by simp [hc,hd]) _ (by simp [zI])
  ·simp -implicitDefEqProofs (maxDischargeDepth:=9) (maxSteps:=1000000) [Nat.add_assoc,ze,zq,zt,zr,zd,zp,zs,zy,asInt,zn,zz,sub,zl,zu,za,zk,zb,zj,zg,zh,zf,zA,zw,zo,zm,zi,Int.natCast_inj,q0,q3,q8,hw,hi3,h3,cX,h20,hc,f202_x6,h209,hcl,hc1,hc2,hd,vI]
   exact hF (by simp [hc,hd]) _ (by simp [zI])
 ·simp -implicitDefEqProofs (maxDischargeDepth:=9) (maxSteps:=1000000) [Nat.add_assoc,ze,zq,zt,zr,zd,zp,zs,zy,asInt,zn,zz,sub,zl,zu,za,zk,zb,zj,zg,zh,zf,zA,zw,zo,zm,zi,Int.natCast_inj,q0,q3,q8,hw,hi3,h3,cX,h20,hc,vI]
  exact hF (by simp [hc]) _ (by simp [zI])
theorem x202_3 (hl:l.length≤12) (hs:∀y∈l++[x],zQ y) (hw:s.wf) {E:Env} (hE:zI [(0,.list (l.map eX)),(8,.list ((l++[x]).map eX))] E) (hF:¬ckT (l++[x])=0→Ret3 P .nils (.int .i64 0) (.int .i64 (ckT (l++[x])))) (hT:ckT (l++[x])=0→RetC P (l++[x]) l.length 0):RR f202_x3 E s P:=by
 obtain ⟨q0,q8,_⟩:=hE
 simp only at q0 q8
 have hAn:(l++[x]).length=l.length+1:=by simp
 have hne:¬l++[x]=[]:=by simp
 obtain ⟨A,hA⟩:∃A,l++[x]=A:=⟨_,rfl⟩
 rw [hA] at q8 hF hT hAn hs hne
 have h8:∀t,zF (stL eR2 fR2) (cfL eR2 fR2) 22 [.list (A.map eX)] t=some (.val (.int .i64 (ckT A)) t):=fun t=>zH (e8p_at (by omega))
 unfold f202_x3
 by_cases hc:ckT A=0
 ·have h208:=ft208_at (l:=A) (by omega) hs (valid_of hc)
  have h208':xi fR2 23 [.list (A.map eX)]=some (.list (A.map eX)):=by
   have:A.isEmpty=false:=by cases A with
    | nil=>exact absurd rfl hne
    | cons a l=>rfl
   rw [this] at h208
   exact h208
  have hth:=thawX (e:=eR2) (f:=fR2) (g:=23) rfl hne
  simp -implicitDefEqProofs (maxDischargeDepth:=9) (maxSteps:=1000000) [Nat.add_assoc,ze,zq,zt,zr,zd,zp,zs,zy,asInt,zn,zz,sub,zl,zu,za,zk,zb,zj,zg,zh,zf,zo,zm,zi,Int.natCast_inj,q0,q8,hw,h8,hc,h208',hth]
  exact hT hc _ _ (.arr s.next 0 A.length 4 true 0) (see_arrG (f:=cX) (sz:=4) (x:=A) (t:=26) (ex:=false) (fun _=>rfl) cX_v (by simp) rfl (by omega)) (by simp) (by simp) (by simp)
 ·simp -implicitDefEqProofs (maxDischargeDepth:=9) (maxSteps:=1000000) [Nat.add_assoc,ze,zq,zt,zr,zd,zp,zs,zy,asInt,zn,zz,sub,zl,zu,za,zk,zb,zj,zg,zh,zf,zo,zm,zi,Int.natCast_inj,q0,q8,hw,h8,hc]
  exact hF hc _ _ (by simp) (by simp) (by simp)
end
theorem p202 (l:List Inst) (x:Inst) (hl:l.length≤12) (hs:∀y∈l,zQ y) (hx:zQ x):zx Tryz.prog zB 8 [.list (l.map eX),eX x] (vP (putB l x)):=by
 have hc:=stL_ok (e:=eR2) (f:=fR2) eR2_ok fR2_ok
 refine zx.cfg (cfg:=stL eR2 fR2) rfl ?_
 refine zM (sl:=true) hc (cfL_ok hc) noSpL Tryz.func8 f202_eq f202_nt f202_fits (by simp) (by simp) ?_
 rw [f202_top]
 have h8:∀t,zF (stL eR2 fR2) (cfL eR2 fR2) 22 [.list (l.map eX)] t=some (.val (.int .i64 (ckT l)) t):=fun t=>zH (e8p_at (by omega))
 have hsa:∀y∈l++[x],zQ y:=fun y hy=>by
  rcases List.mem_append.1 hy with hy | hy
  ·exact hs y hy
  ·rw [List.mem_singleton.1 hy]; exact hx
 by_cases hc0:ckT l=0
 ·have hv:=valid_of hc0
  simp -implicitDefEqProofs (maxDischargeDepth:=9) (maxSteps:=1000000) [Nat.add_assoc,ze,zq,zt,zr,zd,zp,zs,zy,asInt,zn,zz,sub,zl,zu,za,zk,zb,zj,zg,zh,zf,zA,zw,zo,zm,zi,Int.natCast_inj,h8,hc0,eX]
  show RR f202_k1 _ _ _
  unfold f202_k1
  rw [RR,yN]
  refine k202_1 (i3:=0) (x:=x) hl hs hv (S.wf_add S.wf_empty _ _) (by simp) (by simp [cX]) (by simp [zI]) fun t hwt hit h3t E' hE=>?_
  rw [zK]
  refine k202_2 hl hsa hwt hit h3t (ckT_zero hc0).1 hE ?_ ?_
  ·intro hp E2 hE2
   refine x202_8 hl hs hv hwt (A:=l++[x]) (by simp) hE2 ?_
   intro E t w hsee h4 h5 h6
   have hp2:putB l x=(l,iAt (cls (l++[x])) l.length,0):=by unfold putB; rw [if_pos hc0,if_pos hp]
   rw [hp2]
   simp -implicitDefEqProofs (maxDischargeDepth:=9) (maxSteps:=1000000) [Nat.add_assoc,ze,zq,zt,zr,zd,zp,zs,zy,asInt,zn,zz,sub,zl,zu,za,zk,zb,zj,zg,zh,zf,zA,zw,zo,zm,zi,Int.natCast_inj,h4,h5,h6]
   exact xE hsee (wZ _)
  ·intro hp E2 hE2
   have hpn:¬putC l x=true:=by rw [hp]; decide
   refine x202_3 hl hsa hwt hE2 ?_ ?_
   ·intro hne E t h4 h5 h6
    have hp2:putB l x=([],0,ckT (l++[x])):=by unfold putB; rw [if_pos hc0,if_neg hpn,if_neg hne]
    rw [hp2]
    simp -implicitDefEqProofs (maxDischargeDepth:=9) (maxSteps:=1000000) [Nat.add_assoc,ze,zq,zt,zr,zd,zp,zs,zy,asInt,zn,zz,sub,zl,zu,za,zk,zb,zj,zg,zh,zf,zA,zw,zo,zm,zi,Int.natCast_inj,h4,h5,h6]
    exact xE (w:=.nils) (l:=[]) rfl rfl
   ·intro hT0 E t w hsee h4 h5 h6
    have hp2:putB l x=(l++[x],(l.length:Int),0):=by unfold putB; rw [if_pos hc0,if_neg hpn,if_pos hT0]
    rw [hp2]
    simp -implicitDefEqProofs (maxDischargeDepth:=9) (maxSteps:=1000000) [Nat.add_assoc,ze,zq,zt,zr,zd,zp,zs,zy,asInt,zn,zz,sub,zl,zu,za,zk,zb,zj,zg,zh,zf,zA,zw,zo,zm,zi,Int.natCast_inj,h4,h5,h6,-List.map_append]
    exact xE hsee (wZ _)
 ·have hp:putB l x=([],0,ckT l):=by unfold putB; rw [if_neg hc0]
  rw [hp]
  simp -implicitDefEqProofs (maxDischargeDepth:=9) (maxSteps:=1000000) [Nat.add_assoc,ze,zq,zt,zr,zd,zp,zs,zy,asInt,zn,zz,sub,zl,zu,za,zk,zb,zj,zg,zh,zf,zA,zw,zo,zm,zi,Int.natCast_inj,h8,hc0,eX]
  exact xE (w:=.nils) (l:=[]) rfl rfl
open Classical in
noncomputable def e202:List V→Option V
 | [.list m,v]=>(dXs m).bind fun l=>(dX v).bind fun x=>if l.length≤12∧(∀y∈l,zQ y)∧zQ x then some (vP (putB l x)) else none
 | _=>none
theorem t202:∀args v,e202 args=some v→zx Tryz.prog zB 8 args v:=fun args v h=>by
 unfold e202 at h
 split at h
 ·simp only [Option.bind_eq_some_iff] at h
  obtain ⟨l,hl,x,hx,h⟩:=h
  split at h
  ·rename_i hh
   injection h with h; subst h
   rw [yT hl,tc hx]; exact p202 l x hh.1 hh.2.1 hh.2.2
  ·cases h
 ·cases h
theorem e202_at (l:List Inst) (x:Inst) (h1:l.length≤12) (h2:∀y∈l,zQ y) (h3:zQ x):e202 [.list (l.map eX),.agg [vI x.kind,.list (x.alts.map eA),.list (x.modes.map eM),vI x.det]]=some (vP (putB l x)):=by
 have:e202 [.list (l.map eX),eX x]=some (vP (putB l x)):=by
  unfold e202
  simp only [xJ,dX_eX,Option.bind_some]
  rw [if_pos ⟨h1,h2,h3⟩]
 exact this
end Go.Proofs.YtchlfjhbijmdiaaGreatDoor.Ai

namespace Go.Proofs.YtchlfjhbijmdiaaGreatDoor.Ai
open Go.Proofs
set_option maxRecDepth 100000
set_option maxHeartbeats 4000000

/-! the law -/
def e4:List V→Option V
 | [.list l]=>(dXs l).map fun l=>.bool (few l)
 | _=>none
theorem t4:∀args v,e4 args=some v→zx Tryz.prog zB 4 args v:=fun args v h=>by
 unfold e4 at h
 split at h
 ·simp only [Option.map_eq_some_iff] at h
  obtain ⟨l,hl,rfl⟩:=h
  rw [yT hl]; exact p4 l
 ·cases h
@[simp] theorem awake_isb:Tryz.f6.body.isNone=false:=rfl
theorem tiny_of {x:Inst} (h:oneX x=true):zQ x:=by
 simp only [oneX,Bool.and_eq_true,decide_eq_true_eq,Bool.not_eq_true',List.any_eq_false] at h
 obtain ⟨h1,h2,h3⟩:=h
 refine ⟨by omega,by omega,fun a ha=>?_⟩
 have:=h3 a ha
 simp only [uH,Bool.or_eq_true,decide_eq_true_eq,not_or] at this
 omega
theorem few_tiny {l:List Inst} (h:few l=true):l.length≤12∧∀y∈l,zQ y:=by
 simp only [few,Bool.and_eq_true,decide_eq_true_eq,Bool.not_eq_true',List.any_eq_false] at h
 refine ⟨h.1,fun y hy=>tiny_of ?_⟩
 have:=h.2 y hy
 simpa [badX] using this
theorem putA_tiny {l:List Inst} {x:Inst} (hl:l.length≤12) (hs:∀y∈l,zQ y) (hx:zQ x):(putA l x).1.length≤1000∧∀y∈(putA l x).1,vD y:=by
 have hsm:∀y:Inst,zQ y→vD y:=fun y hy=>⟨by have:=hy.1; omega,by have:=hy.2.1; omega,fun a ha=>by have:=hy.2.2 a ha; omega⟩
 have hall:∀y∈l++[x],vD y:=fun y hy=>by
  rcases List.mem_append.1 hy with hy | hy
  ·exact hsm y (hs y hy)
  ·rw [List.mem_singleton.1 hy]; exact hsm x hx
 unfold putA
 split
 ·split
  ·split
   ·exact ⟨by simp only; omega,fun y hy=>hall y (by simp only at hy; simp [hy])⟩
   ·exact ⟨by simp; omega,fun y hy=>hall y hy⟩
  ·exact ⟨by simp,fun y hy=>by simp at hy⟩
 ·exact ⟨by simp,fun y hy=>by simp at hy⟩
noncomputable def eLaw:List (FuncId×(List V→Option V)):=[(4,e4),(5,e13),(6,e5),(7,e201),(8,e202),(9,e203)]
theorem eLaw_ok:xa Tryz.prog zB eLaw:=.cons t4 (.cons t13 (.cons t5 (.cons t201 (.cons t202 (.cons t203 .nil)))))
theorem p200 (l:List Inst) (x:Inst):zx Tryz.prog zB 3 [.list (l.map eX),eX x] (.bool true):=by
 have hc:=yn (e:=eLaw) (f:=[]) eLaw_ok .nil
 refine zx.cfg (cfg:=st eLaw []) rfl ?_
 refine zM (sl:=true) hc (zW hc) yi Tryz.func3 f200_eq f200_nt f200_fits (by simp) (by simp) ?_
 have q4:∀s,zF (st eLaw []) (cf0 eLaw []) 4 [.list (l.map eX)] s=some (.val (.bool (few l)) s):=fun s=>zH (by
  have:e4 [.list (l.map eX)]=some (.bool (few l)):=by simp [e4]
  exact this)
 have q13:∀s,zF (st eLaw []) (cf0 eLaw []) 5 [.agg [vI x.kind,.list (x.alts.map eA),.list (x.modes.map eM),vI x.det]] s=some (.val (.bool (oneX x)) s):=fun s=>zH (e13_at x)
 have q5:∀s,zF (st eLaw []) (cf0 eLaw []) 6 [] s=some (.val (.bool true) s):=fun s=>zH rfl
 cases hf:few l with
 | false =>
  rw [hf] at q4
  simp -implicitDefEqProofs (maxDischargeDepth:=9) (maxSteps:=1000000) [Nat.add_assoc,ze,zq,zt,zr,zd,zp,zs,zy,asInt,zn,zz,sub,zl,zu,za,zk,zb,zj,zg,zh,zf,zA,zw,zo,zm,zi,Int.natCast_inj,f200_ac,eX,q4,q5]
 | true =>
  cases ho:oneX x with
  | false =>
   rw [hf] at q4
   rw [ho] at q13
   simp -implicitDefEqProofs (maxDischargeDepth:=9) (maxSteps:=1000000) [Nat.add_assoc,ze,zq,zt,zr,zd,zp,zs,zy,asInt,zn,zz,sub,zl,zu,za,zk,zb,zj,zg,zh,zf,zA,zw,zo,zm,zi,Int.natCast_inj,f200_ac,eX,q4,q5,q13]
  | true =>
   rw [hf] at q4
   rw [ho] at q13
   obtain ⟨hl,hs⟩:=few_tiny hf
   have hx:=tiny_of ho
   have q201:∀s,zF (st eLaw []) (cf0 eLaw []) 7 [.list (l.map eX),.agg [vI x.kind,.list (x.alts.map eA),.list (x.modes.map eM),vI x.det]] s=some (.val (vP (putA l x)) s):=fun s=>zH (e201_at l x hl hs hx)
   have q202:∀s,zF (st eLaw []) (cf0 eLaw []) 8 [.list (l.map eX),.agg [vI x.kind,.list (x.alts.map eA),.list (x.modes.map eM),vI x.det]] s=some (.val (vP (putA l x)) s):=fun s=>by
    rw [put_eq (by omega)]; exact zH (e202_at l x hl hs hx)
   have q203:∀s,zF (st eLaw []) (cf0 eLaw []) 9 [.list ((putA l x).1.map eX),.list ((putA l x).1.map eX)] s=some (.val (.bool true) s):=fun s=>zH (e203_at _ (putA_tiny hl hs hx).1 (putA_tiny hl hs hx).2)
   generalize putA l x=r at q201 q202 q203
   obtain ⟨L,a,b⟩:=r
   have ev:vP (L,a,b)=.tup [.list (L.map eX),.int .i64 a,.int .i64 b]:=rfl
   rw [ev] at q201 q202
   simp only at q203
   simp -implicitDefEqProofs (maxDischargeDepth:=9) (maxSteps:=1000000) [Nat.add_assoc,ze,zq,zt,zr,zd,zp,zs,zy,asInt,zn,zz,sub,zl,zu,za,zk,zb,zj,zg,zh,zf,zA,zw,zo,zm,zi,Int.natCast_inj,f200_ac,eX,q4,q5,q13,q201,q202,q203]
end Go.Proofs.YtchlfjhbijmdiaaGreatDoor.Ai

