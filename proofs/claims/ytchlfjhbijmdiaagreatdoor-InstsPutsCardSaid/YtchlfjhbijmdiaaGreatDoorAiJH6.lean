/- Part of a reckoning of a Go program over abstract values, proved sound against the model. -/
import Derived.Test.YtchlfjhbijmdiaaGreatDoorAiJG7
import Derived.Test.YtchlfjhbijmdiaaGreatDoorAiJF3
import Derived.Test.YtchlfjhbijmdiaaGreatDoorAiJF2
set_option linter.unusedSimpArgs false
set_option linter.unusedVariables false
namespace Go.Proofs.YtchlfjhbijmdiaaGreatDoor.Ai
open Go.Proofs
set_option maxRecDepth 100000
set_option maxHeartbeats 4000000

/-! what marks a class in a text -/
def vB (n:Int):V:=.int .u8 n
def mkB (k:Int):List Int:=[IntKind.u8.wrap (k.fdiv 65536),IntKind.u8.wrap (k.fdiv 256),IntKind.u8.wrap k]
abbrev ArrB (b:Nat) (s:S) (v:V) (L:List Int):Prop:=Arr (L.map vB) L.length 1 false 5 b s v
def sp220:SpE:=⟨fun args s=>∃v k L,args=[v,.int .i64 k]∧L.length≤300000∧ArrB 0 s v L,
 fun args s w s'=>∀v k b L,args=[v,.int .i64 k]→ArrB b s v L→ArrB s.next s' w (L++mkB k)∧s'.wf∧s.next≤s'.next∧∀j,j<s.next→j<b→s'.get j=s.get j,
 fun _ _ _ _=>False⟩
theorem vB_inj:∀{L M:List Int},L.map vB=M.map vB→L=M
 | [],[],_=>rfl
 | a::L,b::M,h=>by
  simp only [List.map_cons,List.cons.injEq,vB,V.int.injEq,true_and] at h
  rw [h.1,vB_inj h.2]
 | [],_::_,h=>by simp at h
 | _::_,[],h=>by simp at h
theorem spec220':tR Tryz.prog (st [] []) 51 sp220:=by
 have hc:=yn (e:=[]) (f:=[]) .nil .nil
 refine spec_of (sl:=true) hc (zW hc) yi Tryz.func51 (by rfl) f220_eq f220_nt f220_fits ?_
 rintro args s ⟨v,k,L,rfl,hL,hA⟩ hw
 refine ⟨by simp,?_⟩
 have hlay:∀(t:S) (a b c:Int),xD true t [.int .u8 a,.int .u8 b,.int .u8 c]=some ([.int .u8 a,.int .u8 b,.int .u8 c],t):=fun t a b c=>rfl
 have c1:∀n:Int,wN (st [] []) .shr 3 (.int .i64 n) (.int .u64 16)=some (.int .i64 (n.fdiv 65536)):=fun n=>by kernel_rfl
 have c2:∀n:Int,wN (st [] []) .shr 3 (.int .i64 n) (.int .u64 8)=some (.int .i64 (n.fdiv 256)):=fun n=>by kernel_rfl
 have c3:∀(s:S) (nw:Nat) (n:Int),yo (st [] []) nw s 3 5 (.int .i64 n)=some (.int .u8 (IntKind.u8.wrap n),s):=fun s nw n=>by kernel_rfl
 have s1:L.length+3≤140737488355328:=by omega
 rcases hA with ⟨rfl,h1,h2⟩ | ⟨id,cp,hid0,hid,rfl,hgt⟩
 ·simp -implicitDefEqProofs (maxDischargeDepth:=9) (maxSteps:=1000000) [Nat.add_assoc,ze,zq,zt,zr,zd,zp,zs,zy,asInt,zn,zz,sub,zl,zu,za,zk,zb,zj,zg,zh,zf,zA,zw,zo,zm,zi,Int.natCast_inj,f220_ac,hw,c1,c2,c3,hlay]
  intro v' k' b L' hargs hA'
  simp only [List.cons.injEq,V.int.injEq,true_and,and_true] at hargs
  obtain ⟨rfl,rfl⟩:=hargs
  have hL':L'=[]:=by
   rcases hA' with ⟨_,h,_⟩ | ⟨id,cp,_,_,h,_⟩
   ·simpa using h
   ·cases h
  subst hL'
  exact ⟨.inr ⟨s.next+1,0,by omega,by simp,rfl,by simp [mkB,vB]⟩,S.wf_add (S.wf_add hw _ _) _ _,by simp; omega,fun j hj _=>by rw [S.get_add,if_neg (by omega),S.get_add,if_neg (by omega)]⟩
 ·have h6:∀k,¬id=s.next+k:=fun k=>by omega
  have h7:¬id=s.next:=by omega
  have h8:((L.map vB).take L.length)=L.map vB:=List.take_of_length_le (by simp)
  simp -implicitDefEqProofs (maxDischargeDepth:=9) (maxSteps:=1000000) [Nat.add_assoc,ze,zq,zt,zr,zd,zp,zs,zy,asInt,zn,zz,sub,zl,zu,za,zk,zb,zj,zg,zh,zf,zA,zw,zo,zm,zi,Int.natCast_inj,f220_ac,hw,c1,c2,c3,hlay,hgt,hid,h6,h7,h8,s1]
  intro v' k' b L' hargs hA'
  simp only [List.cons.injEq,V.int.injEq,true_and,and_true] at hargs
  obtain ⟨rfl,rfl⟩:=hargs
  obtain ⟨hbi,rfl⟩:b≤id∧L=L':=by
   rcases hA' with ⟨h,_⟩ | ⟨id2,cp2,e1,e2,e3,e4⟩
   ·cases h
   ·injection e3 with e3
    subst e3
    rw [hgt] at e4
    injection e4 with e4
    injection e4 with e4
    exact ⟨e1,vB_inj e4⟩
  exact ⟨.inr ⟨s.next+1,if L.length+3<cp then cp else 0,by omega,by simp,by simp [mkB],by simp [mkB,vB]⟩,S.wf_add (S.wf_del (S.wf_add hw _ _) _) _ _,by simp; omega,fun j hj hb=>by rw [S.get_add,if_neg (by omega),S.get_del,if_neg (by omega),S.get_add,if_neg (by omega)]⟩
theorem spec220 {e f:List (FuncId×(List V→Option V))}:tR Tryz.prog (st7 e f) 51 sp220:=fun x args cargs hg=>spec220' x args cargs hg
end Go.Proofs.YtchlfjhbijmdiaaGreatDoor.Ai

namespace Go.Proofs.YtchlfjhbijmdiaaGreatDoor.Ai
open Go.Proofs
set_option maxRecDepth 100000
set_option maxHeartbeats 4000000

/-! keys as texts -/
def u8 (n:Int):UInt8:=UInt8.ofNat n.toNat
theorem vBytes_vB:∀L:List Int,vr (L.map vB)=some (L.map u8)
 | []=>rfl
 | a::L=>by
  show (vr (L.map vB)).map (u8 a::·)=_
  rw [vBytes_vB L]; rfl
theorem mkB_inj {a b:Int} (ha:0≤a) (ha':a<16777216) (hb:0≤b) (hb':b<16777216) (h:(mkB a).map u8=(mkB b).map u8):a=b:=by
 obtain ⟨m,rfl⟩:=Int.eq_ofNat_of_zero_le ha
 obtain ⟨n,rfl⟩:=Int.eq_ofNat_of_zero_le hb
 have hw:∀k:Nat,IntKind.u8.wrap (k:Int)=((k % 256:Nat):Int):=fun k=>by
  simp [IntKind.wrap,IntKind.signed,IntKind.bits]
 have hd:∀(k d:Nat),Int.fdiv (k:Int) (d:Int)=((k / d:Nat):Int):=fun k d=>by
  rw [Int.fdiv_eq_ediv_of_nonneg _ (by omega)]; rfl
 have h1:∀k:Nat,(mkB (k:Int)).map u8=[UInt8.ofNat (k / 65536 % 256),UInt8.ofNat (k / 256 % 256),UInt8.ofNat (k % 256)]:=fun k=>by
  have e1:Int.fdiv (k:Int) 65536=((k / 65536:Nat):Int):=hd k 65536
  have e2:Int.fdiv (k:Int) 256=((k / 256:Nat):Int):=hd k 256
  unfold mkB
  rw [e1,e2,hw,hw,hw]
  simp only [List.map_cons,List.map_nil,u8,Int.toNat_natCast]
 rw [h1,h1] at h
 simp only [List.cons.injEq,and_true] at h
 obtain ⟨g1,g2,g3⟩:=h
 have t1:=congrArg UInt8.toNat g1
 have t2:=congrArg UInt8.toNat g2
 have t3:=congrArg UInt8.toNat g3
 simp only [UInt8.toNat_ofNat'] at t1 t2 t3
 omega
theorem keys_inj:∀{A B:List Int},(∀a∈A,0≤a∧a<16777216)→(∀a∈B,0≤a∧a<16777216)→(A.flatMap mkB).map u8=(B.flatMap mkB).map u8→A=B
 | [],[],_,_,_=>rfl
 | a::A,b::B,hA,hB,h=>by
  simp only [List.flatMap_cons,List.map_append] at h
  obtain ⟨h1,h2⟩:=List.append_inj h (by simp [mkB])
  have ha:=hA a (by simp)
  have hb:=hB b (by simp)
  rw [mkB_inj ha.1 ha.2 hb.1 hb.2 h1,keys_inj (fun x hx=>hA x (by simp [hx])) (fun x hx=>hB x (by simp [hx])) h2]
 | [],b::B,_,_,h=>by simp [mkB] at h
 | a::A,[],_,_,h=>by simp [mkB] at h
def kS (l:List Inst) (c:List Int) (j:Nat):ByteArray:=⟨(((wF l c j).flatMap mkB).map u8).toArray⟩
/-- Classes are small numbers. -/
def tn (c:List Int):Prop:=∀i:Int,0≤iAt c i∧iAt c i<16777216
theorem kS_inj {l:List Inst} {c:List Int} (hc:tn c) {i j:Nat} (h:kS l c i=kS l c j):wF l c i=wF l c j:=by
 have h1:(((wF l c i).flatMap mkB).map u8)=(((wF l c j).flatMap mkB).map u8):=by
  have:=congrArg ByteArray.data h
  simpa [kS] using this
 have key:∀k:Nat,∀a∈wF l c k,0≤a∧a<16777216:=fun k a ha=>by
  unfold wF at ha
  rcases List.mem_cons.1 ha with rfl | ha
  ·exact hc _
  ·obtain ⟨q,_,rfl⟩:=List.mem_map.1 ha
   exact hc _
 exact keys_inj (key i) (key j) h1
/-- The first ones of their classes. -/
def leads (l:List Inst) (c:List Int) (i:Nat):List Nat:=(List.range i).filter fun j=>decide (ym l c j=j)
theorem nxt_same {l:List Inst} {c:List Int} {i j:Nat} (h:wF l c i=wF l c j):ym l c i=ym l c j:=by
 obtain ⟨a1,a2,a3⟩:=yh l c i
 obtain ⟨b1,b2,b3⟩:=yh l c j
 have:=a3 _ (b1.trans h.symm)
 have:=b3 _ (a1.trans h)
 omega
theorem leads_find (l:List Inst) (c:List Int) (i:Nat):((leads l c i).find? fun j=>decide (wF l c j=wF l c i))=if ym l c i<i then some (ym l c i) else none:=by
 obtain ⟨a1,a2,a3⟩:=yh l c i
 split
 ·rename_i h
  have hm:ym l c i∈leads l c i:=by
   simp only [leads,List.mem_filter,List.mem_range,decide_eq_true_eq]
   exact ⟨h,nxt_same a1⟩
  cases hf:(leads l c i).find? fun j=>decide (wF l c j=wF l c i) with
  | none =>
   have:=List.find?_eq_none.1 hf _ hm
   simp [a1] at this
  | some x =>
   have h1:=List.find?_some hf
   have h2:=List.mem_of_find?_eq_some hf
   simp only [leads,List.mem_filter,List.mem_range,decide_eq_true_eq] at h1 h2
   rw [← h2.2,nxt_same h1]
 ·rename_i h
  rw [List.find?_eq_none]
  intro x hx hk
  simp only [leads,List.mem_filter,List.mem_range,decide_eq_true_eq] at hx hk
  have:=a3 _ hk
  omega
theorem leads_succ (l:List Inst) (c:List Int) (i:Nat):leads l c (i+1)=if ym l c i<i then leads l c i else leads l c i++[i]:=by
 have h:=(yh l c i).2.1
 unfold leads
 rw [List.range_succ,List.filter_append]
 split
 ·rename_i hl
  have:¬ym l c i=i:=by omega
  simp [this]
 ·rename_i hl
  have:ym l c i=i:=by omega
  simp [this]
/-- What the map of the first ones holds. -/
def KMap (l:List Inst) (c:List Int) (s:S) (id i:Nat):Prop:=∃es ck,s.get id=some (.map es ck)∧es.map (fun e=>(e.1,e.2.1))=(leads l c i).map fun j=>(V.str (kS l c j),V.int .i64 j)
section
variable (e f:List (FuncId×(List V→Option V)))
theorem keyK (a b:ByteArray):keyEq (st7 e f) 9 (.str a) (.str b)=some (decide (a=b)):=by
 have hk:∀a b:ByteArray,keyEq (st7 e f) 9 (.str a) (.str b)=some (a.toList == b.toList):=fun a b=>by kernel_rfl
 rw [hk]
 congr 1
 rw [Bool.eq_iff_iff]
 simp only [beq_iff_eq,decide_eq_true_eq]
 constructor
 ·intro h
  rw [ByteArray.toList_eq,ByteArray.toList_eq] at h
  exact ByteArray.ext (Array.ext' h)
 ·intro h; rw [h]
theorem plainK (a:ByteArray):yL (st7 e f) 9 (.str a)=true:=by kernel_rfl
theorem findK {l:List Inst} {c:List Int} (hc:tn c) {i:Nat}:∀{es:List (V×V×Nat)} {ls:List Nat} {n:Nat},es.map (fun e=>(e.1,e.2.1))=ls.map (fun (j:Nat)=>(V.str (kS l c j),V.int .i64 (j:Int)))→∃p,uR (keyEq (st7 e f) 9) (.str (kS l c i)) es n=some ((ls.find? fun j=>decide (wF l c j=wF l c i)).map fun (j:Nat)=>(p,V.int .i64 (j:Int)))
 | [],[],n,_=>⟨0,by simp [uR]⟩
 | x::es,q::ls,n,h=>by
  simp only [List.map_cons,List.cons.injEq,Prod.mk.injEq] at h
  obtain ⟨⟨h1,h2⟩,h3⟩:=h
  unfold uR
  rw [h1,keyK]
  by_cases hq:wF l c q=wF l c i
  ·have:kS l c i=kS l c q:=by unfold kS; rw [hq]
   refine ⟨n,?_⟩
   simp [hq,h2,this]
  ·have:¬kS l c i=kS l c q:=fun h=>hq (kS_inj hc h.symm)
   obtain ⟨p,hp⟩:=findK hc (i:=i) (n:=n+1) h3
   refine ⟨p,?_⟩
   simp [hq,hp,this]
 | [],_::_,_,h=>by simp at h
 | _::_,[],_,h=>by simp at h
theorem lookK {l:List Inst} {c:List Int} (hc:tn c) {s:S} {id i:Nat} (h:KMap l c s id i):yI (st7 e f) s 81 (.map id) (.str (kS l c i)) true=some (if ym l c i<i then .tup [.int .i64 (ym l c i),.bool true] else .tup [.int .i64 0,.bool false]):=by
 obtain ⟨es,ck,h1,h2⟩:=h
 obtain ⟨p,hp⟩:=findK e f hc (i:=i) (n:=0) h2
 rw [leads_find] at hp
 unfold yI
 simp only [st7_ty,ty_213,Option.bind_eq_bind,Option.bind_some,und_213,ty_3,plainK,zi,h1,hp]
 by_cases hn:ym l c i<i
 ·simp [hn]
 ·simp [hn]
theorem putK {l:List Inst} {c:List Int} (hc:tn c) {s:S} {id i:Nat} (h:KMap l c s id i) (hn:¬ym l c i<i):∃o,(∀S':S,S'.get id=s.get id→yj (st7 e f) S' 81 (.map id) (.str (kS l c i)) (.int .i64 i)=some (S'.put id o))∧∀t:S,t.get id=some o→KMap l c t id (i+1):=by
 obtain ⟨es,ck,h1,h2⟩:=h
 obtain ⟨p,hp⟩:=findK e f hc (i:=i) (n:=0) h2
 rw [leads_find,if_neg hn] at hp
 refine ⟨.map (es++[(.str (kS l c i),.int .i64 i,ck)]) (ck+1),fun S' hS=>?_,fun t ht=>⟨_,_,ht,by rw [leads_succ,if_neg hn]; simp [h2]⟩⟩
 unfold yj
 simp only [st7_ty,ty_213,Option.bind_eq_bind,Option.bind_some,und_213,plainK,hS,h1,hp]
 simp
end
end Go.Proofs.YtchlfjhbijmdiaaGreatDoor.Ai

namespace Go.Proofs.YtchlfjhbijmdiaaGreatDoor.Ai
open Go.Proofs
set_option maxRecDepth 100000
set_option maxHeartbeats 4000000

/-! classes: the first ones, by shape -/
@[simp] theorem f209_r5_s7:zD cfg7 xy=true:=by kernel_rfl
@[simp] theorem f209_r5_d7:yg cfg7 xy=true:=by kernel_rfl
@[simp] theorem f209_r24_s7:zD cfg7 xm=true:=by kernel_rfl
@[simp] theorem f209_r24_d7:yg cfg7 xm=true:=by kernel_rfl
@[simp] theorem f209_r5_t187:zV cfg7 xy 18=true:=by kernel_rfl
noncomputable def eK2:List (FuncId×(List V→Option V)):=[(50,e219),(52,e221)]
theorem eK2_ok:xa Tryz.prog zB eK2:=.cons t219 (.cons t221 .nil)
theorem sp8_ok {e f:List (FuncId×(List V→Option V))}:∀g se,(g,se)∈[(51,sp220)]→tR Tryz.prog (st7 e f) g se:=fun g se h=>by
 simp only [List.mem_singleton,Prod.mk.injEq] at h
 obtain ⟨rfl,rfl⟩:=h
 exact spec220
def fsN (l:List Inst) (i m:Nat):List Int:=(List.range l.length).map fun j=>if j<i then (vC l j:Int) else if j=i then (m:Int) else 0
theorem fsN_len (l:List Inst) (i m:Nat):(fsN l i m).length=l.length:=by simp [fsN]
theorem fsN_at {l:List Inst} {i m:Nat} (h:i<l.length):(fsN l i m)[i]?=some (m:Int):=by
 simp [fsN,h]
theorem fsN_set {l:List Inst} {i m m':Nat} (h:i<l.length):(fsN l i m).set i (m':Int)=fsN l i m':=by
 refine List.ext_getElem (by simp [fsN]) fun j h1 h2=>?_
 rw [List.getElem_set]
 simp only [fsN,List.getElem_map,List.getElem_range]
 split
 ·rename_i e; subst e; simp
 ·rename_i e
  have e':¬j=i:=fun h=>e h.symm
  simp [e']
theorem fsN_next (l:List Inst) (i:Nat):fsN l i (vC l i)=fsN l (i+1) 0:=by
 unfold fsN
 refine List.map_congr_left fun j hj=>?_
 by_cases h1:j<i
 ·rw [if_pos h1,if_pos (by omega)]
 ·rw [if_neg h1]
  by_cases h2:j=i
  ·subst h2; simp
  ·rw [if_neg h2,if_neg (by omega)]; simp
theorem fsN_zero (l:List Inst):fsN l 0 0=List.replicate l.length 0:=by
 refine List.ext_getElem (by simp [fsN]) fun j h1 h2=>by simp [fsN]
theorem fsN_end (l:List Inst):fsN l l.length 0=fstC l:=by
 unfold fsN fstC
 refine List.map_congr_left fun j hj=>?_
 rw [if_pos (List.mem_range.1 hj)]
section
variable {l:List Inst} {s:S} {iC cC i:Nat}
def vW (l:List Inst) (iC cC i:Nat):Env:=[(0,.list (l.map eX)),(3,.arr iC 0 l.length 1 false cC),(4,.int .i64 i)]
theorem l209a {E:Env} (hE:zI (vW l iC cC i) E) (hl:l.length≤1000) (hs:∀x∈l,zQ x) (h:i<l.length) (hw:s.wf) (hiC:iC<s.next) (hC:s.get iC=some (.cells ((fsN l i 0).map vI) 0 3 true)) {Q:AX→Env→S→Prop} (hQ:∀t,t.wf→iC<t.next→t.get iC=some (.cells ((fsN l (i+1) 0).map vI) 0 3 true)→∀E',zI (vW l iC cC i) E'→Q (.exit 2) E' t) :
  yd (st7 eK2 []) (cf7 eK2 []) true [(51,sp220)] 119 (.loop f209_l0) E s Q:=by
 refine zO (α:=Nat) (fun _=>vW l iC cC i) (fun m t=>t.wf∧iC<t.next∧m≤vC l i∧t.get iC=some (.cells ((fsN l i m).map vI) 0 3 true)) (fun m=>vC l i - m) 0 f209_l0_fits hE ⟨hw,hiC,Nat.zero_le _,hC⟩ ?_
 rintro m t ⟨hw,hiC,hm,hC⟩
 obtain ⟨f1,f2,f3⟩:=xg l i
 have e1:=List.getElem?_eq_getElem h
 have hlen:=fsN_len l i m
 have hat:(fsN l i m)[i]?=some (m:Int):=fsN_at h
 have hat2:∀h':i<(fsN l i m).length,(fsN l i m)[i]=(m:Int):=fun h'=>by rw [List.getElem?_eq_getElem h'] at hat; injection hat
 have hi1:i+1≤l.length:=h
 unfold vW
 rcases Nat.lt_or_ge m i with hmi | hmi
 ·have hml:m<l.length:=by omega
  have e2:=List.getElem?_eq_getElem hml
  have hmi':(m:Int)<i:=by omega
  have hcall:∀t,zF (st7 eK2 []) (cf7 eK2 []) 50 [.agg [vI l[m].kind,.list (l[m].alts.map eA),.list (l[m].modes.map eM),vI l[m].det],.agg [vI l[i].kind,.list (l[i].alts.map eA),.list (l[i].modes.map eM),vI l[i].det]] t=some (.val (.bool (shape l[m] l[i])) t):=fun t=>zH (e219_at _ _ (hs _ (List.getElem_mem hml)))
  cases hsh:shape l[m] l[i] with
  | false =>
   have hne:¬m=vC l i:=fun e=>by
    rw [← e,yH hml,yH h,hsh] at f1; cases f1
   have e3:IntKind.i64.wrap ((m:Int)+1)=((m+1:Nat):Int):=zN (by omega) (by omega)
   have hsp:=xu (fsN l i m) i ((m+1:Nat):Int) (by rw [hlen]; exact h)
   rw [fsN_set h] at hsp
   rw [hsh] at hcall
   simp only [vI] at hcall
   simp -implicitDefEqProofs (maxDischargeDepth:=9) (maxSteps:=1000000) [Nat.add_assoc,ze,zq,zt,zr,zd,zp,zs,zy,asInt,zn,zz,sub,zl,zu,za,zk,zb,zj,zg,zh,zf,zA,zw,zo,zm,zi,Int.natCast_inj,f209_l0,h,hml,hw,hiC,hC,e1,e2,e3,eX,hlen,hat,hat2,hmi,hmi',hcall,hsp,hi1,vI]
   exact ⟨m+1,by omega,S.wf_put (zX hw 21) _ _ (by simp only; omega),by omega,by omega,hsp⟩
  | true =>
   have he:m=vC l i:=by
    have:=f3 m (by rw [yH hml,yH h]; exact hsh)
    omega
   rw [hsh] at hcall
   simp only [vI] at hcall
   simp -implicitDefEqProofs (maxDischargeDepth:=9) (maxSteps:=1000000) [Nat.add_assoc,ze,zq,zt,zr,zd,zp,zs,zy,asInt,zn,zz,sub,zl,zu,za,zk,zb,zj,zg,zh,zf,zA,zw,zo,zm,zi,Int.natCast_inj,f209_l0,h,hml,hw,hiC,hC,e1,e2,eX,hlen,hat,hat2,hmi,hmi',hcall,vI]
   exact hQ _ (zX hw 21) (by simp only; omega) (by rw [← fsN_next,← he]; exact hC) _ (by simp [zI,vW])
 ·have he:m=vC l i:=by omega
  have hmi':¬(m:Int)<i:=by omega
  have hmi2:¬m<i:=by omega
  simp -implicitDefEqProofs (maxDischargeDepth:=9) (maxSteps:=1000000) [Nat.add_assoc,ze,zq,zt,zr,zd,zp,zs,zy,asInt,zn,zz,sub,zl,zu,za,zk,zb,zj,zg,zh,zf,zA,zw,zo,zm,zi,Int.natCast_inj,f209_l0,h,hw,hiC,hC,e1,eX,hlen,hat,hat2,hmi',hmi2,vI]
  exact hQ _ (zX hw 21) (by simp only; omega) (by rw [← fsN_next,← he]; exact hC) _ (by simp [zI,vW])
theorem l209b (hl:l.length≤1000) (hs:∀x∈l,zQ x) (hw:s.wf) (hiC:iC<s.next) (hC:s.get iC=some (.cells ((fsN l 0 0).map vI) 0 3 true)) {Q:AX→Env→S→Prop} (hQ:∀t,t.wf→iC<t.next→t.get iC=some (.cells ((fstC l).map vI) 0 3 true)→∀E',zI [(0,.list (l.map eX)),(3,.arr iC 0 l.length 1 false cC)] E'→Q (.exit 0) E' t) :
  yd (st7 eK2 []) (cf7 eK2 []) true [(51,sp220)] 119 (.loop f209_l1) (vW l iC cC 0) s Q:=by
 refine zO (α:=Nat) (fun i=>vW l iC cC i) (fun i t=>t.wf∧iC<t.next∧i≤l.length∧t.get iC=some (.cells ((fsN l i 0).map vI) 0 3 true)) (fun i=>l.length - i) 0 f209_l1_fits (by simp [zI,vW]) ⟨hw,hiC,Nat.zero_le _,hC⟩ ?_
 rintro i t ⟨hw,hiC,hi,hC⟩
 unfold vW
 rcases Nat.lt_or_ge i l.length with h | h
 ·have e3:IntKind.i64.wrap ((i:Int)+1)=((i+1:Nat):Int):=zN (by omega) (by omega)
  simp -implicitDefEqProofs (maxDischargeDepth:=9) (maxSteps:=1000000) [Nat.add_assoc,ze,zq,zt,zr,zd,zp,zs,zy,asInt,zn,zz,sub,zl,zu,za,zk,zb,zj,zg,zh,zf,zA,zw,zo,zm,zi,Int.natCast_inj,f209_l1,h,hw]
  refine l209a (cC:=cC) (iC:=iC) (by simp [zI,vW]) hl hs h hw hiC hC ?_
  intro u hwu hiu hCu E' hE
  obtain ⟨q0,q3,q4,_⟩:=hE
  simp only at q0 q3 q4
  simp -implicitDefEqProofs (maxDischargeDepth:=9) (maxSteps:=1000000) [Nat.add_assoc,ze,zq,zt,zr,zd,zp,zs,zy,asInt,zn,zz,sub,zl,zu,za,zk,zb,zj,zg,zh,zf,zA,zw,zo,zm,zi,Int.natCast_inj,q0,q3,q4,e3]
  exact ⟨i+1,by omega,⟨hwu,hiu,by omega,hCu⟩,by simp⟩
 ·have:i=l.length:=by omega
  subst this
  rw [fsN_end] at hC
  simp -implicitDefEqProofs (maxDischargeDepth:=9) (maxSteps:=1000000) [Nat.add_assoc,ze,zq,zt,zr,zd,zp,zs,zy,asInt,zn,zz,sub,zl,zu,za,zk,zb,zj,zg,zh,zf,zA,zw,zo,zm,zi,Int.natCast_inj,f209_l1,hw]
  exact hQ _ hw hiC hC _ (by simp [zI])
end
end Go.Proofs.YtchlfjhbijmdiaaGreatDoor.Ai

namespace Go.Proofs.YtchlfjhbijmdiaaGreatDoor.Ai
open Go.Proofs
set_option maxRecDepth 100000
set_option maxHeartbeats 4000000

/-! classes: one round -/
def a209_13:AC:=(.reg 13 f209_r13o [0,3,5,6,7,8,9,105,106,107,108,109,110,111,112,113])
def a209_14:AC:=(.reg 14 f209_r14o [0,3,5,6,7,8,9,10,105,106,107,108,109,110,111,112,113])
def a209_15:AC:=(.seq (.reg 15 f209_r15o [0,3,5,6,7,8,9,10,11,105,106,107,108,109,110,111,112,113]) (.block 8 (.loop f209_l2)))
def a209_19:AC:=(.reg 19 f209_r19o [0,3,5,6,7,8,9,12,13,105,106,107,108,109,110,111,112,113])
def a209_20:AC:=(.seq (.reg 20 f209_r20o [0,3,5,6,7,8,9,12,93,105,106,107,108,109,110,111,112,113]) (.cond (.tmp 93) (.seq (.reg 21 f209_r21o [0,3,5,6,7,8,9,12,105,106,107,108,109,110,111,112,113]) (.reg 22 f209_r22o [0,3,5,6,7,8,12,105,106,107,108,109,110,111,112,113])) .skip))
def a209_23:AC:=(.reg 23 f209_r23o [0,3,5,6,7,8,105,106,107,108,109,110,111,112,113])
def a209_24:AC:=(.draw 24 xm [0,3,5,6,7,8,105,106,107,108,109,110,111,112,113])
def a209_18:AC:=(.reg 18 f209_r18o [0,3,5,6,7,8,9,10,11,105,106,107,108,109,110,111,112,113])
theorem f209_l2_top:f209_l2=(.seq (.seq (.reg 16 f209_r16o [0,3,5,6,7,8,9,10,11,73,105,106,107,108,109,110,111,112,113]) (.cond (.tmp 73) .skip (.exit 8))) (.seq (.block 9 a209_18) (.reg 17 f209_r17o [0,3,5,6,7,8,9,10,11,105,106,107,108,109,110,111,112,113]))):=rfl
def yz (l:List Inst) (iC cC iN cN iM:Nat) (ch:Bool) (i:Nat):Env:=[(0,.list (l.map eX)),(3,.arr iC 0 l.length 1 false cC),(5,.arr iN 0 l.length 1 false cN),(6,.bool ch),(7,.map iM),(8,.int .i64 i)]
section
variable {l:List Inst} {c:List Int} {s:S} {iC cC iN cN iM i:Nat} {ch:Bool} {E:Env} {P:AX→Env→S→Prop}
abbrev R9 (A:AC) (E:Env) (s:S) (P:AX→Env→S→Prop):Prop:=yd (st7 eK2 []) (cf7 eK2 []) true [(51,sp220)] 119 A E s P
theorem iAt_lt {c:List Int} {k:Int} (h0:0≤k) (h:k.toNat<c.length):c[k.toNat]?=some (iAt c k):=by
 simp [iAt,List.getElem?_eq_getElem h]
theorem k209_13 (hcl:c.length=l.length) (h:i<l.length) (hw:s.wf) (hC:s.get iC=some (.cells (c.map vI) 0 3 true)) (hE:zI (yz l iC cC iN cN iM ch i) E) (hP:∀t w,t.wf→s.keeps t→ArrB s.next t w (mkB (iAt c i))→∀E',zI (yz l iC cC iN cN iM ch i++[(9,w)]) E'→P .normal E' t):R9 a209_13 E s P:=by
 obtain ⟨q0,q3,q5,q6,q7,q8,_⟩:=hE
 simp only at q0 q3 q5 q6 q7 q8
 have hc1:c[i]?=some (iAt c i):=iAt_lt (k:=(i:Int)) (by omega) (by simp; omega)
 have hc2:∀h':i<c.length,c[i]=iAt c i:=fun h'=>by rw [List.getElem?_eq_getElem h'] at hc1; injection hc1
 unfold a209_13
 simp -implicitDefEqProofs (maxDischargeDepth:=9) (maxSteps:=1000000) [Nat.add_assoc,ze,zq,zt,zr,zd,zp,zs,zy,asInt,zn,zz,sub,zl,zu,za,zk,zb,zj,zg,zh,zf,zA,zw,zo,zm,zi,Int.natCast_inj,q0,q3,q5,q6,q7,q8,hw,hC,h,hcl,hc1,hc2,vI]
 refine ⟨⟨.nils,iAt c i,[],rfl,by simp,.inl ⟨rfl,rfl,rfl⟩⟩,fun w t hR=>?_,fun ch s' h=>h.elim⟩
 obtain ⟨g1,g2,g3,g4⟩:=hR .nils (iAt c i) s.next [] rfl (.inl ⟨rfl,rfl,rfl⟩)
 refine hP t w g2 ⟨g3,fun j hj=>g4 j hj hj,fun _=>g2⟩ g1 _ ?_
 simp [zI,yz]
theorem k209_14 (hs:∀x∈l,zQ x) (h:i<l.length) (hw:s.wf) {w:V} (hE:zI (yz l iC cC iN cN iM ch i++[(9,w)]) E) (hP:∀E',zI (yz l iC cC iN cN iM ch i++[(9,w),(10,.list ((xB l[i]).map vI))]) E'→P .normal E' s):R9 a209_14 E s P:=by
 obtain ⟨q0,q3,q5,q6,q7,q8,q9,_⟩:=hE
 simp only at q0 q3 q5 q6 q7 q8 q9
 have e1:=List.getElem?_eq_getElem h
 have hcall:∀t,zF (st7 eK2 []) (cf7 eK2 []) 52 [.agg [vI l[i].kind,.list (l[i].alts.map eA),.list (l[i].modes.map eM),vI l[i].det]] t=some (.val (.list ((xB l[i]).map vI)) t):=fun t=>zH (e221_at _ (hs _ (List.getElem_mem h)))
 unfold a209_14
 simp -implicitDefEqProofs (maxDischargeDepth:=9) (maxSteps:=1000000) [Nat.add_assoc,ze,zq,zt,zr,zd,zp,zs,zy,asInt,zn,zz,sub,zl,zu,za,zk,zb,zj,zg,zh,zf,zA,zw,zo,zm,zi,Int.natCast_inj,q0,q3,q5,q6,q7,q8,q9,hw,h,e1,eX,hcall]
 exact hP _ (by simp [zI,yz])
theorem k209_18 {b k:Nat} {w:V} {L M:List Int} (hcl:c.length=l.length) (hL:L.length≤200000) (hk:k<M.length) (hM:∀q∈M,0≤q∧q<l.length) (hw:s.wf) (hb:b≤s.next) (hC:s.get iC=some (.cells (c.map vI) 0 3 true)) (hB:ArrB b s w L)
  (hE:zI (yz l iC cC iN cN iM ch i++[(9,w),(10,.list (M.map vI)),(11,.int .i64 k)]) E) (hP:∀t w',t.wf→s.next≤t.next→(∀j,j<b→t.get j=s.get j)→ArrB b t w' (L++mkB (iAt c M[k]))→∀E',zI (yz l iC cC iN cN iM ch i++[(9,w'),(10,.list (M.map vI)),(11,.int .i64 k)]) E'→P .normal E' t):R9 a209_18 E s P:=by
 obtain ⟨q0,q3,q5,q6,q7,q8,q9,q10,q11,_⟩:=hE
 simp only at q0 q3 q5 q6 q7 q8 q9 q10 q11
 have e1:=List.getElem?_eq_getElem hk
 obtain ⟨m0,m1⟩:=hM M[k] (List.getElem_mem hk)
 have m2:M[k].toNat<c.length:=by omega
 have hc1:=iAt_lt m0 m2
 have hc2:∀h':M[k].toNat<c.length,c[M[k].toNat]=iAt c M[k]:=fun h'=>by rw [List.getElem?_eq_getElem h'] at hc1; injection hc1
 unfold a209_18
 simp -implicitDefEqProofs (maxDischargeDepth:=9) (maxSteps:=1000000) [Nat.add_assoc,ze,zq,zt,zr,zd,zp,zs,zy,asInt,zn,zz,sub,zl,zu,za,zk,zb,zj,zg,zh,zf,zA,zw,zo,zm,zi,Int.natCast_inj,q0,q3,q5,q6,q7,q8,q9,q10,q11,hw,hC,hk,e1,hcl,m0,m1,m2,hc1,hc2,vI]
 refine ⟨⟨w,iAt c M[k],L,rfl,by omega,arr_low (Nat.zero_le _) hB⟩,fun w' t hR=>?_,fun ch s' h=>h.elim⟩
 obtain ⟨g1,g2,g3,g4⟩:=hR w (iAt c M[k]) b L rfl hB
 refine hP t w' g2 g3 (fun j hj=>g4 j (by omega) hj) (arr_low hb g1) _ ?_
 simp [zI,yz]
theorem k209_15 {b:Nat} {w:V} {M:List Int} (hcl:c.length=l.length) (hMl:M.length≤20000) (hM:∀q∈M,0≤q∧q<l.length) (hw:s.wf) (hb:b≤s.next) (hiC:iC<b) (hC:s.get iC=some (.cells (c.map vI) 0 3 true)) {x0:Int} (hB:ArrB b s w (mkB x0))
  (hE:zI (yz l iC cC iN cN iM ch i++[(9,w),(10,.list (M.map vI))]) E) (hP:∀t w',t.wf→s.next≤t.next→(∀j,j<b→t.get j=s.get j)→ArrB b t w' ((x0::M.map (iAt c)).flatMap mkB)→∀E',zI (yz l iC cC iN cN iM ch i++[(9,w')]) E'→P .normal E' t):R9 a209_15 E s P:=by
 obtain ⟨q0,q3,q5,q6,q7,q8,q9,q10,_⟩:=hE
 simp only at q0 q3 q5 q6 q7 q8 q9 q10
 unfold a209_15
 simp -implicitDefEqProofs (maxDischargeDepth:=9) (maxSteps:=1000000) [Nat.add_assoc,ze,zq,zt,zr,zd,zp,zs,zy,asInt,zn,zz,sub,zl,zu,za,zk,zb,zj,zg,zh,zf,zA,zw,zo,zm,zi,Int.natCast_inj,q0,q3,q5,q6,q7,q8,q9,q10,hw]
 refine zO (α:=Nat×V) (fun a=>yz l iC cC iN cN iM ch i++[(9,a.2),(10,.list (M.map vI)),(11,.int .i64 a.1)]) (fun a t=>t.wf∧s.next≤t.next∧(∀j,j<b→t.get j=s.get j)∧a.1≤M.length∧ArrB b t a.2 (mkB x0++((M.map (iAt c)).take a.1).flatMap mkB)) (fun a=>M.length - a.1) (0,w) f209_l2_fits (by simp [zI,yz]) ⟨hw,Nat.le_refl _,fun _ _=>rfl,Nat.zero_le _,by simpa using hB⟩ ?_
 rintro ⟨k,v⟩ t ⟨hwt,hnt,hjt,hk,hBt⟩
 simp only at hk hBt ⊢
 rw [f209_l2_top]
 rcases Nat.lt_or_ge k M.length with h | h
 ·have e3:IntKind.i64.wrap ((k:Int)+1)=((k+1:Nat):Int):=zN (by omega) (by omega)
  have hkm:k<(M.map (iAt c)).length:=by simpa using h
  have hnext:mkB x0++((M.map (iAt c)).take (k+1)).flatMap mkB=(mkB x0++((M.map (iAt c)).take k).flatMap mkB)++mkB (iAt c M[k]):=by
   rw [List.take_succ_eq_append_getElem hkm,List.flatMap_append,List.append_assoc]
   simp
  have hlen:(mkB x0++((M.map (iAt c)).take k).flatMap mkB).length≤200000:=by
   have key:∀L:List Int,(L.flatMap mkB).length=L.length*3:=by
    intro L
    induction L with
    | nil=>rfl
    | cons a L ih=>rw [List.flatMap_cons,List.length_append,ih]; simp [mkB]; omega
   rw [List.length_append,key]
   simp only [List.length_map,List.length_take,mkB,List.length_cons,List.length_nil]
   omega
  simp -implicitDefEqProofs (maxDischargeDepth:=9) (maxSteps:=1000000) [Nat.add_assoc,ze,zq,zt,zr,zd,zp,zs,zy,asInt,zn,zz,sub,zl,zu,za,zk,zb,zj,zg,zh,zf,zA,zw,zo,zm,zi,Int.natCast_inj,yz,h,hwt]
  refine k209_18 (b:=b) (M:=M) (c:=c) (i:=i) (ch:=ch) (iM:=iM) (cN:=cN) (iN:=iN) (cC:=cC) hcl hlen h hM hwt (by omega) (by rw [hjt iC hiC]; exact hC) hBt (by simp [zI,yz]) ?_
  intro u w' hwu hnu hju hBu E' hE'
  obtain ⟨q0,q3,q5,q6,q7,q8,q9,q10,q11,_⟩:=hE'
  simp only at q0 q3 q5 q6 q7 q8 q9 q10 q11
  simp -implicitDefEqProofs (maxDischargeDepth:=9) (maxSteps:=1000000) [Nat.add_assoc,ze,zq,zt,zr,zd,zp,zs,zy,asInt,zn,zz,sub,zl,zu,za,zk,zb,zj,zg,zh,zf,zA,zw,zo,zm,zi,Int.natCast_inj,q0,q3,q5,q6,q7,q8,q9,q10,q11,e3]
  exact ⟨k+1,by omega,_,⟨hwu,by omega,fun j hj=>by rw [hju j hj,hjt j hj],by omega,by rw [hnext]; exact hBu⟩,rfl,by simp⟩
 ·have:k=M.length:=by omega
  subst this
  rw [List.take_of_length_le (by simp)] at hBt
  simp -implicitDefEqProofs (maxDischargeDepth:=9) (maxSteps:=1000000) [Nat.add_assoc,ze,zq,zt,zr,zd,zp,zs,zy,asInt,zn,zz,sub,zl,zu,za,zk,zb,zj,zg,zh,zf,zA,zw,zo,zm,zi,Int.natCast_inj,yz,hwt]
  exact hP _ _ hwt hnt hjt hBt _ (by simp [zI,yz])
end
end Go.Proofs.YtchlfjhbijmdiaaGreatDoor.Ai

namespace Go.Proofs.YtchlfjhbijmdiaaGreatDoor.Ai
open Go.Proofs
set_option maxRecDepth 100000
set_option maxHeartbeats 4000000

section
variable {l:List Inst} {c:List Int} {s:S} {iC cC iN cN iM i:Nat} {ch:Bool} {E:Env} {P:AX→Env→S→Prop}
theorem convK {e f:List (FuncId×(List V→Option V))} {L:List Int} {id cp nw:Nat} (hg:s.get id=some (.cells (L.map vB) 0 5 false)):yo (st7 e f) nw s 65 9 (.arr id 0 L.length 1 false cp)=some (.str ⟨(L.map u8).toArray⟩,s):=by
 have h8:((L.map vB).take L.length)=L.map vB:=List.take_of_length_le (by simp)
 unfold yo
 simp [zh,hg,h8,vBytes_vB]
theorem k209_19 (hc:tn c) (hw:s.wf) {b:Nat} {w:V} (hB:ArrB b s w ((wF l c i).flatMap mkB)) (hK:KMap l c s iM i) (hE:zI (yz l iC cC iN cN iM ch i++[(9,w)]) E) (hP:∀E',zI (yz l iC cC iN cN iM ch i++[(9,w),(12,.int .i64 (if ym l c i<i then (ym l c i:Int) else 0)),(13,.bool (decide (ym l c i<i)))]) E'→P .normal E' s):R9 a209_19 E s P:=by
 obtain ⟨q0,q3,q5,q6,q7,q8,q9,_⟩:=hE
 simp only at q0 q3 q5 q6 q7 q8 q9
 have hlook:=lookK eK2 [] hc hK
 obtain ⟨G,hG,hne⟩:∃G,(wF l c i).flatMap mkB=G∧¬G=[]:=⟨_,rfl,by simp [wF,mkB]⟩
 have hkS:kS l c i=⟨(G.map u8).toArray⟩:=by rw [← hG]; rfl
 rw [hG] at hB
 rcases hB with ⟨rfl,h1,_⟩ | ⟨id,cp,hb,hid,rfl,hg⟩
 ·exact absurd (List.map_eq_nil_iff.1 h1) hne
 have hcv:∀nw,yo (st7 eK2 []) nw s 65 9 (.arr id 0 G.length 1 false cp)=some (.str (kS l c i),s):=fun nw=>by rw [hkS]; exact convK hg
 unfold a209_19
 by_cases hn:ym l c i<i
 ·rw [if_pos hn] at hlook
  simp -implicitDefEqProofs (maxDischargeDepth:=9) (maxSteps:=1000000) [Nat.add_assoc,ze,zq,zt,zr,zd,zp,zs,zy,asInt,zn,zz,sub,zl,zu,za,zk,zb,zj,zg,zh,zf,zA,zw,zo,zm,zi,Int.natCast_inj,q0,q3,q5,q6,q7,q8,q9,hw,hcv,hlook]
  exact hP _ (by simp [zI,yz,hn])
 ·rw [if_neg hn] at hlook
  simp -implicitDefEqProofs (maxDischargeDepth:=9) (maxSteps:=1000000) [Nat.add_assoc,ze,zq,zt,zr,zd,zp,zs,zy,asInt,zn,zz,sub,zl,zu,za,zk,zb,zj,zg,zh,zf,zA,zw,zo,zm,zi,Int.natCast_inj,q0,q3,q5,q6,q7,q8,q9,hw,hcv,hlook]
  exact hP _ (by simp [zI,yz,hn])
theorem k209_20 (hc:tn c) (hw:s.wf) {b:Nat} {w:V} (hB:ArrB b s w ((wF l c i).flatMap mkB)) (hK:KMap l c s iM i) (hiM:iM<s.next) (hE:zI (yz l iC cC iN cN iM ch i++[(9,w),(12,.int .i64 (if ym l c i<i then (ym l c i:Int) else 0)),(13,.bool (decide (ym l c i<i)))]) E)
  (hP:∀t,t.wf→s.next≤t.next→(∀j,¬j=iM→t.get j=s.get j)→KMap l c t iM (i+1)→∀E',zI (yz l iC cC iN cN iM ch i++[(12,.int .i64 (ym l c i))]) E'→P .normal E' t):R9 a209_20 E s P:=by
 obtain ⟨q0,q3,q5,q6,q7,q8,q9,q12,q13,_⟩:=hE
 simp only at q0 q3 q5 q6 q7 q8 q9 q12 q13
 obtain ⟨G,hG,hne⟩:∃G,(wF l c i).flatMap mkB=G∧¬G=[]:=⟨_,rfl,by simp [wF,mkB]⟩
 have hkS:kS l c i=⟨(G.map u8).toArray⟩:=by rw [← hG]; rfl
 rw [hG] at hB
 have hle:=(yh l c i).2.1
 unfold a209_20
 by_cases hn:ym l c i<i
 ·rw [if_pos hn] at q12
  have hd:decide (ym l c i<i)=true:=by simp [hn]
  rw [hd] at q13
  have hK2:KMap l c s iM (i+1):=by
   obtain ⟨es,ck,h1,h2⟩:=hK
   exact ⟨es,ck,h1,by rw [leads_succ,if_pos hn]; exact h2⟩
  simp -implicitDefEqProofs (maxDischargeDepth:=9) (maxSteps:=1000000) [Nat.add_assoc,ze,zq,zt,zr,zd,zp,zs,zy,asInt,zn,zz,sub,zl,zu,za,zk,zb,zj,zg,zh,zf,zA,zw,zo,zm,zi,Int.natCast_inj,q0,q3,q5,q6,q7,q8,q9,q12,q13,hw]
  exact hP _ hw (Nat.le_refl _) (fun _ _=>rfl) hK2 _ (by simp [zI,yz,q0,q3,q5,q6,q7,q8,q9,q12])
 ·have hd:decide (ym l c i<i)=false:=by simp [hn]
  rw [hd] at q13
  have hi:ym l c i=i:=by omega
  obtain ⟨o,ho,hK2⟩:=putK eK2 [] hc hK hn
  rcases hB with ⟨rfl,h1,_⟩ | ⟨id,cp,hb,hid,rfl,hg⟩
  ·exact absurd (List.map_eq_nil_iff.1 h1) hne
  have hcv:∀nw,yo (st7 eK2 []) nw s 65 9 (.arr id 0 G.length 1 false cp)=some (.str (kS l c i),s):=fun nw=>by rw [hkS]; exact convK hg
  simp -implicitDefEqProofs (maxDischargeDepth:=9) (maxSteps:=1000000) [Nat.add_assoc,ze,zq,zt,zr,zd,zp,zs,zy,asInt,zn,zz,sub,zl,zu,za,zk,zb,zj,zg,zh,zf,zA,zw,zo,zm,zi,Int.natCast_inj,q0,q3,q5,q6,q7,q8,q9,q12,q13,hw,hcv,ho]
  exact hP _ (S.wf_put hw _ _ hiM) (by simp) (fun j hj=>by rw [S.get_put,if_neg hj]) (hK2 _ (by simp)) _ (by simp [zI,yz,hi])
def nxN (l:List Inst) (c:List Int) (i:Nat):List Int:=(List.range l.length).map fun j=>if j<i then (ym l c j:Int) else 0
theorem nxN_len (l:List Inst) (c:List Int) (i:Nat):(nxN l c i).length=l.length:=by simp [nxN]
theorem nxN_zero (l:List Inst) (c:List Int):nxN l c 0=List.replicate l.length 0:=by
 refine List.ext_getElem (by simp [nxN]) fun j h1 h2=>by simp [nxN]
theorem nxN_end (l:List Inst) (c:List Int):nxN l c l.length=nxt l c:=by
 unfold nxN nxt
 refine List.map_congr_left fun j hj=>?_
 rw [if_pos (List.mem_range.1 hj)]
theorem nxN_set {l:List Inst} {c:List Int} {i:Nat} (h:i<l.length):(nxN l c i).set i (ym l c i:Int)=nxN l c (i+1):=by
 refine List.ext_getElem (by simp [nxN]) fun j h1 h2=>?_
 rw [List.getElem_set]
 simp only [nxN,List.getElem_map,List.getElem_range]
 split
 ·rename_i e; subst e; simp
 ·rename_i e
  by_cases hj:j<i
  ·rw [if_pos hj,if_pos (by omega)]
  ·rw [if_neg hj,if_neg (by omega)]
theorem nxN_at {l:List Inst} {c:List Int} {i:Nat} (h:i<l.length):(nxN l c (i+1))[i]?=some (ym l c i:Int):=by
 simp [nxN,h]
theorem k209_23 (hw:s.wf) (h:i<l.length) (hiN:iN<s.next) (hN:s.get iN=some (.cells ((nxN l c i).map vI) 0 3 true)) (hE:zI (yz l iC cC iN cN iM ch i++[(12,.int .i64 (ym l c i))]) E) (hP:∀t,t.wf→s.next≤t.next→(∀j,¬j=iN→t.get j=s.get j)→t.get iN=some (.cells ((nxN l c (i+1)).map vI) 0 3 true)→∀E',zI (yz l iC cC iN cN iM ch i) E'→P .normal E' t):R9 a209_23 E s P:=by
 obtain ⟨q0,q3,q5,q6,q7,q8,q12,_⟩:=hE
 simp only at q0 q3 q5 q6 q7 q8 q12
 have hlen:=nxN_len l c i
 have hi1:i+1≤l.length:=h
 have hsp:=xu (nxN l c i) i (ym l c i) (by rw [hlen]; exact h)
 rw [nxN_set h] at hsp
 unfold a209_23
 simp -implicitDefEqProofs (maxDischargeDepth:=9) (maxSteps:=1000000) [Nat.add_assoc,ze,zq,zt,zr,zd,zp,zs,zy,asInt,zn,zz,sub,zl,zu,za,zk,zb,zj,zg,zh,zf,zA,zw,zo,zm,zi,Int.natCast_inj,q0,q3,q5,q6,q7,q8,q12,hw,h,hiN,hN,hlen,hi1,hsp,vI]
 exact hP _ (S.wf_put hw _ _ hiN) (by simp) (fun j hj=>by rw [S.get_put,if_neg hj]) (by simp [hsp]) _ (by simp [zI,yz])
theorem k209_24 (hcl:c.length=l.length) (hw:s.wf) (h:i<l.length) (hC:s.get iC=some (.cells (c.map vI) 0 3 true)) (hN:s.get iN=some (.cells ((nxN l c (i+1)).map vI) 0 3 true)) (hE:zI (yz l iC cC iN cN iM ch i) E) (hP:∀t,t.wf→s.next≤t.next→(∀j,t.get j=s.get j)→∀E',zI (yz l iC cC iN cN iM (ch || !decide ((ym l c i:Int)=iAt c i)) i) E'→P .normal E' t):R9 a209_24 E s P:=by
 obtain ⟨q0,q3,q5,q6,q7,q8,_⟩:=hE
 simp only at q0 q3 q5 q6 q7 q8
 have hlen:=nxN_len l c (i+1)
 have n1:=nxN_at (c:=c) h
 have n2:∀h':i<(nxN l c (i+1)).length,(nxN l c (i+1))[i]=(ym l c i:Int):=fun h'=>by rw [List.getElem?_eq_getElem h'] at n1; injection n1
 have hc1:c[i]?=some (iAt c i):=iAt_lt (k:=(i:Int)) (by omega) (by simp; omega)
 have hc2:∀h':i<c.length,c[i]=iAt c i:=fun h'=>by rw [List.getElem?_eq_getElem h'] at hc1; injection hc1
 unfold a209_24
 cases ch with
 | true =>
  simp -implicitDefEqProofs (maxDischargeDepth:=9) (maxSteps:=1000000) [Nat.add_assoc,ze,zq,zt,zr,zd,zp,zs,zy,asInt,zn,zz,sub,zl,zu,za,zk,zb,zj,zg,zh,zf,zA,zw,zo,zm,zi,Int.natCast_inj,q0,q3,q5,q6,q7,q8,hw,h,hC,hN,hcl,hlen,n1,n2,hc1,hc2,vI]
  exact hP _ (zX hw 13) (by simp) (fun _=>rfl) _ (by simp [zI,yz])
 | false =>
  by_cases he:(ym l c i:Int)=iAt c i
  ·simp -implicitDefEqProofs (maxDischargeDepth:=9) (maxSteps:=1000000) [Nat.add_assoc,ze,zq,zt,zr,zd,zp,zs,zy,asInt,zn,zz,sub,zl,zu,za,zk,zb,zj,zg,zh,zf,zA,zw,zo,zm,zi,Int.natCast_inj,q0,q3,q5,q6,q7,q8,hw,h,hC,hN,hcl,hlen,n1,n2,hc1,hc2,he,vI]
   exact hP _ (zX hw 13) (by simp) (fun _=>rfl) _ (by simp [zI,yz,he])
  ·simp -implicitDefEqProofs (maxDischargeDepth:=9) (maxSteps:=1000000) [Nat.add_assoc,ze,zq,zt,zr,zd,zp,zs,zy,asInt,zn,zz,sub,zl,zu,za,zk,zb,zj,zg,zh,zf,zA,zw,zo,zm,zi,Int.natCast_inj,q0,q3,q5,q6,q7,q8,hw,h,hC,hN,hcl,hlen,n1,n2,hc1,hc2,he,vI]
   exact hP _ (zX hw 13) (by simp) (fun _=>rfl) _ (by simp [zI,yz,he])
end
end Go.Proofs.YtchlfjhbijmdiaaGreatDoor.Ai

namespace Go.Proofs.YtchlfjhbijmdiaaGreatDoor.Ai
open Go.Proofs
set_option maxRecDepth 100000
set_option maxHeartbeats 4000000

/-- Whether some class changes. -/
def chN (l:List Inst) (c:List Int) (i:Nat):Bool:=(List.range i).any fun j=>!decide ((ym l c j:Int)=iAt c j)
theorem chN_succ (l:List Inst) (c:List Int) (i:Nat):chN l c (i+1)=(chN l c i || !decide ((ym l c i:Int)=iAt c i)):=by
 unfold chN
 rw [List.range_succ,List.any_append]
 simp
theorem chN_end {l:List Inst} {c:List Int} (hc:c.length=l.length):chN l c l.length=false↔nxt l c=c:=by
 unfold chN
 rw [List.any_eq_false]
 constructor
 ·intro h
  refine List.ext_getElem (by simp [nxt,hc]) fun j h1 h2=>?_
  have hj:j<l.length:=by simpa [nxt] using h1
  have:=h j (List.mem_range.2 hj)
  simp only [Bool.not_eq_true',decide_eq_false_iff_not,Decidable.not_not,Bool.not_eq_true] at this
  simp only [nxt,List.getElem_map,List.getElem_range]
  have e:iAt c j=c[j]:=by simp [iAt,List.getElem?_eq_getElem h2]
  rw [← e]
  simpa using this
 ·intro h j hj
  have hj':=List.mem_range.1 hj
  have:=vu (c:=c) hj'
  rw [h] at this
  simp [this]
theorem kids_parts {x:Inst} {P:Int→Prop} (h:∀k∈yv x,P k):∀k∈xB x,P k:=fun k hk=>by
 refine h k ?_
 unfold xB at hk
 unfold yv
 rw [List.mem_append] at hk ⊢
 exact hk.symm
section
variable {l:List Inst} {c:List Int} {s:S} {iC cC iN cN iM i:Nat} {ch:Bool} {E:Env} {P:AX→Env→S→Prop}
structure St9 (l:List Inst) (c:List Int) (iC iN iM i:Nat) (s:S):Prop where
 w:s.wf
 c1:iC<s.next
 n1:iN<s.next
 m1:iM<s.next
 cn:¬iC=iN
 cm:¬iC=iM
 nm:¬iN=iM
 C:s.get iC=some (.cells (c.map vI) 0 3 true)
 N:s.get iN=some (.cells ((nxN l c i).map vI) 0 3 true)
 M:KMap l c s iM i
theorem KMap.mono {t:S} (h:KMap l c s iM i) (hg:t.get iM=s.get iM):KMap l c t iM i:=by
 obtain ⟨es,ck,h1,h2⟩:=h
 exact ⟨es,ck,by rw [hg]; exact h1,h2⟩
theorem b209_3 (hl:l.length≤1000) (hs:∀x∈l,zQ x) (hv:yt l) (hcl:c.length=l.length) (hc:tn c) (h:i<l.length) (hS:St9 l c iC iN iM i s) (hE:zI (yz l iC cC iN cN iM ch i) E) {Q:AX→Env→S→Prop} (hQ:∀t,St9 l c iC iN iM (i+1) t→∀E',zI (yz l iC cC iN cN iM (ch || !decide ((ym l c i:Int)=iAt c i)) i) E'→Q .normal E' t) :
  R9 (.seq a209_13 (.seq a209_14 (.seq a209_15 (.seq a209_19 (.seq a209_20 (.seq a209_23 a209_24)))))) E s Q:=by
 obtain ⟨hw,c1,n1,m1,cn,cm,nm,hC,hN,hM⟩:=hS
 have hp:∀q∈xB (l[i]),0≤q∧q<l.length:=by
  have:=we hv h
  rw [yH h] at this
  exact kids_parts this
 have hkey:(iAt c i::(xB l[i]).map (iAt c)).flatMap mkB=(wF l c i).flatMap mkB:=by
  unfold wF
  rw [yH h]
 rw [R9,yN]
 refine k209_13 hcl h hw hC hE fun t1 w1 hw1 hk1 hB1 E1 hE1=>?_
 rw [zK,yN]
 refine k209_14 hs h hw1 hE1 fun E2 hE2=>?_
 rw [zK,yN]
 have hn1:=hk1.1
 have hC1:t1.get iC=some (.cells (c.map vI) 0 3 true):=by rw [hk1.at c1]; exact hC
 refine k209_15 (b:=s.next) hcl (parts_len (hs _ (List.getElem_mem h))) hp hw1 hn1 c1 hC1 hB1 hE2 fun t2 w2 hw2 hn2 hj2 hB2 E3 hE3=>?_
 rw [hkey] at hB2
 have old:∀j,j<s.next→t2.get j=s.get j:=fun j hj=>by rw [hj2 j hj,hk1.at hj]
 have hM2:KMap l c t2 iM i:=hM.mono (old iM m1)
 rw [zK,yN]
 refine k209_19 hc hw2 hB2 hM2 hE3 fun E4 hE4=>?_
 rw [zK,yN]
 refine k209_20 hc hw2 hB2 hM2 (by omega) hE4 fun t3 hw3 hn3 hj3 hM3 E5 hE5=>?_
 rw [zK,yN]
 have hN3:t3.get iN=some (.cells ((nxN l c i).map vI) 0 3 true):=by rw [hj3 iN nm,old iN n1]; exact hN
 have hC3:t3.get iC=some (.cells (c.map vI) 0 3 true):=by rw [hj3 iC cm,old iC c1]; exact hC
 refine k209_23 hw3 h (by omega) hN3 hE5 fun t4 hw4 hn4 hj4 hN4 E6 hE6=>?_
 rw [zK]
 have hC4:t4.get iC=some (.cells (c.map vI) 0 3 true):=by rw [hj4 iC cn]; exact hC3
 refine k209_24 hcl hw4 h hC4 hN4 hE6 fun t5 hw5 hn5 hj5 E7 hE7=>?_
 refine hQ t5 ⟨hw5,by omega,by omega,by omega,cn,cm,nm,by rw [hj5]; exact hC4,by rw [hj5]; exact hN4,?_⟩ E7 hE7
 exact (hM3.mono (hj4 iM fun e=>nm e.symm)).mono (hj5 iM)
def a209_b:AC:=(.seq a209_13 (.seq a209_14 (.seq a209_15 (.seq a209_19 (.seq a209_20 (.seq a209_23 a209_24))))))
theorem f209_l3_top2:f209_l3=(.seq (.seq (.reg 11 f209_r11o [0,3,5,6,7,8,57,105,106,107,108,109,110,111,112,113]) (.cond (.tmp 57) .skip (.exit 6))) (.seq (.block 7 a209_b) (.reg 12 f209_r12o [0,3,5,6,7,8,105,106,107,108,109,110,111,112,113]))):=rfl
theorem l209_3 (hl:l.length≤1000) (hs:∀x∈l,zQ x) (hv:yt l) (hcl:c.length=l.length) (hc:tn c) (hS:St9 l c iC iN iM 0 s) (hE:zI (yz l iC cC iN cN iM false 0) E) {Q:AX→Env→S→Prop} (hQ:∀t,St9 l c iC iN iM l.length t→∀E',zI (yz l iC cC iN cN iM (chN l c l.length) l.length) E'→Q (.exit 6) E' t) :
  R9 (.loop f209_l3) E s Q:=by
 refine zO (α:=Nat) (fun i=>yz l iC cC iN cN iM (chN l c i) i) (fun i t=>i≤l.length∧St9 l c iC iN iM i t) (fun i=>l.length - i) 0 f209_l3_fits hE ⟨Nat.zero_le _,hS⟩ ?_
 rintro i t ⟨hi,hSt⟩
 have hw:=hSt.w
 rw [f209_l3_top2]
 rcases Nat.lt_or_ge i l.length with h | h
 ·have e3:IntKind.i64.wrap ((i:Int)+1)=((i+1:Nat):Int):=zN (by omega) (by omega)
  simp -implicitDefEqProofs (maxDischargeDepth:=9) (maxSteps:=1000000) [Nat.add_assoc,ze,zq,zt,zr,zd,zp,zs,zy,asInt,zn,zz,sub,zl,zu,za,zk,zb,zj,zg,zh,zf,zA,zw,zo,zm,zi,Int.natCast_inj,yz,h,hw]
  refine b209_3 (i:=i) (ch:=chN l c i) (iM:=iM) (cN:=cN) (iN:=iN) (cC:=cC) hl hs hv hcl hc h hSt (by simp [zI,yz]) ?_
  intro u hSu E' hE'
  obtain ⟨q0,q3,q5,q6,q7,q8,_⟩:=hE'
  simp only at q0 q3 q5 q6 q7 q8
  rw [← chN_succ] at q6
  have hwu:=hSu.w
  simp -implicitDefEqProofs (maxDischargeDepth:=9) (maxSteps:=1000000) [Nat.add_assoc,ze,zq,zt,zr,zd,zp,zs,zy,asInt,zn,zz,sub,zl,zu,za,zk,zb,zj,zg,zh,zf,zA,zw,zo,zm,zi,Int.natCast_inj,q0,q3,q5,q6,q7,q8,e3,hwu]
  exact ⟨i+1,by omega,⟨by omega,hSu⟩,by simp⟩
 ·have:i=l.length:=by omega
  subst this
  simp -implicitDefEqProofs (maxDischargeDepth:=9) (maxSteps:=1000000) [Nat.add_assoc,ze,zq,zt,zr,zd,zp,zs,zy,asInt,zn,zz,sub,zl,zu,za,zk,zb,zj,zg,zh,zf,zA,zw,zo,zm,zi,Int.natCast_inj,yz,hw]
  exact hQ _ hSt _ (by simp [zI,yz])
end
end Go.Proofs.YtchlfjhbijmdiaaGreatDoor.Ai

namespace Go.Proofs.YtchlfjhbijmdiaaGreatDoor.Ai
open Go.Proofs
set_option maxRecDepth 100000
set_option maxHeartbeats 4000000

theorem sum_le {f g:Nat→Nat}:∀{L:List Nat},(∀i∈L,f i≤g i)→(L.map f).sum≤(L.map g).sum
 | [],_=>Nat.le_refl _
 | a::L,h=>by
  have h1:=h a (by simp)
  have h2:=sum_le (f:=f) (g:=g) (L:=L) fun i hi=>h i (by simp [hi])
  simp only [List.map_cons,List.sum_cons]
  omega
theorem sum_lt {f g:Nat→Nat}:∀{L:List Nat},(∀i∈L,f i≤g i)→(∃i∈L,f i<g i)→(L.map f).sum<(L.map g).sum
 | [],_,⟨_,h,_⟩=>by cases h
 | a::L,h,⟨i,hi,hlt⟩=>by
  have h1:=h a (by simp)
  have h2:=sum_le (f:=f) (g:=g) (L:=L) fun i hi=>h i (by simp [hi])
  simp only [List.map_cons,List.sum_cons]
  rcases List.mem_cons.1 hi with rfl | hi
  ·omega
  ·have:=sum_lt (f:=f) (g:=g) (L:=L) (fun i hi=>h i (by simp [hi])) ⟨i,hi,hlt⟩
   omega
def measC (l:List Inst) (c:List Int):Nat:=((List.range l.length).map fun (i:Nat)=>l.length - (iAt c (i:Int)).toNat).sum
theorem meas_lt {l:List Inst} (hv:yt l) {c:List Int} (h:CInv l c) (hne:¬nxt l c=c):measC l (nxt l c)<measC l c:=by
 have h2:=nxt_inv hv h
 refine sum_lt (fun i hi=>?_) ?_
 ·have:=nxt_ge h (List.mem_range.1 hi)
  omega
 ·have:∃i:Nat,i<l.length∧¬iAt (nxt l c) i=iAt c i:=by
   refine Classical.byContradiction fun hh=>hne ?_
   refine List.ext_getElem (by rw [h2.1,h.1]) fun j h3 h4=>?_
   have hj:j<l.length:=by rw [← h.1]; exact h4
   have e:iAt (nxt l c) j=iAt c j:=Classical.byContradiction fun hx=>hh ⟨j,hj,hx⟩
   simpa [iAt,List.getElem?_eq_getElem h3,List.getElem?_eq_getElem h4] using e
  obtain ⟨i,hi,hx⟩:=this
  refine ⟨i,List.mem_range.2 hi,?_⟩
  have h3:=nxt_ge h hi
  obtain ⟨k,k1,k2,_⟩:=h.2.1 i hi
  obtain ⟨k',k1',k2',_⟩:=h2.2.1 i hi
  omega
theorem small_of {l:List Inst} {c:List Int} (hl:l.length≤1000) (h:CInv l c):tn c:=fun i=>by
 rcases Nat.lt_or_ge i.toNat l.length with hi | hi
 ·obtain ⟨k,k1,k2,_⟩:=h.2.1 i.toNat hi
  have e:iAt c i=iAt c (i.toNat:Int):=by unfold iAt; rw [Int.toNat_natCast]
  rw [e,k1]
  omega
 ·have e:iAt c i=0:=by
   simp only [iAt]
   rw [List.getElem?_eq_none (by rw [h.1]; exact hi)]
   rfl
  rw [e]; omega
theorem eget_keep {o:Option V} {j i:Nat} {E:Env} (h:¬j=i):yw (KeepE o j E) i=yw E i:=by
 cases o with
 | none=>rfl
 | some v =>
  simp only [KeepE_some,eget_cons]
  rw [if_neg (fun e=>h (by first | exact e | exact e.symm))]
section
variable {l:List Inst} {c:List Int} {s:S} {iC cC:Nat} {E:Env}
theorem l209_4 (hl:l.length≤1000) (hs:∀x∈l,zQ x) (hv:yt l) (hcv:CInv l c) (hw:s.wf) (hiC:iC<s.next) (hC:s.get iC=some (.cells (c.map vI) 0 3 true)) (hE:zI [(0,.list (l.map eX)),(3,.arr iC 0 l.length 1 false cC)] E) {Q:AX→Env→S→Prop} (hQ:∀t id cp E',t.get id=some (.cells ((cls l).map vI) 0 3 true)→yw E' 2=some (.arr id 0 l.length 1 false cp)→Q .ret E' t) :
  R9 (.loop f209_l4) E s Q:=by
 refine zO (α:=List Int×Nat×Nat) (fun a=>[(0,.list (l.map eX)),(3,.arr a.2.1 0 l.length 1 false a.2.2)]) (fun a t=>t.wf∧CInv l a.1∧a.2.1<t.next∧t.get a.2.1=some (.cells (a.1.map vI) 0 3 true)) (fun a=>measC l a.1) (c,iC,cC) f209_l4_fits hE ⟨hw,hcv,hiC,hC⟩ ?_
 rintro ⟨c,iC,cC⟩ t ⟨hw,hcv,hiC,hC⟩
 simp only at hcv hiC hC ⊢
 have s1:(l.length:Int)*8≤140737488355328:=by omega
 have s2:(l.length:Int)≤140737488355328:=by omega
 simp -implicitDefEqProofs (maxDischargeDepth:=9) (maxSteps:=1000000) [Nat.add_assoc,ze,zq,zt,zr,zd,zp,zs,zy,asInt,zn,zz,sub,zl,zu,za,zk,zb,zj,zg,zh,zf,zA,zw,zo,zm,zi,Int.natCast_inj,f209_l4,hw,zerosI,s1,s2]
 refine l209_3 (c:=c) (iC:=iC) (cC:=cC) (iN:=t.next) (iM:=t.next+1) (cN:=l.length+1) hl hs hv hcv.1 (small_of hl hcv) ?_ ?_ ?_
 ·have a1:∀k,¬iC=t.next+k:=fun k=>by omega
  have a2:¬iC=t.next:=by omega
  exact ⟨S.wf_add (S.wf_add hw _ _) _ _,by simp; omega,by simp; omega,by simp,a2,a1 1,by omega,by simp [a1,a2,hC],by simp [nxN_zero],[],0,by simp,rfl⟩
 ·simp [zI,yz]
 intro u hu E' hE'
 obtain ⟨q0,q3,q5,q6,q7,q8,_⟩:=hE'
 simp only at q0 q3 q5 q6 q7 q8
 have hwu:=hu.w
 cases hch:chN l c l.length with
 | false =>
  rw [hch] at q6
  have hst:=(chN_end hcv.1).1 hch
  simp -implicitDefEqProofs (maxDischargeDepth:=9) (maxSteps:=1000000) [Nat.add_assoc,ze,zq,zt,zr,zd,zp,zs,zy,asInt,zn,zz,sub,zl,zu,za,zk,zb,zj,zg,zh,zf,zA,zw,zo,zm,zi,Int.natCast_inj,q0,q3,q5,q6,q7,q8,hwu,eget_keep]
  exact hQ u t.next (l.length+1) _ (by have:=hu.N; rw [nxN_end,hst,cls_of hv hcv hst] at this; exact this) rfl
 | true =>
  rw [hch] at q6
  have hne:¬nxt l c=c:=fun e=>by rw [(chN_end hcv.1).2 e] at hch; cases hch
  simp -implicitDefEqProofs (maxDischargeDepth:=9) (maxSteps:=1000000) [Nat.add_assoc,ze,zq,zt,zr,zd,zp,zs,zy,asInt,zn,zz,sub,zl,zu,za,zk,zb,zj,zg,zh,zf,zA,zw,zo,zm,zi,Int.natCast_inj,q0,q3,q5,q6,q7,q8,hwu,eget_keep]
  exact ⟨nxt l c,meas_lt hv hcv hne,nxt_inv hv hcv,hu.n1,by have:=hu.N; rw [nxN_end] at this; exact this⟩
end
theorem p209 (l:List Inst) (hl:l.length≤1000) (hs:∀x∈l,zQ x) (hv:yt l):zx Tryz.prog zB 25 [.list (l.map eX)] (.list ((cls l).map vI)):=by
 have hc:=st7_ok (e:=eK2) (f:=[]) eK2_ok .nil
 refine zx.cfg (cfg:=st7 eK2 []) rfl ?_
 refine zM (sl:=true) hc (cf7_ok hc) sp8_ok Tryz.func25 f209_eq f209_nt f209_fits (by simp) (by simp) ?_
 have s1:(l.length:Int)*8≤140737488355328:=by omega
 have s2:(l.length:Int)≤140737488355328:=by omega
 simp -implicitDefEqProofs (maxDischargeDepth:=9) (maxSteps:=1000000) [Nat.add_assoc,ze,zq,zt,zr,zd,zp,zs,zy,asInt,zn,zz,sub,zl,zu,za,zk,zb,zj,zg,zh,zf,zA,zw,zo,zm,zi,Int.natCast_inj,f209_ac,zerosI,s1,s2]
 refine l209b (l:=l) (iC:=0) (cC:=l.length+1) hl hs ?_ ?_ ?_ ?_
 ·simp
 ·simp
 ·simp [fsN_zero]
 intro t hw hiC hC E' hE
 refine l209_4 (c:=fstC l) (iC:=0) (cC:=l.length+1) hl hs hv (fst_inv l) hw hiC hC hE ?_
 intro u id cp E2 hg he
 simp -implicitDefEqProofs (maxDischargeDepth:=9) (maxSteps:=1000000) [Nat.add_assoc,ze,zq,zt,zr,zd,zp,zs,zy,asInt,zn,zz,sub,zl,zu,za,zk,zb,zj,zg,zh,zf,zA,zw,zo,zm,zi,Int.natCast_inj,he]
 have hcl:(cls l).length=l.length:=by simp [cls]
 refine ⟨see_arrI hg hcl.symm ?_,by simp⟩
 have hf:tV=100000:=rfl
 omega
open Classical in
noncomputable def e209:List V→Option V
 | [.list m]=>(dXs m).bind fun l=>if l.length≤1000∧(∀x∈l,zQ x)∧yt l then some (.list ((cls l).map vI)) else none
 | _=>none
theorem t209:∀args v,e209 args=some v→zx Tryz.prog zB 25 args v:=fun args v h=>by
 unfold e209 at h
 split at h
 ·simp only [Option.bind_eq_some_iff] at h
  obtain ⟨l,hx,h⟩:=h
  split at h
  ·rename_i hh
   injection h with h; subst h
   rw [yT hx]; exact p209 l hh.1 hh.2.1 hh.2.2
  ·cases h
 ·cases h
theorem e209_at (l:List Inst) (h1:l.length≤1000) (h2:∀x∈l,zQ x) (h3:yt l):e209 [.list (l.map eX)]=some (.list ((cls l).map vI)):=by
 unfold e209
 simp only [xJ,Option.bind_some]
 rw [if_pos ⟨h1,h2,h3⟩]
end Go.Proofs.YtchlfjhbijmdiaaGreatDoor.Ai

