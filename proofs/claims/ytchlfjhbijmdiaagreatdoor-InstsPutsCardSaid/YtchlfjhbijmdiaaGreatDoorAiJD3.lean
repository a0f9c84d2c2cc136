/- Part of a reckoning of a Go program over abstract values, proved sound against the model. -/
import Derived.Test.YtchlfjhbijmdiaaGreatDoorAiJD2
import Derived.Test.YtchlfjhbijmdiaaGreatDoorAiJB3
set_option linter.unusedSimpArgs false
set_option linter.unusedVariables false
namespace Go.Proofs.YtchlfjhbijmdiaaGreatDoor.Ai
open Go.Proofs
set_option maxRecDepth 100000
set_option maxHeartbeats 4000000

/-! what slices of aggregates show -/
theorem seeL_st {s:S}:∀(l:List V) (k:Nat),(∀v∈l,∀k,see (k+1) s v=some v)→l.length+2≤k→vy k s l=some l
 | [],k+1,_,_=>by simp [vy]
 | v::l,k+1,h,hk=>by
  simp only [List.length_cons] at hk
  obtain ⟨k,rfl⟩:∃m,k=m+1:=⟨k - 1,by omega⟩
  unfold vy
  rw [seeL_st l (k+1) (fun w hw=>h w (by simp [hw])) (by omega),h v (by simp) k]
theorem chunk_ag {α:Type} {f:α→List V} {n:Nat} (hf:∀a,(f a).length=n):∀l:List α,vo true n l.length (l.flatMap f)=l.map fun a=>.agg (f a)
 | []=>rfl
 | a::l=>by
  simp only [List.length_cons,List.flatMap_cons,vo,if_true,List.map_cons]
  rw [List.take_left' (hf a),List.drop_left' (hf a),chunk_ag hf l]
theorem zY {α:Type} {f:α→List V} {n:Nat} (hf:∀a,(f a).length=n):∀l:List α,(l.flatMap f).length=l.length*n
 | []=>by simp
 | a::l=>by
  simp only [List.flatMap_cons,List.length_append,List.length_cons,hf,zY hf l,Nat.add_mul]
  omega
theorem see_arrG {α:Type} {f:α→List V} {sz:Nat} (hf:∀a,(f a).length=sz) {s:S} (hv:∀a,∀v∈f a,v.one=true∧∀k,see (k+1) s v=some v) {id n cp:Nat} {t:TypeId} {ex:Bool} {x:List α} {k:Nat} (hg:s.get id=some (.cells (x.flatMap f) 0 t ex)) (hn:n=x.length) (hk:x.length*sz+3≤k):see k s (.arr id 0 n sz true cp)=some (.list (x.map fun a=>.agg (f a))):=by
 obtain ⟨k,rfl⟩:∃m,k=m+1:=⟨k - 1,by omega⟩
 subst hn
 have hall:(x.flatMap f).all V.one=true:=by
  rw [List.all_eq_true]
  intro v hm
  obtain ⟨a,_,ha⟩:=List.mem_flatMap.1 hm
  exact (hv a v ha).1
 have hlen:=zY hf x
 unfold see
 rw [hg]
 simp only [List.drop_zero,Nat.zero_add]
 rw [List.take_of_length_le (by omega),seeL_st _ k (fun v hm=>by
  obtain ⟨a,_,ha⟩:=List.mem_flatMap.1 hm
  exact (hv a v ha).2) (by omega)]
 simp [hall,hlen,chunk_ag hf]
/-- What was appended so far. -/
def SlG {α:Type} (f:α→List V) (sz:Nat) (ty:TypeId) (s:S) (v:V) (L:List α):Prop:=(v=.nils∧L=[])∨∃id cp,id<s.next∧v=.arr id 0 L.length sz true cp∧s.get id=some (.cells (L.flatMap f) 0 ty false)
theorem slG_seek {α:Type} {f:α→List V} {sz:Nat} {ty:TypeId} (hf:∀a,(f a).length=sz) {s:S} {v:V} {L:List α} {k:Nat} (hv:∀a,∀v∈f a,v.one=true∧∀k,see (k+1) s v=some v) (h:SlG f sz ty s v L) (hL:L.length*sz+3≤k):see k s v=some (.list (L.map fun a=>.agg (f a))):=by
 rcases h with ⟨rfl,rfl⟩ | ⟨id,cp,_,rfl,hg⟩
 ·obtain ⟨k,rfl⟩:∃m,k=m+1:=⟨k - 1,by omega⟩
  rfl
 ·exact see_arrG hf hv hg rfl hL
def fP (p:Int×Int):List V:=[vI p.1,vI p.2]
theorem fP_v {s:S} (a:Int×Int):∀v∈fP a,v.one=true∧∀k,see (k+1) s v=some v:=by
 intro v hv
 simp only [fP,List.mem_cons,List.not_mem_nil,or_false] at hv
 rcases hv with rfl | rfl <;> exact ⟨rfl,fun _=>rfl⟩

/-- What was appended so far, of the function's own. -/
def SlN {α:Type} (f:α→List V) (sz:Nat) (ty:TypeId) (s0 s:S) (v:V) (L:List α):Prop:=(v=.nils∧L=[])∨∃id cp,s0.next≤id∧id<s.next∧v=.arr id 0 L.length sz true cp∧s.get id=some (.cells (L.flatMap f) 0 ty false)∧L≠[]
theorem cells_G {α:Type} (f:α→List V):∀L:List α,(L.map fun a=>V.agg (f a)).flatMap V.cells=L.flatMap f
 | []=>rfl
 | a::L=>by rw [List.map_cons,List.flatMap_cons,List.flatMap_cons,cells_G f L]; rfl
theorem freshV_of {α:Type} {f:α→List V} {sz:Nat} {ty:TypeId} {b:ATy} {s0 s:S} {v:V} {L:List α} (h:SlN f sz ty s0 s v L) (hb:b.size=sz) (ha:zS b.und=true) (hf:V.freeL (L.map fun a=>V.agg (f a))=true):FreshV ty b none s0 s (.list (L.map fun a=>V.agg (f a))) v:=by
 rw [FreshV_list]
 refine ⟨?_,hf⟩
 rcases h with ⟨rfl,rfl⟩ | ⟨id,cp,h1,h2,rfl,h3,_⟩
 ·exact .inl ⟨.inl rfl,rfl,rfl⟩
 ·refine .inr ⟨id,cp,false,?_,h1,h2,?_⟩
  ·rw [hb,ha,List.length_map]
  ·rw [h3,cells_G]
theorem lay_P (t:S) (L:List (Int×Int)) (h:L.length≤40000):xD true t (L.flatMap fP)=some (L.flatMap fP,t):=by
 refine wE (d:=1) _ _ (fun v hv k hk=>?_) (by rw [zY (f:=fP) (n:=2) (fun _=>rfl)]; unfold tV; omega) (by unfold tV; omega)
 obtain ⟨a,_,ha⟩:=List.mem_flatMap.1 hv
 simp only [fP,List.mem_cons,List.not_mem_nil,or_false] at ha
 rcases ha with rfl | rfl <;> exact lay_vI _ _ hk
theorem one_P (L:List (Int×Int)):(L.flatMap fP).all V.one=true:=by
 rw [List.all_eq_true]
 intro v hv
 obtain ⟨a,_,ha⟩:=List.mem_flatMap.1 hv
 exact (fP_v (s:=S.empty) a v ha).1

/-! pairs of elements -/
theorem fr69 (x y:List Int) (hl:x.length=y.length) (hm:x.length≤1000):yK Tryz.prog (st [] []) 79 [.list (x.map vI),.list (y.map vI)] (bif x.isEmpty then .nils else .list ((x.zip y).map eM)):=by
 have hc:=yn (e:=[]) (f:=[]) .nil .nil
 refine fresh_run (sl:=true) hc (zW hc) yi Tryz.func79 f69_eq f69_nt f69_fits (by simp) rfl ty_96 ?_
 intro s0 hw0
 simp -implicitDefEqProofs (maxDischargeDepth:=9) (maxSteps:=1000000) [Nat.add_assoc,ze,zq,zt,zr,zd,zp,zs,zy,asInt,zn,zz,sub,zl,zu,za,zk,zb,zj,zg,zh,zf,zA,zw,zo,zm,zi,Int.natCast_inj,f69_ac]
 refine zO (α:=Nat×V) (fun a=>[(0,.list (x.map vI)),(1,.list (y.map vI)),(5,a.2),(8,.int .i64 x.length),(9,.int .i64 a.1)]) (fun a s=>s.wf∧s0.keeps s∧a.1≤x.length∧SlN fP 2 108 s0 s a.2 ((x.zip y).take a.1)) (fun a=>x.length - a.1) (0,.nils) f69_l0_fits (by simp) ⟨hw0,S.keeps.refl _,Nat.zero_le _,.inl ⟨rfl,rfl⟩⟩ ?_
 rintro ⟨i,v⟩ s ⟨hw,hk,hi,ht⟩
 simp only at hi ht ⊢
 have hkn:=hk.1
 rcases Nat.lt_or_ge i x.length with h | h
 ·have h':i<y.length:=by omega
  have e1:=List.getElem?_eq_getElem h
  have e2:=List.getElem?_eq_getElem h'
  have e3:IntKind.i64.wrap ((i:Int)+1)=((i+1:Nat):Int):=zN (by omega) (by omega)
  have hz:i<(x.zip y).length:=by simp; omega
  have hL:((x.zip y).take i).length=i:=by rw [List.length_take]; omega
  have hnext:(x.zip y).take (i+1)=(x.zip y).take i++[(x[i],y[i])]:=by rw [List.take_succ_eq_append_getElem hz]; simp
  generalize hLe:(x.zip y).take i=L at ht hL hnext
  have hlay:∀(t:S) (a b:Int),xD true t [vI a,vI b]=some ([vI a,vI b],t):=fun t a b=>rfl
  have hk1:s0.keeps ⟨s.next+13,s.tr⟩:=hk.trans (S.keeps_next s 13)
  rcases ht with ⟨rfl,rfl⟩ | ⟨id,cp,hid0,hid,rfl,hgt,_⟩
  ·simp -implicitDefEqProofs (maxDischargeDepth:=9) (maxSteps:=1000000) [Nat.add_assoc,ze,zq,zt,zr,zd,zp,zs,zy,asInt,zn,zz,sub,zl,zu,za,zk,zb,zj,zg,zh,zf,zA,zw,zo,zm,zi,Int.natCast_inj,f69_l0,h,h',hw,e1,e2,e3,hlay]
   refine ⟨i+1,by omega,_,⟨(hk1.add _ (by omega)).add _ (by omega),by omega,.inr ⟨s.next+11,0,by omega,by simp,?_,?_,by rw [hnext]; simp⟩⟩,rfl,by simp⟩
   ·rw [hnext]; rfl
   ·rw [hnext]; simp [fP]
  ·have hfl:(L.flatMap fP).length=i*2:=by rw [zY (f:=fP) (n:=2) (fun _=>rfl) L,hL]
   have h6:¬id=s.next+10:=by omega
   have h7:¬id=s.next+11:=by omega
   have h4:(i+1)*16≤140737488355328:=by omega
   have h5:i+1≤140737488355328:=by omega
   have h8:(L.flatMap fP).take (i*2)=L.flatMap fP:=List.take_of_length_le (by omega)
   simp -implicitDefEqProofs (maxDischargeDepth:=9) (maxSteps:=1000000) [Nat.add_assoc,ze,zq,zt,zr,zd,zp,zs,zy,asInt,zn,zz,sub,zl,zu,za,zk,zb,zj,zg,zh,zf,zA,zw,zo,zm,zi,Int.natCast_inj,f69_l0,h,h',hw,e1,e2,e3,hlay,hgt,hid,hL,hfl,h4,h5,h6,h7,h8]
   refine ⟨i+1,by omega,_,⟨((hk1.add _ (by omega)).del (by omega)).add _ (by omega),by omega,.inr ⟨s.next+11,if i+1<cp then cp else 0,by omega,by simp,?_,?_,by rw [hnext]; simp⟩⟩,rfl,by simp⟩
   ·rw [hnext]; simp [hL]
   ·rw [hnext]; simp [fP]
 ·have:i=x.length:=by omega
  subst this
  simp -implicitDefEqProofs (maxDischargeDepth:=9) (maxSteps:=1000000) [Nat.add_assoc,ze,zq,zt,zr,zd,zp,zs,zy,asInt,zn,zz,sub,zl,zu,za,zk,zb,zj,zg,zh,zf,zA,zw,zo,zm,zi,Int.natCast_inj,f69_l0,hw]
  rw [List.take_of_length_le (by simp; omega)] at ht
  refine ⟨hk,?_⟩
  cases x with
  | nil =>
   rcases ht with ⟨rfl,_⟩ | ⟨id,cp,_,_,_,_,hg⟩
   ·rfl
   ·exact absurd rfl hg
  | cons a x=>exact freshV_of ht size_96 agg_96 (freeL_eM _)
def ft69:List V→Option V
 | [.list l,.list m]=>(dIL l).bind fun x=>(dIL m).bind fun y=>if x.length=y.length∧x.length≤1000 then some (bif x.isEmpty then .nils else .list ((x.zip y).map eM)) else none
 | _=>none
theorem ft69_ok:∀args v,ft69 args=some v→yK Tryz.prog (st [] []) 79 args v:=fun args v h=>by
 unfold ft69 at h
 split at h
 ·simp only [Option.bind_eq_some_iff] at h
  obtain ⟨x,hx,y,hy,h⟩:=h
  split at h
  ·rename_i hh
   injection h with h; subst h
   rw [dIL_eq hx,dIL_eq hy]; exact fr69 x y hh.1 hh.2
  ·cases h
 ·cases h
theorem ft69_at {x y:List Int} (h:x.length=y.length) (hm:x.length≤1000) (hx:¬x=[]):ft69 [.list (x.map vI),.list (y.map vI)]=some (.list ((x.zip y).map eM)):=by
 have:x.isEmpty=false:=by cases x with
  | nil=>exact absurd rfl hx
  | cons a l=>rfl
 simp [ft69,h,this]
 omega
end Go.Proofs.YtchlfjhbijmdiaaGreatDoor.Ai

