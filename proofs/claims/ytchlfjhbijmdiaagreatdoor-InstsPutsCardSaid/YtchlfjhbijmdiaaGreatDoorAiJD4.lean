/- Part of a reckoning of a Go program over abstract values, proved sound against the model. -/
import Derived.Test.YtchlfjhbijmdiaaGreatDoorAiJD3
import Derived.Test.YtchlfjhbijmdiaaGreatDoorAiJP3
set_option linter.unusedSimpArgs false
set_option linter.unusedVariables false
namespace Go.Proofs.YtchlfjhbijmdiaaGreatDoor.Ai
open Go.Proofs
set_option maxRecDepth 100000
set_option maxHeartbeats 4000000

/-! the step of equality -/
def f222_k1:AC :=
 (.seq (.draw 6 xL [5,6,7]) (.seq (.seq (.reg 7 f222_r7o [6,7,60,61,62]) (.block 0 (.loop vd))) (.seq (.reg 12 f222_r12o [3,4]) .ret)))
def zQ (x:Inst):Prop:=x.alts.length≤100∧x.modes.length≤100∧∀a∈x.alts,a.args.length≤100
def zipA:List Alt→List Alt→List Pr
 | a::l,b::m=>a.args.zip b.args++zipA l m
 | _,_=>[]
theorem zipA_take:∀{l m:List Alt} {i:Nat} (h:i<l.length) (h':i<m.length),zipA (l.take (i+1)) (m.take (i+1))=zipA (l.take i) (m.take i)++l[i].args.zip m[i].args
 | a::l,b::m,0,_,_=>by simp [zipA]
 | a::l,b::m,i+1,h,h'=>by
  have:=zipA_take (l:=l) (m:=m) (i:=i) (by simpa using h) (by simpa using h')
  simp only [List.take_succ_cons,zipA,this,List.getElem_cons_succ,List.append_assoc]
theorem zipA_eq:∀{l m:List Alt},yE l m=true→zipA l m=(l.flatMap (·.args)).zip (m.flatMap (·.args))
 | [],[],_=>rfl
 | a::l,b::m,h=>by
  simp only [yE,Bool.and_eq_true,decide_eq_true_eq] at h
  rw [zipA,zipA_eq h.2,List.flatMap_cons,List.flatMap_cons,List.zip_append h.1.2]
 | [],_::_,h=>by cases h
 | _::_,[],h=>by cases h
theorem like_at {l m:List Alt} (h:yE l m=true):∀{i:Nat} (h1:i<l.length) (h2:i<m.length),l[i].args.length=m[i].args.length:=by
 induction l generalizing m with
 | nil=>intro i h1; simp at h1
 | cons a l ih =>
  cases m with
  | nil=>cases h
  | cons b m =>
   simp only [yE,Bool.and_eq_true,decide_eq_true_eq] at h
   intro i h1 h2
   cases i with
   | zero=>exact h.1.2
   | succ i=>exact ih h.2 (by simpa using h1) (by simpa using h2)
theorem zipA_len {l m:List Alt} (hl:l.length≤100) (ha:∀a∈l,a.args.length≤100):(zipA l m).length≤10000:=by
 have key:∀(l m:List Alt),(∀a∈l,a.args.length≤100)→(zipA l m).length≤l.length*100:=by
  intro l
  induction l with
  | nil=>intro m _; simp [zipA]
  | cons a l ih =>
   intro m ha
   cases m with
   | nil=>simp [zipA]
   | cons b m =>
    have h1:=ih m fun c hc=>ha c (by simp [hc])
    have h2:=ha a (by simp)
    simp only [zipA,List.length_append,List.length_zip,List.length_cons]
    omega
 have:=key l m ha
 omega
noncomputable def eQ:List (FuncId×(List V→Option V)):=[(59,e39),(29,e213)]
theorem eQ_ok:xa Tryz.prog zB eQ:=.cons t39 (.cons t213 .nil)
def fQ:List (FuncId×(List V→Option V)):=[(79,ft69)]
theorem fQ_ok:FtOk Tryz.prog (st [] []) fQ:=.cons ft69_ok .nil
def cX (x:Inst):List V:=[vI x.kind,.list (x.alts.map eA),.list (x.modes.map eM),vI x.det]
@[simp] theorem flat_eM (L:List (Int×Int)):(L.map eM).flatMap V.cells=L.flatMap fP:=cells_G fP L
theorem tabK {e:List (FuncId×(List V→Option V))} {fq:List (FuncId×(List V→Option V))} {f:FuncId} {args:List V} {v:V} {s:S} (h:xi e f args=some v):zF (st e fq) (cf0 e fq) f args s=some (.val v s):=zH h
theorem all_eM (L:List (Int×Int)):((L.map eM).all fun e=>e.cells.length == T96.size && e.cells.all V.one)=true:=by
 rw [List.all_eq_true]
 intro v hv
 obtain ⟨a,_,rfl⟩:=List.mem_map.1 hv
 simp [eM]
theorem thawP (e f:List (FuncId×(List V→Option V))) {M:List Pr} (hM:¬M=[]) (nw:Nat) (s:S):zA (st e f) nw 79 (.list (M.map eM)) s=some (.arr nw 0 M.length 2 true 0,s.add nw (.cells (M.flatMap fP) 0 108 false)):=by
 have h1:=all_eM M
 have h2:(M.map eM).isEmpty=false:=by cases M with
  | nil=>exact absurd rfl hM
  | cons a l=>rfl
 unfold zA
 simp only [st_fresh,zo,st_ty,ty_96]
 unfold zw
 rw [h2,if_neg (by decide),if_pos ⟨h1,by rw [size_96]; decide⟩,size_96,agg_96,List.length_map,flat_eM]
theorem thawP0 (e f:List (FuncId×(List V→Option V))) (nw:Nat) (s:S):zA (st e f) nw 79 .nils s=some (.nils,s):=by
 unfold zA
 simp only [st_fresh,zo,st_ty,ty_96]
theorem l222 {x y:Inst} (hx:zQ x) (hy:zQ y) (hl:yE x.alts y.alts=true) {s0 s:S} (hw:s.wf) {i6:Nat} (h6:s0.get i6=some (.cells (cX y) 0 26 true)) (hi6:i6<s0.next) (hk:s0.keeps s) {v:V} {L0:List Pr} (hL0:L0.length≤1000) (hv:SlN fP 2 108 s0 s v L0) {Q:AX→Env→S→Prop}
  (hQ:∀t w E',t.wf→SlN fP 2 108 s0 t w (L0++zipA x.alts y.alts)→yw E' 7=some w→Q (.exit 0) E' t) :
  yd (st eQ fQ) (cf0 eQ fQ) true [] 80 (.loop vd) [(6,.ptr i6 0),(7,v),(60,.list (x.alts.map eA)),(61,.int .i64 x.alts.length),(62,.int .i64 0)] s Q:=by
 refine zO (α:=Nat×V) (fun a=>[(6,.ptr i6 0),(7,a.2),(60,.list (x.alts.map eA)),(61,.int .i64 x.alts.length),(62,.int .i64 a.1)]) (fun a t=>t.wf∧s0.keeps t∧a.1≤x.alts.length∧SlN fP 2 108 s0 t a.2 (L0++zipA (x.alts.take a.1) (y.alts.take a.1))) (fun a=>x.alts.length - a.1) (0,v) f222_l0_fits (by simp [zI]) ⟨hw,hk,Nat.zero_le _,by simpa [zipA] using hv⟩ ?_
 rintro ⟨i,v⟩ t ⟨hw,hk,hi,ht⟩
 simp only at hi ht ⊢
 have hkn:=hk.1
 have hxl:=hx.1
 rcases Nat.lt_or_ge i x.alts.length with h | h
 ·have hlen:=xC hl
  have h':i<y.alts.length:=by omega
  have e1:=List.getElem?_eq_getElem h
  have e2:=List.getElem?_eq_getElem h'
  have e3:IntKind.i64.wrap ((i:Int)+1)=((i+1:Nat):Int):=zN (by omega) (by omega)
  have hla:=like_at hl h h'
  have ha1:=hx.2.2 _ (List.getElem_mem h)
  have hnext:=zipA_take h h'
  have hle:=zipA_len (m:=y.alts.take i) (l:=x.alts.take i) (by rw [List.length_take]; omega) (fun a ha=>hx.2.2 a (List.mem_of_mem_take ha))
  have hL:(L0++zipA (x.alts.take i) (y.alts.take i)).length≤11000:=by rw [List.length_append]; omega
  generalize hLe:L0++zipA (x.alts.take i) (y.alts.take i)=L at ht hL
  have hnext':L0++zipA (x.alts.take (i+1)) (y.alts.take (i+1))=L++x.alts[i].args.zip y.alts[i].args:=by rw [hnext,← hLe,List.append_assoc]
  have h6t:t.get i6=some (.cells (cX y) 0 26 true):=by rw [hk.at hi6]; exact h6
  have hi6t:i6<t.next:=by omega
  have hn6:¬i6=t.next:=by omega
  have hwrap:∀n:Nat,n≤100000→(n*16≤140737488355328∧n≤140737488355328):=fun n h=>by omega
  by_cases ha0:x.alts[i].args=[]
  ·have hb0:y.alts[i].args=[]:=List.eq_nil_of_length_eq_zero (by rw [← hla,ha0]; rfl)
   rw [ha0,hb0,List.zip_nil_left,List.append_nil] at hnext'
   have h69:xi fQ 79 [.list [],.list []]=some .nils:=rfl
   rcases ht with ⟨rfl,rfl⟩ | ⟨id,cp,hid0,hid,rfl,hgt,hne⟩
   ·simp -implicitDefEqProofs (maxDischargeDepth:=9) (maxSteps:=1000000) [Nat.add_assoc,ze,zq,zt,zr,zd,zp,zs,zy,asInt,zn,zz,sub,zl,zu,za,zk,zb,zj,zg,zh,zf,zo,zm,zi,Int.natCast_inj,vd,thawP0,h,h',hw,e1,e2,e3,ha0,hb0,h6t,hi6t,hn6,h69,eA,eI,cX]
    exact ⟨i+1,by omega,_,⟨keeps_mk ((hk.add _ hkn).put _ hkn (by simp)) (by simp),by omega,.inl ⟨rfl,hnext'⟩⟩,rfl,by simp⟩
   ·simp -implicitDefEqProofs (maxDischargeDepth:=9) (maxSteps:=1000000) [Nat.add_assoc,ze,zq,zt,zr,zd,zp,zs,zy,asInt,zn,zz,sub,zl,zu,za,zk,zb,zj,zg,zh,zf,zo,zm,zi,Int.natCast_inj,vd,thawP0,h,h',hw,e1,e2,e3,ha0,hb0,h6t,hi6t,hn6,h69,hgt,hid,eA,eI,cX]
    refine ⟨i+1,by omega,_,⟨keeps_mk ((hk.add _ hkn).put _ hkn (by simp)) (by simp),by omega,.inr ⟨id,cp,hid0,by simp; omega,?_,?_,?_⟩⟩,rfl,by simp⟩
    ·rw [hnext']
    ·have hid1:¬id=t.next:=by omega
     rw [hnext']; simp [hid1,hgt]
    ·rw [hnext']; exact hne
  ·have h69:xi fQ 79 [.list (x.alts[i].args.map vI),.list (y.alts[i].args.map vI)]=some (.list ((x.alts[i].args.zip y.alts[i].args).map eM)):=ft69_at hla (by omega) ha0
   generalize hM:x.alts[i].args.zip y.alts[i].args=M at h69 hnext'
   have hM0:¬M=[]:=by
    intro h
    rcases List.zip_eq_nil_iff.1 (hM.trans h) with h | h
    ·exact ha0 h
    ·exact ha0 (List.eq_nil_of_length_eq_zero (by rw [hla,h]; rfl))
   have hMl:M.length≤100:=by rw [← hM,List.length_zip]; omega
   have hthaw:=thawP eQ fQ hM0
   have hlayM:=fun t=>lay_P t M (by omega)
   have honeM:∀v∈M.flatMap fP,v.one=true:=List.all_eq_true.1 (one_P M)
   have hlenM:(M.flatMap fP).length=M.length*2:=zY (f:=fP) (n:=2) (fun _=>rfl) M
   have htakeM:(M.flatMap fP).take (M.length*2)=M.flatMap fP:=List.take_of_length_le (by omega)
   have hsz1:M.length*16≤140737488355328:=by omega
   have hsz2:M.length≤140737488355328:=by omega
   rcases ht with ⟨rfl,rfl⟩ | ⟨id,cp,hid0,hid,rfl,hgt,hne⟩
   ·simp -implicitDefEqProofs (maxDischargeDepth:=9) (maxSteps:=1000000) [Nat.add_assoc,ze,zq,zt,zr,zd,zp,zs,zy,asInt,zn,zz,sub,zl,zu,za,zk,zb,zj,zg,zh,zf,zo,zm,zi,Int.natCast_inj,vd,h,h',hw,e1,e2,e3,h6t,hi6t,hn6,h69,hthaw,hM0,htakeM,hlayM,honeM,hlenM,hsz1,hsz2,eA,eI,cX]
    rw [if_pos ⟨honeM,hlenM⟩]
    simp -implicitDefEqProofs (maxDischargeDepth:=9) (maxSteps:=1000000) [Nat.add_assoc,ze,zq,zt,zr,zd,zp,zs,zy,asInt,zn,zz,sub,zl,zu,za,zk,zb,zj,zg,zh,zf,zo,zm,zi,Int.natCast_inj,hw]
    refine ⟨i+1,by omega,_,⟨((keeps_mk ((hk.add _ hkn).put _ hkn (by simp)) (by simp)).add _ (by omega)).add _ (by omega),by omega,.inr ⟨t.next+11,0,by omega,by simp,?_,?_,?_⟩⟩,rfl,by simp⟩
    ·rw [hnext']; rfl
    ·rw [hnext']; simp
    ·rw [hnext']; exact hM0
   ·have hfl:(L.flatMap fP).length=L.length*2:=zY (f:=fP) (n:=2) (fun _=>rfl) L
    have hid1:¬id=t.next:=by omega
    have hid2:¬id=t.next+10:=by omega
    have hid3:¬id=t.next+11:=by omega
    have h4:(L.length+M.length)*16≤140737488355328:=by omega
    have h5:L.length+M.length≤140737488355328:=by omega
    have h8:(L.flatMap fP).take (L.length*2)=L.flatMap fP:=List.take_of_length_le (by omega)
    simp -implicitDefEqProofs (maxDischargeDepth:=9) (maxSteps:=1000000) [Nat.add_assoc,ze,zq,zt,zr,zd,zp,zs,zy,asInt,zn,zz,sub,zl,zu,za,zk,zb,zj,zg,zh,zf,zo,zm,zi,Int.natCast_inj,vd,h,h',hw,e1,e2,e3,h6t,hi6t,hn6,h69,hthaw,hM0,htakeM,hgt,hid,hid1,hid2,hid3,hlayM,honeM,hlenM,hfl,h4,h5,h8,eA,eI,cX]
    rw [if_pos ⟨honeM,hlenM⟩]
    simp -implicitDefEqProofs (maxDischargeDepth:=9) (maxSteps:=1000000) [Nat.add_assoc,ze,zq,zt,zr,zd,zp,zs,zy,asInt,zn,zz,sub,zl,zu,za,zk,zb,zj,zg,zh,zf,zo,zm,zi,Int.natCast_inj,hw]
    refine ⟨i+1,by omega,_,⟨(((keeps_mk ((hk.add _ hkn).put _ hkn (by simp)) (by simp)).add _ (by omega)).del (by omega)).add _ (by omega),by omega,.inr ⟨t.next+11,if L.length+M.length<cp then cp else 0,by omega,by simp,?_,?_,?_⟩⟩,rfl,by simp⟩
    ·rw [hnext']; simp
    ·rw [hnext']; simp
    ·rw [hnext']; simp [hM0]
 ·have:i=x.alts.length:=by omega
  subst this
  simp -implicitDefEqProofs (maxDischargeDepth:=9) (maxSteps:=1000000) [Nat.add_assoc,ze,zq,zt,zr,zd,zp,zs,zy,asInt,zn,zz,sub,zl,zu,za,zk,zb,zj,zg,zh,zf,zA,zw,zo,zm,zi,Int.natCast_inj,vd,hw]
  have hlen:=xC hl
  rw [List.take_of_length_le (Nat.le_refl _),List.take_of_length_le (Nat.le_of_eq hlen.symm)] at ht
  exact hQ _ _ _ hw ht rfl
theorem laid_tup2 {t:S} {w:V} {l:List V} {b:Bool} (h:see 99998 t w=some (.list l)) (hf:V.freeL l=true):wL t (.tup [w,.bool b]) (.tup [.list l,.bool b]):=by
 refine ⟨?_,by simp [hf]⟩
 show see (99999+1) t (.tup [w,.bool b])=_
 unfold see
 show (match vy (99998+1) t [w,.bool b] with | some cs'=>some (V.tup cs') | none=>none)=_
 unfold vy
 rw [h]
 rfl
theorem k222 {x y:Inst} (hx:zQ x) (hy:zQ y) (hs:shape x y=true) {s:S} (hw:s.wf) {i5 i6:Nat} (h5:s.get i5=some (.cells (cX x) 0 26 true)) (h6:s.get i6=some (.cells (cX y) 0 26 true)) (hi5:i5<s.next) (hi6:i6<s.next) {K:V→S→Prop} {KP:List AP→S→Prop}
  (hK:∀t,K (.tup [.list (((yv x).zip (yv y)).map eM),.bool true]) t):yd (st eQ fQ) (cf0 eQ fQ) true [] 80 f222_k1 [(5,.ptr i5 0),(6,.ptr i6 0),(53,.bool false)] s (FinK (st eQ fQ) [.tmp 3,.tmp 4] (fun w s=>wL s w (.tup [.list (((yv x).zip (yv y)).map eM),.bool true])) fun _ _=>False):=by
 obtain ⟨hm,hl⟩:x.modes.length=y.modes.length∧yE x.alts y.alts=true:=by
  simp only [shape,Bool.and_eq_true,decide_eq_true_eq] at hs
  exact ⟨hs.1.2,hs.2⟩
 have h39:∀(z:Inst) (t:S),zQ z→zF (st eQ fQ) (cf0 eQ fQ) 59 [.agg [vI z.kind,.list (z.alts.map eA),.list (z.modes.map eM),vI z.det]] t=some (.val (.list ((zR z).map vI)) t):=fun z t hz=>tabK (e39_at z (by have:=hz.2.1; omega))
 have hxl:=yy x
 have hyl:=yy y
 have hkids:(yv x).zip (yv y)=(zR x).zip (zR y)++zipA x.alts y.alts:=by
  rw [zipA_eq hl,yv,yv,List.zip_append (by omega)]
 have hkl:((yv x).zip (yv y)).length*2≤90000:=by
  have:=zipA_len (m:=y.alts) hx.1 hx.2.2
  have h2:=hx.2.1
  rw [hkids,List.length_append,List.length_zip]
  omega
 have hw2:(S.add ⟨s.next+6,s.tr⟩ (s.next+4) (.cells (((zR x).zip (zR y)).flatMap fP) 0 108 false)).wf:=S.wf_add (zX hw 6) _ _
 by_cases hm0:zR x=[]
 ·have hm1:zR y=[]:=by
   apply List.eq_nil_of_length_eq_zero
   rw [hm0] at hxl
   simp only [List.length_nil] at hxl
   omega
  have h39x:=fun t=>h39 x t hx
  have h39y:=fun t=>h39 y t hy
  rw [hm0] at h39x
  rw [hm1] at h39y
  have h69:xi fQ 79 [.list [],.list []]=some .nils:=rfl
  simp only [List.map_nil] at h39x h39y
  simp -implicitDefEqProofs (maxDischargeDepth:=9) (maxSteps:=1000000) [Nat.add_assoc,ze,zq,zt,zr,zd,zp,zs,zy,asInt,zn,zz,sub,zl,zu,za,zk,zb,zj,zg,zh,zf,zo,zm,zi,Int.natCast_inj,f222_k1,thawP0,hw,h5,h6,hi5,hi6,cX,h39x,h39y,h69]
  refine l222 (s0:=s) hx hy hl (zX hw 6) h6 hi6 (S.keeps_next s 6) (v:=.nils) (L0:=(zR x).zip (zR y)) (by rw [List.length_zip]; have:=hx.2.1; omega) (by rw [hm0]; exact .inl ⟨rfl,rfl⟩) ?_
  intro t w E' hwt hsl he
  rw [← hkids] at hsl
  simp -implicitDefEqProofs (maxDischargeDepth:=9) (maxSteps:=1000000) [Nat.add_assoc,ze,zq,zt,zr,zd,zp,zs,zy,asInt,zn,zz,sub,zl,zu,za,zk,zb,zj,zg,zh,zf,zo,zm,zi,Int.natCast_inj,he]
  have hsee:=slG_seek (k:=99998) (f:=fP) (sz:=2) (ty:=108) (fun _=>rfl) fP_v (s:=t) (v:=w) (L:=(yv x).zip (yv y)) (by
   rcases hsl with h | ⟨id,cp,_,h1,h2,h3,_⟩
   ·exact .inl h
   ·exact .inr ⟨id,cp,h1,h2,h3⟩) (by omega)
  exact laid_tup2 hsee (freeL_eM _)
 ·have hl69:(zR x).length=(zR y).length:=by omega
  have h69:xi fQ 79 [.list ((zR x).map vI),.list ((zR y).map vI)]=some (.list (((zR x).zip (zR y)).map eM)):=ft69_at hl69 (by have:=hx.2.1; omega) hm0
  have h39x:=fun t=>h39 x t hx
  have h39y:=fun t=>h39 y t hy
  have hz0:¬(zR x).zip (zR y)=[]:=by
   intro h
   rcases List.zip_eq_nil_iff.1 h with h | h
   ·exact hm0 h
   ·exact hm0 (List.eq_nil_of_length_eq_zero (by rw [hl69,h]; rfl))
  have hZl:((zR x).zip (zR y)).length≤1000:=by rw [List.length_zip]; have:=hx.2.1; omega
  have hn5:¬i5=s.next+4:=by omega
  generalize hZ:(zR x).zip (zR y)=Z at h69 hz0 hw2 hkids hZl
  simp -implicitDefEqProofs (maxDischargeDepth:=9) (maxSteps:=1000000) [Nat.add_assoc,ze,zq,zt,zr,zd,zp,zs,zy,asInt,zn,zz,sub,zl,zu,za,zk,zb,zj,zg,zh,zf,zo,zm,zi,Int.natCast_inj,f222_k1,thawP eQ fQ hz0,hw,h5,h6,hi5,hi6,hn5,cX,h39x,h39y,h69]
  refine l222 (s0:=s) hx hy hl hw2 h6 hi6 ((S.keeps_next s 6).add _ (by omega)) (v:=_) (L0:=Z) hZl (.inr ⟨s.next+4,0,by omega,by simp,rfl,by simp,hz0⟩) ?_
  intro t w E' hwt hsl he
  rw [← hkids] at hsl
  simp -implicitDefEqProofs (maxDischargeDepth:=9) (maxSteps:=1000000) [Nat.add_assoc,ze,zq,zt,zr,zd,zp,zs,zy,asInt,zn,zz,sub,zl,zu,za,zk,zb,zj,zg,zh,zf,zo,zm,zi,Int.natCast_inj,he]
  have hsee:=slG_seek (k:=99998) (f:=fP) (sz:=2) (ty:=108) (fun _=>rfl) fP_v (s:=t) (v:=w) (L:=(yv x).zip (yv y)) (by
   rcases hsl with h | ⟨id,cp,_,h1,h2,h3,_⟩
   ·exact .inl h
   ·exact .inr ⟨id,cp,h1,h2,h3⟩) (by omega)
  exact laid_tup2 hsee (freeL_eM _)
end Go.Proofs.YtchlfjhbijmdiaaGreatDoor.Ai

