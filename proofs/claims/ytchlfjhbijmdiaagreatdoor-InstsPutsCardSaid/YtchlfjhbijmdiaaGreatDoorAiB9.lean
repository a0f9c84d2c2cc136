/- Part of a reckoning of a Go program over abstract values, proved sound against the model. -/
import Derived.Test.YtchlfjhbijmdiaaGreatDoorAiB6
import Derived.Laws.MakeOwn
set_option linter.unusedSimpArgs false
set_option linter.unusedVariables false
namespace Go.Proofs.YtchlfjhbijmdiaaGreatDoor.Ai
open Go.RowKit (Below)

/-! slices of slices -/
inductive RepO (x:Cx):Option V→Option Value→Prop
 | none:RepO x none none
 | some {v:V} {c:Value}:Rep x v c→RepO x (some v) (some c)

theorem uv {x:Cx} {i:Option V} {ci:Option Value} (hi:RepO x i ci) {n:Option Int} (h:zn i=some n):(n=none∧ci=none)∨∃k m,n=some m∧ci=some (.int k m):=by
 cases hi with
 | none=>simp [zn] at h; exact .inl ⟨h.symm,rfl⟩
 | some hv =>
  unfold zn at h
  split at h
  ·rename_i e; cases e
  ·rename_i k m e
   injection e with e; subst e
   cases hv
   injection h with h; subst h
   exact .inr ⟨_,_,rfl,rfl⟩
  ·cases h

theorem wB {P:Program} (w:World) (isS:Bool) (len cap:Nat) {x:Cx} {lo hi mx:Option V} {clo chi cmx:Option Value} (hlo:RepO x lo clo) (hhi:RepO x hi chi) (hmx:RepO x mx cmx)
  {l h m:Option Int} (el:zn lo=some l) (eh:zn hi=some h) (em:zn mx=some m)
  (h0:0≤l.getD 0) (h1:l.getD 0≤h.getD len) (h2:h.getD len≤m.getD cap) (h3:m.getD cap≤cap) (h4:m.isSome→h.isSome) :
  (Instr.sliceBounds isS len cap clo chi cmx).run P w=.ok ((l.getD 0).toNat,(h.getD len).toNat,(m.getD cap).toNat) w:=by
 have hb:∀(k:IntKind) (i:Int) (y:Nat) code,0≤i→i≤y→(Instr.sliceBound (.int k i) y code).run P w=.ok i.toNat w:=fun k i y code a b=>run_sliceBound w k i y code a b
 rcases uv hlo el with ⟨rfl,rfl⟩ | ⟨k1,n1,rfl,rfl⟩ <;> rcases uv hhi eh with ⟨rfl,rfl⟩ | ⟨k2,n2,rfl,rfl⟩ <;> rcases uv hmx em with ⟨rfl,rfl⟩ | ⟨k3,n3,rfl,rfl⟩ <;>
  simp only [Option.getD_some,Option.getD_none,Option.isSome_some,Option.isSome_none,forall_const,Bool.false_eq_true] at h0 h1 h2 h3 h4 ⊢
 ·simp [Instr.sliceBounds]
 ·have a1:=hb k2 n2 cap (if isS then .sliceAcap else .sliceAlen) (by omega) (by omega)
  simp [Instr.sliceBounds,a1]
 ·have a1:=hb k3 n3 cap (if isS then .slice3Acap else .slice3Alen) (by omega) (by omega)
  have a2:=hb k2 n2 n3.toNat .slice3B (by omega) (by omega)
  simp [Instr.sliceBounds,a1,a2]
 ·have a1:=hb k1 n1 len .sliceB (by omega) (by omega)
  simp [Instr.sliceBounds,a1]
 ·have a1:=hb k2 n2 cap (if isS then .sliceAcap else .sliceAlen) (by omega) (by omega)
  have a2:=hb k1 n1 n2.toNat .sliceB (by omega) (by omega)
  simp [Instr.sliceBounds,a1,a2]
 ·have a1:=hb k3 n3 cap (if isS then .slice3Acap else .slice3Alen) (by omega) (by omega)
  have a2:=hb k2 n2 n3.toNat .slice3B (by omega) (by omega)
  have a3:=hb k1 n1 n2.toNat .slice3C (by omega) (by omega)
  simp [Instr.sliceBounds,a1,a2,a3]

theorem flat_drop {es:List V} {n:Nat} (hsz:∀e∈es,e.cells.length=n) (j:Nat):(es.drop j).flatMap V.cells=(es.flatMap V.cells).drop (j*n):=by
 induction es generalizing j with
 | nil=>simp
 | cons e es ih =>
  cases j with
  | zero=>simp
  | succ j =>
   have h1:=hsz e (by simp)
   have e1:(j+1)*n - e.cells.length=j*n:=by rw [h1,Nat.add_mul]; omega
   have e2:e.cells.drop ((j+1)*n)=[]:=List.drop_eq_nil_of_le (by rw [h1,Nat.add_mul]; omega)
   rw [List.drop_succ_cons,ih (fun e he=>hsz e (List.mem_cons_of_mem _ he)),List.flatMap_cons,List.drop_append,e2,List.nil_append,e1]

theorem flat_take {es:List V} {n:Nat} (hsz:∀e∈es,e.cells.length=n) (j:Nat):(es.take j).flatMap V.cells=(es.flatMap V.cells).take (j*n):=by
 induction es generalizing j with
 | nil=>simp
 | cons e es ih =>
  cases j with
  | zero=>simp
  | succ j =>
   have h1:=hsz e (by simp)
   have e1:(j+1)*n - e.cells.length=j*n:=by rw [h1,Nat.add_mul]; omega
   have e2:e.cells.take ((j+1)*n)=e.cells:=List.take_of_length_le (by rw [h1,Nat.add_mul]; omega)
   rw [List.take_succ_cons,List.flatMap_cons,ih (fun e he=>hsz e (List.mem_cons_of_mem _ he)),List.flatMap_cons,List.take_append,e2,e1]

theorem RepL.nil_right {x:Cx} {m:List Value} (h:RepL x [] m):m=[]:=by cases h; rfl

theorem aSlice_ok {P:Program} {cfg:Cfg} (hc:cfg.Ok P) {x:Cx} {t:TypeId} {a:ATy} (hta:cfg.ty t=some a) {p v:V} {cp:Value} {lo hi mx:Option V} {clo chi cmx:Option Value} (hp:Rep x p cp)
  (hlo:RepO x lo clo) (hhi:RepO x hi chi) (hmx:RepO x mx cmx) (h:zs cfg a.und p lo hi mx=some v) (w:World) :
  ∃c,(Instr.sliceAt t cp clo chi cmx).run P w=.ok c w∧Rep x v c:=by
 have ht:=hc.ty _ _ hta
 have hu:=ht.und
 unfold zs at h
 simp only [Option.bind_eq_bind,Option.bind_eq_some_iff] at h
 obtain ⟨l,el,h2,eh,m,em,h⟩:=h
 split at h
 ·rename_i b e
  rw [e] at hu
  split at h
  ·rename_i hcond
   obtain ⟨c1,c2,c3,c4⟩:=hcond
   injection h with h; subst h
   cases hp
   have hm:m=none:=by simpa using c1
   subst hm
   have hcm:cmx=none:=by
    rcases uv hmx em with ⟨_,rfl⟩ | ⟨_,_,hh,_⟩
    ·rfl
    ·cases hh
   subst hcm
   have hb:=wB (P:=P) w false b.size b.size hlo hhi (mx:=none) .none el eh (m:=none) (by simp [zn]) c2 c3 (by simpa using c4) (by simp) (by simp)
   exact ⟨_,by simp [Instr.sliceAt,Instr.slice,run_underlying hu,hb],.str _⟩
  ·cases h
 ·rename_i el' e
  rw [e] at hu
  simp only [Option.bind_eq_some_iff] at h
  obtain ⟨b,hb,h⟩:=h
  have htb:=hc.ty _ _ hb
  split at h
  ·rename_i hcond
   obtain ⟨c1,c2,c3,c4⟩:=hcond
   injection h with h; subst h
   cases hp
   have hm:m.getD ((0:Nat):Int)=0:=by simpa using c3
   have hh2:h2.getD ((0:Nat):Int)=0:=by simpa using c2
   have hb2:=wB (P:=P) w true 0 0 hlo hhi hmx el eh em (by omega) (by omega) (by omega) (by omega) c4
   rw [hm,hh2,c1] at hb2
   exact ⟨.slice none 0 0,by simp [Instr.sliceAt,Instr.slice,run_underlying hu,hb2,htb.run_size],.nils⟩
  ·cases h
 ·rename_i el' es e
  rw [e] at hu
  simp only [Option.bind_eq_some_iff] at h
  obtain ⟨b,hb,h⟩:=h
  have htb:=hc.ty _ _ hb
  split at h
  ·rename_i hcond
   obtain ⟨c1,c2,c3,c4,c5,c6⟩:=hcond
   injection h with h; subst h
   have hm:∀cap:Nat,es.length≤cap→h2.getD es.length≤m.getD cap∧m.getD cap≤cap:=by
    intro cap hcap
    cases m with
    | none=>simp; omega
    | some q=>have:=c4 q rfl; simp; omega
   cases hp with
   | lempty ad cap =>
    have hmm:=hm cap (by simp)
    have c3':h2.getD ((0:Nat):Int)≤0:=by simpa using c3
    have c2':l.getD 0≤h2.getD ((0:Nat):Int):=by simpa using c2
    have hmm':h2.getD ((0:Nat):Int)≤m.getD cap:=by simpa using hmm.1
    have hb2:=wB (P:=P) w true 0 cap hlo hhi hmx el eh em c1 c2' hmm' hmm.2 c5
    have hz:(h2.getD ((0:Nat):Int)).toNat=0:=by omega
    have hl:(l.getD 0).toNat=0:=by omega
    rw [hz,hl] at hb2
    refine ⟨_,by simp only [Instr.sliceAt,run_underlying hu,Sem.run_bind,Result.andThen_ok,Instr.slice,hb2,htb.run_size,Sem.run_pure]; rfl,?_⟩
    simp only [List.drop_nil,List.take_nil]
    exact .lempty _ _
   | list bb o cap sz hh hl hcap heven =>
    have hb2:=wB (P:=P) w true es.length cap hlo hhi hmx el eh em c1 c2 (hm cap hcap).1 (hm cap hcap).2 c5
    refine ⟨_,by simp [Instr.sliceAt,Instr.slice,run_underlying hu,hb2,htb.run_size]; rfl,?_⟩
    have hlen:((es.drop (l.getD 0).toNat).take ((h2.getD es.length).toNat - (l.getD 0).toNat)).length=(h2.getD es.length).toNat - (l.getD 0).toNat:=by
     rw [List.length_take,List.length_drop]; omega
    by_cases hz:(h2.getD es.length).toNat - (l.getD 0).toNat=0
    ·rw [hz]
     simp only [List.take_zero]
     exact .lempty _ _
    ·have hmm:=hm cap hcap
     rw [if_neg (by omega)]
     have hes:es≠[]:=by
      rintro rfl
      simp only [List.length_nil] at c3 hz
      omega
     have hsz:sz=b.size:=by
      cases es with
      | nil=>exact absurd rfl hes
      | cons e0 es =>
       have h6:e0.cells.length=b.size:=by simpa using c6
       rw [← h6]; exact (heven e0 (by simp)).symm
     subst hsz
     have hl2:=(hl.drop ((l.getD 0).toNat*b.size)).take (((h2.getD es.length).toNat - (l.getD 0).toNat)*b.size)
     rw [← flat_drop heven,← flat_take (fun e he=>heven e (List.mem_of_mem_drop he))] at hl2
     have hr:=Rep.list (es:=(es.drop (l.getD 0).toNat).take ((h2.getD es.length).toNat - (l.getD 0).toNat)) bb (o+(l.getD 0).toNat*b.size) ((m.getD cap).toNat - (l.getD 0).toNat) b.size ((hh.drop _).take _) hl2
      (by rw [hlen]; omega) (fun e he=>heven e (List.mem_of_mem_drop (List.mem_of_mem_take he)))
     rw [hlen] at hr
     simpa [yG] using hr
  ·cases h
 ·rename_i el' id off len sz ag cp' e
  rw [e] at hu
  simp only [Option.bind_eq_some_iff] at h
  obtain ⟨b,hb,h⟩:=h
  have htb:=hc.ty _ _ hb
  split at h
  ·rename_i hcond
   obtain ⟨c1,c2,c3,c4,c5,c6⟩:=hcond
   subst c6
   injection h with h; subst h
   cases hp with
   | arr _ _ _ _ _ _ o cap n hk hoff hlc hcs hroom hcp =>
    have hm:h2.getD len≤m.getD cap∧m.getD cap≤cap:=by
     cases m with
     | none=>simp; omega
     | some q=>have:=c4 q rfl; simp; omega
    have hb2:=wB (P:=P) w true len cap hlo hhi hmx el eh em c1 c2 hm.1 hm.2 c5
    refine ⟨_,by simp [Instr.sliceAt,Instr.slice,run_underlying hu,hb2,htb.run_size]; rfl,?_⟩
    have hmul:(l.getD 0).toNat*b.size+((m.getD cap).toNat - (l.getD 0).toNat)*b.size=(m.getD cap).toNat*b.size:=by
     rw [← Nat.add_mul]; congr 1; omega
    have hmul2:(m.getD cap).toNat*b.size≤cap*b.size:=Nat.mul_le_mul_right _ (by omega)
    have hcp':zz m (l.getD 0).toNat cp'=0∨zz m (l.getD 0).toNat cp'=((m.getD cap).toNat - (l.getD 0).toNat)+1:=by
     unfold zz
     cases m with
     | none=>simp at hm ⊢; rcases hcp with h | h <;> omega
     | some q=>right; simp
    by_cases hz:(m.getD cap).toNat=(l.getD 0).toNat
    ·rw [if_pos hz]
     refine .arr id _ _ _ ag _ o _ n hk (.inl (by omega)) (by omega) hcs ?_ hcp'
     omega
    ·rw [if_neg hz]
     have ho:o=(x.ρ id).2+off:=by
      rcases hoff with rfl | ho
      ·omega
      ·exact ho
     subst ho
     simp only [Option.map_some,yG]
     refine .arr id _ _ _ ag _ _ _ n hk (.inr (by omega)) (by omega) hcs ?_ hcp'
     omega
  ·cases h
 ·cases h

end Go.Proofs.YtchlfjhbijmdiaaGreatDoor.Ai

namespace Go.Proofs.YtchlfjhbijmdiaaGreatDoor.Ai
open Go.RowKit (Below)

/-! building -/
theorem foldl_set:∀(vs:List Value) (k off:Nat) (C:Array Value),off+k+vs.length≤C.size →
  ((vs.zipIdx k).foldl (fun cs (p:Value×Nat)=>cs.setIfInBounds (off+p.2) p.1) C).toList=C.toList.take (off+k)++vs++C.toList.drop (off+k+vs.length)
 | [],k,off,C,h=>by simp
 | v::vs,k,off,C,h=>by
  simp only [List.length_cons] at h
  rw [List.zipIdx_cons,List.foldl_cons,foldl_set vs (k+1) off _ (by simp; omega)]
  simp only [Array.toList_setIfInBounds,List.length_cons]
  have hlen:off+k<C.toList.length:=by rw [Array.length_toList]; omega
  rw [show off+(k+1)=(off+k)+1 by omega,List.take_succ_eq_append_getElem (by simpa using hlen),List.take_set_of_le (Nat.le_refl _),List.drop_set_of_lt (by omega)]
  simp only [List.getElem_set_self,List.append_assoc,List.singleton_append,List.cons_append,List.nil_append]
  rw [show off+k+1+vs.length=off+k+(vs.length+1) by omega]

theorem fold_splice {x:Cx} {cs us:List V} {C:Array Value} {c:Value} (hl:RepL x cs C.toList) {v:V} (hu:Rep x v c) {off:Nat} (hle:off+v.cells.length≤cs.length) (he:us=v.cells) :
  RepL x (zl cs off us) (c.cells.zipIdx.foldl (fun cs (p:Value×Nat)=>cs.setIfInBounds (off+p.2) p.1) C).toList:=by
 subst he
 have hc:=hu.cells
 have h1:=hl.length
 have h2:=hc.length
 simp only [Array.length_toList] at h1 h2
 rw [← Array.foldl_toList,Array.toList_zipIdx]
 have:=foldl_set c.cells.toList 0 off C (by simp only [Array.length_toList]; omega)
 simp only [Nat.add_zero] at this
 rw [this]
 exact splice_rep hl hc

inductive PartsL (x:Cx):List (Nat×V)→List (Nat×Value)→Prop
 | nil:PartsL x [] []
 | cons {i:Nat} {v:V} {c:Value} {l:List (Nat×V)} {m:List (Nat×Value)}:Rep x v c→PartsL x l m→PartsL x ((i,v)::l) ((i,c)::m)

theorem uY {P:Program} {cfg:Cfg} {x:Cx} (hg:GOk cfg x) {tmps:List V} {a:Act} (ht:RepL x tmps a.tmps.toList):∀{ps:List (Nat×Operand)} {vs:List (Nat×V)},yP cfg tmps ps=some vs →
  PartsL x vs (ps.map fun p=>(p.1,a.eval p.2))
 | [],vs,h=>by simp [yP] at h; subst h; exact .nil
 | (i,o)::os,vs,h=>by
  simp only [yP] at h
  split at h
  ·rename_i v r h1 h2
   injection h with h; subst h
   exact .cons (xo (P:=P) hg ht h1) (uY (P:=P) hg ht h2)
  ·cases h

theorem fill_ok {x:Cx} {place:Nat→Option (Nat×Nat)}:∀{ps:List (Nat×V)} {qs:List (Nat×Value)} {cs cs':List V} {C:Array Value},PartsL x ps qs→RepL x cs C.toList→zu place cs ps=some cs' →
  ∃C',Instr.fill place C qs=some C'∧RepL x cs' C'.toList
 | _,_,cs,cs',C,.nil,hl,h=>by simp [zu] at h; subst h; exact ⟨C,rfl,hl⟩
 | _,_,cs,cs',C,.cons (i:=i) (v:=v) (c:=c) hv hp,hl,h=>by
  simp only [zu] at h
  split at h
  ·cases h
  ·rename_i off size hpl
   split at h
   ·cases h
   ·rename_i hcond
    have hcond':v.cells.length=size∧off+v.cells.length≤cs.length:=by
     constructor
     ·exact Decidable.not_not.1 fun hn=>hcond (.inl hn)
     ·exact Nat.le_of_not_lt fun hn=>hcond (.inr hn)
    have hlen:=hl.length
    have hc:=hv.cells.length
    simp only [Array.length_toList] at hlen hc
    obtain ⟨C',h1,h2⟩:=fill_ok hp (fold_splice hl hv hcond'.2 rfl) h
    refine ⟨C',?_,h2⟩
    simp only [Instr.fill,hpl]
    have e1:¬(c.cells.size≠size):=by omega
    have e2:¬(off+c.cells.size > C.size):=by omega
    simp only [e1,e2,decide_false,Bool.or_false,Bool.false_eq_true,if_false]
    exact h1

theorem placesOf_run {P:Program} {cfg:Cfg} (hc:cfg.Ok P) (w:World):∀{fs:List Field} {ps:List (Nat×Nat)},wh cfg fs=some ps →
  (fs.mapM fun f=>(do pure (f.offset,← sizeOf f.type):Sem (Nat×Nat))).run P w=.ok ps w
 | [],ps,h=>by simp [wh] at h; subst h; simp
 | f::fs,ps,h=>by
  simp only [wh] at h
  split at h
  ·rename_i b r hb hr
   injection h with h; subst h
   have ih:=placesOf_run hc w hr
   have hb':=hc.ty _ _ hb
   rw [List.mapM_cons]
   simp only [Sem.run_bind,hb'.run_size,Result.andThen_ok,Sem.run_pure,ih]
  ·cases h

theorem aBuild_ok {P:Program} {cfg:Cfg} (hc:cfg.Ok P) {x:Cx} {t:TypeId} {ps:List (Nat×V)} {qs:Array (Nat×Value)} (hp:PartsL x ps qs.toList) {v:V} (h:xh cfg t ps=some v) (w:World) :
  ∃c,(Instr.build t qs).run P w=.ok c w∧Rep x v c:=by
 unfold xh at h
 simp only [Option.bind_eq_bind,Option.bind_eq_some_iff] at h
 obtain ⟨a,hta,h⟩:=h
 have ht:=hc.ty _ _ hta
 have hu:=ht.und
 obtain ⟨z,hz,hzr,hzs⟩:=ht.run_zero w
 split at h
 ·rename_i fs e
  rw [e] at hu
  simp only [Option.bind_eq_some_iff] at h
  obtain ⟨pl,hpl,cs,hcs,h⟩:=h
  injection h with h; subst h
  obtain ⟨C',h1,h2⟩:=fill_ok hp (hzr x).cells hcs
  have hr:=placesOf_run hc w hpl
  refine ⟨.agg C',?_,.agg h2⟩
  have hr':(fs.mapM fun f=>(do pure (f.offset,← sizeOf f.type):Sem (Nat×Nat))).run P w=.ok pl.toArray w:=by
   rw [Array.mapM_eq_mapM_toList]
   simp only [Sem.run_map,hr,Result.andThen_ok]
  have hpl2:(fun i:Nat=>pl.toArray[i]?)=(fun i:Nat=>pl[i]?):=by funext i; simp
  simp only [Instr.build,Sem.run_bind,hz,Result.andThen_ok,run_underlying hu,hr',hpl2,h1,Sem.run_pure]
 ·rename_i n e' e
  rw [e] at hu
  simp only [Option.bind_eq_some_iff] at h
  obtain ⟨b,hb,cs,hcs,h⟩:=h
  injection h with h; subst h
  have hb':=hc.ty _ _ hb
  obtain ⟨C',h1,h2⟩:=fill_ok hp (hzr x).cells hcs
  refine ⟨.agg C',?_,.agg h2⟩
  simp only [Instr.build,Sem.run_bind,hz,Result.andThen_ok,run_underlying hu,hb'.run_size,h1,Sem.run_pure]
 ·cases h

/-! rows of zeros -/
theorem xr (z:List V):∀n,(zk z n).length=n*z.length
 | 0=>by simp [zk]
 | n+1=>by rw [zk,List.length_append,xr z n,Nat.add_mul]; omega

theorem zerosV_get (z:List V) (hz:z≠[]):∀(n j:Nat),j<n*z.length→(zk z n)[j]?=z[j % z.length]?
 | 0,j,h=>by simp at h
 | n+1,j,h=>by
  have hpos:0<z.length:=List.length_pos_iff.2 hz
  rw [zk]
  by_cases hj:j<z.length
  ·rw [List.getElem?_append_left hj,Nat.mod_eq_of_lt hj]
  ·rw [Nat.add_mul,Nat.one_mul] at h
   rw [List.getElem?_append_right (by omega),zerosV_get z hz n _ (by omega)]
   congr 1
   exact (Nat.mod_eq_sub_mod (by omega)).symm

theorem zeros_rep {x:Cx} {zv:V} {z:Value} (hz:Rep x zv z) (n m:Nat) (hsz:z.cells.size≠0) (hm:n*z.cells.size≤m) :
  ∃vs,RepL x (zk zv.cells n) vs∧(∀(j:Nat) (c:Value),vs[j]?=some c→(madeCells z.cells m)[j]?=some c):=by
 have hl:=hz.cells
 have hlen:=hl.length
 simp only [Array.length_toList] at hlen
 have hne:zv.cells≠[]:=by intro e; rw [e] at hlen; simp at hlen; omega
 refine ⟨(madeCells z.cells m).toList.take (n*z.cells.size),?_,fun j c hj=>?_⟩
 ·refine RepL.of_get ?_ fun j v hj=>?_
  ·rw [xr,hlen,List.length_take,Array.length_toList,size_madeCells]; omega
  ·have hjl:j<n*z.cells.size:=by
    have:=(List.getElem?_eq_some_iff.1 hj).1
    rwa [xr,hlen] at this
   rw [zerosV_get _ hne n j (by rw [hlen]; exact hjl),hlen] at hj
   obtain ⟨c,hc1,hc2⟩:=hl.get _ _ hj
   refine ⟨c,?_,hc2⟩
   rw [List.getElem?_take,if_pos hjl,Array.getElem?_toList]
   rw [Array.getElem?_toList] at hc1
   have hmod:j % z.cells.size<z.cells.size:=Nat.mod_lt _ (by omega)
   have hjm:j<m:=by omega
   rw [Array.getElem?_eq_getElem hmod] at hc1
   simp [madeCells,hjm,hmod] at hc1 ⊢
   exact hc1
 ·rw [List.getElem?_take] at hj
  split at hj
  ·rw [Array.getElem?_toList] at hj; exact hj
  ·cases hj

theorem td (w:World) (C:Array Value) (t:TypeId):yZ (w.alloc (.cells C t)) w.heap.size=some C.size:=by
 simp only [yZ,yl]

theorem aBuildSlice_ok {P:Program} {cfg:Cfg} (hc:cfg.Ok P) {x:Cx} (hx:Rel x) {nw:Nat} (hn:¬x.K nw) {t:TypeId} {n:Nat} {ps:List (Nat×V)} {qs:Array (Nat×Value)} (hp:PartsL x ps qs.toList) {v:V} {s':S}
  (h:za cfg nw x.s t n ps=some (v,s')) :
  ∃y c,(Instr.buildSlice t n qs).run P x.w=.ok c y.w∧x.le y∧Rel y∧y.s=s'∧Rep y v c∧(∀i,y.K i→i=nw∨x.K i):=by
 unfold za at h
 simp only [Option.bind_eq_bind,Option.bind_eq_some_iff] at h
 obtain ⟨a,hta,h⟩:=h
 have ht:=hc.ty _ _ hta
 have hu:=ht.und
 split at h
 ·rename_i e he
  rw [he] at hu
  simp only [Option.bind_eq_some_iff] at h
  obtain ⟨b,hb,h⟩:=h
  have htb:=hc.ty _ _ hb
  split at h
  ·cases h
  ·rename_i hcond
   have h1:b.size≠0:=fun e=>hcond (.inl e)
   have h2:¬(16777216<n*b.size):=fun e=>hcond (.inr e)
   simp only [Option.bind_eq_some_iff] at h
   obtain ⟨cs,hcs,h⟩:=h
   split at h
   ·rename_i hone
    injection h with h
    injection h with ha hb2
    subst ha hb2
    obtain ⟨z,hz,hzr,hzs⟩:=htb.run_zero x.w
    obtain ⟨vs,hvs1,hvs2⟩:=zeros_rep (hzr x) n (n*b.size) (by omega) (by rw [hzs]; omega)
    have hzl:RepL x (zk b.zero.cells n) (madeCells z.cells (n*b.size)).toList:=by
     have hlz:=hvs1.length
     rw [xr] at hlz
     have hzc:=(hzr x).cells.length
     simp only [Array.length_toList] at hzc
     rw [hzc,hzs] at hlz
     have:vs=(madeCells z.cells (n*b.size)).toList:=by
      apply List.ext_getElem?
      intro j
      by_cases hj:j<vs.length
      ·rw [List.getElem?_eq_getElem hj,Array.getElem?_toList]
       exact (hvs2 j _ (List.getElem?_eq_getElem hj)).symm
      ·rw [List.getElem?_eq_none (by omega),List.getElem?_eq_none (by rw [Array.length_toList,size_madeCells]; omega)]
     rw [← this]; exact hvs1
    obtain ⟨C',hf1,hf2⟩:=fill_ok hp hzl hcs
    have hlen:=hf2.length
    simp only [Array.length_toList] at hlen
    have hCs:C'.size=n*b.size:=by
     have:cs.length=(zk b.zero.cells n).length:=by
      clear hf1 hf2 hone hlen
      have:∀(ps:List (Nat×V)) (c0 cs:List V),zu (fun i=>some (i*b.size,b.size)) c0 ps=some cs→cs.length=c0.length:=by
       intro ps
       induction ps with
       | nil=>intro c0 cs h; simp [zu] at h; rw [h]
       | cons p ps ih =>
        intro c0 cs h
        obtain ⟨i,u⟩:=p
        simp only [zu] at h
        split at h
        ·cases h
        ·rename_i hcond
         rw [ih _ _ h]
         simp only [zl,List.length_append,List.length_take,List.length_drop]
         have:¬(i*b.size+u.cells.length > c0.length):=fun e=>hcond (.inr e)
         omega
      exact this _ _ _ hcs
     have hzc:=(hzr x).cells.length
     simp only [Array.length_toList] at hzc
     rw [← hlen,this,xr,hzc,hzs]
    obtain ⟨hle,hrel,hk,hrho⟩:=wb (C:=C') (ty:=e) (ex:=true) hx hn hf2 (fun j c hj=>by simpa [Array.getElem?_toList] using hj) (fun _=>hlen.symm)
    refine ⟨_,.slice (some ⟨x.w.heap.size,0,none⟩) n n,?_,hle,hrel,rfl,?_,fun i hi=>hi⟩
    ·have hgt:¬(n*b.size > 2 ^ 24):=by omega
     simp only [Instr.buildSlice,Sem.run_bind,run_underlying hu,Result.andThen_ok,htb.run_size,hgt,if_false]
     by_cases h0:n*b.size=0
     ·have e0:((Array.range 0).map fun x=>(#[]:Array Value)[x % (#[]:Array Value).size]!)=madeCells z.cells 0:=by simp [madeCells]
      rw [h0] at hf1
      simp only [h0,if_true,Sem.run_bind,Sem.run_pure,Result.andThen_ok,e0,hf1,newRow,run_newObj]
      rfl
     ·have e0:((Array.range (n*b.size)).map fun x=>z.cells[x % z.cells.size]!)=madeCells z.cells (n*b.size):=rfl
      simp only [h0,if_false,Sem.run_bind,hz,Sem.run_pure,Result.andThen_ok,e0,hf1,newRow,run_newObj]
      rfl
    ·have:=Rep.arr (x:=x.alloc nw (.cells cs 0 e true) (.cells C' e)) nw 0 n b.size (zS b.und) (n+1) 0 n C'.size hk (.inr (by rw [hrho])) (Nat.le_refl _) (by rw [hrho]; exact td _ _ _) (by rw [hrho,hCs]; omega) (.inr rfl)
     rw [hrho] at this
     exact this
   ·cases h
 ·cases h

theorem aMakeSlice_ok {P:Program} {cfg:Cfg} (hc:cfg.Ok P) {x:Cx} (hx:Rel x) {nw:Nat} (hn:¬x.K nw) {t:TypeId} {l c:V} {cl cc:Value} (hl:Rep x l cl) (hcc:Rep x c cc) {v:V} {s':S}
  (h:zb cfg nw x.s t l c=some (v,s')) :
  ∃y c,(Instr.makeSlice t cl cc).run P x.w=.ok c y.w∧x.le y∧Rel y∧y.s=s'∧Rep y v c∧(∀i,y.K i→i=nw∨x.K i):=by
 unfold zb at h
 simp only [Option.bind_eq_bind,Option.bind_eq_some_iff] at h
 obtain ⟨a,hta,h⟩:=h
 have ht:=hc.ty _ _ hta
 have hu:=ht.und
 split at h
 ·rename_i e he
  rw [he] at hu
  simp only [Option.bind_eq_some_iff] at h
  obtain ⟨b,hb,n,hn',m,hm,h⟩:=h
  have htb:=hc.ty _ _ hb
  obtain ⟨k1,rfl⟩:=tN hl hn'
  obtain ⟨k2,rfl⟩:=tN hcc hm
  split at h
  ·rename_i hcond
   obtain ⟨h1,h2,h3,h4,h5⟩:=hcond
   injection h with h
   injection h with ha hb2
   subst ha hb2
   obtain ⟨i,z,hi1,hi2,hi3,hi4,⟨k,hk⟩,hzs⟩:=htb.info
   have hzr:∀x,Rep x b.zero z:=fun x=>wD k z _ hk
   have hm1:n.toNat*b.size≤m.toNat*b.size:=Nat.mul_le_mul_right _ (by omega)
   obtain ⟨vs,hvs1,hvs2⟩:=zeros_rep (hzr x) n.toNat (m.toNat*b.size) (by omega) (by rw [hzs]; exact hm1)
   have hlz:=hvs1.length
   rw [xr] at hlz
   have hzc:=(hzr x).cells.length
   simp only [Array.length_toList] at hzc
   obtain ⟨hle,hrel,hkk,hrho⟩:=wb (C:=madeCells z.cells (m.toNat*b.size)) (ty:=e) (ex:=(n == m)) hx hn hvs1 hvs2 (fun he=>by
    have:n=m:=by simpa using he
    subst this
    rw [size_madeCells,xr,hzc,hzs])
   have hr:=run_make (P:=P) x.w t e i z hu hi1 hi4 k1 k2 n m h2 h3 (by rw [hi3,Int.mul_comm]; omega) (by omega)
   rw [hi2] at hr
   refine ⟨_,_,hr,hle,hrel,rfl,?_,fun i hi=>hi⟩
   have:=Rep.arr (x:=x.alloc nw (.cells (zk b.zero.cells n.toNat) 0 e (n == m)) (.cells (madeCells z.cells (m.toNat*b.size)) e)) nw 0 n.toNat b.size (zS b.und) (m.toNat+1) 0 m.toNat (m.toNat*b.size) hkk (.inr (by rw [hrho])) (by omega)
    (by rw [hrho]; exact (td _ _ _).trans (by rw [size_madeCells])) (by rw [hrho]; omega) (.inr rfl)
   rw [hrho] at this
   exact this
  ·cases h
 ·cases h

end Go.Proofs.YtchlfjhbijmdiaaGreatDoor.Ai

namespace Go.Proofs.YtchlfjhbijmdiaaGreatDoor.Ai
open Go.RowKit (Below)

/-! values laid -/
structure Less (s s':S):Prop where
 next:s'.next=s.next
 get:∀j p,s'.get j=some p→s.get j=some p

theorem Less.refl (s:S):Less s s:=⟨rfl,fun _ _ h=>h⟩
theorem Less.trans {a b c:S} (h:Less a b) (g:Less b c):Less a c:=⟨g.next.trans h.next,fun j p hj=>h.get j p (g.get j p hj)⟩
theorem Less.del (s:S) (i:Nat):Less s (s.del i):=⟨rfl,fun j p h=>by
 rw [S.get_del] at h
 split at h
 ·cases h
 ·exact h⟩

theorem uQ {x:Cx} {s':S} (h:Less x.s s'):x.le { x with s:=s' } where
 B:=rfl
 K:=fun _ h=>⟨h,rfl⟩
 size:=Nat.le_refl _
 keep:=fun _ _ _=>rfl
 csz:=fun _ _ h=>h
 own:=fun b _ ⟨j,p,hj,hb⟩=>⟨j,p,h.get j p hj,hb⟩
 os:=rfl
 tape:=rfl
 output:=rfl

theorem less_rel {x:Cx} (hx:Rel x) {s':S} (h:Less x.s s'):Rel { x with s:=s' } where
 lt:=fun i hi=>by have:=hx.lt i hi; simpa [h.next] using this
 live:=fun i o hi=>⟨(hx.live i o (h.get i o hi)).1,(hx.live i o (h.get i o hi)).2.mono (uQ h) rfl⟩
 inj:=fun i j o p hi hj=>hx.inj i j o p (h.get i o hi) (h.get j p hj)
 room:=hx.room
 apart:=fun i o hi=>hx.apart i o (h.get i o hi)

theorem chunk_flat (ag:Bool) (sz:Nat):∀(n:Nat) (cs:List V),cs.length=n*sz→(ag=false→sz=1)→cs.all V.one=true→(vo ag sz n cs).flatMap V.cells=cs∧(∀e∈vo ag sz n cs,e.cells.length=sz)∧(vo ag sz n cs).length=n
 | 0,cs,h,_,_=>by simp at h; subst h; simp [vo]
 | n+1,cs,h,h1,h2=>by
  have hlen:(cs.drop sz).length=n*sz:=by rw [List.length_drop,h,Nat.add_mul]; omega
  obtain ⟨i1,i2,i3⟩:=chunk_flat ag sz n (cs.drop sz) hlen h1 (by
   rw [List.all_eq_true] at h2 ⊢
   exact fun v hv=>h2 v (List.mem_of_mem_drop hv))
  rw [vo]
  cases ag with
  | true =>
   simp only [if_true,List.flatMap_cons,i1,V.cells,List.take_append_drop,List.length_cons,i3,true_and,and_true]
   intro e he
   rcases List.mem_cons.1 he with rfl | he
   ·simp only [V.cells,List.length_take,h,Nat.add_mul]; omega
   ·exact i2 e he
  | false =>
   have hs:=h1 rfl
   subst hs
   cases cs with
   | nil=>simp at h
   | cons v cs =>
    simp only [List.all_cons,Bool.and_eq_true] at h2
    have hv:v.cells=[v]:=by cases v <;> simp_all [V.cells,V.one]
    simp only [List.drop_succ_cons,List.drop_zero] at i1 i2 i3 ⊢
    simp only [Bool.false_eq_true,if_false,List.head?_cons,Option.getD_some,List.flatMap_cons,i1,hv,List.singleton_append,List.length_cons,i3,true_and,and_true]
    intro e he
    rcases List.mem_cons.1 he with rfl | he
    ·simp [hv]
    ·exact i2 e he

theorem lay_ok:∀(k:Nat),(∀(x:Cx) (v v':V) (c:Value) (s':S),Rel x→Rep x v c→lay k x.s v=some (v',s')→Less x.s s'∧Rep { x with s:=s' } v' c) ∧
  (∀(x:Cx) (l l':List V) (m:List Value) (s':S),Rel x→RepL x l m→layL k x.s l=some (l',s')→Less x.s s'∧RepL { x with s:=s' } l' m)
 | 0=>⟨fun x v v' c s' _ _ h=>by simp [lay] at h,fun x l l' m s' _ _ h=>by simp [layL] at h⟩
 | k+1=>by
  obtain ⟨ih1,ih2⟩:=lay_ok k
  have triv:∀(x:Cx) (v v':V) (c:Value) (s':S),Rel x→Rep x v c→some (v,x.s)=some (v',s')→Less x.s s'∧Rep { x with s:=s' } v' c:=by
   intro x v v' c s' hx hr h
   injection h with h
   injection h with h1 h2
   subst h1 h2
   exact ⟨.refl _,hr⟩
  refine ⟨fun x v v' c s' hx hr h=>?_,fun x l l' m s' hx hr h=>?_⟩
  ·cases hr with
   | bool b=>exact triv x _ _ _ _ hx (.bool b) (by simpa [lay] using h)
   | int i n=>exact triv x _ _ _ _ hx (.int i n) (by simpa [lay] using h)
   | str b=>exact triv x _ _ _ _ hx (.str b) (by simpa [lay] using h)
   | nilp=>exact triv x _ _ _ _ hx .nilp (by simpa [lay] using h)
   | ptr i o hk=>exact triv x _ _ _ _ hx (.ptr i o hk) (by simpa [lay] using h)
   | cptr b o off hh hl=>exact triv x _ _ _ _ hx (.cptr b o off hh hl) (by simpa [lay] using h)
   | list b o cap sz hh hl hc he=>exact triv x _ _ _ _ hx (.list b o cap sz hh hl hc he) (by simpa [lay] using h)
   | lempty a cap=>exact triv x _ _ _ _ hx (.lempty a cap) (by simpa [lay] using h)
   | map i hk=>exact triv x _ _ _ _ hx (.map i hk) (by simpa [lay] using h)
   | nilm=>exact triv x _ _ _ _ hx .nilm (by simpa [lay] using h)
   | yield i hk=>exact triv x _ _ _ _ hx (.yield i hk) (by simpa [lay] using h)
   | func f ha hb=>exact triv x _ _ _ _ hx (.func f ha hb) (by simpa [lay] using h)
   | nilf=>exact triv x _ _ _ _ hx .nilf (by simpa [lay] using h)
   | nili=>exact triv x _ _ _ _ hx .nili (by simpa [lay] using h)
   | nils =>
    simp only [lay,Option.some.injEq,Prod.mk.injEq] at h
    obtain ⟨rfl,rfl⟩:=h
    exact ⟨.refl _,.lempty _ _⟩
   | iface t hv =>
    simp only [lay] at h
    split at h
    ·rename_i v1 s1 h1
     injection h with h; injection h with e1 e2; subst e1 e2
     obtain ⟨hl,hr⟩:=ih1 x _ _ _ _ hx hv h1
     exact ⟨hl,.iface t hr⟩
    ·cases h
   | agg hl =>
    simp only [lay] at h
    split at h
    ·rename_i v1 s1 h1
     injection h with h; injection h with e1 e2; subst e1 e2
     obtain ⟨hl,hr⟩:=ih2 x _ _ _ _ hx hl h1
     exact ⟨hl,.agg hr⟩
    ·cases h
   | tup hl =>
    simp only [lay] at h
    split at h
    ·rename_i v1 s1 h1
     injection h with h; injection h with e1 e2; subst e1 e2
     obtain ⟨hl,hr⟩:=ih2 x _ _ _ _ hx hl h1
     exact ⟨hl,.tup hr⟩
    ·cases h
   | arr id off len sz ag cp o cap n hk hoff hlc hcs hroom hcp =>
    simp only [lay] at h
    split at h
    ·rename_i cs frz ty ex hg
     split at h
     ·rename_i hcond
      split at h
      ·rename_i cs' s1 h1
       split at h
       ·rename_i hone
        injection h with h; injection h with e1 e2; subst e1 e2
        have hx1:=delc_rel hx id
        have hle1:=delc_le x id
        obtain ⟨vs,hvl,hat⟩:=uM (hx.live id _ hg).2
        have hvl2:RepL (x.delc id) ((cs.drop off).take (len*sz)) ((vs.drop off).take (len*sz)):=((hvl.drop off).take _).mono hle1
        obtain ⟨hless,hr⟩:=ih2 (x.delc id) _ _ _ _ hx1 hvl2 h1
        have hless2:Less x.s s1:=(Less.del x.s id).trans hless
        refine ⟨hless2,?_⟩
        have hlen:cs'.length=len*sz:=by
         have a1:=hr.length
         have a2:=hvl2.length
         rw [← a1] at a2
         rw [← a2,List.length_take,List.length_drop]; omega
        obtain ⟨c1,c2,c3⟩:=chunk_flat ag sz len cs' hlen hcond.2 hone
        by_cases hz:len=0
        ·subst hz
         simp only [vo]
         exact .lempty _ _
        ·have hcap:cap≠0:=by omega
         have ho:o=(x.ρ id).2+off:=by
          rcases hoff with h | h
          ·exact absurd h hcap
          ·exact h
         subst ho
         have:=Rep.list (x:={ x with s:=s1 }) (es:=vo ag sz len cs') (vs:=(vs.drop off).take (len*sz)) (x.ρ id).1 ((x.ρ id).2+off) cap sz ?_ (by rw [c1]; exact hr) (by rw [c3]; exact hlc) c2
         ·rw [c3] at this; exact this
         ·refine ⟨(hx.live id _ hg).2.lt,?_,(hat.drop off).take _⟩
          rintro (hb | ⟨j,p,hj,hb⟩)
          ·exact hx.apart id _ hg hb
          ·exact delc_notown hx hg ⟨j,p,hless.get j p hj,hb⟩
       ·cases h
      ·cases h
     ·cases h
    ·cases h
  ·cases hr with
   | nil =>
    simp only [layL,Option.some.injEq,Prod.mk.injEq] at h
    obtain ⟨rfl,rfl⟩:=h
    exact ⟨.refl _,.nil⟩
   | cons hv hl =>
    simp only [layL] at h
    split at h
    ·rename_i v1 s1 h1
     split at h
     ·rename_i l1 s2 h2
      injection h with h; injection h with e1 e2; subst e1 e2
      obtain ⟨less1,r1⟩:=ih1 x _ _ _ _ hx hv h1
      have hx1:=less_rel hx less1
      obtain ⟨less2,r2⟩:=ih2 { x with s:=s1 } _ _ _ _ hx1 (hl.mono (uQ less1)) h2
      exact ⟨less1.trans less2,.cons (r1.mono (uQ (x:={ x with s:=s1 }) less2)) r2⟩
     ·cases h
    ·cases h

theorem layIf_ok {x:Cx} (hx:Rel x) {sl:Bool} {l l':List V} {m:List Value} {s':S} (hl:RepL x l m) (h:xD sl x.s l=some (l',s')):Less x.s s'∧RepL { x with s:=s' } l' m:=by
 unfold xD at h
 split at h
 ·exact (lay_ok tV).2 x _ _ _ _ hx hl h
 ·injection h with h; injection h with e1 e2; subst e1 e2; exact ⟨.refl _,hl⟩

/-! what is appended -/
theorem uu {x:Cx} (s:ByteArray):RepL x (wJ s) (s.data.toList.map fun b=>Value.int .u8 b.toNat):=by
 unfold wJ
 induction s.data.toList with
 | nil=>exact .nil
 | cons b l ih=>exact .cons (.int _ _) ih

theorem elems_ok {P:Program} {x:Cx} (hx:Rel x) {sz:Nat} {y:V} {cy:Value} (hy:Rep x y cy) {new:List V} {n:Nat} (h:zh x.s sz y=some (new,n)) :
  (∀w,(Builtin.lenOf cy).run P w=.ok n w)∧∃arr:Array Value,(∀w:World,w.heap=x.w.heap→(Builtin.firstCells sz n cy).run P w=.ok arr w)∧RepL x new arr.toList ∧
   (n=0→new=[]):=by
 have hcell:∀(w:World),w.heap=x.w.heap→∀a,w.cell? a=x.w.cell? a:=fun w hw a=>by simp [World.cell?,hw]
 unfold zh at h
 split at h
 ·cases hy
  simp only [Option.some.injEq,Prod.mk.injEq] at h
  obtain ⟨rfl,rfl⟩:=h
  exact ⟨fun w=>by simp [Builtin.lenOf],#[],fun w _=>by simp [Builtin.firstCells],.nil,fun _=>rfl⟩
 ·rename_i es
  split at h
  ·rename_i hall
   simp only [Option.some.injEq,Prod.mk.injEq] at h
   obtain ⟨rfl,rfl⟩:=h
   have hall':∀e∈es,e.cells.length=sz:=by simpa using hall
   cases hy with
   | lempty a cap =>
    refine ⟨fun w=>by simp [Builtin.lenOf],#[],fun w _=>?_,.nil,fun _=>rfl⟩
    cases a with
    | none=>simp [Builtin.firstCells]
    | some a=>simp [Builtin.firstCells,loadCells,loadCellsFrom]
   | list b o cap sz' hh hl hc he =>
    refine ⟨fun w=>by simp [Builtin.lenOf],_,fun w hw=>run_firstCells_some (P:=P) w sz es.length ⟨b,o,none⟩ es.length cap _ (by rw [← hl.length,flat_len hall']) (fun j c hj=>by rw [yG,hcell w hw]; exact hh.at j c hj),by simpa using hl,fun h0=>by
     have:=List.eq_nil_of_length_eq_zero h0
     subst this; rfl⟩
  ·cases h
 ·rename_i id off len sz' ag cp
  split at h
  ·rename_i e
   subst e
   split at h
   ·rename_i cs frz ty ex hg
    split at h
    ·rename_i hle
     simp only [Option.some.injEq,Prod.mk.injEq] at h
     obtain ⟨rfl,rfl⟩:=h
     obtain ⟨vs,hvl,hat⟩:=uM (hx.live id _ hg).2
     have hvl2:=(hvl.drop off).take (len*sz')
     have hlen:((vs.drop off).take (len*sz')).length=len*sz':=by
      rw [List.length_take,List.length_drop,← hvl.length]; omega
     cases hy with
     | arr _ _ _ _ _ _ o cap n hk hoff hlc hcs hroom hcp =>
      refine ⟨fun w=>by simp [Builtin.lenOf],((vs.drop off).take (len*sz')).toArray,fun w hw=>?_,by simpa using hvl2,fun h0=>by subst h0; simp⟩
      by_cases hz:len=0
      ·subst hz
       simp [Builtin.firstCells,loadCells,loadCellsFrom]
      ·have ho:o=(x.ρ id).2+off:=by
        rcases hoff with h | h
        ·omega
        ·exact h
       subst ho
       exact run_firstCells_some (P:=P) w sz' len ⟨(x.ρ id).1,(x.ρ id).2+off,none⟩ len cap _ hlen (fun j c hj=>by rw [yG,hcell w hw]; exact ((hat.drop off).take _) j c hj)
    ·cases h
   ·cases h
  ·cases h
 ·rename_i s
  simp only [Option.some.injEq,Prod.mk.injEq] at h
  obtain ⟨rfl,rfl⟩:=h
  cases hy
  refine ⟨fun w=>by simp [Builtin.lenOf],s.data.map fun b=>Value.int .u8 b.toNat,fun w _=>?_,by simpa using uu s,fun h0=>by
   have:s.data.toList=[]:=List.eq_nil_of_length_eq_zero (by simpa using h0)
   simp [wJ,this]⟩
  have:s.extract 0 s.size=s:=by simp
  simp [Builtin.firstCells,this]
 ·cases h

end Go.Proofs.YtchlfjhbijmdiaaGreatDoor.Ai

