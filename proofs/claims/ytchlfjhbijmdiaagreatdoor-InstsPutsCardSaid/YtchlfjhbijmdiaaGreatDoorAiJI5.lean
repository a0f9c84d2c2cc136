/- Part of a reckoning of a Go program over abstract values, proved sound against the model. -/
import Derived.Test.YtchlfjhbijmdiaaGreatDoorAiJI4
import Derived.Test.YtchlfjhbijmdiaaGreatDoorAiZ2
set_option linter.unusedSimpArgs false
set_option linter.unusedVariables false
namespace Go.Proofs.YtchlfjhbijmdiaaGreatDoor.Ai
open Go.Proofs
open Go.RowKit (Below)
set_option maxRecDepth 100000

theorem pure_true {P:Program} {cfg:Cfg} {f:FuncId} {args:List V} (h:zx P cfg f args (.bool true)) {w:World} (hg:GOk cfg (start w)) {cargs:List Value} (ha:RepL (start w) args cargs) :
  Calls P f cargs.toArray w fun e w'=>e=.returned (.bool true)∧Below w.heap.size w w':=by
 refine (h (start w) cargs hg (start_rel w) ha).mono ?_
 rintro E w' ⟨y,c,rfl,h1,_,_,_,rfl,hr⟩
 cases hr
 exact ⟨rfl,start_below h1⟩

/-! nil slices as empty ones, wherever they stand -/
mutual
def fullV:V→V
 | .nils=>.list []
 | .list es=>.list (fullL es)
 | .agg cs=>.agg (fullL cs)
 | v=>v
def fullL:List V→List V
 | []=>[]
 | v::l=>fullV v::fullL l
end
theorem xf:∀(l m:List V),fullL (l++m)=fullL l++fullL m
 | [],m=>rfl
 | v::l,m=>by simp [fullL,xf l m]
theorem tD:∀l:List V,(fullL l).length=l.length
 | []=>rfl
 | v::l=>by simp [fullL,tD l]
theorem cells_full (v:V):(fullV v).cells=fullL v.cells:=by
 cases v <;> simp [fullV,V.cells,fullL]
theorem flat_full:∀(es:List V),(fullL es).flatMap V.cells=fullL (es.flatMap V.cells)
 | []=>rfl
 | v::l=>by rw [fullL,List.flatMap_cons,List.flatMap_cons,xf,cells_full,flat_full l]
theorem mem_full:∀{l:List V} {u:V},u∈fullL l→∃v∈l,u=fullV v
 | v::l,u,h=>by
  simp only [fullL,List.mem_cons] at h
  rcases h with rfl | h
  ·exact ⟨v,by simp,rfl⟩
  ·obtain ⟨w,hw,e⟩:=mem_full h
   exact ⟨w,by simp [hw],e⟩
mutual
theorem Rep.full {x:Cx} {v:V} {c:Value}:Rep x v c→Rep x (fullV v) c
 | .bool b=>.bool b
 | .int k n=>.int k n
 | .str s=>.str s
 | .nilp=>.nilp
 | .ptr id off hk=>.ptr id off hk
 | .cptr b o off hh hl=>.cptr b o off hh hl
 | .list (es:=es) (vs:=vs) b o cap sz hh hl hc he=>by
  have h1:RepL x ((fullL es).flatMap V.cells) vs:=by rw [flat_full]; exact RepL.full hl
  have:=Rep.list (x:=x) b o cap sz hh h1 (by rw [tD]; exact hc) (fun u hu=>by
   obtain ⟨v,hv,rfl⟩:=mem_full hu
   rw [cells_full,tD]; exact he v hv)
  rw [tD] at this
  exact this
 | .lempty a cap=>.lempty a cap
 | .nils=>.lempty none 0
 | .arr id off len sz ag cp o cap n hk h1 h2 h3 h4 h5=>.arr id off len sz ag cp o cap n hk h1 h2 h3 h4 h5
 | .map id hk=>.map id hk
 | .nilm=>.nilm
 | .yield id hk=>.yield id hk
 | .func fn ha hb=>.func fn ha hb
 | .nilf=>.nilf
 | .iface t hv=>.iface t hv
 | .nili=>.nili
 | .agg hl=>.agg (RepL.full hl)
 | .tup hl=>.tup hl
theorem RepL.full {x:Cx} {l:List V} {m:List Value}:RepL x l m→RepL x (fullL l) m
 | .nil=>.nil
 | .cons hv hl=>.cons (Rep.full hv) (RepL.full hl)
end

section
variable {H:Type} {P:Program} {N:Nat} {ti ts tis ta tas tm tms tx txs:TypeId}
theorem full_vI:∀xs:List Int,fullL (xs.map vI)=xs.map vI
 | []=>rfl
 | a::l=>by simp [fullL,full_vI l,fullV,vI]
theorem elems_int (hu:P.underlying ti=some (.int .i64)):∀{es:List (DataW H)} {l:List V},xY false (vcells P N ti) es=some l→∃xs:List Int,l=xs.map vI
 | [],l,h=>by simp [xY] at h; subst h; exact ⟨[],rfl⟩
 | d::es,l,h=>by
  simp only [xY] at h
  split at h
  ·rename_i c r h1 h2
   injection h with h; subst h
   obtain ⟨n,_,rfl⟩:=v_int hu h1
   obtain ⟨xs,rfl⟩:=elems_int hu h2
   exact ⟨n::xs,rfl⟩
  ·cases h
/-- A slice of numbers. -/
theorem v_ints {d:DataW H} {vs:List V} (hu:P.underlying tis=some (.slice ti)) (he:P.underlying ti=some (.int .i64)) (h:vcells P N tis d=some vs):∃xs:List Int,fullL vs=[.list (xs.map vI)]:=by
 rcases v_slice hu h with rfl | ⟨N2,es,l,h2,rfl⟩
 ·exact ⟨[],rfl⟩
 ·have:aggT P ti=false:=by unfold aggT; rw [he]; rfl
  rw [this] at h2
  obtain ⟨xs,rfl⟩:=elems_int he h2
  exact ⟨xs,by simp [fullL,fullV,full_vI]⟩
/-- A slice of structs. -/
theorem elems_agg {α:Type} {e:α→V} (hf:∀(N:Nat) (d:DataW H) vs,vcells P N ta d=some vs→∃a:α,V.agg (fullL vs)=e a) {N:Nat}:∀{es:List (DataW H)} {l:List V},xY true (vcells P N ta) es=some l→∃xs:List α,fullL l=xs.map e
 | [],l,h=>by simp [xY] at h; subst h; exact ⟨[],rfl⟩
 | d::es,l,h=>by
  simp only [xY] at h
  split at h
  ·rename_i c r h1 h2
   injection h with h; subst h
   obtain ⟨a,ha⟩:=hf N d c h1
   obtain ⟨xs,hxs⟩:=elems_agg hf h2
   exact ⟨a::xs,by rw [List.map_cons,← ha,← hxs]; rfl⟩
  ·cases h
theorem v_aggs {α:Type} {e:α→V} (hf:∀(N:Nat) (d:DataW H) vs,vcells P N ta d=some vs→∃a:α,V.agg (fullL vs)=e a) {d:DataW H} {vs:List V} (hu:P.underlying tas=some (.slice ta)) (hag:aggT P ta=true) (h:vcells P N tas d=some vs):∃xs:List α,fullL vs=[.list (xs.map e)]:=by
 rcases v_slice hu h with rfl | ⟨N2,es,l,h2,rfl⟩
 ·exact ⟨[],rfl⟩
 ·rw [hag] at h2
  obtain ⟨xs,hxs⟩:=elems_agg hf h2
  exact ⟨xs,by simp [fullL,fullV,hxs]⟩
theorem v_alt {fs:Array Field} {d:DataW H} {vs:List V} (hu:P.underlying ta=some (.struct fs)) (hfs:fs.toList.map (·.type)=[ts,tis]) (hs:P.underlying ts=some .string) (his:P.underlying tis=some (.slice ti)) (hi:P.underlying ti=some (.int .i64)) (h:vcells P N ta d=some vs) :
  ∃a:Alt,V.agg (fullL vs)=eA a:=by
 obtain ⟨N',ps,hcat⟩:=v_struct hu h
 have:fs.toList.map (fun f=>vcells (H:=H) P N' f.type)=[vcells P N' ts,vcells P N' tis]:=by
  have h':=congrArg (List.map fun t=>vcells (H:=H) P N' t) hfs
  rw [List.map_map] at h'
  exact h'
 rw [this] at hcat
 obtain ⟨e0,ps0,c0,r0',rfl,hc0,hr0,rfl⟩:=xF hcat
 obtain ⟨e1,ps1,c1,r1',rfl,hc1,hr1,rfl⟩:=xF hr0
 obtain rfl:=catV_nil hr1
 obtain ⟨n,rfl⟩:=v_str hs hc0
 obtain ⟨xs,hx⟩:=v_ints his hi hc1
 refine ⟨⟨n,xs⟩,?_⟩
 rw [List.append_nil,xf,hx]
 rfl
theorem v_mode {fs:Array Field} {d:DataW H} {vs:List V} (hu:P.underlying tm=some (.struct fs)) (hfs:fs.toList.map (·.type)=[ti,ti]) (hi:P.underlying ti=some (.int .i64)) (h:vcells P N tm d=some vs) :
  ∃a:Int×Int,V.agg (fullL vs)=eM a:=by
 obtain ⟨N',ps,hcat⟩:=v_struct hu h
 have:fs.toList.map (fun f=>vcells (H:=H) P N' f.type)=[vcells P N' ti,vcells P N' ti]:=by
  have h':=congrArg (List.map fun t=>vcells (H:=H) P N' t) hfs
  rw [List.map_map] at h'
  exact h'
 rw [this] at hcat
 obtain ⟨e0,ps0,c0,r0',rfl,hc0,hr0,rfl⟩:=xF hcat
 obtain ⟨e1,ps1,c1,r1',rfl,hc1,hr1,rfl⟩:=xF hr0
 obtain rfl:=catV_nil hr1
 obtain ⟨n,_,rfl⟩:=v_int hi hc0
 obtain ⟨m,_,rfl⟩:=v_int hi hc1
 exact ⟨(n,m),rfl⟩
theorem v_inst {fs:Array Field} {d:DataW H} {vs:List V} (hu:P.underlying tx=some (.struct fs)) (hfs:fs.toList.map (·.type)=[ti,tas,tms,ti]) (hi:P.underlying ti=some (.int .i64)) (hA:∀(N:Nat) (d:DataW H) vs,vcells P N tas d=some vs→∃xs:List Alt,fullL vs=[.list (xs.map eA)])
  (hM:∀(N:Nat) (d:DataW H) vs,vcells P N tms d=some vs→∃xs:List (Int×Int),fullL vs=[.list (xs.map eM)]) (h:vcells P N tx d=some vs):∃a:Inst,V.agg (fullL vs)=eX a:=by
 obtain ⟨N',ps,hcat⟩:=v_struct hu h
 have:fs.toList.map (fun f=>vcells (H:=H) P N' f.type)=[vcells P N' ti,vcells P N' tas,vcells P N' tms,vcells P N' ti]:=by
  have h':=congrArg (List.map fun t=>vcells (H:=H) P N' t) hfs
  rw [List.map_map] at h'
  exact h'
 rw [this] at hcat
 obtain ⟨e0,ps0,c0,r0',rfl,hc0,hr0,rfl⟩:=xF hcat
 obtain ⟨e1,ps1,c1,r1',rfl,hc1,hr1,rfl⟩:=xF hr0
 obtain ⟨e2,ps2,c2,r2',rfl,hc2,hr2,rfl⟩:=xF hr1
 obtain ⟨e3,ps3,c3,r3',rfl,hc3,hr3,rfl⟩:=xF hr2
 obtain rfl:=catV_nil hr3
 obtain ⟨n,_,rfl⟩:=v_int hi hc0
 obtain ⟨bs,ha⟩:=hA _ _ _ hc1
 obtain ⟨ms,hm⟩:=hM _ _ _ hc2
 obtain ⟨m,_,rfl⟩:=v_int hi hc3
 refine ⟨⟨n,bs,ms,m⟩,?_⟩
 rw [List.append_nil,xf,xf,xf,ha,hm]
 rfl
end
end Go.Proofs.YtchlfjhbijmdiaaGreatDoor.Ai

