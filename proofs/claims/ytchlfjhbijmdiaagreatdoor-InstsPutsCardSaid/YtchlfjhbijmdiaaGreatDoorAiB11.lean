/- Part of a reckoning of a Go program over abstract values, proved sound against the model. -/
import Derived.Test.YtchlfjhbijmdiaaGreatDoorAiB9
set_option linter.unusedSimpArgs false
set_option linter.unusedVariables false
namespace Go.Proofs.YtchlfjhbijmdiaaGreatDoor.Ai
open Go.RowKit (Below)

section
variable {P:Program} {t u e:TypeId} {d:TypeDesc} {b:ATy}

theorem vt (ht:P.underlying t=some (.slice e)) (hu:P.underlying u=some d) (hd:(∃e2,d=.slice e2)∨d=.string) (htb:TyOk P e b) (ty:TypeId) {base:Option Addr} {sLen sCap n:Nat} {cy:Value} {arr:Array Value} (w:World)
  (hlen:(Builtin.lenOf cy).run P w=.ok n w) (hf:(Builtin.firstCells b.size n cy).run P w=.ok arr w) (hroom:sLen+n≤sCap) :
  (Builtin.append_ #[t,u] ty #[.slice base sLen sCap,cy]).run P w =
   ((match base with | some a=>storeCells (a.add (sLen*b.size)) arr.toList | none=>pure ():Sem Unit).run P w).andThen fun _ w'=>.ok (.slice base (sLen+n) sCap) w':=by
 rcases hd with ⟨e2,rfl⟩ | rfl <;> (
 simp only [Builtin.append_,List.getElem?_toArray,List.getElem?_cons_zero,List.getElem?_cons_succ,Sem.run_bind,run_underlying ht,Result.andThen_ok,htb.run_size,run_underlying hu,Sem.run_pure,Bool.false_eq_true,if_false,hlen,hroom,if_true,Bool.not_false,hf]
 cases base <;> simp)

theorem run_append_grows (ht:P.underlying t=some (.slice e)) (hu:P.underlying u=some d) (hd:(∃e2,d=.slice e2)∨d=.string) (htb:TyOk P e b) (ty:TypeId) {base:Option Addr} {sLen sCap n:Nat} {cy:Value} {arr olds:Array Value} (w:World)
  (hlen:(Builtin.lenOf cy).run P w=.ok n w) (hf:(Builtin.firstCells b.size n cy).run P w.drew=.ok arr w.drew) (hfo:(Builtin.firstCells b.size sLen (.slice base sLen sCap)).run P w.drew=.ok olds w.drew)
  (hroom:sCap<sLen+n) (h63:sLen+n≤140737488355328) (hfit:(sLen+n)*b.bytes≤140737488355328) {z:Value} (hz:∀w,(zeroValue e).run P w=.ok z w) :
  (Builtin.append_ #[t,u] ty #[.slice base sLen sCap,cy]).run P w =
   .ok (.slice (some ⟨w.heap.size,0,none⟩) (sLen+n) (grownCap w (sLen+n) sCap e)) (w.drew.alloc (.cells (olds++arr++Builtin.zeroCells z.cells (grownCap w (sLen+n) sCap e - (sLen+n))) e)):=by
 have hn:¬(sLen+n≤sCap):=by omega
 have h63':¬(9223372036854775807<((sLen:Int)+(n:Int))):=by omega
 have hg:=growslice_fits hroom hfit
 obtain ⟨i,hi,hi2,hi3,_⟩:=htb.run_info w
 have h48:¬(281474976710656<Builtin.nextslicecap (sLen+n) sCap*i.bytes):=by rw [hi3]; omega
 have hdr:w.heap=w.drew.heap:=rfl
 obtain ⟨i',hi',hi2',hi3',_⟩:=htb.run_info w.drew
 rcases hd with ⟨e2,rfl⟩ | rfl <;> (
 simp only [Builtin.append_,List.getElem?_toArray,List.getElem?_cons_zero,List.getElem?_cons_succ,Sem.run_bind,run_underlying ht,Result.andThen_ok,htb.run_size,run_underlying hu,Sem.run_pure,Bool.false_eq_true,if_false,hlen,hn,Bool.not_false,if_true,false_or,hi]
 simp [h63',h48,Question.forced,hi,hi',hfo,hf,hz,newRow,grownCap])
end

theorem aAppend0_ok {P:Program} {cfg:Cfg} (hc:cfg.Ok P) {x:Cx} (hx:Rel x) {nw:Nat} (hn:¬x.K nw) {sl:Bool} {t u:TypeId} {X Y v:V} {cx cy:Value} (hX:Rep x X cx) (hY:Rep x Y cy) {s':S}
  (h:zg cfg sl nw x.s t u X Y=some (v,s')) (ty:TypeId) :
  ∃y c,(Builtin.append_ #[t,u] ty #[cx,cy]).run P x.w=.ok c y.w∧x.le y∧Rel y∧y.s=s'∧Rep y v c∧(∀i,y.K i→i=nw∨x.K i):=by
 unfold zg at h
 simp only [Option.bind_eq_bind,Option.bind_eq_some_iff] at h
 obtain ⟨a,hta,h⟩:=h
 have ht:=(hc.ty _ _ hta).und
 split at h
 case h_2=>cases h
 rename_i e he
 rw [he] at ht
 simp only [Option.bind_eq_some_iff] at h
 obtain ⟨a2,hta2,h⟩:=h
 have hu:=(hc.ty _ _ hta2).und
 split at h
 ·cases h
 rename_i hcond
 have hd:(∃e2,a2.und=.slice e2)∨a2.und=.string:=by
  cases hd:a2.und <;> simp_all [zf]
 simp only [Option.bind_eq_some_iff] at h
 obtain ⟨b,hb,⟨new,n⟩,hel,h⟩:=h
 have htb:=hc.ty _ _ hb
 obtain ⟨hlen,arr,hfc,hnew,hzero⟩:=elems_ok (P:=P) hx hY hel
 simp only at h
 split at h
 ·rename_i hn0
  subst hn0
  have hnil:=hzero rfl
  subst hnil
  have harr:arr.toList=[]:=hnew.nil_right
  have key:∀base sLen sCap,sLen≤sCap→(Builtin.append_ #[t,u] ty #[.slice base sLen sCap,cy]).run P x.w=.ok (.slice base sLen sCap) x.w:=by
   intro base sLen sCap hle
   rw [vt ht hu hd htb ty x.w (hlen _) (hfc _ rfl) (by omega),harr]
   cases base <;> simp [storeCells]
  split at h
  ·injection h with h; injection h with e1 e2; subst e1 e2
   cases hX
   exact ⟨x,_,key _ _ _ (by omega),.refl x,hx,rfl,.nils,fun i hi=>.inr hi⟩
  ·injection h with h; injection h with e1 e2; subst e1 e2
   cases hX with
   | arr _ _ _ _ _ _ o cap m hk hoff hlc hcs hroom hcp=>exact ⟨x,_,key _ _ _ hlc,.refl x,hx,rfl,.arr _ _ _ _ _ _ o cap m hk hoff hlc hcs hroom hcp,fun i hi=>.inr hi⟩
  ·injection h with h; injection h with e1 e2; subst e1 e2
   cases hX with
   | lempty ad cap=>exact ⟨x,_,key _ _ _ (by omega),.refl x,hx,rfl,.lempty ad cap,fun i hi=>.inr hi⟩
   | list bb o cap sz hh hl hcap heven=>exact ⟨x,_,key _ _ _ hcap,.refl x,hx,rfl,.list bb o cap sz hh hl hcap heven,fun i hi=>.inr hi⟩
  ·cases h
 ·rename_i hn0
  split at h
  ·cases h
  rename_i hbs
  simp only [Option.bind_eq_some_iff] at h
  obtain ⟨⟨new',s1⟩,hlay,h⟩:=h
  obtain ⟨hless,hnew'⟩:=layIf_ok hx hnew hlay
  have hx1:=less_rel hx hless
  have hle1:=uQ hless
  simp only at h
  split at h
  case isFalse=>cases h
  rename_i hone
  obtain ⟨hone,hnl⟩:=hone
  obtain ⟨z,hz,hzr,hzs⟩:=htb.run_zero x.w
  have hzall:∀w,(zeroValue e).run P w=.ok z w:=fun w=>by
   obtain ⟨i,z',g1,g2,g3,g4,_⟩:=htb.info
   have e1:∀w,(zeroValue e).run P w=.ok z' w:=fun w=>by simp [zeroValue,typeInfo,g1,g4]
   have:=hz.symm.trans (e1 x.w)
   injection this with this
   rw [this]; exact e1 w
  have harrlen:arr.size=n*b.size:=by
   have h9:=hnew'.length
   simp only [Array.length_toList] at h9
   omega
  -- a new row
  have grow:∀(base:Option Addr) (sLen sCap:Nat) (olds:Array Value) (ocs:List V) (s2:S),Less s1 s2→sCap<sLen+n→sLen+n≤140737488355328→(sLen+n)*b.bytes≤140737488355328 →
    (Builtin.firstCells b.size sLen (.slice base sLen sCap)).run P x.w.drew=.ok olds x.w.drew→RepL { x with s:=s1 } ocs olds.toList→ocs.length=sLen*b.size→∀cp frz:Nat,cp=0 →
    ∃y c,(Builtin.append_ #[t,u] ty #[.slice base sLen sCap,cy]).run P x.w=.ok c y.w∧x.le y∧Rel y∧y.s=s2.add nw (.cells (ocs++new') frz e false)∧Rep y (.arr nw 0 (sLen+n) b.size (zS b.und) cp) c∧(∀i,y.K i→i=nw∨x.K i):=by
   intro base sLen sCap olds ocs s2 hl2 h1 h2 h3 h4 h5 h6 cp frz hcp
   have hr:=run_append_grows ht hu hd htb ty x.w (hlen _) (hfc x.w.drew rfl) h4 h1 h2 h3 hzall
   have hl3:=hless.trans hl2
   have hx2:=less_rel hx hl3
   have hle2:=uQ hl3
   have hxd:Rel { ({ x with s:=s2 }:Cx) with w:=x.w.drew }:=hx2.drew rfl rfl rfl rfl
   have hled:({ x with s:=s2 }:Cx).le { ({ x with s:=s2 }:Cx) with w:=x.w.drew }:=le_drew rfl rfl rfl rfl
   have hl12:({ x with s:=s1 }:Cx).le { x with s:=s2 }:=uQ (x:={ x with s:=s1 }) hl2
   have hrep:RepL { ({ x with s:=s2 }:Cx) with w:=x.w.drew } (ocs++new') (olds.toList++arr.toList):=((h5.append hnew').mono hl12).mono hled
   have hos:olds.size=sLen*b.size:=by
    have h9:=h5.length
    simp only [Array.length_toList] at h9
    omega
   obtain ⟨hle,hrel,hk,hrho⟩:=wb (nw:=nw) (frz:=frz) (C:=olds++arr++Builtin.zeroCells z.cells (grownCap x.w (sLen+n) sCap e - (sLen+n))) (ty:=e) (ex:=false) hxd hn hrep (fun j c hj=>by
    rw [Array.append_assoc,← Array.getElem?_toList]
    simp only [Array.toList_append,← List.append_assoc]
    rw [List.getElem?_append_left (by exact (List.getElem?_eq_some_iff.1 hj).1)]
    exact hj) (fun h=>by cases h)
   refine ⟨_,_,hr,(hle2.trans hled).trans hle,hrel,rfl,?_,fun i hi=>hi⟩
   have hge:=grownCap_ge x.w (sLen+n) sCap e
   subst hcp
   have:=Rep.arr (x:=({ ({ x with s:=s2 }:Cx) with w:=x.w.drew }:Cx).alloc nw (.cells (ocs++new') frz e false) (.cells (olds++arr++Builtin.zeroCells z.cells (grownCap x.w (sLen+n) sCap e - (sLen+n))) e))
    nw 0 (sLen+n) b.size (zS b.und) 0 0 (grownCap x.w (sLen+n) sCap e) _ hk (.inr (by rw [hrho])) hge (by rw [hrho]; exact td _ _ _) (by
     rw [hrho]
     simp only [Array.size_append,size_zeroCells,hzs,hos,harrlen,← Nat.add_mul,Nat.zero_add]
     exact Nat.mul_le_mul_right _ (by omega)) (.inl rfl)
   rw [hrho] at this
   exact this
  split at h
  ·split at h
   ·rename_i hcond
    injection h with h; injection h with e1 e2; subst e1 e2
    cases hX
    obtain ⟨y,c,g1,g2,g3,g4,g5,g6⟩:=grow none 0 0 #[] [] s1 (.refl _) (by omega) (by omega) (by rw [Nat.zero_add]; exact hcond.1) (by simp [Builtin.firstCells]) .nil (by simp) 0 0 rfl
    simp only [Nat.zero_add,List.nil_append] at g1 g4 g5
    exact ⟨y,c,g1,g2,g3,g4,g5,g6⟩
   ·cases h
  ·rename_i id off len sz ag cp
   split at h
   ·rename_i cs frz e' ex hg
    split at h
    ·rename_i hcond
     obtain ⟨rfl,c2,c3,rfl,c5,c6,rfl⟩:=hcond
     injection h with h; injection h with e1 e2; subst e1 e2
     have hgx:=hless.get _ _ hg
     cases hX with
     | arr _ _ _ _ _ _ o cap m hk hoff hlc hcs hroom hcp =>
      obtain ⟨C,lo,hi,vs,hblk,hvl,hpre,hfr,hexx⟩:=(hx1.live id _ hg).2
      have hvl2:=(hvl.drop off).take (len*b.size)
      have hat:at_ x.w (x.ρ id).1 (x.ρ id).2 vs:=fun j c hj=>by
       have:=hpre j c hj
       simp only at hblk this
       simp [World.cell?,hblk,this]
      have hlv:=hvl.length
      have hol:((vs.drop off).take (len*b.size)).length=len*b.size:=by rw [List.length_take,List.length_drop]; omega
      by_cases hfit:len+n≤cap
      ·-- in place
       have hcap:cap≠0:=by omega
       have ho:o=(x.ρ id).2+off:=by
        rcases hoff with h | h
        ·exact absurd h hcap
        ·exact h
       subst ho
       have hr:=vt ht hu hd htb ty (base:=some ⟨(x.ρ id).1,(x.ρ id).2+off,none⟩) (sLen:=len) (sCap:=cap) x.w (hlen _) (hfc x.w rfl) hfit
       simp only [yG] at hr
       have hmul:(len+n)*b.size≤cap*b.size:=Nat.mul_le_mul_right _ hfit
       have hcs':C.size=m:=by simpa [yZ,hblk] using hcs
       rw [Nat.add_mul] at hmul
       obtain ⟨w',C',hst,hw,hb',hsz',hgj⟩:=ww (P:=P) arr.toList x.w (x.ρ id).1 ((x.ρ id).2+off+len*b.size) 0 C e' lo hi hblk (hnew'.ones hone) (fun k hk=>by
        rw [Array.length_toList] at hk
        refine ⟨by omega,fun ⟨ha,hb⟩=>?_⟩
        have:=hfr _ (by omega) ha hb
        simp only at this
        omega)
       rw [hst] at hr
       simp only [Result.andThen_ok] at hr
       have hle3:=take_le (x:={ x with s:=s1 }) (nw:=nw) (base:=(x.ρ id).2+off) (o':=.cells ((cs.drop off).take (len*b.size)++new') (frz - off) e' false) hx1 hn hg hw
       refine ⟨_,_,hr,hle1.trans hle3,take_rel hx1 hn hg hw ⟨C',lo,hi,(vs.drop off).take (len*b.size)++arr.toList,hb',(hvl2.append hnew').mono hle3,fun j c hj=>?_,fun o' ho' ha hb=>?_,fun h=>by cases h⟩,rfl,?_,fun i hi=>hi⟩
       ·rw [hgj]
        simp only [Nat.add_zero]
        by_cases e1:j<len*b.size
        ·rw [if_neg (by omega)]
         rw [List.getElem?_append_left (by omega),List.getElem?_take,if_pos e1,List.getElem?_drop] at hj
         have:=hpre (off+j) c hj
         simp only at this
         rw [← this]; congr 1; omega
        ·rw [List.getElem?_append_right (by omega),hol] at hj
         have hjl:=(List.getElem?_eq_some_iff.1 hj).1
         rw [if_pos (by omega)]
         rw [← hj]; congr 1; omega
       ·rw [hsz'] at ho'
        have:=hfr o' ho' ha hb
        simp only at this
        omega
       ·have hrho:(({ x with s:=s1 }:Cx).take id nw ((x.ρ id).2+off) (.cells ((cs.drop off).take (len*b.size)++new') (frz - off) e' false) w').ρ nw=((x.ρ id).1,(x.ρ id).2+off):=by simp [Cx.take,upd]
        have:=Rep.arr (x:=({ x with s:=s1 }:Cx).take id nw ((x.ρ id).2+off) (.cells ((cs.drop off).take (len*b.size)++new') (frz - off) e' false) w') nw 0 (len+n) b.size (zS b.und) (if len+n<cp then cp else 0) ((x.ρ id).2+off) cap m (.inl rfl)
         (.inr (by rw [hrho]; rfl)) hfit (by rw [hrho]; exact hw.csz _ _ hcs) (by rw [hrho]; simpa using hroom) (by
          split
          ·rcases hcp with h | h
           ·omega
           ·exact .inr h
          ·exact .inl rfl)
        rw [hrho] at this
        exact this
      ·have hcp0:(if len+n<cp then cp else 0)=0:=by
        split
        ·rcases hcp with h | h <;> omega
        ·rfl
       rw [hcp0]
       have hfo:(Builtin.firstCells b.size len (.slice (some ⟨(x.ρ id).1,o,none⟩) len cap)).run P x.w.drew=.ok ((vs.drop off).take (len*b.size)).toArray x.w.drew:=by
        by_cases hz0:len=0
        ·subst hz0; simp [Builtin.firstCells,loadCells,loadCellsFrom]
        ·have ho:o=(x.ρ id).2+off:=by
          rcases hoff with h | h
          ·omega
          ·exact h
         subst ho
         exact run_firstCells_some (P:=P) x.w.drew b.size len ⟨(x.ρ id).1,(x.ρ id).2+off,none⟩ len cap _ hol (fun j c hj=>by rw [yG,World.cell?_drew]; exact ((hat.drop off).take _) j c hj)
       obtain ⟨y,c,g1,g2,g3,g4,g5,g6⟩:=grow (some ⟨(x.ρ id).1,o,none⟩) len cap _ ((cs.drop off).take (len*b.size)) (s1.del id) (Less.del _ _) (by omega) c3 c2 hfo (by simpa using hvl2) (by rw [List.length_take,List.length_drop]; omega) 0 (frz - off) rfl
       exact ⟨y,c,g1,g2,g3,g4,g5,g6⟩
    ·cases h
   ·cases h
  ·cases h

theorem aAppend_ok {P:Program} {cfg:Cfg} (hc:cfg.Ok P) {x:Cx} (hx:Rel x) {nw:Nat} (hn:¬x.K nw) {sl:Bool} {t u:TypeId} {X Y v:V} {cx cy:Value} (hX:Rep x X cx) (hY:Rep x Y cy) {s':S}
  (h:zj cfg sl nw x.s t u X Y=some (v,s')) (ty:TypeId) :
  ∃y c,(Builtin.append_ #[t,u] ty #[cx,cy]).run P x.w=.ok c y.w∧x.le y∧Rel y∧y.s=s'∧Rep y v c∧(∀i,y.K i→i=nw∨x.K i):=by
 unfold zj at h
 cases hl:cfg.layr with
 | false=>rw [hl] at h; exact aAppend0_ok hc hx hn hX hY h ty
 | true =>
  rw [hl] at h
  simp only [cond_true] at h
  split at h
  case h_2=>cases h
  rename_i v1 s1 h1
  obtain ⟨y,c,g1,g2,g3,rfl,g5,g6⟩:=aAppend0_ok hc hx hn hX hY h1 ty
  obtain ⟨k1,k2⟩:=(lay_ok tV).1 y _ _ _ _ g3 g5 h
  exact ⟨{ y with s:=s' },c,g1,g2.trans (uQ k1),less_rel g3 k1,rfl,k2,g6⟩
end Go.Proofs.YtchlfjhbijmdiaaGreatDoor.Ai

namespace Go.Proofs.YtchlfjhbijmdiaaGreatDoor.Ai
open Go.RowKit (Below)

/-! maps -/
theorem vF {P:Program} {cfg:Cfg} (hc:cfg.Ok P) {x:Cx} {kt:TypeId} {k:V} {ck:Value} (hk:Rep x k ck) (h:yL cfg kt k=true) (em:Bool) (w:World) (n:Nat) :
  (Instr.checkKey em (n+1+1) kt ck).run P w=.ok () w:=by
 unfold yL at h
 split at h
 ·cases h
 ·rename_i a hta
  have ht:=(hc.ty _ _ hta).und
  split at h
  ·rename_i e; cases hk; rw [e] at ht; simp [Instr.checkKey,run_underlying ht]
  ·rename_i e; cases hk; rw [e] at ht; simp [Instr.checkKey,run_underlying ht]
  ·rename_i e; cases hk; rw [e] at ht; simp [Instr.checkKey,run_underlying ht]
  ·rename_i fs cs e
   rw [e] at ht
   cases hk with
   | agg hl =>
    rename_i C
    have key:∀(l:List Field),plainFs cfg cs l=true →
      (forIn l PUnit.unit (fun f _=>(if f.name≠ "_" then (do Instr.checkKey em (n+1) f.type (← part f.type C f.offset); pure (ForInStep.yield PUnit.unit)) else (do pure PUnit.unit; pure (ForInStep.yield PUnit.unit)):Sem (ForInStep PUnit)))).run P w=.ok PUnit.unit w:=by
     intro l
     induction l with
     | nil=>intro _; simp
     | cons f l ih =>
      intro hp
      simp only [plainFs,Bool.and_eq_true,decide_eq_true_eq] at hp
      obtain ⟨⟨h1,h2⟩,h3⟩:=hp
      cases hty:cfg.ty f.type with
      | none=>simp [hty] at h1
      | some b =>
       rw [hty] at h1
       simp only at h1
       have hb:=hc.ty _ _ hty
       have hag:zS b.und=false:=by cases hd:b.und <;> simp_all [plainD,zS]
       obtain ⟨c,hc1,hc2⟩:=hl.get f.offset _ (List.getElem?_eq_getElem h2)
       rw [Array.getElem?_toList] at hc1
       have hpart:(part f.type C f.offset).run P w=.ok c w:=by simp [part,hb.run_agg,hag,hc1]
       have hck:(Instr.checkKey em (n+1) f.type c).run P w=.ok () w:=by
        have:=hb.und
        cases hd:b.und <;> rw [hd] at h1 this <;> simp [plainD] at h1 <;> simp [Instr.checkKey,run_underlying this]
       rw [List.forIn_cons]
       by_cases hname:f.name= "_"
       ·simp only [hname,ne_eq,not_true_eq_false,if_false,Sem.run_bind,Sem.run_pure,Result.andThen_ok]
        exact ih h3
       ·simp only [hname,ne_eq,not_false_eq_true,if_true,Sem.run_bind,hpart,hck,Sem.run_pure,Result.andThen_ok]
        exact ih h3
    have:=key fs.toList h
    rw [Instr.checkKey]
    simp only [Sem.run_bind,run_underlying ht,Result.andThen_ok]
    rw [← Array.forIn_toList]
    simp at this ⊢
    rw [this]
    rfl
  ·cases h

theorem sameNow_ok {P:Program} {cfg:Cfg} (hc:cfg.Ok P) {x:Cx} {kt:TypeId} {a:ATy} (hta:cfg.ty kt=some a) {k k':V} {ck ck':Value} (hk:Rep x k ck) (hk':Rep x k' ck') {b:Bool} (h:aEq cfg kt k k'=some b) :
  Instr.sameNow a.und ck ck'=some b∨Instr.sameNow a.und ck ck'=none:=by
 unfold Instr.sameNow
 unfold aEq at h
 rw [hta] at h
 simp only at h
 split
 ·rename_i e
  cases hk; cases hk'
  rw [e] at h
  simp only at h
  split at h
  ·rename_i e2; injection h with h; subst h; subst e2; simp
  ·cases h
 ·rename_i e
  cases hk; cases hk'
  rw [e] at h
  simp only at h
  injection h with h; subst h
  left; simp [beq_toListBytes]
 ·rename_i e
  cases hk; cases hk'
  rw [e] at h
  simp only at h
  injection h with h; subst h
  exact .inl rfl
 ·exact .inr rfl

/-- What is found, and what stands there. -/
def Found (x:Cx) (E:List MapEntry):Option (Nat×V)→Option (Nat×Value)→Prop
 | none,none=>True
 | some (i,v),some (j,c)=>i=j∧Rep x v c∧∃m,E[i]?=some m∧m.val=c
 | _,_=>False

theorem find_ok {P:Program} {cfg:Cfg} (hc:cfg.Ok P) {x:Cx} {kt:TypeId} {a:ATy} (hta:cfg.ty kt=some a) {k:V} {ck:Value} (hk:Rep x k ck) (w:World) (E0:List MapEntry) :
  ∀(es:List (V×V×Nat)) (E:List MapEntry) (i:Nat) (r:Option (Nat×V)),uA x es E→(∀j,E[j]?=E0[i+j]?)→uR (keyEq cfg kt) k es i=some r →
   ∃r',Found x E0 r r'∧(Instr.findNow a.und ck E i=some r'∨Instr.findNow a.und ck E i=none)∧(Instr.findAsking kt ck E i).run P w=.ok r' w
 | [],[],i,r,_,_,h=>by
  simp [uR] at h; subst h
  exact ⟨none,trivial,.inl rfl,rfl⟩
 | [],_::_,i,r,he,_,_=>by have:=he.1; simp at this
 | e::es,[],i,r,he,_,_=>by have:=he.1; simp at this
 | e::es,m::E,i,r,he,hE,h=>by
  obtain ⟨m',hm',r1,r2,r3⟩:=he.2 0 e (by simp)
  simp at hm'; subst hm'
  have he':uA x es E:=⟨by simpa using he.1,fun j e hj=>by simpa using he.2 (j+1) e (by simpa using hj)⟩
  simp only [uR] at h
  split at h
  ·rename_i hq
   injection h with h; subst h
   have hs:=sameNow_ok hc hta hk r1 hq
   have hq2:=aEq_ok hc hk r1 hq w
   refine ⟨some (i,m.val),⟨rfl,r2,m,by have:=hE 0; simp at this; exact this.symm,rfl⟩,?_,?_⟩
   ·rcases hs with hs | hs
    ·left; simp [Instr.findNow,hs]
    ·right; simp [Instr.findNow,hs]
   ·simp [Instr.findAsking,hq2]
  ·rename_i hq
   have hs:=sameNow_ok hc hta hk r1 hq
   have hq2:=aEq_ok hc hk r1 hq w
   obtain ⟨r',g1,g2,g3⟩:=find_ok hc hta hk w E0 es E (i+1) r he' (fun j=>by rw [show i+1+j=i+(j+1) by omega,← hE (j+1)]; simp) h
   refine ⟨r',g1,?_,?_⟩
   ·rcases hs with hs | hs
    ·simpa [Instr.findNow,hs] using g2
    ·right; simp [Instr.findNow,hs]
   ·simp [Instr.findAsking,hq2,g3]
  ·cases h

theorem findKey_ok {P:Program} {cfg:Cfg} (hc:cfg.Ok P) {x:Cx} {kt:TypeId} {a:ATy} (hta:cfg.ty kt=some a) {k:V} {ck:Value} (hk:Rep x k ck) (w:World) {es:List (V×V×Nat)} {E:List MapEntry} (he:uA x es E) {r:Option (Nat×V)}
  (h:uR (keyEq cfg kt) k es 0=some r):∃r',Found x E r r'∧(Instr.findKey kt ck E).run P w=.ok r' w:=by
 obtain ⟨r',g1,g2,g3⟩:=find_ok hc hta hk w E es E 0 r he (fun j=>by simp) h
 refine ⟨r',g1,?_⟩
 simp only [Instr.findKey,Sem.run_bind,run_underlying (hc.ty _ _ hta).und,Result.andThen_ok]
 rcases g2 with g2 | g2
 ·rw [g2]; simp
 ·rw [g2]; exact g3

theorem uA.isEmpty {x:Cx} {es:List (V×V×Nat)} {E:List MapEntry} (h:uA x es E):es.isEmpty=E.isEmpty:=by
 have:=h.1
 cases es <;> cases E <;> simp at this ⊢

theorem aLookup_ok {P:Program} {cfg:Cfg} (hc:cfg.Ok P) {x:Cx} (hx:Rel x) {t:TypeId} {m k v:V} {cm ck:Value} {ok:Bool} (hm:Rep x m cm) (hk:Rep x k ck) (h:yI cfg x.s t m k ok=some v) :
  ∃c,(Instr.lookup t cm ck ok).run P x.w=.ok c x.w∧Rep x v c:=by
 unfold yI at h
 simp only [Option.bind_eq_bind,Option.bind_eq_some_iff] at h
 obtain ⟨a,hta,h⟩:=h
 have hu:=(hc.ty _ _ hta).und
 split at h
 case h_2=>cases h
 rename_i kt e he
 rw [he] at hu
 simp only [Option.bind_eq_some_iff] at h
 obtain ⟨z,hz,h⟩:=h
 have htz:=hc.ty _ _ hz
 split at h
 ·cases h
 rename_i hpk
 have hpk':yL cfg kt k=true:=by simpa using hpk
 simp only [Option.bind_eq_some_iff] at h
 obtain ⟨es,hes,r,hr,h⟩:=h
 cases hkt:cfg.ty kt with
 | none=>simp [yL,hkt] at hpk'
 | some ka =>
  obtain ⟨zc,hzr,hzrep,_⟩:=htz.run_zero x.w
  have fin:∀(E:Array MapEntry),uA x es E.toList→∃r',Found x E.toList r r'∧(Instr.findKey kt ck E.toList).run P x.w=.ok r' x.w:=fun E hE=>findKey_ok hc hkt hk x.w hE hr
  have hck:∀em,(Instr.checkKey em 10000 kt ck).run P x.w=.ok () x.w:=fun em=>vF hc hk hpk' em x.w 9998
  have last:∀(E:Array MapEntry) (r':Option (Nat×Value)),Found x E.toList r r'→∃c,(match r' with
     | some (_,v)=>.ok (if ok then .tuple #[v,.bool true] else v) x.w
     | none=>.ok (if ok then .tuple #[zc,.bool false] else zc) x.w:Result Value)=.ok c x.w∧Rep x v c:=by
   intro E r' g1
   cases r with
   | none =>
    injection h with h; subst h
    cases r' with
    | none =>
     cases ok
     ·exact ⟨zc,rfl,hzrep x⟩
     ·exact ⟨.tuple #[zc,.bool false],rfl,.tup (.cons (hzrep x) (.cons (.bool _) .nil))⟩
    | some p=>exact g1.elim
   | some p =>
    obtain ⟨i,v⟩:=p
    injection h with h; subst h
    cases r' with
    | none=>exact g1.elim
    | some q =>
     obtain ⟨j,c⟩:=q
     obtain ⟨_,g3,_⟩:=g1
     cases ok
     ·exact ⟨c,rfl,g3⟩
     ·exact ⟨.tuple #[c,.bool true],rfl,.tup (.cons g3 (.cons (.bool _) .nil))⟩
  unfold zi at hes
  split at hes
  ·injection hes with hes; subst hes
   cases hm
   obtain ⟨r',g1,g2⟩:=fin #[] ⟨rfl,fun j e hj=>by simp at hj⟩
   obtain ⟨c,h1,h2⟩:=last #[] r' g1
   refine ⟨c,?_,h2⟩
   simp only [Instr.lookup,Sem.run_bind,run_underlying hu,Result.andThen_ok,Sem.run_pure,hck,g2]
   rw [← h1]
   cases r' with
   | none=>simp [hzr]
   | some q=>simp
  ·rename_i id
   split at hes
   ·rename_i es' clock hg
    injection hes with hes; subst hes
    cases hm with
    | map _ hk' =>
     obtain ⟨E,hb,hE⟩:=(hx.live id _ hg).2
     obtain ⟨r',g1,g2⟩:=fin E hE
     obtain ⟨c,h1,h2⟩:=last E r' g1
     refine ⟨c,?_,h2⟩
     have hgo:(getObj (x.ρ id).1).run P x.w=.ok (.map E clock) x.w:=by simp [getObj,Sem.run,hb]
     simp only [Instr.lookup,Sem.run_bind,run_underlying hu,Result.andThen_ok,Sem.run_pure,hgo,hck,g2]
     rw [← h1]
     cases r' with
     | none=>simp [hzr]
     | some q=>simp
   ·cases hes
  ·cases hes

/-! maps written -/
theorem rep_scalar1 {x:Cx} {v:V} {c c':Value} (h:vE v=true) (hc:Rep x v c) (hc':Rep x v c'):c=c':=by
 cases hc <;> simp [vE] at h <;> cases hc' <;> rfl

theorem repL_scalar1 {x:Cx}:∀{l:List V} {m m':List Value},l.all vE=true→RepL x l m→RepL x l m'→m=m'
 | _,_,_,_,.nil,.nil=>rfl
 | _,_,_,h,.cons a b,.cons c d=>by
  simp only [List.all_cons,Bool.and_eq_true] at h
  rw [rep_scalar1 h.1 a c,repL_scalar1 h.2 b d]

theorem rep_scalar {x:Cx} {v:V} {c c':Value} (h:uK v=true) (hc:Rep x v c) (hc':Rep x v c'):c=c':=by
 cases v with
 | agg cs =>
  cases hc with
  | agg a=>cases hc' with
   | agg b =>
    have:=repL_scalar1 (by simpa [uK] using h) a b
    rw [Array.toList_inj] at this
    rw [this]
 | _=>exact rep_scalar1 (by simpa only [uK] using h) hc hc'

theorem sameBits1 {x:Cx} {v:V} {c:Value} (h:vE v=true) (hc:Rep x v c) (n:Nat):Instr.sameBits n c c=true:=by
 cases hc <;> simp [vE] at h <;> cases n <;> simp [Instr.sameBits,beq_toListBytes]

theorem sameBitsL {x:Cx} (n:Nat):∀{l:List V} {m:List Value},l.all vE=true→RepL x l m→(m.zip m).all (fun (p:Value×Value)=>Instr.sameBits n p.1 p.2)=true
 | _,_,_,.nil=>by simp
 | _,_,h,.cons a b=>by
  simp only [List.all_cons,Bool.and_eq_true] at h
  simp only [List.zip_cons_cons,List.all_cons,Bool.and_eq_true]
  exact ⟨sameBits1 h.1 a n,sameBitsL n h.2 b⟩

theorem sameBits_ok {x:Cx} {v:V} {c:Value} (h:uK v=true) (hc:Rep x v c) (n:Nat):Instr.sameBits (n+1) c c=true:=by
 cases v with
 | agg cs =>
  cases hc with
  | agg a =>
   have:=sameBitsL n (by simpa [uK] using h) a
   simpa [Instr.sameBits] using this
 | _=>exact sameBits1 (by simpa only [uK] using h) hc _

theorem xd (w:World) (b:Nat) (o:Obj) (h:yZ w b=none):Wrote w { w with heap:=w.heap.setIfInBounds b o } b where
 size:=by simp
 keep:=fun k hk=>by simp [Array.getElem?_setIfInBounds_ne (Ne.symm hk)]
 csz:=fun k n hn=>by
  by_cases e:k=b
  ·subst e; rw [h] at hn; cases hn
  ·simpa [yZ,Array.getElem?_setIfInBounds_ne (Ne.symm e)] using hn
 os:=rfl
 tape:=rfl
 output:=rfl

theorem tQ {P:Program} {cfg:Cfg} (hc:cfg.Ok P) {x:Cx} (hx:Rel x) {t:TypeId} {m k v:V} {cm ck cv:Value} (hm:Rep x m cm) (hk:Rep x k ck) (hv:Rep x v cv) {s':S} (h:yj cfg x.s t m k v=some s') :
  ∃y,(Instr.mapUpdate t cm ck cv).run P x.w=.ok () y.w∧x.le y∧Rel y∧y.s=s'∧y.K=x.K:=by
 unfold yj at h
 simp only [Option.bind_eq_bind,Option.bind_eq_some_iff] at h
 obtain ⟨a,hta,h⟩:=h
 have hu:=(hc.ty _ _ hta).und
 split at h
 case h_2=>cases h
 rename_i kt e he
 rw [he] at hu
 split at h
 ·cases h
 rename_i hpk
 have hpk':yL cfg kt k=true:=by simpa using hpk
 cases hkt:cfg.ty kt with
 | none=>simp [yL,hkt] at hpk'
 | some ka =>
  split at h
  case h_2=>cases h
  rename_i id
  split at h
  case h_2=>cases h
  rename_i es clock hg
  simp only [Option.bind_eq_some_iff] at h
  obtain ⟨r,hr,h⟩:=h
  cases hm with
  | map _ hk' =>
   obtain ⟨E,hb,hE⟩:=(hx.live id _ hg).2
   obtain ⟨r',g1,g2⟩:=findKey_ok hc hkt hk x.w hE hr
   have hck:=vF hc hk hpk' false x.w 9998
   have hgo:(getObj (x.ρ id).1).run P x.w=.ok (.map E clock) x.w:=by simp [getObj,Sem.run,hb]
   have hcs:yZ x.w (x.ρ id).1=none:=by simp [yZ,hb]
   have hso:∀o:Obj,(setObj (x.ρ id).1 o).run P x.w=.ok () { x.w with heap:=x.w.heap.setIfInBounds (x.ρ id).1 o }:=fun o=>by simp [setObj,Sem.run,hb]
   have hlt:=(hx.live id _ hg).2.lt
   have hself:∀o:Obj,({ x.w with heap:=x.w.heap.setIfInBounds (x.ρ id).1 o }:World).heap[(x.ρ id).1]?=some o:=fun o=>by simp [hlt]
   have fin:∀(es':List (V×V×Nat)) (E':Array MapEntry) (cl:Nat),uA x es' E'.toList →
     x.le (x.putc id (.map es' cl) { x.w with heap:=x.w.heap.setIfInBounds (x.ρ id).1 (.map E' cl) })∧Rel (x.putc id (.map es' cl) { x.w with heap:=x.w.heap.setIfInBounds (x.ρ id).1 (.map E' cl) }):=by
    intro es' E' cl hE'
    have hw:=xd x.w (x.ρ id).1 (.map E' cl) hcs
    have hle:=vJ (o':=.map es' cl) hg hw
    exact ⟨hle,wR hx hg hw ⟨E',hself _,hE'.mono hle⟩⟩
   cases r with
   | none =>
    cases r' with
    | some p=>exact g1.elim
    | none =>
     injection h with h; subst h
     obtain ⟨f1,f2⟩:=fin (es++[(k,v,clock)]) (E.push { key:=ck,val:=cv,born:=clock }) (clock+1) ⟨by simpa using hE.1,fun j e hj=>by
      have hl:=hE.1
      simp only [Array.length_toList] at hl
      by_cases hjl:j<es.length
      ·rw [List.getElem?_append_left hjl] at hj
       obtain ⟨m,hm,r1⟩:=hE.2 j e hj
       refine ⟨m,?_,r1⟩
       simp only [Array.toList_push]
       rw [List.getElem?_append_left (by rw [Array.length_toList]; omega)]
       exact hm
      ·have hje:j=es.length:=by
        have:=(List.getElem?_eq_some_iff.1 hj).1
        simp only [List.length_append,List.length_singleton] at this
        omega
       subst hje
       rw [List.getElem?_append_right (Nat.le_refl _)] at hj
       simp at hj; subst hj
       refine ⟨{ key:=ck,val:=cv,born:=clock },?_,hk,hv,rfl⟩
       simp only [Array.toList_push]
       rw [List.getElem?_append_right (by rw [Array.length_toList]; omega)]
       have hE2:E.toList.length=E.size:=Array.length_toList
       have h0:es.length - E.toList.length=0:=by omega
       rw [h0]; rfl⟩
     refine ⟨_,?_,f1,f2,rfl,rfl⟩
     simp only [Instr.mapUpdate,Sem.run_bind,run_underlying hu,Result.andThen_ok,hgo,hck,g2,hso]
     rfl
   | some p =>
    obtain ⟨i,u⟩:=p
    cases r' with
    | none=>exact g1.elim
    | some q =>
     obtain ⟨j,c⟩:=q
     obtain ⟨rfl,g3,me,hme,_⟩:=g1
     simp only at h
     split at h
     case isFalse=>cases h
     rename_i hcond
     injection h with h; subst h
     simp only [Bool.and_eq_true,Option.any_eq_true,decide_eq_true_eq] at hcond
     obtain ⟨⟨ent,hent,hkeq⟩,hsc⟩:=hcond
     obtain ⟨m2,hm2,q1,q2,q3⟩:=hE.2 i ent hent
     have hmm:me=m2:=Option.some.inj (hme.symm.trans hm2)
     subst hmm
     rw [hkeq] at q1
     have hkk:me.key=ck:=rep_scalar hsc q1 hk
     rw [Array.getElem?_toList] at hme
     have hks:(Instr.keyThatStays (((E[i]?).map (·.key)).getD ck) ck).run P x.w=.ok ck x.w:=by
      rw [hme]
      simp only [Option.map_some,Option.getD_some,hkk,Instr.keyThatStays]
      rw [sameBits_ok hsc hk 9999]
      simp
     obtain ⟨f1,f2⟩:=fin (es.modify i fun e=>(k,v,e.2.2)) (E.modify i fun e=>{ e with key:=ck,val:=cv }) clock ⟨by simpa using hE.1,fun j e hj=>by
      rw [List.getElem?_modify] at hj
      simp only [Option.map_eq_map,Option.map_eq_some_iff] at hj
      obtain ⟨e0,he0,hj⟩:=hj
      obtain ⟨m,hm,r1,r2,r3⟩:=hE.2 j e0 he0
      rw [Array.getElem?_toList] at hm
      by_cases hij:i=j
      ·subst hij
       simp only [if_true] at hj; subst hj
       exact ⟨{ m with key:=ck,val:=cv },by rw [Array.getElem?_toList,Array.getElem?_modify,if_pos rfl,hm]; rfl,hk,hv,r3⟩
      ·rw [if_neg hij] at hj
       have hj2:e0=e:=hj
       subst hj2
       exact ⟨m,by rw [Array.getElem?_toList,Array.getElem?_modify,if_neg hij]; exact hm,r1,r2,r3⟩⟩
     refine ⟨_,?_,f1,f2,rfl,rfl⟩
     simp only [Instr.mapUpdate,Sem.run_bind,run_underlying hu,Result.andThen_ok,hgo,hck,g2,hks,hso]
     rfl

theorem aDelete_ok {P:Program} {cfg:Cfg} (hc:cfg.Ok P) {x:Cx} (hx:Rel x) {t:TypeId} {m k:V} {cm ck:Value} (hm:Rep x m cm) (hk:Rep x k ck) {s':S} (h:aDelete cfg x.s t m k=some s') (ts:Array TypeId) (hts:ts[0]?=some t) (ty:TypeId) :
  ∃y,(Builtin.delete_ ts ty #[cm,ck]).run P x.w=.ok (.tuple #[]) y.w∧x.le y∧Rel y∧y.s=s'∧y.K=x.K:=by
 unfold aDelete at h
 simp only [Option.bind_eq_bind,Option.bind_eq_some_iff] at h
 obtain ⟨a,hta,h⟩:=h
 have hu:=(hc.ty _ _ hta).und
 split at h
 case h_2=>cases h
 rename_i kt e he
 rw [he] at hu
 split at h
 ·cases h
 rename_i hpk
 have hpk':yL cfg kt k=true:=by simpa using hpk
 have hargs:∀(F:TypeId→Value→Value→Sem Value) (G:Sem Value),(match ts[0]?,(#[cm,ck]:Array Value)[0]?,(#[cm,ck]:Array Value)[1]? with
   | some mapType,some m,some k=>F mapType m k
   | _,_,_=>G)=F t cm ck:=by
  intro F G
  rw [hts]; rfl
 have hck:∀em,(Instr.checkKey em 10000 kt ck).run P x.w=.ok () x.w:=fun em=>vF hc hk hpk' em x.w 9998
 cases hkt:cfg.ty kt with
 | none=>simp [yL,hkt] at hpk'
 | some ka =>
  split at h
  ·injection h with h; subst h
   cases hm
   refine ⟨x,?_,.refl x,hx,rfl,rfl⟩
   simp [Builtin.delete_,hts,run_underlying hu,hck]
  ·rename_i id
   split at h
   case h_2=>cases h
   rename_i es clock hg
   simp only [Option.bind_eq_some_iff] at h
   obtain ⟨r,hr,h⟩:=h
   cases hm with
   | map _ hk' =>
    obtain ⟨E,hb,hE⟩:=(hx.live id _ hg).2
    obtain ⟨r',g1,g2⟩:=findKey_ok hc hkt hk x.w hE hr
    have hgo:(getObj (x.ρ id).1).run P x.w=.ok (.map E clock) x.w:=by simp [getObj,Sem.run,hb]
    have hcs:yZ x.w (x.ρ id).1=none:=by simp [yZ,hb]
    have hso:∀o:Obj,(setObj (x.ρ id).1 o).run P x.w=.ok () { x.w with heap:=x.w.heap.setIfInBounds (x.ρ id).1 o }:=fun o=>by simp [setObj,Sem.run,hb]
    have hlt:=(hx.live id _ hg).2.lt
    have hself:∀o:Obj,({ x.w with heap:=x.w.heap.setIfInBounds (x.ρ id).1 o }:World).heap[(x.ρ id).1]?=some o:=fun o=>by simp [hlt]
    have fin:∀(es':List (V×V×Nat)) (E':Array MapEntry) (cl:Nat),uA x es' E'.toList →
      x.le (x.putc id (.map es' cl) { x.w with heap:=x.w.heap.setIfInBounds (x.ρ id).1 (.map E' cl) })∧Rel (x.putc id (.map es' cl) { x.w with heap:=x.w.heap.setIfInBounds (x.ρ id).1 (.map E' cl) }):=by
     intro es' E' cl hE'
     have hw:=xd x.w (x.ρ id).1 (.map E' cl) hcs
     have hle:=vJ (o':=.map es' cl) hg hw
     exact ⟨hle,wR hx hg hw ⟨E',hself _,hE'.mono hle⟩⟩
    cases r with
    | none =>
     cases r' with
     | some p=>exact g1.elim
     | none =>
      injection h with h; subst h
      obtain ⟨f1,f2⟩:=fin es E clock hE
      refine ⟨_,?_,f1,f2,rfl,rfl⟩
      simp [Builtin.delete_,hts,run_underlying hu,hck,hgo,g2,hso]
      rfl
    | some p =>
     obtain ⟨i,u⟩:=p
     cases r' with
     | none=>exact g1.elim
     | some q =>
      obtain ⟨j,c⟩:=q
      obtain ⟨rfl,g3,me,hme,_⟩:=g1
      injection h with h; subst h
      have hE':uA x (es.eraseIdx i) (E.eraseIdxIfInBounds i).toList:=by
       have ht:(E.eraseIdxIfInBounds i).toList=E.toList.eraseIdx i:=by simp
       rw [ht]
       refine ⟨?_,fun j e hj=>?_⟩
       ·rw [List.length_eraseIdx,List.length_eraseIdx,hE.1]
       ·rw [List.getElem?_eraseIdx] at hj ⊢
        split at hj
        ·rename_i hlt2; rw [if_pos hlt2]; exact hE.2 j e hj
        ·rename_i hlt2; rw [if_neg hlt2]; exact hE.2 (j+1) e hj
      obtain ⟨f1,f2⟩:=fin _ _ clock hE'
      refine ⟨_,?_,f1,f2,rfl,rfl⟩
      simp [Builtin.delete_,hts,run_underlying hu,hck,hgo,g2,hso]
      rfl
  ·cases h

end Go.Proofs.YtchlfjhbijmdiaaGreatDoor.Ai

