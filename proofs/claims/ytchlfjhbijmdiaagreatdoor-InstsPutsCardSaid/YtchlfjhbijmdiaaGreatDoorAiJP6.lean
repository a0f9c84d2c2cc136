/- Part of a reckoning of a Go program over abstract values, proved sound against the model. -/
import Derived.Test.YtchlfjhbijmdiaaGreatDoorAiJP3
set_option linter.unusedSimpArgs false
set_option linter.unusedVariables false
namespace Go.Proofs.YtchlfjhbijmdiaaGreatDoor.Ai
set_option maxRecDepth 100000

/-! tables without circles -/
/-- A closure that refers to a closure. -/
def Clo (l:List Inst) (j i:Int):Prop:=(zG l i).kind=5∧j∈zR (zG l i)∧(zG l j).kind=5
def DAcc (l:List Inst) (b:List Int):Prop:=∀i:Int,0≤i→iAt b i=2→Acc (Clo l) i
def Stay (b c:List Int):Prop:=∀i:Int,0≤i→iAt b i=2→iAt c i=2
theorem lk_done {l:List Inst} (hg:tC l):∀(n:Nat) (b:List Int) (i:Int),0≤i→i<l.length→Sn l b→b.count 0<n→DAcc l b→(lk l n b i).1=false →
  DAcc l (lk l n b i).2∧Stay b (lk l n b i).2∧((zG l i).kind=5→iAt (lk l n b i).2 i=2)
 | 0,b,i,_,_,_,hc,_,_=>absurd hc (Nat.not_lt_zero _)
 | n+1,b,i,h0,h1,hs,hc,hd,hf=>by
  have hit:i.toNat<l.length:=by omega
  have hx:=List.getElem?_eq_getElem hit
  have hin:zG l i=l[i.toNat]:=by simp [zG,hx]
  have hcast:=Int.toNat_of_nonneg h0
  have hsn:=hs.2 i.toNat _ hx
  rw [hcast] at hsn
  unfold lk at hf ⊢
  by_cases h2:iAt b i=2
  ·rw [if_pos h2] at hf ⊢
   exact ⟨hd,fun _ _ h=>h,fun _=>h2⟩
  rw [if_neg h2] at hf ⊢
  by_cases h3:iAt b i=1
  ·rw [if_pos h3] at hf; cases hf
  rw [if_neg h3] at hf ⊢
  rw [hx] at hf ⊢
  simp only at hf ⊢
  by_cases hk:l[i.toNat].kind=5
  ·rw [if_pos hk] at hf ⊢
   have hz:iAt b i=0:=by
    rcases hsn with h | ⟨h | h,_⟩
    ·exact h
    ·exact absurd h h3
    ·exact absurd h h2
   have hcnt:=vY (v:=1) (b:=b) (i:=i.toNat) (by omega) (by rw [hs.1]; exact hit) (by rw [hcast]; exact hz)
   have hs1:=sn_set hs hx hk (v:=1) (.inl rfl)
   have hd1:DAcc l (b.set i.toNat 1):=fun j hj0 hj=>by
    rw [wW] at hj
    split at hj
    ·omega
    ·exact hd j hj0 hj
   have key:∀(ks:List Int) (j:Int) (c:List Int),0≤j→(∀k∈ks,0≤k∧k<l.length)→Sn l c→c.count 0<n→DAcc l c→(lkL (lk l n) ks j c).1<0 →
     DAcc l (lkL (lk l n) ks j c).2∧Stay c (lkL (lk l n) ks j c).2∧∀k∈ks,(zG l k).kind=5→iAt (lkL (lk l n) ks j c).2 k=2:=by
    intro ks
    induction ks with
    | nil=>intro j c _ _ _ _ hdc _; exact ⟨hdc,fun _ _ h=>h,fun k hk=>by cases hk⟩
    | cons k ks ih =>
     intro j c hj hks hsc hcc hdc hneg
     unfold lkL at hneg ⊢
     by_cases ht:(lk l n c k).1=true
     ·rw [if_pos ht] at hneg
      simp only at hneg
      omega
     ·rw [if_neg ht] at hneg ⊢
      simp only [Bool.not_eq_true] at ht
      have hkk:=hks k (by simp)
      obtain ⟨g1,g2,g3⟩:=lk_done hg n c k hkk.1 hkk.2 hsc hcc hdc ht
      obtain ⟨g4,g5,g6⟩:=ih (j+1) _ (by omega) (fun k' hk'=>hks k' (by simp [hk'])) (lk_sn n c k hsc) (Nat.lt_of_le_of_lt (wm n _ c k (Nat.le_refl _)) hcc) g1 hneg
      refine ⟨g4,fun q hq h=>g5 q hq (g2 q hq h),fun q hq h5=>?_⟩
      rcases List.mem_cons.1 hq with rfl | hq
      ·exact g5 q hkk.1 (g3 h5)
      ·exact g6 q hq h5
   by_cases hr:0≤(lkL (lk l n) (zR l[i.toNat]) 0 (b.set i.toNat 1)).1
   ·rw [if_pos hr] at hf; cases hf
   rw [if_neg hr] at hf ⊢
   obtain ⟨g1,g2,g3⟩:=key (zR l[i.toNat]) 0 _ (Int.le_refl _) (hg _ (List.getElem_mem hit)).2 hs1 (by omega) hd1 (by omega)
   have hlen:i.toNat<(lkL (lk l n) (zR l[i.toNat]) 0 (b.set i.toNat 1)).2.length:=by
    rw [(lkL_sn hs1).1]; exact hit
   refine ⟨fun j hj0 hj=>?_,fun j hj0 hj=>?_,fun _=>?_⟩
   ·simp only at hj
    rw [wW] at hj
    split at hj
    ·rename_i hji
     have:j=i:=by omega
     subst this
     refine ⟨_,fun q hq=>?_⟩
     obtain ⟨q1,q2,q3⟩:=hq
     rw [hin] at q2
     have hqv:=(hg _ (List.getElem_mem hit)).2 q q2
     exact g1 q hqv.1 (g3 q q2 q3)
    ·exact g1 j hj0 hj
   ·simp only
    rw [wW]
    split
    ·rfl
    ·refine g2 j hj0 ?_
     rw [wW]
     split
     ·rename_i hji
      have:j=i:=by omega
      subst this
      exact absurd hj h2
     ·exact hj
   ·simp only
    rw [wW,if_pos ⟨rfl,hlen⟩]
  ·rw [if_neg hk] at hf ⊢
   exact ⟨hd,fun _ _ h=>h,fun h5=>absurd (hin ▸ h5) hk⟩
/-- No closure of a table without circles leads back to itself. -/
theorem acc_of {l:List Inst} (hl:l.length<20) (hg:tC l) (hc:circ l=false):∀i:Int,0≤i→i<l.length→(zG l i).kind=5→Acc (Clo l) i:=by
 have key:∀(ks:List Int) (j:Int) (c:List Int),0≤j→(∀k∈ks,0≤k∧k<l.length)→Sn l c→c.count 0<20→DAcc l c→(lkL (lk l 20) ks j c).1<0 →
   DAcc l (lkL (lk l 20) ks j c).2∧Stay c (lkL (lk l 20) ks j c).2∧∀k∈ks,(zG l k).kind=5→iAt (lkL (lk l 20) ks j c).2 k=2:=by
  intro ks
  induction ks with
  | nil=>intro j c _ _ _ _ hdc _; exact ⟨hdc,fun _ _ h=>h,fun k hk=>by cases hk⟩
  | cons k ks ih =>
   intro j c hj hks hsc hcc hdc hneg
   unfold lkL at hneg ⊢
   by_cases ht:(lk l 20 c k).1=true
   ·rw [if_pos ht] at hneg
    simp only at hneg
    omega
   ·rw [if_neg ht] at hneg ⊢
    simp only [Bool.not_eq_true] at ht
    have hkk:=hks k (by simp)
    obtain ⟨g1,g2,g3⟩:=lk_done hg 20 c k hkk.1 hkk.2 hsc hcc hdc ht
    obtain ⟨g4,g5,g6⟩:=ih (j+1) _ (by omega) (fun k' hk'=>hks k' (by simp [hk'])) (lk_sn 20 c k hsc) (Nat.lt_of_le_of_lt (wm 20 _ c k (Nat.le_refl _)) hcc) g1 hneg
    refine ⟨g4,fun q hq h=>g5 q hq (g2 q hq h),fun q hq h5=>?_⟩
    rcases List.mem_cons.1 hq with rfl | hq
    ·exact g5 q hkk.1 (g3 h5)
    ·exact g6 q hq h5
 unfold circ at hc
 simp only [decide_eq_false_iff_not] at hc
 have hz:(List.replicate l.length (0:Int)).count 0=l.length:=by simp
 obtain ⟨g1,g2,g3⟩:=key (idxs l) 0 (List.replicate l.length 0) (Int.le_refl _) (fun k hk=>by
  simp only [idxs,List.mem_map,List.mem_range] at hk
  obtain ⟨m,hm,rfl⟩:=hk
  omega) ⟨by simp,fun i x _=>.inl (by simp only [iAt,List.getElem?_replicate]; split <;> simp)⟩ (by omega) (fun i _ h=>by
   simp only [iAt,List.getElem?_replicate] at h
   split at h <;> simp at h) (by omega)
 intro i h0 h1 h5
 refine g1 i h0 (g3 i ?_ h5)
 simp only [idxs,List.mem_map,List.mem_range]
 exact ⟨i.toNat,by omega,by omega⟩
end Go.Proofs.YtchlfjhbijmdiaaGreatDoor.Ai

namespace Go.Proofs.YtchlfjhbijmdiaaGreatDoor.Ai
set_option maxRecDepth 100000
open Relation (TransGen)

/-! a table whose closures all end has no circle -/
theorem acc_irr {α:Type} {r:α→α→Prop} {a:α} (h:Acc r a):¬r a a:=by
 induction h with
 | intro a _ ih=>exact fun h=>ih a h h
def UpC (l:List Inst) (b:List Int) (i:Int):Prop:=∀j:Int,0≤j→iAt b j=1→TransGen (Clo l) i j
def OnesC (b c:List Int):Prop:=∀j:Int,0≤j→iAt c j=1→iAt b j=1
theorem lk_false {l:List Inst} (hg:tC l) (ha:∀i:Int,0≤i→i<l.length→(zG l i).kind=5→Acc (Clo l) i):∀(n:Nat) (b:List Int) (i:Int),0≤i→i<l.length→Sn l b→((zG l i).kind=5→UpC l b i) →
  (lk l n b i).1=false∧OnesC b (lk l n b i).2
 | 0,b,i,_,_,_,_=>⟨rfl,fun _ _ h=>h⟩
 | n+1,b,i,h0,h1,hs,hu=>by
  have hit:i.toNat<l.length:=by omega
  have hx:=List.getElem?_eq_getElem hit
  have hin:zG l i=l[i.toNat]:=by simp [zG,hx]
  have hcast:=Int.toNat_of_nonneg h0
  have hsn:=hs.2 i.toNat _ hx
  rw [hcast] at hsn
  unfold lk
  by_cases h2:iAt b i=2
  ·rw [if_pos h2]; exact ⟨rfl,fun _ _ h=>h⟩
  rw [if_neg h2]
  by_cases h3:iAt b i=1
  ·have hk:(zG l i).kind=5:=by
    rw [hin]
    rcases hsn with h | ⟨_,h⟩
    ·omega
    ·exact h
   exact absurd (hu hk i h0 h3) (acc_irr (ha i h0 h1 hk).transGen)
  rw [if_neg h3,hx]
  simp only
  by_cases hk:l[i.toNat].kind=5
  ·rw [if_pos hk]
   have hki:(zG l i).kind=5:=by rw [hin]; exact hk
   have hs1:=sn_set hs hx hk (v:=1) (.inl rfl)
   have key:∀(ks:List Int) (j:Int) (c:List Int),(∀k∈ks,k∈zR l[i.toNat])→Sn l c→OnesC (b.set i.toNat 1) c →
     ¬0≤(lkL (lk l n) ks j c).1+0∧OnesC (b.set i.toNat 1) (lkL (lk l n) ks j c).2∨(lkL (lk l n) ks j c).1=-1∧OnesC (b.set i.toNat 1) (lkL (lk l n) ks j c).2:=by
    intro ks
    induction ks with
    | nil=>intro j c _ _ ho; exact .inr ⟨rfl,ho⟩
    | cons k ks ih =>
     intro j c hks hsc ho
     have hkk:=(hg _ (List.getElem_mem hit)).2 k (hks k (by simp))
     obtain ⟨g1,g2⟩:=lk_false hg ha n c k hkk.1 hkk.2 hsc (fun h5 q hq hq1=>by
      have hcl:Clo l k i:=⟨hki,by rw [hin]; exact hks k (by simp),h5⟩
      have:=ho q hq hq1
      rw [wW] at this
      split at this
      ·have:q=i:=by omega
       subst this
       exact .single hcl
      ·exact TransGen.trans (.single hcl) (hu hki q hq this))
     unfold lkL
     rw [if_neg (by rw [g1]; decide)]
     exact ih (j+1) _ (fun k' hk'=>hks k' (by simp [hk'])) (lk_sn n c k hsc) (fun q hq h=>ho q hq (g2 q hq h))
   obtain ⟨g1,g2⟩:¬0≤(lkL (lk l n) (zR l[i.toNat]) 0 (b.set i.toNat 1)).1∧OnesC (b.set i.toNat 1) (lkL (lk l n) (zR l[i.toNat]) 0 (b.set i.toNat 1)).2:=by
    rcases key (zR l[i.toNat]) 0 _ (fun k h=>h) hs1 (fun _ _ h=>h) with ⟨h,h'⟩ | ⟨h,h'⟩
    ·exact ⟨by omega,h'⟩
    ·exact ⟨by omega,h'⟩
   rw [if_neg g1]
   refine ⟨rfl,fun j hj h=>?_⟩
   simp only at h
   rw [wW] at h
   split at h
   ·omega
   ·rename_i hne
    have:=g2 j hj h
    rw [wW] at this
    split at this
    ·rename_i hh
     exact absurd ⟨hh.1,by rw [(lkL_sn hs1).1]; exact hit⟩ hne
    ·exact this
  ·rw [if_neg hk]
   exact ⟨rfl,fun _ _ h=>h⟩
theorem circ_false {l:List Inst} (hg:tC l) (ha:∀i:Int,0≤i→i<l.length→(zG l i).kind=5→Acc (Clo l) i):circ l=false:=by
 have hz:∀j:Int,¬iAt (List.replicate l.length 0) j=1:=fun j h=>by
  simp only [iAt,List.getElem?_replicate] at h
  split at h <;> simp at h
 have key:∀(ks:List Int) (j:Int) (c:List Int),(∀k∈ks,0≤k∧k<l.length)→Sn l c→(∀j:Int,0≤j→¬iAt c j=1)→(lkL (lk l 20) ks j c).1=-1:=by
  intro ks
  induction ks with
  | nil=>intro j c _ _ _; rfl
  | cons k ks ih =>
   intro j c hks hsc ho
   have hkk:=hks k (by simp)
   obtain ⟨g1,g2⟩:=lk_false hg ha 20 c k hkk.1 hkk.2 hsc (fun _ q hq h=>absurd h (ho q hq))
   unfold lkL
   rw [if_neg (by rw [g1]; decide)]
   exact ih (j+1) _ (fun k' hk'=>hks k' (by simp [hk'])) (lk_sn 20 c k hsc) (fun q hq h=>ho q hq (g2 q hq h))
 unfold circ
 rw [key (idxs l) 0 _ (fun k hk=>by
  simp only [idxs,List.mem_map,List.mem_range] at hk
  obtain ⟨m,hm,rfl⟩:=hk
  omega) ⟨by simp,fun i x _=>.inl (by simp only [iAt,List.getElem?_replicate]; split <;> simp)⟩ (fun j _=>hz j)]
 rfl
theorem uk {l:List Inst} {x:Inst} {i:Int} (h1:i<l.length) (h0:0≤i):zG (l++[x]) i=zG l i:=by
 unfold zG
 rw [List.getElem?_append_left (by omega)]
theorem instAt_mem {l:List Inst} {i:Int} (h0:0≤i) (h1:i<l.length):zG l i∈l:=by
 have hit:i.toNat<l.length:=by omega
 have:zG l i=l[i.toNat]:=by simp [zG,List.getElem?_eq_getElem hit]
 rw [this]; exact List.getElem_mem hit
/-- What ends in a table ends in a longer one. -/
theorem acc_more {l:List Inst} {x:Inst} (hg:tC l) {i:Int} (h:Acc (Clo l) i):0≤i→i<l.length→Acc (Clo (l++[x])) i:=by
 induction h with
 | intro i _ ih =>
  intro h0 h1
  refine ⟨_,fun j hj=>?_⟩
  obtain ⟨g1,g2,g3⟩:=hj
  rw [uk h1 h0] at g1 g2
  have hv:=(hg _ (instAt_mem h0 h1)).2 j g2
  rw [uk hv.2 hv.1] at g3
  exact ih j ⟨g1,g2,g3⟩ hv.1 hv.2
/-- What is equal to an inst that ends ends, too. -/
theorem acc_bis {L:List Inst} {i:Int} (h:Acc (Clo L) i):∀m,Bis L i m→Acc (Clo L) m:=by
 induction h with
 | intro i hi ih =>
  intro m hb
  refine ⟨_,fun c hc=>?_⟩
  obtain ⟨g1,g2,g3⟩:=hc
  rcases bis_step hb with rfl | ⟨hs,hz⟩
  ·exact hi c ⟨g1,g2,g3⟩
  ·have hs':=hs
   simp only [shape,Bool.and_eq_true,decide_eq_true_eq] at hs'
   have hlen:(zR (zG L i)).length=(zR (zG L m)).length:=by rw [yy,yy,hs'.1.2]
   obtain ⟨t,ht,rfl⟩:=List.getElem_of_mem g2
   have ht':t<(zR (zG L i)).length:=by omega
   have hm:((zR (zG L i))[t],(zR (zG L m))[t])∈(yv (zG L i)).zip (yv (zG L m)):=by
    rw [yv,yv,List.zip_append hlen,List.mem_append]
    left
    rw [← List.getElem_zip (h:=by rw [List.length_zip]; omega)]
    exact List.getElem_mem _
   have hbb:=hz _ hm
   have hsb:=ub hbb
   simp only [shape,Bool.and_eq_true,decide_eq_true_eq] at hsb
   exact ih _ ⟨by rw [hs'.1.1.1]; exact g1,List.getElem_mem _,by rw [hsb.1.1.1]; exact g3⟩ _ hbb
end Go.Proofs.YtchlfjhbijmdiaaGreatDoor.Ai

namespace Go.Proofs.YtchlfjhbijmdiaaGreatDoor.Ai
set_option maxRecDepth 100000

/-! both programs put alike, in plain words -/
theorem hasI_more {l:List Inst} {x:Inst} {k:Int} (h:tB l k=true):tB (l++[x]) k=true:=by
 rw [xK] at h ⊢
 simp only [List.length_append,List.length_singleton]
 omega
theorem at_more {l:List Inst} {x:Inst} {k:Int} (h:tB l k=true):(l++[x])[k.toNat]?=l[k.toNat]?:=by
 rw [xK] at h
 exact List.getElem?_append_left (by omega)
theorem argE_more {l:List Inst} {x:Inst} {k:Int} (h:argE l k=0):argE (l++[x]) k=0:=by
 unfold argE at h ⊢
 split at h
 ·rename_i hk
  rw [if_pos (hasI_more hk),at_more hk]; exact h
 ·cases h
theorem modE_more {l:List Inst} {x:Inst} {m:Int×Int} (h:modE l m=0):modE (l++[x]) m=0:=by
 unfold modE at h ⊢
 split at h
 ·rename_i hk
  rw [Bool.and_eq_true] at hk
  rw [if_pos (by rw [hasI_more hk.1,hasI_more hk.2]; rfl),at_more hk.1]; exact h
 ·cases h
theorem altE_more {l:List Inst} {x:Inst} {alts:List Alt} {i:Nat} (h:wx l alts i=0):wx (l++[x]) alts i=0:=by
 unfold wx at h ⊢
 split at h
 ·rfl
 split at h
 ·cases h
 split at h
 ·cases h
 split at h
 ·cases h
 rename_i h1 h2 h3
 rw [if_neg h1,if_neg h2,if_neg h3]
 exact yM fun j hj=>argE_more (xl h j hj)
theorem ckX_more {l:List Inst} {x y:Inst} (h:ckX l y=0):ckX (l++[x]) y=0:=by
 unfold ckX at h ⊢
 split at h
 ·cases h
 split at h
 ·cases h
 split at h
 ·cases h
 split at h
 ·cases h
 split at h
 ·cases h
 rename_i h1 h2 h3 h4 h5
 rw [if_neg h1,if_neg h2,if_neg h3,if_neg h4,if_neg h5]
 split at h
 ·rename_i h6
  rw [if_pos (yM fun j hj=>altE_more (xl h6 j hj))]
  exact yM fun j hj=>modE_more (xl h j hj)
 ·rename_i h6; exact absurd h h6
theorem ckT_zero {l:List Inst} (h:ckT l=0):vv (yX l) l.length=0∧circ l=false:=by
 unfold ckT at h
 split at h
 ·rename_i h1
  refine ⟨h1,?_⟩
  cases hc:circ l with
  | false=>rfl
  | true=>rw [hc] at h; cases h
 ·rename_i h1; exact absurd h h1
theorem fst_all {l:List Inst} {x:Inst} (h:vv (yX l) l.length=0) (hx:ckX (l++[x]) x=0):vv (yX (l++[x])) (l++[x]).length=0:=by
 refine yM fun j hj=>?_
 rw [List.length_append,List.length_singleton] at hj
 unfold yX
 rcases Nat.lt_or_ge j l.length with h1 | h1
 ·rw [List.getElem?_append_left h1,List.getElem?_eq_getElem h1]
  have:=xl h j h1
  unfold yX at this
  rw [List.getElem?_eq_getElem h1] at this
  exact ckX_more this
 ·have:j=l.length:=by omega
  subst this
  rw [List.getElem?_append_right (Nat.le_refl _)]
  simp only [Nat.sub_self,List.getElem?_cons_zero]
  exact hx
theorem bad_all {l:List Inst} {x:Inst} (hx:¬ckX (l++[x]) x=0):¬ckT (l++[x])=0:=fun h=>by
 have h1:=xl (ckT_zero h).1 l.length (by simp)
 unfold yX at h1
 rw [List.getElem?_append_right (Nat.le_refl _)] at h1
 simp only [Nat.sub_self,List.getElem?_cons_zero] at h1
 exact hx h1
/-- What is equal to an inst of a right table does no harm. -/
theorem old_fine {l:List Inst} {x:Inst} (hl:l.length<20) (h:ckT l=0) (hx:ckX (l++[x]) x=0) {k:Nat} (hk:k<l.length) (hb:Bis (l++[x]) k l.length):ckT (l++[x])=0:=by
 obtain ⟨h1,h2⟩:=ckT_zero h
 have hg:=(good_of h1).2
 have h3:=fst_all h1 hx
 have hga:=(good_of h3).2
 have hac:=acc_of hl hg h2
 have hc:circ (l++[x])=false:=by
  have old:∀i:Int,0≤i→i<l.length→(zG l i).kind=5→Acc (Clo (l++[x])) i:=fun i h0 h1 h5=>acc_more hg (hac i h0 h1 h5) h0 h1
  refine circ_false hga fun i h0 hi h5=>?_
  rw [List.length_append,List.length_singleton] at hi
  by_cases hil:i<l.length
  ·rw [uk hil h0] at h5
   exact old i h0 hil h5
  ·have:i=l.length:=by omega
   subst this
   refine acc_bis (i:=k) (old k (by omega) (by omega) ?_) _ hb
   have hs:=ub hb
   simp only [shape,Bool.and_eq_true,decide_eq_true_eq] at hs
   rw [uk (by omega) (by omega)] at hs
   rw [hs.1.1.1]; exact h5
 unfold ckT
 rw [if_pos h3,hc]
 rfl
open Classical in
/-- The first inst that is equal to the new one. -/
noncomputable def findB (l:List Inst) (x:Inst):Option Nat:=(List.range l.length).find? fun (k:Nat)=>decide (Bis (l++[x]) k l.length)
abbrev PutR:=List Inst×Int×Int
noncomputable def putA (l:List Inst) (x:Inst):PutR :=
 if ckT l=0 then (if ckT (l++[x])=0 then (match findB l x with | some k=>(l,(k:Int),0) | none=>(l++[x],(l.length:Int),0)) else ([],0,ckT (l++[x]))) else ([],0,ckT l)
noncomputable def putC (l:List Inst) (x:Inst):Bool:=decide (ckX (l++[x]) x=0) && decide (iAt (cls (l++[x])) l.length<l.length)
noncomputable def putB (l:List Inst) (x:Inst):PutR :=
 if ckT l=0 then (if putC l x=true then (l,iAt (cls (l++[x])) l.length,0) else if ckT (l++[x])=0 then (l++[x],(l.length:Int),0) else ([],0,ckT (l++[x]))) else ([],0,ckT l)
theorem cls_last (l:List Inst) (x:Inst):iAt (cls (l++[x])) l.length=(clsAt (l++[x]) l.length:Int):=by
 simp [iAt,cls]
theorem put_eq {l:List Inst} {x:Inst} (hl:l.length<20):putA l x=putB l x:=by
 unfold putA putB
 by_cases h:ckT l=0
 ·rw [if_pos h,if_pos h]
  obtain ⟨c1,c2,c3⟩:=cls_spec (l++[x]) l.length
  unfold putC
  rw [cls_last]
  by_cases hx:ckX (l++[x]) x=0
  ·by_cases hc:clsAt (l++[x]) l.length<l.length
   ·rw [if_pos (c:=(_ && _)=true) (by simp [hx,hc]),if_pos (old_fine hl h hx hc c1)]
    have hf:findB l x=some (clsAt (l++[x]) l.length):=by
     unfold findB
     rw [List.find?_range_eq_some]
     refine ⟨by simpa using c1,by simpa using hc,fun j hj=>?_⟩
     simp only [Bool.not_eq_true',decide_eq_false_iff_not]
     exact fun hb=>absurd (c3 j hb) (by omega)
    rw [hf]
   ·rw [if_neg (c:=(_ && _)=true) (by simp [hc])]
    have hf:findB l x=none:=by
     unfold findB
     rw [List.find?_eq_none]
     intro j hj hb
     simp only [List.mem_range] at hj
     simp only [decide_eq_true_eq] at hb
     exact absurd (c3 j hb) (by omega)
    rw [hf]
  ·rw [if_neg (bad_all hx),if_neg (c:=(_ && _)=true) (by simp [hx]),if_neg (bad_all hx)]
 ·rw [if_neg h,if_neg h]
end Go.Proofs.YtchlfjhbijmdiaaGreatDoor.Ai

