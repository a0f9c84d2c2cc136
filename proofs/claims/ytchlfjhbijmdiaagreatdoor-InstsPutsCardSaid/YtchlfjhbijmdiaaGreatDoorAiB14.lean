/- Part of a reckoning of a Go program over abstract values, proved sound against the model. -/
import Derived.Test.YtchlfjhbijmdiaaGreatDoorAiB11
import Derived.Laws.BytesString
import Derived.Lib.ConvBytes
import Derived.Lib.Builder
import Derived.Lib.UnsafeStr
set_option linter.unusedSimpArgs false
set_option linter.unusedVariables false
namespace Go.Proofs.YtchlfjhbijmdiaaGreatDoor.Ai
open Go.RowKit (Below)

section
variable {x:Cx} {i:Nat} {o:O} {w':World}
theorem rew_le (hi:x.s.get i=some o) (hw:Wrote x.w w' (x.ρ i).1):x.le { x with w:=w' } where
 B:=rfl
 K:=fun j h=>⟨h,rfl⟩
 size:=by simp [hw.size]
 keep:=fun b _ hn=>hw.keep b (by rintro rfl; exact hn ⟨i,o,hi,rfl⟩)
 csz:=hw.csz
 own:=fun b _ h=>h
 os:=hw.os
 tape:=hw.tape
 output:=hw.output

theorem rew_rel (hx:Rel x) (hi:x.s.get i=some o) (hw:Wrote x.w w' (x.ρ i).1) (ho:tU { x with w:=w' } (x.ρ i).1 (x.ρ i).2 o):Rel { x with w:=w' } where
 lt:=hx.lt
 live:=fun j p hj=>by
  by_cases e:j=i
  ·subst e
   have:o=p:=Option.some.inj (hi.symm.trans hj)
   subst this
   exact ⟨(hx.live j o hi).1,ho⟩
  ·exact ⟨(hx.live j p hj).1,(hx.live j p hj).2.mono (rew_le hi hw) (hw.keep _ fun h=>e (hx.inj j i p o hj hi h))⟩
 inj:=hx.inj
 room:=fun b hb=>by simpa [hw.size] using hx.room b hb
 apart:=hx.apart
end

theorem wrote_freeze (w:World) (a:Addr) (n:Nat):Wrote w (w.freeze a n) a.block:=by
 unfold World.freeze
 split
 ·exact .refl _ _
 ·refine ⟨by simp,fun k hk=>?_,fun k m h=>?_,rfl,rfl,rfl⟩
  ·simp [Array.getElem?_modify,Ne.symm hk]
  ·by_cases e:k=a.block
   ·subst e
    simp only [yZ] at h ⊢
    simp only [Array.getElem?_modify,if_true]
    cases hb:w.heap[a.block]? with
    | none=>simp [hb] at h
    | some ob =>
     rw [hb] at h
     cases ob <;> simp at h ⊢
     exact h
   ·simpa [yZ,Array.getElem?_modify,Ne.symm e] using h

theorem vBytes_ok {x:Cx}:∀{cs:List V} {vs:List Value} {l:List UInt8},RepL x cs vs→vr cs=some l→∃ns:List Int,vs=ns.map (Value.int .u8)∧l=ns.map fun n=>UInt8.ofNat n.toNat
 | _,_,l,.nil,h=>by simp [vr] at h; subst h; exact ⟨[],rfl,rfl⟩
 | _,_,l,.cons hv hl,h=>by
  cases hv <;> try (simp only [vr,reduceCtorEq] at h; done)
  rename_i k n
  cases k <;> try (simp only [vr,reduceCtorEq] at h; done)
  simp only [vr,Option.map_eq_some_iff] at h
  obtain ⟨l',h1,rfl⟩:=h
  obtain ⟨ns,rfl,rfl⟩:=vBytes_ok hl h1
  exact ⟨n::ns,rfl,rfl⟩

theorem fold_bytes:∀(ns:List Int) (s:ByteArray),ns.foldl (fun r n=>r.push (UInt8.ofNat n.toNat)) s=⟨s.data++(ns.map fun n=>UInt8.ofNat n.toNat).toArray⟩
 | [],s=>by simp
 | n::ns,s=>by
  rw [List.foldl_cons,fold_bytes ns]
  apply ByteArray.ext
  simp [ByteArray.push]

theorem aConvert_ok {P:Program} {cfg:Cfg} (hc:cfg.Ok P) {x:Cx} (hx:Rel x) {nw:Nat} (hn:¬x.K nw) {src dst:TypeId} {X v:V} {cx:Value} (hX:Rep x X cx) {s':S} (h:yo cfg nw x.s src dst X=some (v,s')) :
  ∃y c,(convert src dst cx).run P x.w=.ok c y.w∧x.le y∧Rel y∧y.s=s'∧Rep y v c∧(∀i,y.K i→i=nw∨x.K i):=by
 unfold yo at h
 simp only [Option.bind_eq_bind,Option.bind_eq_some_iff] at h
 obtain ⟨a,hta,b,htb,h⟩:=h
 have hu:=(hc.ty _ _ hta).und
 have hd:=(hc.ty _ _ htb).und
 have same:∀{v:V} {c:Value},(convert src dst cx).run P x.w=.ok c x.w→Rep x v c→∃y c,(convert src dst cx).run P x.w=.ok c y.w∧x.le y∧Rel y∧y.s=x.s∧Rep y v c∧(∀i,y.K i→i=nw∨x.K i) :=
  fun h1 h2=>⟨x,_,h1,.refl x,hx,rfl,h2,fun i hi=>.inr hi⟩
 split at h
 ·rename_i e1 e2
  rw [e1] at hu; rw [e2] at hd
  injection h with h; injection h with h1 h2; subst h1 h2
  cases hX
  exact same (by simp [convert,run_underlying hu,run_underlying hd,Conv.intToInt]) (.int _ _)
 ·rename_i e1 e2
  rw [e1] at hu; rw [e2] at hd
  injection h with h; injection h with h1 h2; subst h1 h2
  cases hX
  exact same (by simp [convert,run_underlying hu,run_underlying hd]) (.str _)
 ·rename_i e e1 e2
  rw [e1] at hu; rw [e2] at hd
  simp only [Option.bind_eq_some_iff] at h
  obtain ⟨i,hi,h⟩:=h
  have hie:=(hc.ty _ _ hi).und
  split at h
  case h_2=>cases h
  rename_i ei
  rw [ei] at hie
  split at h
  ·injection h with h; injection h with h1 h2; subst h1 h2
   cases hX
   refine same ?_ (.str _)
   rw [run_convert_bytes_string x.w src dst e _ _ _ hu hie hd]
   simp [Conv.bytesToString]
  ·rename_i hnn
   simp only [Option.bind_eq_some_iff] at h
   obtain ⟨⟨cs,n⟩,hel,l,hl,h⟩:=h
   simp only at hl h
   split at h
   ·cases h
   ·rename_i hns
    injection h with h; injection h with h1 h2; subst h1 h2
    obtain ⟨hlen,arr,hfc,hrep,hz⟩:=elems_ok (P:=P) hx hX hel
    obtain ⟨ns,hns1,hns2⟩:=vBytes_ok hrep hl
    have fin:∀ad len cap,cx=.slice (some ad) len cap→n=len→∃y c,(convert src dst cx).run P x.w=.ok c y.w∧x.le y∧Rel y∧y.s=x.s∧Rep y (.str ⟨l.toArray⟩) c∧(∀i,y.K i→i=nw∨x.K i):=by
     intro ad len cap e e2
     subst e e2
     refine same ?_ (.str _)
     rw [run_convert_bytes_string x.w src dst _ _ _ _ hu hie hd]
     have hfc2:=hfc x.w rfl
     simp only [Builtin.firstCells,Nat.mul_one] at hfc2
     have harr:arr=(ns.map (Value.int .u8)).toArray:=by rw [← hns1]
     rw [harr] at hfc2
     rw [run_bytesToString x.w _ _ _ ns hfc2,fold_bytes,hns2]
     simp
    have hln:=hlen x.w
    cases hX with
    | nils=>exact absurd rfl hnn
    | str s=>exact absurd rfl (hns s)
    | lempty ad cap =>
     have h0:n=0:=by
      have:(Builtin.lenOf (.slice ad 0 cap)).run P x.w=.ok 0 x.w:=by simp [Builtin.lenOf]
      rw [this] at hln; injection hln with hln; exact hln.symm
     cases ad with
     | some ad=>exact fin ad 0 cap rfl h0
     | none =>
      have hcs:=hz h0
      subst hcs
      simp [vr] at hl
      subst hl
      refine same (c:=.string .empty) ?_ (.str _)
      rw [run_convert_bytes_string x.w src dst e _ _ _ hu hie hd]
      simp [Conv.bytesToString]
    | list bb o cap sz hh hl2 hcap heven =>
     refine fin _ _ _ rfl ?_
     have:∀(len:Nat) (a:Option Addr),(Builtin.lenOf (.slice a len cap)).run P x.w=.ok len x.w:=fun len a=>by simp [Builtin.lenOf]
     rw [this] at hln; injection hln with hln; exact hln.symm
    | arr id off len sz ag cp o cap m hk h1 h2 h3 h4 h5 =>
     refine fin _ _ _ rfl ?_
     have:∀(len:Nat) (a:Option Addr),(Builtin.lenOf (.slice a len cap)).run P x.w=.ok len x.w:=fun len a=>by simp [Builtin.lenOf]
     rw [this] at hln; injection hln with hln; exact hln.symm
    | _=>simp [zh] at hel
 ·rename_i e c e1 e2
  rw [e1] at hu; rw [e2] at hd
  simp only [Option.bind_eq_some_iff] at h
  obtain ⟨i,hi,h⟩:=h
  have hie:=(hc.ty _ _ hi).und
  split at h
  case h_2=>cases h
  rename_i ei
  rw [ei] at hie
  split at h
  case isFalse=>cases h
  rename_i hsz
  injection h with h; injection h with h1 h2; subst h1 h2
  cases hX
  have hr:=Lib.run_convert_string_bytes (P:=P) x.w src dst e c hu hd hie
  have hxd:Rel { x with w:=x.w.drew }:=hx.drew rfl rfl rfl rfl
  have hled:x.le { x with w:=x.w.drew }:=le_drew rfl rfl rfl rfl
  have hsb:(Lib.bytesCells x.w e c).size=grownCap x.w c.size 0 e:=by
   have:=grownCap_ge x.w c.size 0 e
   simp [Lib.bytesCells]
   omega
  obtain ⟨hle,hrel,hk,hrho⟩:=wb (x:={ x with w:=x.w.drew }) (nw:=nw) (frz:=0) (C:=Lib.bytesCells x.w e c) (ty:=e) (ex:=false) hxd hn (uu c) (fun j u hj=>by
   simp only [Lib.bytesCells]
   rw [Array.getElem?_append_left]
   ·simpa [Array.getElem?_map] using hj
   ·have:=(List.getElem?_eq_some_iff.1 hj).1
    simpa using this) (fun h=>by cases h)
  have hgn:(({ x with w:=x.w.drew }:Cx).alloc nw (.cells (wJ c) 0 e false) (.cells (Lib.bytesCells x.w e c) e)).s.get nw=some (.cells (wJ c) 0 e false):=by simp [Cx.alloc,S.get_add]
  have hwf:=wrote_freeze (({ x with w:=x.w.drew }:Cx).alloc nw (.cells (wJ c) 0 e false) (.cells (Lib.bytesCells x.w e c) e)).w ⟨x.w.heap.size,(Lib.bytesCells x.w e c).size,none⟩ 1
  have hwf2:Wrote (({ x with w:=x.w.drew }:Cx).alloc nw (.cells (wJ c) 0 e false) (.cells (Lib.bytesCells x.w e c) e)).w (Lib.bytesWorld x.w e c) ((({ x with w:=x.w.drew }:Cx).alloc nw (.cells (wJ c) 0 e false) (.cells (Lib.bytesCells x.w e c) e)).ρ nw).1:=by
   rw [hrho]; exact hwf
  have hle2:=rew_le hgn hwf2
  refine ⟨_,_,hr,(hled.trans hle).trans hle2,rew_rel hrel hgn hwf2 ?_,rfl,?_,fun i hi=>hi⟩
  ·rw [hrho]
   refine ⟨_,_,_,_,Lib.bytesWorld_at_new x.w e c,uu c,fun j u hj=>?_,fun o ho h1 h2=>?_,fun h=>by cases h⟩
   ·simp only [Lib.bytesCells,Nat.zero_add]
    rw [Array.getElem?_append_left]
    ·simpa [Array.getElem?_map] using hj
    ·have:=(List.getElem?_eq_some_iff.1 hj).1
     simpa using this
   ·omega
  ·have:=Rep.arr (x:={ (({ x with w:=x.w.drew }:Cx).alloc nw (.cells (wJ c) 0 e false) (.cells (Lib.bytesCells x.w e c) e)) with w:=Lib.bytesWorld x.w e c }) nw 0 c.size 1 false 0 0 (grownCap x.w c.size 0 e) (Lib.bytesCells x.w e c).size hk (.inr (by rw [hrho])) (grownCap_ge _ _ _ _)
    (by
     rw [hrho]
     have h9:=Lib.bytesWorld_at_new x.w e c
     show yZ (Lib.bytesWorld x.w e c) x.w.heap.size=_
     simp only [yZ,h9]) (by rw [hrho,hsb]; omega) (.inl rfl)
   rw [hrho] at this
   exact this
 ·rename_i e1 e2
  rw [e1] at hu; rw [e2] at hd
  injection h with h; injection h with h1 h2; subst h1 h2
  cases hX
  exact same (by simp [convert,run_underlying hu,run_underlying hd,Conv.unsafePointer]) .nilp
 ·rename_i t id off e1 e2
  rw [e1] at hu; rw [e2] at hd
  simp only [Option.bind_eq_some_iff] at h
  obtain ⟨i,hi,h⟩:=h
  split at h
  case h_2=>cases h
  rename_i cs frz ty ex hg
  split at h
  case isFalse=>cases h
  rename_i hcond
  injection h with h; injection h with h1 h2; subst h1 h2
  obtain ⟨C,lo,hi',vs,hb,hl,hpre,_⟩:=(hx.live id _ hg).2
  have hoff:(x.ρ id).2+off<C.size:=by
   have hlen:=hl.length
   have h9:=hpre off _ (List.getElem?_eq_getElem (by omega))
   exact (Array.getElem?_eq_some_iff.1 h9).1
  cases hX with
  | ptr _ _ hk =>
   obtain ⟨j,hj1,hj2,hj3,hj4⟩:=(hc.ty _ _ hi).run_info x.w
   exact same (Lib.run_to_unsafe (P:=P) x.w ⟨(x.ρ id).1,(x.ρ id).2+off,none⟩ hu hd hj4 (by rw [hj2]; exact hcond.1) (e:=ty) (cells:=C.size) (by simp [World.shape?,hb]) hoff) (.ptr _ _ hk)
 ·rename_i e1 e2
  rw [e1] at hu; rw [e2] at hd
  injection h with h; injection h with h1 h2; subst h1 h2
  cases hX
  exact same (by simp [convert,run_underlying hu,run_underlying hd,Conv.unsafePointer]) .nilp
 ·rename_i u id off e1 e2
  rw [e1] at hu; rw [e2] at hd
  simp only [Option.bind_eq_some_iff] at h
  obtain ⟨ua,hui,h⟩:=h
  split at h
  case h_2=>cases h
  rename_i cs frz e ex hg
  split at h
  case isFalse=>cases h
  rename_i hcond
  injection h with h; injection h with h1 h2; subst h1 h2
  obtain ⟨C,lo,hi',vs,hb,hl,hpre,_,hex⟩:=(hx.live id _ hg).2
  obtain ⟨hb0,hsz⟩:=hex hcond.1
  have hlies:=hc.lies _ _ _ _ hcond.2
  cases hX with
  | ptr _ _ hk =>
   obtain ⟨j,hj1,hj2,hj3,hj4⟩:=(hc.ty _ _ hui).run_info x.w
   exact same (Lib.run_from_unsafe (P:=P) x.w ⟨(x.ρ id).1,(x.ρ id).2+off,none⟩ hu hd hj4 (e:=e) (cells:=C.size) (by simp [World.shape?,hb]) (by simpa [hb0,hsz] using hlies)) (.ptr _ _ hk)
 ·cases h

end Go.Proofs.YtchlfjhbijmdiaaGreatDoor.Ai

namespace Go.Proofs.YtchlfjhbijmdiaaGreatDoor.Ai
open Go.RowKit (Below)

section
variable {x:Cx} {i:Nat} {o:O} {w':World}
/-- An object that is written and given up. -/
theorem drop_le (hi:x.s.get i=some o) (hw:Wrote x.w w' (x.ρ i).1):x.le { x with w:=w',s:=x.s.del i } where
 B:=rfl
 K:=fun j h=>⟨h,rfl⟩
 size:=by simp [hw.size]
 keep:=fun b _ hn=>hw.keep b (by rintro rfl; exact hn ⟨i,o,hi,rfl⟩)
 csz:=hw.csz
 own:=fun b _ ⟨j,p,hj,hb⟩=>by
  simp only [S.get_del] at hj
  split at hj
  ·cases hj
  ·exact ⟨j,p,hj,hb⟩
 os:=hw.os
 tape:=hw.tape
 output:=hw.output

theorem drop_rel (hx:Rel x) (hi:x.s.get i=some o) (hw:Wrote x.w w' (x.ρ i).1):Rel { x with w:=w',s:=x.s.del i } where
 lt:=hx.lt
 live:=fun j p hj=>by
  simp only [S.get_del] at hj
  split at hj
  ·cases hj
  ·rename_i e
   exact ⟨(hx.live j p hj).1,(hx.live j p hj).2.mono (drop_le hi hw) (hw.keep _ fun h=>e (hx.inj j i p o hj hi h))⟩
 inj:=fun j k p q hj hk=>by
  simp only [S.get_del] at hj hk
  split at hj
  ·cases hj
  ·split at hk
   ·cases hk
   ·exact hx.inj j k p q hj hk
 room:=fun b hb=>by simpa [hw.size] using hx.room b hb
 apart:=fun j p hj=>by
  simp only [S.get_del] at hj
  split at hj
  ·cases hj
  ·exact hx.apart j p hj
end

section
variable {P:Program} {cfg:Cfg} {x:Cx}

theorem aLen_ok (hc:cfg.Ok P) (hx:Rel x) {t:TypeId} {a:ATy} (hta:cfg.ty t=some a) {X v:V} {cx:Value} (hX:Rep x X cx) (h:zy x.s a.und X=some v) (r:Array TypeId) (h0:r[0]?=some t) (q:Array Value) (hq:q[0]?=some cx) (ty:TypeId) :
  ∃c,(Builtin.len_ r ty q).run P x.w=.ok c x.w∧Rep x v c:=by
 have hu:=(hc.ty _ _ hta).und
 simp only [Builtin.len_,h0,hq,Sem.run_bind,run_underlying hu,Result.andThen_ok]
 unfold zy at h
 split at h
 ·rename_i e
  injection h with h; subst h
  cases hX
  rw [e]
  exact ⟨_,rfl,.int _ _⟩
 ·rename_i e
  injection h with h; subst h
  cases hX
  rw [e]
  exact ⟨_,rfl,.int _ _⟩
 ·rename_i e
  injection h with h; subst h
  rw [e]
  cases hX <;> exact ⟨_,rfl,.int _ _⟩
 ·rename_i e
  injection h with h; subst h
  rw [e]
  cases hX; exact ⟨_,rfl,.int _ _⟩
 ·rename_i e
  injection h with h; subst h
  rw [e]
  exact ⟨_,rfl,.int _ _⟩
 ·rename_i e
  injection h with h; subst h
  cases hX
  rw [e]
  exact ⟨_,rfl,.int _ _⟩
 ·rename_i id e
  split at h
  ·rename_i es clock hg
   injection h with h; subst h
   cases hX
   obtain ⟨E,hb,hl,_⟩:=(hx.live id _ hg).2
   rw [e]
   refine ⟨goInt E.size,?_,?_⟩
   ·have hgo:(getObj (x.ρ id).1).run P x.w=.ok (.map E clock) x.w:=by simp [getObj,Sem.run,hb]
    simp [hgo]
   ·rw [← Array.length_toList,← hl]; exact .int _ _
  ·cases h
 ·cases h

theorem fold_ok {g:V→V→Option V} {G:Value→Value→Sem Value} (hg:∀a b v ca cb,Rep x a ca→Rep x b cb→g a b=some v→∃c,(G ca cb).run P x.w=.ok c x.w∧Rep x v c) :
  ∀{l:List V} {m:List Value} {a v:V} {ca:Value},Rep x a ca→RepL x l m→foldV g a l=some v→∃c,(m.foldlM G ca).run P x.w=.ok c x.w∧Rep x v c
 | _,_,a,v,ca,ha,.nil,h=>by
  simp only [foldV,Option.some.injEq] at h; subst h
  exact ⟨ca,by simp,ha⟩
 | _,_,a,v,ca,ha,.cons hb hl,h=>by
  simp only [foldV] at h
  split at h
  ·rename_i z hz
   obtain ⟨c,h1,h2⟩:=hg _ _ _ _ _ ha hb hz
   obtain ⟨c',h3,h4⟩:=fold_ok hg h2 hl h
   exact ⟨c',by simp [List.foldlM_cons,h1,h3],h4⟩
  ·cases h

theorem max2_ok (a b v:V) (ca cb:Value) (ha:Rep x a ca) (hb:Rep x b cb) (h:max2V a b=some v):∃c,(Builtin.max2 ca cb).run P x.w=.ok c x.w∧Rep x v c:=by
 unfold max2V at h
 split at h
 ·split at h
  ·injection h with h; subst h
   cases ha; cases hb
   exact ⟨_,rfl,.int _ _⟩
  ·cases h
 ·cases h

theorem min2_ok (a b v:V) (ca cb:Value) (ha:Rep x a ca) (hb:Rep x b cb) (h:min2V a b=some v):∃c,(Builtin.min2 ca cb).run P x.w=.ok c x.w∧Rep x v c:=by
 unfold min2V at h
 split at h
 ·split at h
  ·injection h with h; subst h
   cases ha; cases hb
   exact ⟨_,rfl,.int _ _⟩
  ·cases h
 ·cases h

theorem loadBytes_ok (w:World):∀(ns:List Int) (b o:Nat) (acc:ByteArray),at_ w b o (ns.map (Value.int .u8)) →
  (loadBytes ⟨b,o,none⟩ acc ns.length).run P w=.ok ⟨acc.data++(ns.map fun n=>UInt8.ofNat n.toNat).toArray⟩ w
 | [],b,o,acc,h=>by simp [loadBytes]
 | n::ns,b,o,acc,h=>by
  have h0:w.cell? ⟨b,o,none⟩=some (.int .u8 n):=by
   have:=h 0 _ rfl
   simpa using this
  have ih:=loadBytes_ok w ns b (o+1) (acc.push (UInt8.ofNat n.toNat)) (fun j c hj=>by
   have:=h (j+1) c (by simpa using hj)
   rwa [show o+1+j=o+(j+1) by omega])
  simp only [List.length_cons,loadBytes,Sem.run_bind,run_load,h0,Result.andThen,yG]
  have e:n.toNat.toUInt8=UInt8.ofNat n.toNat:=rfl
  rw [e,ih]
  congr 1
  apply ByteArray.ext
  simp [ByteArray.push]

theorem liesAt_one {e:TypeId} (hc:P.cellsOf e=1) (count off n:Nat) (hn:off+n≤count):liesAt P P.depth e count off e n=true:=by
 have hd:P.depth=(2*(P.types.size+Made.depth)+1)+1:=rfl
 rw [hd]
 simp only [liesAt,Bool.or_eq_true]
 left
 rw [hd]
 simp [rowAt,hc,hn,sameLayout,Nat.mod_one]

theorem elems_take (hx:Rel x) {sz:Nat} {y:V} {cy:Value} (hy:Rep x y cy) {new:List V} {n:Nat} (h:zh x.s sz y=some (new,n)) (hnl:new.length=n*sz) (k:Nat) (hk:k≤n) :
  ∃arr:Array Value,(Builtin.firstCells sz k cy).run P x.w=.ok arr x.w∧RepL x (new.take (k*sz)) arr.toList:=by
 by_cases hk0:k=0
 ·subst hk0
  refine ⟨#[],?_,by simpa using .nil⟩
  unfold zh at h
  cases hy <;> simp at h
  case list=>simp [Builtin.firstCells,loadCells,loadCellsFrom]
  case lempty a cap=>cases a <;> simp [Builtin.firstCells,loadCells,loadCellsFrom]
  case nils=>simp [Builtin.firstCells]
  case arr=>simp [Builtin.firstCells,loadCells,loadCellsFrom]
  case str=>simp [Builtin.firstCells]
 have key:∀(b o len cap:Nat) (vs:List Value),RepL x new vs→at_ x.w b o vs→k*sz≤new.length→∃arr:Array Value,(Builtin.firstCells sz k (.slice (some ⟨b,o,none⟩) len cap)).run P x.w=.ok arr x.w∧RepL x (new.take (k*sz)) arr.toList:=by
  intro b o len cap vs hl hat hle
  have hlen:=hl.length
  exact ⟨(vs.take (k*sz)).toArray,run_firstCells_some (P:=P) x.w sz k ⟨b,o,none⟩ len cap _ (by rw [List.length_take]; omega) (fun j c hj=>by rw [yG]; exact (hat.take _) j c hj),by simpa using hl.take (k*sz)⟩
 unfold zh at h
 split at h
 ·simp only [Option.some.injEq,Prod.mk.injEq] at h
  omega
 ·rename_i es
  split at h
  ·rename_i hall
   simp only [Option.some.injEq,Prod.mk.injEq] at h
   obtain ⟨rfl,rfl⟩:=h
   have hall':∀e∈es,e.cells.length=sz:=by simpa using hall
   cases hy with
   | lempty a cap=>simp at hk; omega
   | list b o cap sz' hh hl hc he=>exact key b o es.length cap _ hl hh.at (by rw [flat_len hall']; exact Nat.mul_le_mul_right _ hk)
  ·cases h
 ·rename_i id off len sz' ag cp
  split at h
  ·rename_i e
   subst e
   split at h
   ·rename_i cs frz ty ex hg
    split at h
    ·rename_i hle
     simp only [Option.some.injEq,Prod.mk.injEq] at h
     obtain ⟨rfl,rfl⟩:=h
     obtain ⟨vs,hvl,hat⟩:=uM (hx.live id _ hg).2
     cases hy with
     | arr _ _ _ _ _ _ o cap n hk' hoff hlc hcs hroom hcp =>
      have ho:o=(x.ρ id).2+off:=by
       rcases hoff with h | h
       ·omega
       ·exact h
      subst ho
      refine key _ _ _ _ _ ((hvl.drop off).take (len*sz')) ((hat.drop off).take _) ?_
      have:=Nat.mul_le_mul_right sz' hk
      rw [List.length_take,List.length_drop]; omega
    ·cases h
   ·cases h
  ·cases h
 ·rename_i s
  simp only [Option.some.injEq,Prod.mk.injEq] at h
  obtain ⟨rfl,rfl⟩:=h
  cases hy
  refine ⟨(s.extract 0 k).data.map fun b=>Value.int .u8 b.toNat,by simp [Builtin.firstCells],?_⟩
  have h1:sz=1:=by
   have h2:(wJ s).length=s.size:=by simp [wJ]
   rw [h2] at hnl
   have h3:s.size*sz=s.size*1:=by omega
   exact Nat.eq_of_mul_eq_mul_left (by omega) h3
  subst h1
  have h2:=(uu (x:=x) s).take k
  have h3:((s.extract 0 k).data.map fun b=>Value.int .u8 b.toNat).toList=(s.data.toList.map fun b=>Value.int .u8 b.toNat).take k:=by
   simp [ByteArray.data_extract]
  rw [h3,Nat.mul_one]
  exact h2
 ·cases h

theorem aCopy_ok (hx:Rel x) {dT:TypeId} {X Y v:V} {cx cy:Value} (hX:Rep x X cx) (hY:Rep x Y cy) {s':S} {b:ATy} (h:aCopy x.s b.size X Y=some (v,s')) {e:TypeId} (hu:P.underlying dT=some (.slice e)) (he:TyOk P e b)
  (ts:Array TypeId) (hts:ts[0]?=some dT) (ty:TypeId) :
  ∃y c,(Builtin.copy_ ts ty #[cx,cy]).run P x.w=.ok c y.w∧x.le y∧Rel y∧y.s=s'∧Rep y v c∧y.K=x.K:=by
 unfold aCopy at h
 split at h
 case h_2=>cases h
 rename_i id off len sz ag cp
 split at h
 case h_2=>cases h
 rename_i cs frz ty' ex new n hg hel
 simp only at h
 split at h
 case isFalse=>cases h
 rename_i hcond
 obtain ⟨hsz,hroom0,hfrz,hone,hnl⟩:=hcond
 subst hsz
 injection h with h; injection h with h1 h2; subst h1 h2
 obtain ⟨hlen,_⟩:=elems_ok (P:=P) hx hY hel
 obtain ⟨arr,hfc,hnew⟩:=elems_take (P:=P) hx hY hel hnl (min n len) (Nat.min_le_left _ _)
 have hnl2:(new.take (min n len*b.size)).length=min n len*b.size:=by
  rw [List.length_take,hnl]
  have:=Nat.mul_le_mul_right b.size (Nat.min_le_left n len)
  omega
 have hk2:=Nat.mul_le_mul_right b.size (Nat.min_le_right n len)
 cases hX with
 | arr _ _ _ _ _ _ o cap m hk hoff hlc hcs hroom hcp =>
  obtain ⟨w',hr,hle,hrel⟩:=write_ok (P:=P) hx hg hnew (by
   simp only [List.all_eq_true] at hone ⊢
   exact fun v hv=>hone v (List.mem_of_mem_take hv)) (by rw [hnl2]; omega) hfrz
  refine ⟨_,_,?_,hle,hrel,rfl,.int _ _,rfl⟩
  have hs:(storeCells ⟨(x.ρ id).1,o,none⟩ arr.toList).run P x.w=.ok () w':=by
   by_cases h0:cap=0
   ·have:min n len*b.size=0:=by
     have:len=0:=by omega
     simp [this]
    rw [this] at hnew
    have harr:arr.toList=[]:=List.eq_nil_of_length_eq_zero (by simpa using hnew.length.symm)
    rw [harr] at hr ⊢
    simpa [storeCells] using hr
   ·have ho:=hoff.resolve_left h0
    subst ho
    exact hr
  have hmin:Nat.min n len=min n len:=rfl
  simp only [Builtin.copy_,hts,List.getElem?_toArray,List.getElem?_cons_zero,List.getElem?_cons_succ,Sem.run_bind,run_underlying hu,Result.andThen_ok,hlen,he.run_size,hmin,hfc,hs,Sem.run_pure]
  rfl

theorem cellsOf_size {e:TypeId} {b:ATy} (he:TyOk P e b):P.cellsOf e=b.size:=by
 obtain ⟨i,z,h1,h2,_⟩:=he.info
 simp [Program.cellsOf,h1,h2]

theorem unsafeString_ok (hc:cfg.Ok P) (hx:Rel x) {pt u:TypeId} {a b:ATy} (hta:cfg.ty pt=some a) (hau:a.und=.pointer u) (htb:cfg.ty u=some b) (hb1:b.size=1) {id off frz:Nat} {n:Int} {k:IntKind} {cs:List V} {ex:Bool} {l:List UInt8}
  (hk:x.K id) (hg:x.s.get id=some (.cells cs frz u ex)) (h0:0<n) (h63:n≤9223372036854775807) (hle:off+n.toNat≤cs.length) (hl:vr ((cs.drop off).take n.toNat)=some l) (ts:Array TypeId) (hts:ts[0]?=some pt) (ty:TypeId) :
  ∃y,(Builtin.unsafeString_ ts ty #[.pointer (some ⟨(x.ρ id).1,(x.ρ id).2+off,none⟩),.int k n]).run P x.w=.ok (.string ⟨l.toArray⟩) y.w∧x.le y∧Rel y∧y.s=x.s.del id∧y.K=x.K:=by
 have hu:P.underlying pt=some (.pointer u):=by rw [← hau]; exact (hc.ty _ _ hta).und
 have hcell:=(cellsOf_size (hc.ty _ _ htb)).trans hb1
 obtain ⟨vs,hvl,hat⟩:=uM (hx.live id _ hg).2
 obtain ⟨C,lo,hi,vs',hbk,hl',hpre,_⟩:=(hx.live id _ hg).2
 have hC:(x.ρ id).2+off+n.toNat≤C.size:=by
  have hlen:=hl'.length
  have h9:=hpre (off+n.toNat - 1) _ (List.getElem?_eq_getElem (by omega))
  have:=(Array.getElem?_eq_some_iff.1 h9).1
  omega
 obtain ⟨ns,hns1,hns2⟩:=vBytes_ok ((hvl.drop off).take n.toNat) hl
 have hnl:ns.length=n.toNat:=by
  have h1:(ns.map (Value.int .u8)).length=n.toNat:=by
   rw [← hns1,List.length_take,List.length_drop,← hvl.length]; omega
  simpa using h1
 have hlb:=loadBytes_ok (P:=P) x.w ns (x.ρ id).1 ((x.ρ id).2+off) .empty (by rw [← hns1]; exact (hat.drop off).take _)
 rw [hnl] at hlb
 have hlies:=liesAt_one (P:=P) hcell (C.size / P.cellsOf u) ((x.ρ id).2+off) n.toNat (by rw [hcell]; simpa using hC)
 have hmax:IntKind.i64.max=9223372036854775807:=rfl
 have h63':¬(9223372036854775807:Int)<n:=by omega
 have hneg:¬n<0:=by omega
 have hne:n≠0:=by omega
 have hsh:x.w.shape? (x.ρ id).1=some (u,C.size):=by simp [World.shape?,hbk]
 have hdef:Builtin.unsafeString_ ts ty #[.pointer (some ⟨(x.ρ id).1,(x.ρ id).2+off,none⟩),.int k n] =
   (do
    let n ← Go.asInt (.int k n)
    let some pt:=ts[0]? | stuck "unsafe.String: no argument types"
    if n<0 then runtimePanic (.error "unsafe.String: len out of range")
    if n > IntKind.i64.max then unsupported (.unsafePointer "String: a length above the largest int")
    if n=0 then pure (.string .empty)
    else if ← variablesAt ⟨(x.ρ id).1,(x.ρ id).2+off,none⟩ (← elemOf pt) n.toNat then do
     let s ← loadBytes ⟨(x.ρ id).1,(x.ρ id).2+off,none⟩ .empty n.toNat
     freeze ⟨(x.ρ id).1,(x.ρ id).2+off,none⟩ n.toNat
     pure (.string s)
    else unsupported (.unsafePointer "String: not so many bytes at ptr")):=rfl
 have hw:=wrote_freeze x.w ⟨(x.ρ id).1,(x.ρ id).2+off,none⟩ n.toNat
 refine ⟨_,?_,drop_le hg hw,drop_rel hx hg hw,rfl,rfl⟩
 rw [hdef,hts]
 simp [Go.asInt,asIntOf,hmax,h63',hneg,hne,variablesAt,hsh,elemOf,run_underlying hu,hlies,hlb,hns2]

/-- A builtin's run. -/
theorem builtinOp_ok (hc:cfg.Ok P) (hx:Rel x) {nw:Nat} (hn:¬x.K nw) {sl:Bool} {b:Builtin} {ts:Array TypeId} {args:List V} {cargs:List Value} (ha:RepL x args cargs) {r:R} (h:ye cfg sl nw x.s b ts.toList args=some r) (ty:TypeId) (consts:Array Bool) :
  ∃v s',r=.val v s'∧∃y c,(builtin b ts ty consts cargs.toArray).run P x.w=.ok (.value c) y.w∧x.le y∧Rel y∧y.s=s'∧Rep y v c∧(∀i,y.K i→i=nw∨x.K i):=by
 have hts:∀{t:TypeId} {l:List TypeId},ts.toList=t::l→ts[0]?=some t:=fun h=>by
  rw [← Array.getElem?_toList,h]; rfl
 unfold ye at h
 split at h
 ·rename_i t l v e
  simp only [Option.bind_eq_bind,Option.bind_eq_some_iff,Option.map_eq_some_iff] at h
  obtain ⟨a,hta,v',hv,rfl⟩:=h
  cases ha with
  | cons hX hr =>
   cases hr
   obtain ⟨c,h1,h2⟩:=aLen_ok hc hx hta hX hv ts (hts (by assumption)) #[_] rfl ty
   exact ⟨_,_,rfl,x,c,by simp [builtin,h1],.refl x,hx,rfl,h2,fun i hi=>.inr hi⟩
 ·rename_i t l v e
  simp only [Option.bind_eq_bind,Option.bind_eq_some_iff] at h
  obtain ⟨a,hta,h⟩:=h
  have hu:=(hc.ty _ _ hta).und
  cases ha with
  | cons hX hr =>
   cases hr
   split at h
   ·rename_i e' 
    injection h with h; subst h
    cases hX
    exact ⟨_,_,rfl,x,_,by simp [builtin,Builtin.cap_,hts (by assumption),run_underlying hu,e']; rfl,.refl x,hx,rfl,.int _ _,fun i hi=>.inr hi⟩
   ·rename_i e'
    split at h
    ·cases h
    rename_i hcp
    injection h with h; subst h
    cases hX with
    | arr _ _ _ _ _ _ o cap m hk hoff hlc hcs hroom hcp' =>
     have hcap:=hcp'.resolve_left hcp
     subst hcap
     exact ⟨_,_,rfl,x,_,by simp [builtin,Builtin.cap_,hts (by assumption),run_underlying hu,e']; rfl,.refl x,hx,rfl,.int _ _,fun i hi=>.inr hi⟩
   ·cases h
 ·rename_i t u X Y e
  simp only [Option.map_eq_some_iff] at h
  obtain ⟨⟨v,s'⟩,hv,rfl⟩:=h
  have e':ts=#[t,u]:=by apply Array.toList_inj.1; assumption
  cases ha with
  | cons hX hr =>
   cases hr with
   | cons hY hr =>
    cases hr
    obtain ⟨y,c,h1,h2⟩:=aAppend_ok hc hx hn hX hY hv ty
    subst e'
    exact ⟨_,_,rfl,y,c,by simp [builtin,h1],h2⟩
 ·rename_i t l X Y e
  simp only [Option.bind_eq_bind,Option.bind_eq_some_iff] at h
  obtain ⟨a,hta,h⟩:=h
  have hu:=(hc.ty _ _ hta).und
  split at h
  case h_2=>cases h
  rename_i el he
  rw [he] at hu
  simp only [Option.bind_eq_some_iff,Option.map_eq_some_iff] at h
  obtain ⟨b,htb,⟨v,s'⟩,hv,rfl⟩:=h
  cases ha with
  | cons hX hr =>
   cases hr with
   | cons hY hr =>
    cases hr
    obtain ⟨y,c,h1,h2,h3,h4,h5,h6⟩:=aCopy_ok (P:=P) hx hX hY hv hu (hc.ty _ _ htb) ts (hts (by assumption)) ty
    exact ⟨_,_,rfl,y,c,by simp [builtin,h1],h2,h3,h4,h5,fun i hi=>.inr (h6 ▸ hi)⟩
 ·simp only [Option.map_eq_some_iff] at h
  obtain ⟨s',hv,rfl⟩:=h
  cases ha with
  | cons hX hr =>
   cases hr with
   | cons hY hr =>
    cases hr
    obtain ⟨y,h1,h2,h3,h4,h5⟩:=aDelete_ok hc hx hX hY hv ts (hts (by assumption)) ty
    exact ⟨_,_,rfl,y,.tuple #[],by simp [builtin,h1],h2,h3,h4,.tup .nil,fun i hi=>.inr (h5 ▸ hi)⟩
 ·simp only [Option.map_eq_some_iff] at h
  obtain ⟨v,hv,rfl⟩:=h
  cases ha with
  | cons hX hr =>
   obtain ⟨c,h1,h2⟩:=fold_ok (P:=P) (G:=Builtin.max2) max2_ok hX hr hv
   exact ⟨_,_,rfl,x,c,by simp [builtin,Builtin.max_,h1],.refl x,hx,rfl,h2,fun i hi=>.inr hi⟩
 ·simp only [Option.map_eq_some_iff] at h
  obtain ⟨v,hv,rfl⟩:=h
  cases ha with
  | cons hX hr =>
   obtain ⟨c,h1,h2⟩:=fold_ok (P:=P) (G:=Builtin.min2) min2_ok hX hr hv
   exact ⟨_,_,rfl,x,c,by simp [builtin,Builtin.min_,h1],.refl x,hx,rfl,h2,fun i hi=>.inr hi⟩
 ·cases ha with
  | cons hX hr =>
   cases hr
   split at h
   ·injection h with h; subst h
    cases hX
    exact ⟨_,_,rfl,x,_,by simp [builtin,Lib.run_unsafeSliceData_nil],.refl x,hx,rfl,.nilp,fun i hi=>.inr hi⟩
   ·rename_i id off len sz ag cp
    split at h
    ·cases h
    rename_i hlen
    injection h with h; subst h
    cases hX with
    | arr _ _ _ _ _ _ o cap m hk hoff hlc hcs hroom hcp' =>
     have ho:=hoff.resolve_left (by omega)
     subst ho
     exact ⟨_,_,rfl,x,_,by simp [builtin,Lib.run_unsafeSliceData_row (P:=P) x.w ts ty _ len cap (by omega)],.refl x,hx,rfl,.ptr _ _ hk,fun i hi=>.inr hi⟩
   ·cases h
 ·rename_i t l k e
  injection h with h; subst h
  cases ha with
  | cons hX hr =>
   cases hr with
   | cons hY hr =>
    cases hr
    cases hX; cases hY
    have hts':=hts (by assumption)
    have hdef:Builtin.unsafeString_ ts ty #[.pointer none,.int k 0] =
      (do
       let n ← Go.asInt (.int k 0)
       let some pt:=ts[0]? | stuck "unsafe.String: no argument types"
       if n<0 then runtimePanic (.error "unsafe.String: len out of range")
       if n > IntKind.i64.max then unsupported (.unsafePointer "String: a length above the largest int")
       if n=0 then pure (.string .empty)
       else runtimePanic (.error "unsafe.String: ptr is nil and len is not zero")):=rfl
    have hmax:IntKind.i64.max=9223372036854775807:=rfl
    refine ⟨_,_,rfl,x,.string .empty,?_,.refl x,hx,rfl,.str _,fun i hi=>.inr hi⟩
    simp [builtin,hdef,hts',Go.asInt,asIntOf,hmax]
 ·rename_i pt l id off k n e
  simp only [Option.bind_eq_bind,Option.bind_eq_some_iff] at h
  obtain ⟨a,hta,h⟩:=h
  split at h
  case h_2=>cases h
  rename_i u hau
  simp only [Option.bind_eq_some_iff] at h
  obtain ⟨b,htb,h⟩:=h
  split at h
  case h_2=>cases h
  rename_i cs frz e' ex hg
  split at h
  case isFalse=>cases h
  rename_i hcond
  obtain ⟨h0,h63,rfl,hb1,hle⟩:=hcond
  split at h
  case h_2=>cases h
  rename_i l' hl
  injection h with h; subst h
  cases ha with
  | cons hX hr =>
   cases hr with
   | cons hY hr =>
    cases hr
    cases hY
    cases hX with
    | ptr _ _ hk =>
     obtain ⟨y,h1,h2,h3,h4,h5⟩:=unsafeString_ok (k:=k) hc hx hta hau htb hb1 hk hg h0 h63 hle hl ts (hts (by assumption)) ty
     exact ⟨_,_,rfl,y,_,by simp [builtin,h1],h2,h3,h4,.str _,fun i hi=>.inr (h5 ▸ hi)⟩
 ·cases h
end
end Go.Proofs.YtchlfjhbijmdiaaGreatDoor.Ai

namespace Go.Proofs.YtchlfjhbijmdiaaGreatDoor.Ai
open Go.RowKit (Below)

/-! iterators -/
theorem yr {P:Program} {w:World} {b:Nat} {o:Obj} (h:w.heap[b]?=some o) (hn:∀c e f,o≠.cells c e f:=by intros; simp):(getObj b).run P w=.ok o w:=by
 cases o <;> first | exact absurd rfl (hn _ _ _) | simp [getObj,Sem.run,h]

theorem xP {P:Program} {w:World} {b:Nat} {o o':Obj} (h:w.heap[b]?=some o) (hn:∀c e f,o≠.cells c e f:=by intros; simp):(setObj b o').run P w=.ok () { w with heap:=w.heap.setIfInBounds b o' }:=by
 cases o <;> first | exact absurd rfl (hn _ _ _) | simp [setObj,Sem.run,h]

theorem new_iter {x:Cx} {nw:Nat} (hx:Rel x) (hn:¬x.K nw) {o:O} {c:Obj} (ho:tU (x.alloc nw o c) x.w.heap.size 0 o) :
  x.le (x.alloc nw o c)∧Rel (x.alloc nw o c)∧Rep (x.alloc nw o c) (.ptr nw 0) (.pointer (some ⟨x.w.heap.size,0,none⟩))∧∀i,(x.alloc nw o c).K i→i=nw∨x.K i:=by
 refine ⟨ux hx hn,ud hx hn ho,?_,fun i h=>h⟩
 have:=Rep.ptr (x:=x.alloc nw o c) nw 0 (.inl rfl)
 simpa [Cx.alloc,upd] using this

theorem aRange_ok {P:Program} {cfg:Cfg} (hc:cfg.Ok P) {x:Cx} (hx:Rel x) {nw:Nat} (hn:¬x.K nw) {t:TypeId} {v r:V} {cv:Value} {s':S} (hv:Rep x v cv) (h:aRange cfg nw x.s t v=some (r,s')) :
  ∃y c,(Instr.range t cv).run P x.w=.ok c y.w∧x.le y∧Rel y∧y.s=s'∧Rep y r c∧∀i,y.K i→i=nw∨x.K i:=by
 unfold aRange at h
 simp only [Option.bind_eq_bind,Option.bind_eq_some_iff] at h
 obtain ⟨a,hta,h⟩:=h
 have hu:=(hc.ty _ _ hta).und
 split at h
 ·rename_i b he
  cases hv
  rw [he] at hu
  simp only [Option.some.injEq,Prod.mk.injEq] at h
  obtain ⟨rfl,rfl⟩:=h
  obtain ⟨h1,h2,h3,h4⟩:=new_iter (x:=x) (o:=.siter b 0) (c:=.stringIter b 0) hx hn ⟨rfl,yl _ _⟩
  exact ⟨_,_,by simp [Instr.range,run_underlying hu,newObj,Sem.run,Cx.alloc],h1,h2,rfl,h3,h4⟩
 ·rename_i k e he
  cases hv
  rw [he] at hu
  simp only [Option.some.injEq,Prod.mk.injEq] at h
  obtain ⟨rfl,rfl⟩:=h
  obtain ⟨h1,h2,h3,h4⟩:=new_iter (x:=x) (o:=.iter none 0 [] 0) (c:=.mapIter none 0 #[] 0) hx hn ⟨rfl,yl _ _⟩
  exact ⟨_,_,by simp [Instr.range,run_underlying hu,newObj,Sem.run,Cx.alloc],h1,h2,rfl,h3,h4⟩
 ·rename_i k e id he
  split at h
  case h_2=>cases h
  rename_i es clock hg
  cases hv with
  | map _ hk =>
   rw [he] at hu
   simp only [Option.some.injEq,Prod.mk.injEq] at h
   obtain ⟨rfl,rfl⟩:=h
   obtain ⟨E,hb,hE⟩:=(hx.live id _ hg).2
   obtain ⟨h1,h2,h3,h4⟩:=new_iter (x:=x) (o:=.iter (some id) clock [] clock) (c:=.mapIter (some (x.ρ id).1) clock #[] clock) hx hn (by
    have hne:id≠nw:=by rintro rfl; exact hn hk
    refine ⟨rfl,.inr hk,?_⟩
    have:(x.alloc nw (.iter (some id) clock [] clock) (.mapIter (some (x.ρ id).1) clock #[] clock)).ρ id=x.ρ id:=by simp [Cx.alloc,upd,hne]
    rw [this]
    exact yl _ _)
   exact ⟨_,_,by simp [Instr.range,run_underlying hu,yr hb,newObj,Sem.run,Cx.alloc],h1,h2,rfl,h3,h4⟩
 ·cases h

theorem uA.filter {x:Cx} (p:Nat→Bool):∀{es:List (V×V×Nat)} {E:List MapEntry},uA x es E→uA x (es.filter fun e=>p e.2.2) (E.filter fun m=>p m.born)
 | [],[],h=>h
 | [],_::_,h=>by have:=h.1; simp at this
 | _::_,[],h=>by have:=h.1; simp at this
 | e::es,m::E,h=>by
  obtain ⟨m',hm',r1,r2,r3⟩:=h.2 0 e (by simp)
  simp at hm'; subst hm'
  have he':uA x es E:=⟨by simpa using h.1,fun j e hj=>by simpa using h.2 (j+1) e (by simpa using hj)⟩
  have ih:=uA.filter p he'
  rw [List.filter_cons,List.filter_cons,r3]
  split
  ·exact ⟨by simp [ih.1],fun j e' hj=>by
    cases j with
    | zero=>simp only [List.getElem?_cons_zero,Option.some.injEq] at hj; subst hj; exact ⟨m,rfl,r1,r2,r3⟩
    | succ j=>simpa using ih.2 j e' (by simpa using hj)⟩
  ·exact ih

theorem uA.all {x:Cx} (p:Nat→Bool):∀{es:List (V×V×Nat)} {E:List MapEntry},uA x es E→(es.all fun e=>p e.2.2)=E.all fun m=>p m.born
 | [],[],h=>rfl
 | [],_::_,h=>by have:=h.1; simp at this
 | _::_,[],h=>by have:=h.1; simp at this
 | e::es,m::E,h=>by
  obtain ⟨m',hm',r1,r2,r3⟩:=h.2 0 e (by simp)
  simp at hm'; subst hm'
  have he':uA x es E:=⟨by simpa using h.1,fun j e hj=>by simpa using h.2 (j+1) e (by simpa using hj)⟩
  simp [uA.all p he',r3]

theorem uA.nil_inv {x:Cx} {E:List MapEntry} (h:uA x [] E):E=[]:=by
 have:=h.1; cases E <;> simp at this ⊢

theorem uA.one_inv {x:Cx} {e:V×V×Nat} {E:List MapEntry} (h:uA x [e] E):∃m,E=[m]∧Rep x e.1 m.key∧Rep x e.2.1 m.val∧m.born=e.2.2:=by
 have h1:=h.1
 match E,h1 with
 | [m],_ =>
  obtain ⟨m',hm',r⟩:=h.2 0 e rfl
  simp at hm'; subst hm'
  exact ⟨m,rfl,r⟩

theorem aNext_ok {P:Program} {x:Cx} (hx:Rel x) {it r:V} {cit:Value} {str:Bool} {ty:TypeId} {s':S} (hv:Rep x it cit) (h:aNext x.s it str=some (r,s')) :
  ∃y c,(Instr.next cit str ty).run P x.w=.ok c y.w∧x.le y∧Rel y∧y.s=s'∧y.K=x.K∧Rep y r c:=by
 unfold aNext at h
 split at h
 case h_2=>cases h
 rename_i r0
 cases hv with
 | ptr _ _ hk =>
  have over:∀w:World,(pure (.tuple #[.bool false]):Sem Value).run P w=.ok (.tuple #[.bool false]) w:=fun _=>rfl
  have rfalse:Rep x (.tup [.bool false]) (.tuple #[.bool false]):=.tup (C:=#[.bool false]) (.cons (.bool _) .nil)
  split at h
  ·rename_i b pos hg
   obtain ⟨hb0,hb⟩:=(hx.live r0 _ hg).2
   rw [hb0]
   split at h
   ·rename_i hp
    simp only [Option.some.injEq,Prod.mk.injEq] at h
    obtain ⟨rfl,rfl⟩:=h
    have hcs:yZ x.w (x.ρ r0).1=none:=by simp [yZ,hb]
    have hlt:=(hx.live r0 _ hg).2.lt
    have hw:=xd x.w (x.ρ r0).1 (.stringIter b (pos+(Utf8.decode b pos).2)) hcs
    have hle:=vJ (o':=.siter b (pos+(Utf8.decode b pos).2)) hg hw
    refine ⟨_,_,?_,hle,wR hx hg hw ⟨hb0,by simp [Cx.putc,hlt]⟩,rfl,rfl,.tup (C:=#[.bool true,.int .i64 pos,.int .i32 (Utf8.decode b pos).1]) (.cons (.bool _) (.cons (.int _ _) (.cons (.int _ _) .nil)))⟩
    simp [Instr.next,yr hb,hp,xP hb,Cx.putc,goInt]
   ·rename_i hp
    simp only [Option.some.injEq,Prod.mk.injEq] at h
    obtain ⟨rfl,rfl⟩:=h
    exact ⟨x,_,by simp [Instr.next,yr hb,hp],.refl x,hx,rfl,rfl,rfalse⟩
  ·rename_i since seen last hg
   obtain ⟨hb0,hb⟩:=(hx.live r0 _ hg).2
   rw [hb0]
   simp only [Option.some.injEq,Prod.mk.injEq] at h
   obtain ⟨rfl,rfl⟩:=h
   exact ⟨x,_,by simp [Instr.next,yr hb],.refl x,hx,rfl,rfl,rfalse⟩
  ·rename_i id since seen last hg
   split at h
   case h_2=>cases h
   rename_i es clock hm
   obtain ⟨hb0,hkid,hb⟩:=(hx.live r0 _ hg).2
   obtain ⟨E,hbm,hE⟩:=(hx.live id _ hm).2
   rw [hb0]
   split at h
   ·cases h
   rename_i hguard
   have hguard':(!seen.toArray.isEmpty && !E.isEmpty && E.all fun e=>decide (e.born≥last))=false:=by
    have h1:=uA.all (fun n=>decide (last≤n)) hE
    have h2:=hE.isEmpty
    have h3:(E.all fun e=>decide (e.born≥last))=E.toList.all fun m=>decide (last≤m.born):=by rw [← Array.all_toList]
    have h4:E.isEmpty=E.toList.isEmpty:=by simp
    have h5:seen.toArray.isEmpty=seen.isEmpty:=by simp
    rw [h3,h4,h5,← h1,← h2]
    simpa using hguard
   have hleft:=(hE.filter (fun n=>!seen.contains n))
   have hold:=hleft.filter (fun n=>decide (n<since))
   have hnew:=hleft.filter (fun n=>decide (since≤n))
   have e1:((E.filter fun e=>!seen.toArray.contains e.born).filter fun e=>decide (e.born<since)).toList=(E.toList.filter fun m=>!seen.contains m.born).filter fun m=>decide (m.born<since):=by
    simp
   have e2:((E.filter fun e=>!seen.toArray.contains e.born).filter fun e=>decide (e.born≥since)).toList=(E.toList.filter fun m=>!seen.contains m.born).filter fun m=>decide (since≤m.born):=by
    simp
   have hgm:=yr (P:=P) hbm
   split at h
   ·rename_i ho hnw
    rw [ho] at hold
    rw [hnw] at hnew
    simp only [Option.some.injEq,Prod.mk.injEq] at h
    obtain ⟨rfl,rfl⟩:=h
    have f1:((E.filter fun e=>!seen.toArray.contains e.born).filter fun e=>decide (e.born<since))=#[]:=by
     rw [← Array.toList_inj,e1,hold.nil_inv]
    have f2:((E.filter fun e=>!seen.toArray.contains e.born).filter fun e=>decide (e.born≥since))=#[]:=by
     rw [← Array.toList_inj,e2,hnew.nil_inv]
    refine ⟨x,_,?_,.refl x,hx,rfl,rfl,rfalse⟩
    simp only [Instr.next,Sem.run_bind,yr hb,Result.andThen_ok,hgm,hguard',f1,f2]
    simp [Question.forced]
   ·rename_i e ho hnw
    rw [ho] at hold
    rw [hnw] at hnew
    simp only [Option.some.injEq,Prod.mk.injEq] at h
    obtain ⟨rfl,rfl⟩:=h
    obtain ⟨m,hm1,r1,r2,r3⟩:=hold.one_inv
    have f1:((E.filter fun e=>!seen.toArray.contains e.born).filter fun e=>decide (e.born<since))=#[m]:=by
     rw [← Array.toList_inj,e1,hm1]
    have f2:((E.filter fun e=>!seen.toArray.contains e.born).filter fun e=>decide (e.born≥since))=#[]:=by
     rw [← Array.toList_inj,e2,hnew.nil_inv]
    have hcs:yZ x.w (x.ρ r0).1=none:=by simp [yZ,hb]
    have hlt:=(hx.live r0 _ hg).2.lt
    have hw:=xd x.w (x.ρ r0).1 (.mapIter (some (x.ρ id).1) since (seen++[e.2.2]).toArray clock) hcs
    have hle:=vJ (o':=.iter (some id) since (seen++[e.2.2]) clock) hg hw
    refine ⟨_,.tuple #[.bool true,m.key,m.val],?_,hle,wR hx hg hw ⟨hb0,hkid,by simp [Cx.putc,hlt]⟩,rfl,rfl,.tup (C:=#[.bool true,m.key,m.val]) (.cons (.bool _) (.cons (r1.mono hle) (.cons (r2.mono hle) .nil)))⟩
    simp only [Instr.next,Sem.run_bind,yr hb,Result.andThen_ok,hgm,hguard',f1,f2]
    simp [Question.forced,xP hb,Cx.putc,r3]
   ·cases h
  ·cases h

theorem find_ent {x:Cx} (stamp:Nat):∀{es:List (V×V×Nat)} {E:List MapEntry},uA x es E→∀{e:V×V×Nat},es.find? (fun e=>e.2.2 == stamp)=some e→∃m,E.find? (fun m=>m.born == stamp)=some m∧Rep x e.1 m.key∧Rep x e.2.1 m.val
 | [],[],h,e,he=>by simp at he
 | [],_::_,h,e,he=>by simp at he
 | _::_,[],h,e,he=>by have:=h.1; simp at this
 | e0::es,m::E,h,e,he=>by
  obtain ⟨m',hm',r1,r2,r3⟩:=h.2 0 e0 (by simp)
  simp at hm'; subst hm'
  have he':uA x es E:=⟨by simpa using h.1,fun j e hj=>by simpa using h.2 (j+1) e (by simpa using hj)⟩
  rw [List.find?_cons] at he
  rw [List.find?_cons,r3]
  split at he
  ·injection he with he
   subst he
   exact ⟨m,rfl,r1,r2⟩
  ·exact find_ent stamp he' he

theorem aEntry_ok {P:Program} {x:Cx} (hx:Rel x) {it r:V} {cit:Value} (hv:Rep x it cit) (h:aEntry x.s it=some r):∃c,(Instr.entry cit).run P x.w=.ok c x.w∧Rep x r c:=by
 unfold aEntry at h
 split at h
 case h_2=>cases h
 rename_i r0
 cases hv with
 | ptr _ _ hk =>
  split at h
  case h_2=>cases h
  rename_i id since seen stepped hg
  split at h
  case h_2=>cases h
  rename_i es clock stamp hm hs
  obtain ⟨hb0,hkid,hb⟩:=(hx.live r0 _ hg).2
  obtain ⟨E,hbm,hE⟩:=(hx.live id _ hm).2
  rw [hb0]
  split at h
  case isFalse=>cases h
  rename_i hcl
  subst hcl
  simp only [Option.map_eq_some_iff] at h
  obtain ⟨e,he,rfl⟩:=h
  obtain ⟨m,hm1,r1,r2⟩:=find_ent stamp hE he
  have hback:seen.toArray.back?=some stamp:=by simpa using hs
  have hfind:E.find? (fun m=>m.born == stamp)=some m:=by rw [← Array.find?_toList]; exact hm1
  refine ⟨.tuple #[m.key,m.val],?_,.tup (C:=#[m.key,m.val]) (.cons r1 (.cons r2 .nil))⟩
  simp [Instr.entry,yr hb,yr hbm,hback,hfind]
end Go.Proofs.YtchlfjhbijmdiaaGreatDoor.Ai

