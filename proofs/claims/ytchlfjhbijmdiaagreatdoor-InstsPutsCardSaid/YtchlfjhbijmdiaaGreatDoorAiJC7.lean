/- Part of a reckoning of a Go program over abstract values, proved sound against the model. -/
import Derived.Test.YtchlfjhbijmdiaaGreatDoorAiJC5
set_option linter.unusedSimpArgs false
set_option linter.unusedVariables false
namespace Go.Proofs.YtchlfjhbijmdiaaGreatDoor.Ai
open Go.Proofs
set_option maxRecDepth 100000
set_option maxHeartbeats 4000000

def g40_3:AC:=(.seq (.reg 3 f40_r3o [6]) .ret)
def g40_5:AC:=(.seq (.reg 5 f40_r5o [6]) .ret)
def g40_7:AC:=(.seq (.reg 7 f40_r7o [6]) .ret)
def g40_12:AC:=(.seq (.reg 12 f40_r12o [6]) .ret)
def g40_15:AC:=(.seq (.reg 15 f40_r15o [6]) .ret)
def g40_16:AC:=(.seq (.reg 16 f40_r16o [6]) .ret)
def a40_0:AC:=(.reg 0 f40_r0o [0,1,2,19,20,21,22,27,28,29,30,31,32,33,34,54,55,56,57,58,59,60,61,75,76,79,80])
def a40_1:AC:=(.reg 1 f40_r1o [0,1,2,7,19,20,21,22,27,28,29,30,31,32,33,34,54,55,56,57,58,59,60,61,75,76,79,80])
def a40_2:AC:=(.reg 2 f40_r2o [0,1,2,7,23,27,28,29,30,31,32,33,34,54,55,56,57,58,59,60,61,75,76,79,80])
def a40_4:AC:=(.draw 4 vO [0,7,35,54,55,56,57,58,59,60,61,75,76,79,80])
def a40_6:AC:=(.reg 6 f40_r6o [0,7,39,54,55,56,57,58,59,60,61,75,76,79,80])
def a40_8:AC:=(.reg 8 f40_r8o [0,7,8,54,55,56,57,58,59,60,61,75,76,79,80])
def a40_9:AC:=(.reg 9 f40_r9o [0,7,8,44,54,55,56,57,58,59,60,61,75,76,79,80])
def a40_10:AC:=(.reg 10 f40_r10o [0,7,8,54,55,56,57,58,59,60,61,75,76,79,80])
def a40_11:AC:=(.reg 11 f40_r11o [0,7,8,54,55,56,57,58,59,60,61,62,75,76,79,80])
def a40_13:AC:=(.reg 13 f40_r13o [0,7,8,9,54,55,56,57,58,59,60,61,75,76,79,80])
def a40_14:AC:=(.reg 14 tG [0,7,8,54,55,56,57,58,59,60,61,75,76,79,80,81])
def g20_2:AC:=(.seq (.reg 2 f20_r2o [4]) .ret)
def g20_4:AC:=(.seq (.reg 4 f20_r4o [4]) .ret)
def g20_6:AC:=(.seq (.reg 6 f20_r6o [4]) .ret)
def g20_8:AC:=(.seq (.reg 8 f20_r8o [4]) .ret)
def g20_10:AC:=(.seq (.reg 10 f20_r10o [4]) .ret)
def g20_22:AC:=(.seq (.reg 22 f20_r22o [4]) .ret)
def g20_24:AC:=(.seq (.reg 24 f20_r24o [4]) .ret)
def g20_25:AC:=(.seq (.reg 25 f20_r25o [4]) .ret)
def a20_0:AC:=(.reg 0 f20_r0o [0,3,13,14,15,21,22,23,24,27,28,29,30,31,32,33,34,35,36,37,38,39,40,46,47,48,49,56,57,58,59,65,66,67,100,101,102,103,104,107,108,109,112,113,114,115,116,126,127,128,129,130,131,132])
def a20_11:AC:=(.reg 11 f20_r11o [0,3,5,100,101,102,103,104,107,108,109,112,113,114,115,116,126,127,128,129,130,131,132])
def a20_17:AC:=(.reg 17 f20_r17o [0,3,7,100,101,102,103,104,107,108,109,112,113,114,115,116,126,127,128,129,130,131,132])
def a20_18:AC:=(.reg 18 f20_r18o [0,3,7,88,100,101,102,103,104,107,108,109,112,113,114,115,116,126,127,128,129,130,131,132])
def a20_19:AC:=(.reg 19 f20_r19o [0,3,7,100,101,102,103,104,107,108,109,112,113,114,115,116,126,127,128,129,130,131,132])
def a20_20:AC:=(.reg 20 f20_r20o [0,3,7,8,100,101,102,103,104,107,108,109,112,113,114,115,116,126,127,128,129,130,131,132])
def a20_21:AC:=(.reg 21 ur [0,3,7,8,100,101,102,103,104,107,108,109,112,113,114,115,116,117,126,127,128,129,130,131,132])
def a20_23:AC:=(.reg 23 f20_r23o [0,3,7,100,101,102,103,104,107,108,109,112,113,114,115,116,126,127,128,129,130,131,132,133])
def c40:AC:=(.seq (.seq a40_11 (.cond (.tmp 62) g40_12 .skip)) (.seq a40_13 (.seq a40_14 (.cond (.tmp 81) g40_15 .skip))))
theorem f40_l0_top:f40_l0=(.seq (.seq a40_9 (.cond (.tmp 44) .skip (.exit 0))) (.seq (.block 1 c40) a40_10)):=rfl
def k40:AC:=(.seq (.seq a40_2 (.cond (.tmp 23) g40_3 .skip)) (.seq (.seq a40_4 (.cond (.tmp 35) g40_5 .skip)) (.seq (.seq a40_6 (.cond (.tmp 39) g40_7 .skip)) (.seq (.seq a40_8 (.block 0 (.loop f40_l0))) g40_16))))
theorem top40:f40_ac=(.seq a40_0 (.seq a40_1 k40)):=rfl
def c20:AC:=(.seq (.seq a20_21 (.cond (.tmp 117) g20_22 .skip)) (.seq a20_23 (.cond (.tmp 133) g20_24 .skip)))
theorem f20_l1_top:f20_l1=(.seq (.seq a20_18 (.cond (.tmp 88) .skip (.exit 2))) (.seq (.block 3 (.seq a20_20 c20)) a20_19)):=rfl
def k20_1:AC:=(.seq (.seq a20_11 (.block 0 (.loop f20_l0))) (.seq (.seq a20_17 (.block 2 (.loop f20_l1))) g20_25))
def k20_0:AC:=(.seq (.seq a20_1 (.cond (.tmp 16) g20_2 .skip)) (.seq (.seq a20_3 (.cond (.tmp 41) g20_4 .skip)) (.seq (.seq a20_5 (.cond (.tmp 50) g20_6 .skip)) (.seq (.seq a20_7 (.cond (.tmp 60) g20_8 .skip)) (.seq (.seq a20_9 (.cond (.tmp 68) g20_10 .skip)) k20_1)))))
theorem top20:f20_ac=(.seq a20_0 k20_0):=rfl
section
variable {cf:CF} {l:List Inst} {x:Inst} {a:Alt} {alts:List Alt} {s:S} {E:Env} {P:AX→Env→S→Prop} {i j k:Nat} {n:Int}
/-! an alternative -/
theorem q40_3:tS eT cf 82 g40_3 6 (vI 10):=by
 intro E s P hP
 unfold g40_3
 simp -implicitDefEqProofs (maxDischargeDepth:=9) (maxSteps:=1000000) [Nat.add_assoc,ze,zq,zt,zr,zd,zp,zs,zy,asInt,zn,zz,sub,zl,zu,za,zk,zb,zj,zg,zh,zf,zA,zw,zo,zm,zi,Int.natCast_inj,]
 exact hP _ (by simp [vI])
theorem q40_5:tS eT cf 82 g40_5 6 (vI 13):=by
 intro E s P hP
 unfold g40_5
 simp -implicitDefEqProofs (maxDischargeDepth:=9) (maxSteps:=1000000) [Nat.add_assoc,ze,zq,zt,zr,zd,zp,zs,zy,asInt,zn,zz,sub,zl,zu,za,zk,zb,zj,zg,zh,zf,zA,zw,zo,zm,zi,Int.natCast_inj,]
 exact hP _ (by simp [vI])
theorem q40_7:tS eT cf 82 g40_7 6 (vI 6):=by
 intro E s P hP
 unfold g40_7
 simp -implicitDefEqProofs (maxDischargeDepth:=9) (maxSteps:=1000000) [Nat.add_assoc,ze,zq,zt,zr,zd,zp,zs,zy,asInt,zn,zz,sub,zl,zu,za,zk,zb,zj,zg,zh,zf,zA,zw,zo,zm,zi,Int.natCast_inj,]
 exact hP _ (by simp [vI])
theorem q40_12:tS eT cf 82 g40_12 6 (vI 5):=by
 intro E s P hP
 unfold g40_12
 simp -implicitDefEqProofs (maxDischargeDepth:=9) (maxSteps:=1000000) [Nat.add_assoc,ze,zq,zt,zr,zd,zp,zs,zy,asInt,zn,zz,sub,zl,zu,za,zk,zb,zj,zg,zh,zf,zA,zw,zo,zm,zi,Int.natCast_inj,]
 exact hP _ (by simp [vI])
theorem q40_15:tS eT cf 82 g40_15 6 (vI 18):=by
 intro E s P hP
 unfold g40_15
 simp -implicitDefEqProofs (maxDischargeDepth:=9) (maxSteps:=1000000) [Nat.add_assoc,ze,zq,zt,zr,zd,zp,zs,zy,asInt,zn,zz,sub,zl,zu,za,zk,zb,zj,zg,zh,zf,zA,zw,zo,zm,zi,Int.natCast_inj,]
 exact hP _ (by simp [vI])
theorem q40_16:tS eT cf 82 g40_16 6 (vI 0):=by
 intro E s P hP
 unfold g40_16
 simp -implicitDefEqProofs (maxDischargeDepth:=9) (maxSteps:=1000000) [Nat.add_assoc,ze,zq,zt,zr,zd,zp,zs,zy,asInt,zn,zz,sub,zl,zu,za,zk,zb,zj,zg,zh,zf,zA,zw,zo,zm,zi,Int.natCast_inj,]
 exact hP _ (by simp [vI])
def wa (l:List Inst) (j:Nat):Env:=[(0,.list (l.map eX)),(7,.ptr 0 0),(8,.int .i64 j)]
def coreG (l:List Inst):Env:=[(0,.list (l.map eX)),(7,.ptr 0 0)]
def coreD (l:List Inst) (alts:List Alt) (i:Nat):Env:=[(0,.list (l.map eX)),(1,.list (alts.map eA)),(2,.int .i64 i),(7,.ptr 0 0)]
def Sb (a:Alt) (s:S):Prop:=s.wf∧s.get 0=some (.cells (yF a) 0 39 true)
theorem t40_2 (hg:Sb a s) (hE:zI (coreD l alts i) E):Tst eT cf 82 a40_2 E (coreD l alts i) s 23 (decide (a.name.size<1) || decide (81<a.name.size)):=by
 intro P hP
 obtain ⟨h0,h1,h2,h7,_⟩:=hE
 simp only at h0 h1 h2 h7
 obtain ⟨hw,hgk⟩:=hg
 unfold a40_2
 by_cases h:a.name.size<1
 ·have h':(a.name.size:Int)<1:=by omega
  simp -implicitDefEqProofs (maxDischargeDepth:=9) (maxSteps:=1000000) [Nat.add_assoc,ze,zq,zt,zr,zd,zp,zs,zy,asInt,zn,zz,sub,zl,zu,za,zk,zb,zj,zg,zh,zf,zA,zw,zo,zm,zi,Int.natCast_inj,h0,h1,h2,h7,hgk,yF,h,h']
  exact hP _ (by simp [coreD]) (by simp [h])
 ·have h':¬(a.name.size:Int)<1:=by omega
  by_cases h3:81<a.name.size
  ·have h3':(81:Int)<a.name.size:=by omega
   simp -implicitDefEqProofs (maxDischargeDepth:=9) (maxSteps:=1000000) [Nat.add_assoc,ze,zq,zt,zr,zd,zp,zs,zy,asInt,zn,zz,sub,zl,zu,za,zk,zb,zj,zg,zh,zf,zA,zw,zo,zm,zi,Int.natCast_inj,h0,h1,h2,h7,hgk,yF,h,h',h3,h3']
   exact hP _ (by simp [coreD]) (by simp [h3])
  ·have h3':¬(81:Int)<a.name.size:=by omega
   simp -implicitDefEqProofs (maxDischargeDepth:=9) (maxSteps:=1000000) [Nat.add_assoc,ze,zq,zt,zr,zd,zp,zs,zy,asInt,zn,zz,sub,zl,zu,za,zk,zb,zj,zg,zh,zf,zA,zw,zo,zm,zi,Int.natCast_inj,h0,h1,h2,h7,hgk,yF,h,h',h3,h3']
   exact hP _ (by simp [coreD]) (by simp [h,h3])
theorem call64 {p:Alt}:zF (st eT []) cf 80 [.agg [.str p.name,.list (p.args.map vI)],.agg [.str a.name,.list (a.args.map vI)]] s=some (.val (.bool (ltA p a)) s):=by
 refine zH ?_
 have:e64 [eA p,eA a]=some (.bool (ltA p a)):=by simp [e64]
 simp only [st_tab,eT,yB,show ¬(43:Nat)=80 by decide,show ¬(44:Nat)=80 by decide,show ¬(45:Nat)=80 by decide,if_false,if_true]
 exact this
theorem t40_4 (hi:i<alts.length) (hl:alts.length≤1000) (hg:Sb a s) (hE:zI (coreD l alts i) E) (hP:∀E' s',zI (coreG l) E'→yw E' 35=some (.bool (unord alts i a))→Sb a s'→P .normal E' s'):yd (st eT []) cf true [] 82 a40_4 E s P:=by
 obtain ⟨h0,h1,h2,h7,_⟩:=hE
 simp only at h0 h1 h2 h7
 obtain ⟨hw,hgk⟩:=hg
 unfold a40_4
 cases i with
 | zero =>
  simp only [Int.natCast_zero] at h2
  simp -implicitDefEqProofs (maxDischargeDepth:=9) (maxSteps:=1000000) [Nat.add_assoc,ze,zq,zt,zr,zd,zp,zs,zy,asInt,zn,zz,sub,zl,zu,za,zk,zb,zj,zg,zh,zf,zA,zw,zo,zm,zi,Int.natCast_inj,h0,h1,h2,h7,hgk,hw,yF]
  exact hP _ _ (by simp [coreG]) (by simp [unord]) ⟨zX hw _,hgk⟩
 | succ i =>
  have hi':i<alts.length:=by omega
  have e1:=List.getElem?_eq_getElem hi'
  have e4:IntKind.i64.wrap (i:Int)=(i:Int):=zN (by omega) (by omega)
  have e5:(0:Int)<((i+1:Nat):Int):=by omega
  have q:=fun s=>call64 (cf:=cf) (s:=s) (p:=alts[i]) (a:=a)
  have hu:unord alts (i+1) a=!ltA alts[i] a:=by simp [unord,e1]
  simp -implicitDefEqProofs (maxDischargeDepth:=9) (maxSteps:=1000000) [Nat.add_assoc,ze,zq,zt,zr,zd,zp,zs,zy,asInt,zn,zz,sub,zl,zu,za,zk,zb,zj,zg,zh,zf,zA,zw,zo,zm,zi,Int.natCast_inj,h0,h1,h2,h7,hgk,hw,yF,e1,e4,e5,eA,eI,hi',q]
  exact hP _ _ (by simp [coreG]) (by simp [hu]) ⟨zX hw _,hgk⟩
theorem t40_6 (hg:Sb a s) (hE:zI (coreG l) E):Tst eT cf 82 a40_6 E (coreG l) s 39 (decide (32<a.args.length)):=by
 intro P hP
 obtain ⟨h0,h7,_⟩:=hE
 simp only at h0 h7
 obtain ⟨hw,hgk⟩:=hg
 unfold a40_6
 by_cases h:32<a.args.length
 ·have h':(32:Int)<a.args.length:=by omega
  simp -implicitDefEqProofs (maxDischargeDepth:=9) (maxSteps:=1000000) [Nat.add_assoc,ze,zq,zt,zr,zd,zp,zs,zy,asInt,zn,zz,sub,zl,zu,za,zk,zb,zj,zg,zh,zf,zA,zw,zo,zm,zi,Int.natCast_inj,h0,h7,hgk,yF,h,h']
  exact hP _ (by simp [coreG]) (by simp [h])
 ·have h':¬(32:Int)<a.args.length:=by omega
  simp -implicitDefEqProofs (maxDischargeDepth:=9) (maxSteps:=1000000) [Nat.add_assoc,ze,zq,zt,zr,zd,zp,zs,zy,asInt,zn,zz,sub,zl,zu,za,zk,zb,zj,zg,zh,zf,zA,zw,zo,zm,zi,Int.natCast_inj,h0,h7,hgk,yF,h,h']
  exact hP _ (by simp [coreG]) (by simp [h])
theorem t40_11 (hg:Sb a s) (hj:j<a.args.length) (hE:zI (wa l j) E):Tst eT cf 82 a40_11 E (wa l j) s 62 (!tB l a.args[j]):=by
 intro P hP
 obtain ⟨h0,h7,h8,_⟩:=hE
 simp only at h0 h7 h8
 obtain ⟨hw,hgk⟩:=hg
 have e1:=List.getElem?_eq_getElem hj
 unfold a40_11
 by_cases h:a.args[j]<0
 ·have h':¬0≤a.args[j]:=by omega
  simp -implicitDefEqProofs (maxDischargeDepth:=9) (maxSteps:=1000000) [Nat.add_assoc,ze,zq,zt,zr,zd,zp,zs,zy,asInt,zn,zz,sub,zl,zu,za,zk,zb,zj,zg,zh,zf,zA,zw,zo,zm,zi,Int.natCast_inj,h0,h7,h8,hgk,yF,h,e1,hj,vI]
  exact hP _ (by simp [wa]) (by simp [tB,h'])
 ·have h':0≤a.args[j]:=by omega
  by_cases h2:(l.length:Int)≤a.args[j]
  ·have h2':¬a.args[j]<l.length:=by omega
   simp -implicitDefEqProofs (maxDischargeDepth:=9) (maxSteps:=1000000) [Nat.add_assoc,ze,zq,zt,zr,zd,zp,zs,zy,asInt,zn,zz,sub,zl,zu,za,zk,zb,zj,zg,zh,zf,zA,zw,zo,zm,zi,Int.natCast_inj,h0,h7,h8,hgk,yF,h,e1,hj,h2,vI]
   exact hP _ (by simp [wa]) (by simp [tB,h2'])
  ·have h2':a.args[j]<l.length:=by omega
   simp -implicitDefEqProofs (maxDischargeDepth:=9) (maxSteps:=1000000) [Nat.add_assoc,ze,zq,zt,zr,zd,zp,zs,zy,asInt,zn,zz,sub,zl,zu,za,zk,zb,zj,zg,zh,zf,zA,zw,zo,zm,zi,Int.natCast_inj,h0,h7,h8,hgk,yF,h,e1,hj,h2,vI]
   exact hP _ (by simp [wa]) (by simp [tB,h',h2'])
theorem t40_13 {y:Inst} (hg:Sb a s) (hj:j<a.args.length) (hy:l[a.args[j].toNat]?=some y) (h0n:0≤a.args[j]) (hE:zI (wa l j) E):Stp eT cf 82 a40_13 E ((9,.int .i64 y.kind)::wa l j) s:=by
 intro P hP
 obtain ⟨h0,h7,h8,_⟩:=hE
 simp only at h0 h7 h8
 obtain ⟨hw,hgk⟩:=hg
 have e1:a.args[j]?=some (a.args[j].toNat:Int):=by rw [List.getElem?_eq_getElem hj]; congr 1; omega
 generalize a.args[j].toNat=m at hy e1
 have hn:m<l.length:=(List.getElem?_eq_some_iff.1 hy).1
 have hyn:l[m]=y:=by rw [List.getElem?_eq_getElem hn] at hy; exact Option.some.inj hy
 have e2:a.args[j]=(m:Int):=by rw [List.getElem?_eq_getElem hj] at e1; exact Option.some.inj e1
 unfold a40_13
 simp -implicitDefEqProofs (maxDischargeDepth:=9) (maxSteps:=1000000) [Nat.add_assoc,ze,zq,zt,zr,zd,zp,zs,zy,asInt,zn,zz,sub,zl,zu,za,zk,zb,zj,zg,zh,zf,zA,zw,zo,zm,zi,Int.natCast_inj,h0,h7,h8,hgk,yF,e2,hj,hn,hyn,eX,vI]
 exact hP _ (by simp [wa,vI])
theorem t40_14 {y:Inst} (hE:zI ((9,.int .i64 y.kind)::wa l j) E):Tst eT cf 82 a40_14 E (wa l j) s 81 (!valX y):=by
 intro P hP
 obtain ⟨h9,h0,h7,h8,_⟩:=hE
 simp only at h9 h0 h7 h8
 unfold a40_14
 by_cases h:y.kind=1
 ·simp -implicitDefEqProofs (maxDischargeDepth:=9) (maxSteps:=1000000) [Nat.add_assoc,ze,zq,zt,zr,zd,zp,zs,zy,asInt,zn,zz,sub,zl,zu,za,zk,zb,zj,zg,zh,zf,zA,zw,zo,zm,zi,Int.natCast_inj,h9,h0,h7,h8,h]
  exact hP _ (by simp [wa]) (by simp [valX,h])
 ·by_cases h':y.kind=4
  ·simp -implicitDefEqProofs (maxDischargeDepth:=9) (maxSteps:=1000000) [Nat.add_assoc,ze,zq,zt,zr,zd,zp,zs,zy,asInt,zn,zz,sub,zl,zu,za,zk,zb,zj,zg,zh,zf,zA,zw,zo,zm,zi,Int.natCast_inj,h9,h0,h7,h8,h,h']
   exact hP _ (by simp [wa]) (by simp [valX,h'])
  ·simp -implicitDefEqProofs (maxDischargeDepth:=9) (maxSteps:=1000000) [Nat.add_assoc,ze,zq,zt,zr,zd,zp,zs,zy,asInt,zn,zz,sub,zl,zu,za,zk,zb,zj,zg,zh,zf,zA,zw,zo,zm,zi,Int.natCast_inj,h9,h0,h7,h8,h,h']
   exact hP _ (by simp [wa]) (by simp [valX,h,h'])
theorem b40 (ha:a.args.length≤1000) (hg:Sb a s) (h:j<a.args.length) (hR:¬tf l a j=0→∀E',yw E' 6=some (vI (tf l a j))→P .ret E' s) (hN:tf l a j=0→∀E',zI (wa l (j+1)) E'→P .normal E' s) :
  yd (st eT []) cf true [] 82 f40_l0 (wa l j) s P:=by
 have e3:IntKind.i64.wrap ((j:Int)+1)=((j+1:Nat):Int):=zN (by omega) (by omega)
 have hat:tf l a j=argE l a.args[j]:=by simp [tf,List.getElem?_eq_getElem h]
 have hgk:=hg.2
 have hlast:∀E' (h1:tf l a j=0),zI (wa l j) E'→yd (st eT []) cf true [] 82 a40_10 E' s P:=fun E' h1 hE'=>by
  obtain ⟨h0,h7,h8,_⟩:=hE'
  simp only at h0 h7 h8
  unfold a40_10
  simp -implicitDefEqProofs (maxDischargeDepth:=9) (maxSteps:=1000000) [Nat.add_assoc,ze,zq,zt,zr,zd,zp,zs,zy,asInt,zn,zz,sub,zl,zu,za,zk,zb,zj,zg,zh,zf,zA,zw,zo,zm,zi,Int.natCast_inj,h0,h7,h8,e3]
  exact hN h1 _ (by simp [wa])
 rw [f40_l0_top]
 unfold a40_9
 simp -implicitDefEqProofs (maxDischargeDepth:=9) (maxSteps:=1000000) [Nat.add_assoc,ze,zq,zt,zr,zd,zp,zs,zy,asInt,zn,zz,sub,zl,zu,za,zk,zb,zj,zg,zh,zf,zA,zw,zo,zm,zi,Int.natCast_inj,wa,hgk,yF,h]
 unfold c40
 refine yO (t40_11 (l:=l) hg h (by simp [wa])) q40_12 (fun hb E' hE'=>?_) fun hb E' hE'=>?_
 ·have hm:argE l a.args[j]=5:=by
   unfold argE
   rw [if_neg (by intro hh; rw [hh] at hb; cases hb)]
  rw [hat,hm] at hR
  exact hR (by decide) E' hE'
 ·simp only [Bool.not_eq_false'] at hb
  obtain ⟨h1,h2⟩:=xK.1 hb
  have hlt:a.args[j].toNat<l.length:=by omega
  have hy:=List.getElem?_eq_getElem hlt
  have hm:argE l a.args[j]=if valX l[a.args[j].toNat]=true then 0 else 18:=by
   unfold argE
   rw [if_pos hb,hy]
  refine stp_seq (t40_13 hg h hy h1 hE') fun E2 hE2=>?_
  refine xb (t40_14 hE2) q40_15 (fun hc E3 hE3=>?_) fun hc E3 hE3=>?_
  ·rw [if_neg (by intro hh; rw [hh] at hc; cases hc)] at hm
   rw [hat,hm] at hR
   exact hR (by decide) E3 hE3
  ·rw [if_pos (by simpa using hc)] at hm
   exact hlast E3 (hat.trans hm) hE3
theorem x40 (hg:Sb a s) (hP:∀E',P (.exit 0) E' s):yd (st eT []) cf true [] 82 f40_l0 (wa l a.args.length) s P:=by
 have hgk:=hg.2
 rw [f40_l0_top]
 unfold a40_9
 simp -implicitDefEqProofs (maxDischargeDepth:=9) (maxSteps:=1000000) [Nat.add_assoc,ze,zq,zt,zr,zd,zp,zs,zy,asInt,zn,zz,sub,zl,zu,za,zk,zb,zj,zg,zh,zf,zA,zw,zo,zm,zi,Int.natCast_inj,wa,hgk,yF]
 exact hP _
theorem p40 (l:List Inst) (alts:List Alt) (hl:alts.length≤1000) (i:Nat) (hi:i<alts.length):zx Tryz.prog zB 49 [.list (l.map eX),.list (alts.map eA),.int .i64 i] (.int .i64 (wx l alts i)):=by
 refine zx.cfg (cfg:=st eT []) rfl ?_
 refine zM (sl:=true) hcT (zW hcT) yi Tryz.func49 f40_eq f40_nt f40_fits (by simp) (by simp) ?_
 have e1:=List.getElem?_eq_getElem hi
 have hal:wx l alts i=if alts[i].name.size<1∨81<alts[i].name.size then 10 else if unord alts i alts[i]=true then 13 else if 32<alts[i].args.length then 6 else argsE' l alts[i]:=by unfold wx; rw [e1]
 have fin:∀c:Int,wx l alts i=c→∀E' s',yw E' 6=some (vI c)→FinK (st eT []) [ResultVar.tmp 6] (fun w s=>wL s w (V.int .i64 (wx l alts i))) (fun _ _=>False) .ret E' s':=by
  rintro c rfl E' s' h
  simp -implicitDefEqProofs (maxDischargeDepth:=9) (maxSteps:=1000000) [Nat.add_assoc,ze,zq,zt,zr,zd,zp,zs,zy,asInt,zn,zz,sub,zl,zu,za,zk,zb,zj,zg,zh,zf,zA,zw,zo,zm,zi,Int.natCast_inj,h]
  exact ⟨rfl,rfl⟩
 generalize hQ:FinK (st eT []) Tryz.f49.results.toList (fun w s=>wL s w (V.int .i64 (wx l alts i))) (fun _ _=>False)=Q
 replace fin:∀c:Int,wx l alts i=c→∀E' s',yw E' 6=some (vI c)→Q .ret E' s':=by rw [← hQ]; exact fin
 rw [top40]
 unfold a40_0 a40_1
 simp -implicitDefEqProofs (maxDischargeDepth:=9) (maxSteps:=1000000) [Nat.add_assoc,ze,zq,zt,zr,zd,zp,zs,zy,asInt,zn,zz,sub,zl,zu,za,zk,zb,zj,zg,zh,zf,zA,zw,zo,zm,zi,Int.natCast_inj,hi,e1,eA,eI]
 unfold k40
 refine yO (core:=coreD l alts i) (t40_2 (a:=alts[i]) ⟨S.wf_put (S.wf_add S.wf_empty _ _) _ _ (by simp [S.empty,S.add]),by simp [S.get_put,yF]⟩ (by simp [coreD])) q40_3 (fun hb E' hE'=>?_) fun hb E' hE'=>?_
 ·rw [if_pos (by simpa using hb)] at hal
  exact fin _ hal _ _ hE'
 rw [if_neg (by simpa using hb)] at hal
 rw [yN,yN]
 refine t40_4 (a:=alts[i]) hi hl ⟨S.wf_put (S.wf_add S.wf_empty _ _) _ _ (by simp [S.empty,S.add]),by simp [S.get_put,yF]⟩ hE' fun E2 s2 h2 h3 hg2=>?_
 rw [zK,RunC_cond]
 show CondK (yw E2 35) _ _
 rw [h3]
 refine ⟨fun hc=>?_,fun hc=>?_⟩
 ·rw [if_pos hc] at hal
  exact q40_5 E2 s2 _ fun E3 h=>fin _ hal _ _ h
 rw [if_neg (by rw [hc]; decide)] at hal
 show yd _ _ _ _ _ _ _ _ _
 refine yO (t40_6 hg2 h2) q40_7 (fun hd E3 hE3=>?_) fun hd E3 hE3=>?_
 ·rw [if_pos (by simpa using hd)] at hal
  exact fin _ hal _ _ hE3
 rw [if_neg (by simpa using hd)] at hal
 have hd':¬32<alts[i].args.length:=by simpa using hd
 obtain ⟨h0,h7,_⟩:=hE3
 simp only at h0 h7
 unfold a40_8
 simp -implicitDefEqProofs (maxDischargeDepth:=9) (maxSteps:=1000000) [Nat.add_assoc,ze,zq,zt,zr,zd,zp,zs,zy,asInt,zn,zz,sub,zl,zu,za,zk,zb,zj,zg,zh,zf,zA,zw,zo,zm,zi,Int.natCast_inj,h0,h7]
 refine zO (α:=Nat) (wa l) (fun j t=>t=s2∧j≤alts[i].args.length∧∀m,m<j→tf l alts[i] m=0) (fun j=>alts[i].args.length - j) 0 f40_l0_fits (by simp [wa]) ⟨rfl,Nat.zero_le _,fun i h=>by omega⟩ ?_
 rintro j t ⟨rfl,hj,hz⟩
 rcases Nat.lt_or_ge j alts[i].args.length with hjl | hjl
 ·refine b40 (by omega) hg2 hjl (fun h1 E3 hE3=>?_) fun h1 E3 hE3=>?_
  ·have hv:wx l alts i=tf l alts[i] j:=by rw [hal]; exact wY hjl hz h1
   exact fin _ hv _ _ hE3
  ·exact ⟨j+1,by omega,⟨rfl,by omega,wn hz h1⟩,hE3⟩
 ·have:j=alts[i].args.length:=by omega
  subst this
  have hv:wx l alts i=0:=by rw [hal]; exact yM hz
  refine x40 hg2 fun E3=>?_
  simp only [xH,yQ,zK,zZ,if_true]
  exact q40_16 E3 t _ fun E4 h=>fin _ hv _ _ h
end
def e40:List V→Option V
 | [.list l,.list bs,.int .i64 i]=>(dXs l).bind fun l=>(dAs bs).bind fun bs=>if bs.length≤1000∧0≤i∧i<bs.length then some (.int .i64 (wx l bs i.toNat)) else none
 | _=>none
theorem t40:∀args v,e40 args=some v→zx Tryz.prog zB 49 args v:=fun args v h=>by
 unfold e40 at h
 split at h
 ·simp only [Option.bind_eq_some_iff] at h
  obtain ⟨l,hl,bs,has,h⟩:=h
  obtain rfl:=yT hl
  obtain rfl:=dAs_eq has
  split at h
  ·rename_i i hh
   injection h with h; subst h
   obtain ⟨m,rfl⟩:∃m:Nat,i=m:=⟨i.toNat,by omega⟩
   simpa using p40 l bs hh.1 m (by omega)
  ·cases h
 ·cases h
def eU:List (FuncId×(List V→Option V)):=[(49,e40)]
theorem eU_ok:xa Tryz.prog zB eU:=.cons t40 .nil
section
variable {cf:CF} {l:List Inst} {x:Inst} {s:S} {E:Env} {P:AX→Env→S→Prop} {i j k:Nat} {n:Int}
theorem call40 (hl:x.alts.length≤1000) (h:i<x.alts.length):zF (st eU []) cf 49 [.list (l.map eX),.list (x.alts.map eA),.int .i64 i] s=some (.val (.int .i64 (wx l x.alts i)) s):=by
 refine zH ?_
 simp only [st_tab,eU,yB,if_true]
 have h1:(i:Int)<x.alts.length:=by omega
 simp only [e40,xJ,dAs_map,Option.bind_some]
 rw [if_pos ⟨hl,by omega,h1⟩]
 simp
def env20 (l:List Inst) (j:Nat):Env:=[(0,.list (l.map eX)),(3,.ptr 0 0),(5,.int .i64 j)]
theorem b20_0 (hl:x.alts.length≤1000) (hg:s.get 0=some (.cells (zJ x) 0 26 true)) (h:j<x.alts.length) (hR:¬wx l x.alts j=0→∀E',yw E' 4=some (vI (wx l x.alts j))→P .ret E' s) (hN:wx l x.alts j=0→∀E',zI (env20 l (j+1)) E'→P .normal E' s) :
  yd (st eU []) cf true [] 134 f20_l0 (env20 l j) s P:=by
 have e3:IntKind.i64.wrap ((j:Int)+1)=((j+1:Nat):Int):=zN (by omega) (by omega)
 have q:=call40 (cf:=cf) (l:=l) (s:=s) hl h
 by_cases hz:wx l x.alts j=0
 ·simp -implicitDefEqProofs (maxDischargeDepth:=9) (maxSteps:=1000000) [Nat.add_assoc,ze,zq,zt,zr,zd,zp,zs,zy,asInt,zn,zz,sub,zl,zu,za,zk,zb,zj,zg,zh,zf,zA,zw,zo,zm,zi,Int.natCast_inj,f20_l0,env20,hg,zJ,h,e3,q,hz]
  exact hN hz _ (by simp [env20])
 ·simp -implicitDefEqProofs (maxDischargeDepth:=9) (maxSteps:=1000000) [Nat.add_assoc,ze,zq,zt,zr,zd,zp,zs,zy,asInt,zn,zz,sub,zl,zu,za,zk,zb,zj,zg,zh,zf,zA,zw,zo,zm,zi,Int.natCast_inj,f20_l0,env20,hg,zJ,h,e3,q,hz]
  exact hR hz _ (by simp [vI])
theorem x20_0 (hg:s.get 0=some (.cells (zJ x) 0 26 true)) (hP:∀E',zI (ya l) E'→P (.exit 0) E' s):yd (st eU []) cf true [] 134 f20_l0 (env20 l x.alts.length) s P:=by
 simp -implicitDefEqProofs (maxDischargeDepth:=9) (maxSteps:=1000000) [Nat.add_assoc,ze,zq,zt,zr,zd,zp,zs,zy,asInt,zn,zz,sub,zl,zu,za,zk,zb,zj,zg,zh,zf,zA,zw,zo,zm,zi,Int.natCast_inj,f20_l0,env20,hg,zJ]
 exact hP _ (by simp [ya])
def vk (l:List Inst) (j:Nat):Env:=[(0,.list (l.map eX)),(3,.ptr 0 0),(7,.int .i64 j)]
def uE (l:List Inst) (j k:Nat):Env:=(8,.ptr k 0)::vk l j
theorem t20_21 {m:Int×Int} (hg:s.get k=some (.cells [vI m.1,vI m.2] 0 55 true)) (hE:zI (uE l j k) E):Tst eU cf 134 a20_21 E (uE l j k) s 117 (!(tB l m.1 && tB l m.2)):=by
 intro P hP
 obtain ⟨h8,h0,h3,h7,_⟩:=hE
 simp only at h8 h0 h3 h7
 obtain ⟨m1,m2⟩:=m
 simp only at hg
 unfold a20_21
 by_cases a:m1<0
 ·have a':¬0≤m1:=by omega
  simp -implicitDefEqProofs (maxDischargeDepth:=9) (maxSteps:=1000000) [Nat.add_assoc,ze,zq,zt,zr,zd,zp,zs,zy,asInt,zn,zz,sub,zl,zu,za,zk,zb,zj,zg,zh,zf,zA,zw,zo,zm,zi,Int.natCast_inj,h8,h0,h3,h7,hg,a,vI]
  exact hP _ (by simp [uE,vk]) (by simp [tB,a'])
 ·have a':0≤m1:=by omega
  by_cases b:(l.length:Int)≤m1
  ·have b':¬m1<l.length:=by omega
   simp -implicitDefEqProofs (maxDischargeDepth:=9) (maxSteps:=1000000) [Nat.add_assoc,ze,zq,zt,zr,zd,zp,zs,zy,asInt,zn,zz,sub,zl,zu,za,zk,zb,zj,zg,zh,zf,zA,zw,zo,zm,zi,Int.natCast_inj,h8,h0,h3,h7,hg,a,b,vI]
   exact hP _ (by simp [uE,vk]) (by simp [tB,b'])
  ·have b':m1<l.length:=by omega
   by_cases c:m2<0
   ·have c':¬0≤m2:=by omega
    simp -implicitDefEqProofs (maxDischargeDepth:=9) (maxSteps:=1000000) [Nat.add_assoc,ze,zq,zt,zr,zd,zp,zs,zy,asInt,zn,zz,sub,zl,zu,za,zk,zb,zj,zg,zh,zf,zA,zw,zo,zm,zi,Int.natCast_inj,h8,h0,h3,h7,hg,a,b,c,vI]
    exact hP _ (by simp [uE,vk]) (by simp [tB,c'])
   ·have c':0≤m2:=by omega
    by_cases d:(l.length:Int)≤m2
    ·have d':¬m2<l.length:=by omega
     simp -implicitDefEqProofs (maxDischargeDepth:=9) (maxSteps:=1000000) [Nat.add_assoc,ze,zq,zt,zr,zd,zp,zs,zy,asInt,zn,zz,sub,zl,zu,za,zk,zb,zj,zg,zh,zf,zA,zw,zo,zm,zi,Int.natCast_inj,h8,h0,h3,h7,hg,a,b,c,d,vI]
     exact hP _ (by simp [uE,vk]) (by simp [tB,d'])
    ·have d':m2<l.length:=by omega
     simp -implicitDefEqProofs (maxDischargeDepth:=9) (maxSteps:=1000000) [Nat.add_assoc,ze,zq,zt,zr,zd,zp,zs,zy,asInt,zn,zz,sub,zl,zu,za,zk,zb,zj,zg,zh,zf,zA,zw,zo,zm,zi,Int.natCast_inj,h8,h0,h3,h7,hg,a,b,c,d,vI]
     exact hP _ (by simp [uE,vk]) (by simp [tB,a',b',c',d'])
theorem t20_23 {m:Int×Int} {y:Inst} (hg:s.get k=some (.cells [vI m.1,vI m.2] 0 55 true)) (hy:l[m.1.toNat]?=some y) (h0m:0≤m.1) (hE:zI (uE l j k) E):Tst eU cf 134 a20_23 E (vk l j) s 133 (decide (y.kind=6) || decide (y.kind=3)):=by
 intro P hP
 obtain ⟨h8,h0,h3,h7,_⟩:=hE
 simp only at h8 h0 h3 h7
 obtain ⟨m1,m2⟩:=m
 obtain ⟨n,rfl⟩:∃n:Nat,m1=n:=⟨m1.toNat,by simp only at h0m; omega⟩
 simp only [Int.toNat_natCast] at hy
 have hn:n<l.length:=(List.getElem?_eq_some_iff.1 hy).1
 have hyn:l[n]=y:=by rw [List.getElem?_eq_getElem hn] at hy; exact Option.some.inj hy
 unfold a20_23
 by_cases h:y.kind=6
 ·simp -implicitDefEqProofs (maxDischargeDepth:=9) (maxSteps:=1000000) [Nat.add_assoc,ze,zq,zt,zr,zd,zp,zs,zy,asInt,zn,zz,sub,zl,zu,za,zk,zb,zj,zg,zh,zf,zA,zw,zo,zm,zi,Int.natCast_inj,h8,h0,h3,h7,hg,hn,hyn,eX,h,vI]
  exact hP _ (by simp [vk]) (by simp [h])
 ·simp -implicitDefEqProofs (maxDischargeDepth:=9) (maxSteps:=1000000) [Nat.add_assoc,ze,zq,zt,zr,zd,zp,zs,zy,asInt,zn,zz,sub,zl,zu,za,zk,zb,zj,zg,zh,zf,zA,zw,zo,zm,zi,Int.natCast_inj,h8,h0,h3,h7,hg,hn,hyn,eX,h,vI]
  exact hP _ (by simp [vk]) (by simp [h])
theorem c20_ok {m:Int×Int} (hg:s.get k=some (.cells [vI m.1,vI m.2] 0 55 true)) (hE:zI (uE l j k) E)
  (hR:¬modE l m=0→∀E',yw E' 4=some (vI (modE l m))→P .ret E' s) (hN:modE l m=0→∀E',zI (vk l j) E'→P .normal E' s):yd (st eU []) cf true [] 134 c20 E s P:=by
 unfold c20
 refine yO (t20_21 hg hE) q20_22 (fun hb E' hE'=>?_) fun hb E' hE'=>?_
 ·have hm:modE l m=5:=by
   unfold modE
   rw [if_neg (by intro hh; rw [hh] at hb; cases hb)]
  rw [hm] at hR
  exact hR (by decide) E' hE'
 ·simp only [Bool.not_eq_false'] at hb
  have hb':=hb
  simp only [Bool.and_eq_true] at hb'
  obtain ⟨h1,h2⟩:=xK.1 hb'.1
  have hlt:m.1.toNat<l.length:=by omega
  have hy:=List.getElem?_eq_getElem hlt
  have hm:modE l m=if l[m.1.toNat].kind=6∨l[m.1.toNat].kind=3 then 18 else 0:=by
   unfold modE
   rw [if_pos hb,hy]
  refine xb (t20_23 hg hy h1 hE') q20_24 (fun hc E3 hE3=>?_) fun hc E3 hE3=>?_
  ·rw [if_pos (by simpa using hc)] at hm
   rw [hm] at hR
   exact hR (by decide) E3 hE3
  ·rw [if_neg (by simpa using hc)] at hm
   exact hN hm E3 hE3
theorem b20_1 (hm:x.modes.length≤1000) (h:j<x.modes.length) (hw:s.wf) (hg:s.get 0=some (.cells (zJ x) 0 26 true)) (hR:¬vz l x j=0→∀E' s',yw E' 4=some (vI (vz l x j))→P .ret E' s') (hN:vz l x j=0→∀E' s',s'.wf→s'.get 0=some (.cells (zJ x) 0 26 true)→zI (vk l (j+1)) E'→P .normal E' s') :
  yd (st eU []) cf true [] 134 f20_l1 (vk l j) s P:=by
 have e1:=List.getElem?_eq_getElem h
 have e3:IntKind.i64.wrap ((j:Int)+1)=((j+1:Nat):Int):=zN (by omega) (by omega)
 have hs0:0<s.next:=S.wf.lt hw hg
 have hn0:¬0=s.next:=by omega
 rw [f20_l1_top]
 simp -implicitDefEqProofs (maxDischargeDepth:=9) (maxSteps:=1000000) [Nat.add_assoc,ze,zq,zt,zr,zd,zp,zs,zy,asInt,zn,zz,sub,zl,zu,za,zk,zb,zj,zg,zh,zf,zA,zw,zo,zm,zi,Int.natCast_inj,vk,a20_18,a20_20,h,hw,hg,zJ,e1,eM]
 refine c20_ok (l:=l) (j:=j) (k:=s.next) (m:=x.modes[j]) (by simp [S.get_put]) (by simp [uE,vk]) ?_ ?_
 ·intro h1 E' hE'
  rw [← modAt_at h] at h1 hE'
  exact hR h1 E' _ hE'
 ·intro h1 E' hE'
  rw [← modAt_at h] at h1
  obtain ⟨h0,h3,h7,_⟩:=hE'
  simp only at h0 h3 h7
  simp only [zZ,zK]
  unfold a20_19
  simp -implicitDefEqProofs (maxDischargeDepth:=9) (maxSteps:=1000000) [Nat.add_assoc,ze,zq,zt,zr,zd,zp,zs,zy,asInt,zn,zz,sub,zl,zu,za,zk,zb,zj,zg,zh,zf,zA,zw,zo,zm,zi,Int.natCast_inj,h0,h3,h7,e3]
  exact hN h1 _ _ (by simp [hw]) (by rw [S.get_put,if_neg hn0,S.get_add,if_neg hn0]; exact hg) (by simp [vk])
theorem x20_1 (hg:s.get 0=some (.cells (zJ x) 0 26 true)) (hP:∀E',P (.exit 2) E' s):yd (st eU []) cf true [] 134 f20_l1 (vk l x.modes.length) s P:=by
 rw [f20_l1_top]
 simp -implicitDefEqProofs (maxDischargeDepth:=9) (maxSteps:=1000000) [Nat.add_assoc,ze,zq,zt,zr,zd,zp,zs,zy,asInt,zn,zz,sub,zl,zu,za,zk,zb,zj,zg,zh,zf,zA,zw,zo,zm,zi,Int.natCast_inj,vk,a20_18,hg,zJ]
 exact hP _
theorem k20_ok (ha:x.alts.length≤1000) (hm:x.modes.length≤1000) (hw:s.wf) (hg:s.get 0=some (.cells (zJ x) 0 26 true)) (hE:zI (ya l) E)
  (hR:∀E' s',yw E' 4=some (vI (if vv (wx l x.alts) x.alts.length=0 then vv (vz l x) x.modes.length else vv (wx l x.alts) x.alts.length))→P .ret E' s'):yd (st eU []) cf true [] 134 k20_1 E s P:=by
 obtain ⟨h0,h3,_⟩:=hE
 simp only at h0 h3
 unfold k20_1 a20_11
 simp -implicitDefEqProofs (maxDischargeDepth:=9) (maxSteps:=1000000) [Nat.add_assoc,ze,zq,zt,zr,zd,zp,zs,zy,asInt,zn,zz,sub,zl,zu,za,zk,zb,zj,zg,zh,zf,zA,zw,zo,zm,zi,Int.natCast_inj,h0,h3,hg,zJ]
 refine zO (α:=Nat) (env20 l) (fun j t=>t=s∧j≤x.alts.length∧∀i,i<j→wx l x.alts i=0) (fun j=>x.alts.length - j) 0 f20_l0_fits (by simp [env20]) ⟨rfl,Nat.zero_le _,fun i h=>by omega⟩ ?_
 rintro j t ⟨rfl,hj,hz⟩
 rcases Nat.lt_or_ge j x.alts.length with h | h
 ·refine b20_0 ha hg h (fun h1 E' hE'=>?_) fun h1 E' hE'=>?_
  ·have:=wY h hz h1
   rw [this,if_neg h1] at hR
   exact hR E' _ hE'
  ·exact ⟨j+1,by omega,⟨rfl,by omega,wn hz h1⟩,hE'⟩
 ·have:j=x.alts.length:=by omega
  subst this
  rw [if_pos (yM hz)] at hR
  refine x20_0 hg fun E' hE'=>?_
  simp only [xH,yQ,zK,zZ,if_true]
  obtain ⟨h0,h3,_⟩:=hE'
  simp only at h0 h3
  unfold a20_17
  simp -implicitDefEqProofs (maxDischargeDepth:=9) (maxSteps:=1000000) [Nat.add_assoc,ze,zq,zt,zr,zd,zp,zs,zy,asInt,zn,zz,sub,zl,zu,za,zk,zb,zj,zg,zh,zf,zA,zw,zo,zm,zi,Int.natCast_inj,h0,h3]
  refine zO (α:=Nat) (vk l) (fun j s=>s.wf∧s.get 0=some (.cells (zJ x) 0 26 true)∧j≤x.modes.length∧∀i,i<j→vz l x i=0) (fun j=>x.modes.length - j) 0 f20_l1_fits (by simp [vk]) ⟨hw,hg,Nat.zero_le _,fun i h=>by omega⟩ ?_
  rintro j u ⟨hw,hg,hj,hz⟩
  rcases Nat.lt_or_ge j x.modes.length with h | h
  ·refine b20_1 hm h hw hg (fun h1 E' s' hE'=>?_) fun h1 E' s' hw' hg' hE'=>?_
   ·rw [← wY h hz h1] at hE'
    exact hR E' s' hE'
   ·exact ⟨j+1,by omega,⟨hw',hg',by omega,wn hz h1⟩,hE'⟩
  ·have:j=x.modes.length:=by omega
   subst this
   refine x20_1 hg fun E2=>?_
   simp only [xH,yQ,zK,zZ,if_true]
   refine q20_25 E2 u _ fun E'' hE''=>?_
   rw [← yM hz] at hE''
   exact hR E'' u hE''
end
theorem p20 (l:List Inst) (x:Inst):zx Tryz.prog zB 24 [.list (l.map eX),eX x] (.int .i64 (ckX l x)):=by
 have hcU:=yn (e:=eU) (f:=[]) eU_ok .nil
 refine zx.cfg (cfg:=st eU []) rfl ?_
 refine zM (sl:=true) hcU (zW hcU) yi Tryz.func24 f20_eq f20_nt f20_fits (by simp) (by simp) ?_
 have hc:=ckX_eq l x
 have fin:∀c:Int,ckX l x=c→∀E' s',yw E' 4=some (vI c)→FinK (st eU []) Tryz.f24.results.toList (fun w s=>wL s w (V.int .i64 (ckX l x))) (fun _ _=>False) .ret E' s':=by
  rintro c rfl E' s' h
  simp -implicitDefEqProofs (maxDischargeDepth:=9) (maxSteps:=1000000) [Nat.add_assoc,ze,zq,zt,zr,zd,zp,zs,zy,asInt,zn,zz,sub,zl,zu,za,zk,zb,zj,zg,zh,zf,zA,zw,zo,zm,zi,Int.natCast_inj,h]
  exact ⟨rfl,rfl⟩
 generalize FinK (st eU []) Tryz.f24.results.toList (fun w s=>wL s w (V.int .i64 (ckX l x))) (fun _ _=>False)=Q at fin ⊢
 rw [top20]
 unfold a20_0
 simp -implicitDefEqProofs (maxDischargeDepth:=9) (maxSteps:=1000000) [Nat.add_assoc,ze,zq,zt,zr,zd,zp,zs,zy,asInt,zn,zz,sub,zl,zu,za,zk,zb,zj,zg,zh,zf,zA,zw,zo,zm,zi,Int.natCast_inj,eX]
 have hg:(S.empty.add 0 (O.cells [vI x.kind,V.list (List.map eA x.alts),V.list (List.map eM x.modes),vI x.det] 0 26 true)).get 0=some (.cells (zJ x) 0 26 true):=by simp [S.get_add,zJ]
 have hw:(S.empty.add 0 (O.cells [vI x.kind,V.list (List.map eA x.alts),V.list (List.map eM x.modes),vI x.det] 0 26 true)).wf:=S.wf_add S.wf_empty _ _
 generalize S.empty.add 0 (O.cells [vI x.kind,V.list (List.map eA x.alts),V.list (List.map eM x.modes),vI x.det] 0 26 true)=s at hg hw ⊢
 unfold k20_0
 refine yO (core:=ya l) (t20_1 hg (by simp [ya])) q20_2 (fun hb E hE=>?_) fun hb E1 hE1=>?_
 ·rw [if_pos hb] at hc; exact fin _ hc _ _ hE
 rw [if_neg (by rw [hb]; decide)] at hc
 refine yO (t20_3 hg hE1) q20_4 (fun hb E hE=>?_) fun hb E2 hE2=>?_
 ·rw [if_pos hb] at hc; exact fin _ hc _ _ hE
 rw [if_neg (by rw [hb]; decide)] at hc
 refine yO (t20_5 hg hE2) q20_6 (fun hb E hE=>?_) fun hb E3 hE3=>?_
 ·rw [if_pos hb] at hc; exact fin _ hc _ _ hE
 rw [if_neg (by rw [hb]; decide)] at hc
 refine yO (t20_7 hg hE3) q20_8 (fun hb E hE=>?_) fun h4 E4 hE4=>?_
 ·rw [if_pos hb] at hc; exact fin _ hc _ _ hE
 rw [if_neg (by rw [h4]; decide)] at hc
 refine yO (t20_9 hg hE4) q20_10 (fun hb E hE=>?_) fun hb E5 hE5=>?_
 ·rw [if_pos hb] at hc; exact fin _ hc _ _ hE
 rw [if_neg (by rw [hb]; decide)] at hc
 simp only [c4,Bool.or_eq_false_iff,decide_eq_false_iff_not] at h4
 refine k20_ok (x:=x) (by omega) (by omega) hw hg hE5 fun E s h=>?_
 rw [← hc] at h
 exact fin _ rfl _ _ h
end Go.Proofs.YtchlfjhbijmdiaaGreatDoor.Ai


