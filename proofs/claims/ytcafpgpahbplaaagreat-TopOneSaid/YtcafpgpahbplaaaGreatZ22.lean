/-
 The proof, part 22 of 25.
-/
import Derived.Test.YtcafpgpahbplaaaGreatZ21
import Derived.Test.YtcafpgpahbplaaaGreatZ19
open Bool renaming and_eq_true->aaf
open Go.Fence renaming wide->abU
open Go.Oper renaming uponIn->ad5
open Go.Region renaming wanted->ab1
open Go.Result renaming andThen->abw
open Go.World renaming cell?->ady
open List renaming append_nil->aaP,mem_cons_of_mem->aaa,mem_cons_self->aac,range'->aaQ
open List.cons renaming injEq->aaM
open Nat renaming add_mul_mod_self_left->abI,eq_of_beq_eq_true->aas,lt_of_lt_of_le->abk,mul_comm->aar,sub_add_cancel->acI
open Option.some renaming inj->abn
noncomputable section
set_option linter.unusedVariables false
set_option linter.unusedSimpArgs false
namespace Go.Proofs.YtcafpgpahbplaaaGreat
open Go Go.Eng Go.RowKit Go.Wd Go.Alg Go.Pr
namespace Sh
theorem By(x:F):fV x.val=x.val:=by unfold fV;rw [cM]
theorem IW{g:Nat→Int}(hg:bOk 48 g){i:Nat}(hi:i<48):dk (eo g 48) 48 i=g i:=
 zpc 48 (wD _ 48) hg (by rw [Ez,Nat.mod_eq_of_lt (zV 48 hg)]) i hi
theorem Mb{f:Nat→Int}{X:Nat}{big:Bool}(hX:X<pN)(h0:f 0=FB false big (dk X 48 0))(h:∀ i,1≤i→i<48→f i=dk X 48 i):
  (Eng.bits .and .u8 (f 0) 128>0∧¬Eng.bits .and .u8 (f 0) 64>0∧jT f=big)∧eo (cn f) 48=X:=by
 obtain ⟨b,hb⟩:=Dg hX
 obtain ⟨a1,a2,a3,a4,_⟩:=Sf b big
 rw [hb] at h0
 refine ⟨⟨by rw [h0];exact a1,by rw [h0];exact a2,by unfold jT;rw [h0];exact a3⟩,?_⟩
 rw [←V1 hX]
 refine lG 48 fun i hi=>?_
 unfold cn
 by_cases e:i=0
 ·rw [if_pos e,h0,a4,e,hb]
 ·rw [if_neg e,h i (by omega) hi]
theorem zgW{P:P1}(hP:eV P=true){x y:F}(hxy:bO P = .aff x y):J_ 48 (AQ P)=(((x.val,y.val),false),0):=by
 have tk:=(kM P).1 hP
 rw [hxy] at tk
 have hy:y≠0:=FY oi tk.on tk.tor GA
 have sP:eV (((x.val,y.val),false):P1)=true:=(kM _).2 (by show Tor b1 aO (.aff (φ x.val) (φ y.val));rw [cM,cM];exact tk)
 have nH:E9 (((x.val,y.val),false):P1)=true:=by rw [←BC];exact MZ sP
 have zw7:y*y=φ (crv x.val):=by
  have e:ao y.val y.val=crv x.val:=aas nH
  rw [←e,pq,cM]
 have hf:∀ i,i<48→AQ P i=if i=0 then FB false (qP y.val) (dk x.val 48 0) else dk x.val 48 i:=fun i hi=>by
  show (qM (gJ (bO P)) (qP (gJ (bO P)).1.2)).getD i 0=_
  rw [hxy,VC _ _ hi]
  show (if i=0 then FB false (qP y.val) (dk (fV x.val) 48 0) else dk (fV x.val) 48 i)=_
  rw [By]
 obtain ⟨⟨r1,r2,r3⟩,r4⟩:=Mb (f:=AQ P) (big:=qP y.val) x.lt (by rw [hf 0 (by omega),if_pos rfl]) (fun i h1 h2=>by rw [hf i h2,if_neg (by omega)])
 unfold J_
 rw [if_neg (by omega),if_neg (fun h=>h r1),if_neg r2,r4,if_pos x.lt,r3]
 unfold pt1
 rw [zyb hy zw7,nH,sP];rfl
theorem Df(i:Nat):dk 0 48 i=0:=by unfold dk;simp
theorem zcP:fV 0=0:=by decide +kernel
theorem zom(X:N2)(Y:N2)(h:yN (((X,Y),false):P2)=true):ar Y*ar Y=ar (uJ X):=by
 have h:yy (ai Y Y) (uJ X)=true:=h
 have e:ai Y Y=uJ X:=by
  unfold yy at h
  rw [aaf] at h
  exact Prod.ext (aas h.1) (aas h.2)
 rw [←e,dw]
theorem sX{P:P2}(h:ιP2 P = .inf){i:Nat}(hi:i<96):j2 P i=if i=0 then 192 else 0:=by
 show (rZ (cS (ιP2 P)) (jx (cS (ιP2 P)).1.2)).getD i 0=_
 rw [h,VB _ _ hi]
 show (if i=0 then FB true _ (dk (fV 0) 48 0) else if i<48 then dk (fV 0) 48 i else dk (fV 0) 48 (i-48))=_
 rw [zcP,Df,Df,Df,zxJ]
 by_cases e:i=0
 ·rw [if_pos e,if_pos e]
 ·rw [if_neg e,if_neg e];split<;>rfl
theorem o8{P:P2}{x y:F2}(h:ιP2 P = .aff x y){i:Nat}(hi:i<96):j2 P i=if i=0 then FB false (jx (dr y)) (dk x.b.val 48 0) else if i<48 then dk x.b.val 48 i else dk x.a.val 48 (i-48):=by
 show (rZ (cS (ιP2 P)) (jx (cS (ιP2 P)).1.2)).getD i 0=_
 rw [h,VB _ _ hi]
 show (if i=0 then FB false (jx (dr y)) (dk (fV x.b.val) 48 0) else if i<48 then dk (fV x.b.val) 48 i else dk (fV x.a.val) 48 (i-48))=_
 rw [By,By]
theorem Ec{P:P2}(hP:dW P=true):r8 96 (j2 P)=(cS (ιP2 P),0):=by
 have tk:=(gX P).1 hP
 cases hxy:ιP2 P with
 | inf=>
  obtain ⟨a1,a2,a3,a4⟩:=zgk
  have h0:j2 P 0=192:=by rw [sX hxy (by omega),if_pos rfl]
  have hb:jT (j2 P)=false:=by unfold jT;rw [h0];exact a3
  have hz:SZ 96 (j2 P) (jT (j2 P)):=by
   refine ⟨hb,fun i hi=>?_⟩
   unfold cn
   by_cases e:i=0
   ·rw [if_pos e,h0];exact a4
   ·rw [if_neg e,sX hxy hi,if_neg e]
  unfold r8
  rw [if_neg (by omega),if_neg (fun h=>h (by rw [h0];exact a1)),if_pos (by rw [h0];exact a2),if_pos hz]
  rfl
 | aff x y=>
  rw [hxy] at tk
  have hy:y≠0:=FY ic tk.on tk.tor GA
  have sP:dW (((dr x,dr y),false):P2)=true:=(gX _).2 (by show Tor b2 aO (.aff (ar (dr x)) (ar (dr y)));rw [bW,bW];exact tk)
  have nH:yN (((dr x,dr y),false):P2)=true:=by rw [←BB];exact MW sP
  have zw7:y*y=ar (uJ (dr x)):=by
   have:=zom _ _ nH
   rwa [bW] at this
  obtain ⟨⟨r1,r2,r3⟩,r4⟩:=Mb (f:=j2 P) (big:=jx (dr y)) x.b.lt (by rw [o8 hxy (by omega),if_pos rfl]) (fun i h1 h2=>by rw [o8 hxy (by omega),if_neg (by omega),if_pos h2])
  have r5:eo (tf (j2 P)) 48=x.a.val:=by
   rw [←V1 x.a.lt]
   refine lG 48 fun i hi=>?_
   unfold tf
   rw [o8 hxy (by omega),if_neg (by omega),if_neg (by omega),Nat.add_sub_cancel_left]
  unfold r8
  rw [if_neg (by omega),if_neg (fun h=>h r1),if_neg r2,r4,if_pos x.b.lt,r5,if_pos x.a.lt,r3]
  unfold pt2
  have hX:((x.a.val,x.b.val):N2)=dr x:=rfl
  rw [hX,zoh hy zw7,nH,sP];rfl
theorem zgV{f:Nat→Int}{n:Nat}(hb:bOk n f){S:P2}(h:r8 n f=(S,0)):n=96∧dW S=true∧∀ i,i<96→f i=j2 S i:=by
 unfold r8 at h
 have no:∀ {e:Int},e≠0→¬((iX,e):P2×Int)=(S,0):=fun he h=>he (congrArg Prod.snd h)
 by_cases hn:n≠96
 ·rw [if_pos hn] at h;exact absurd h (no (by decide))
 have hn:n=96:=Classical.not_not.1 hn
 subst hn
 rw [if_neg (by omega)] at h
 obtain ⟨b,Z3⟩:=Sg (n:=256) (hb 0 (by omega))
 by_cases h1:Eng.bits .and .u8 (f 0) 128>0
 ·rw [if_neg (fun k=>k h1)] at h
  by_cases h2:Eng.bits .and .u8 (f 0) 64>0
  ·rw [if_pos h2] at h
   by_cases hz:SZ 96 f (jT f)
   ·rw [if_pos hz] at h
    have hS:S=(((0,0),(0,0)),true):=(congrArg Prod.fst h).symm
    subst hS
    refine ⟨rfl,(gX _).2 Tor.inf,fun i hi=>?_⟩
    rw [sX (P:=(((0,0),(0,0)),true)) rfl hi]
    obtain ⟨z1,z2⟩:=hz
    by_cases e:i=0
    ·rw [if_pos e,e]
     have z3:=z2 0 (by omega)
     unfold cn at z3
     rw [if_pos rfl] at z3
     unfold jT at z1
     rw [Z3] at h1 h2 z3 z1
     rw [Z3]
     exact zxK b h1 h2 z1 z3
    ·rw [if_neg e]
     have z3:=z2 i hi
     unfold cn at z3
     rwa [if_neg e] at z3
   ·rw [if_neg hz] at h;exact absurd h (no (by decide))
  ·rw [if_neg h2] at h
   by_cases hx:eo (cn f) 48<pN
   ·rw [if_pos hx] at h
    by_cases bC:eo (tf f) 48<pN
    ·rw [if_pos bC] at h
     have gx:bOk 48 (cn f):=uL f (V4 hb)
     have gx2:bOk 48 (tf f):=fun i hi=>hb (48+i) (by omega)
     obtain ⟨X1,e1⟩:∃ X,eo (cn f) 48=X:=⟨_,rfl⟩
     obtain ⟨X2,e2⟩:∃ X,eo (tf f) 48=X:=⟨_,rfl⟩
     rw [e1,e2] at h
     rw [e1] at hx
     rw [e2] at bC
     obtain ⟨Y,hY⟩:∃ Y,Ef (X2,X1) (jT f)=Y:=⟨_,rfl⟩
     have hp:pt2 (X2,X1) (jT f)=XN (X2,X1) Y (yN (((X2,X1),Y),false)) (dW (((X2,X1),Y),false)):=by rw [←hY];rfl
     rw [hp] at h
     generalize nH:yN (((X2,X1),Y),false)=on at h
     generalize sP:dW (((X2,X1),Y),false)=nG at h
     rcases Un (X:=(X2,X1)) (Y:=Y) (on:=on) (nG:=nG) with ⟨_,he,ho,hi'⟩|⟨e,he,h'⟩
     ·rw [he] at h
      subst ho
      subst hi'
      have hS:S=(((X2,X1),Y),false):=(congrArg Prod.fst h).symm
      have tk:=(gX _).1 sP
      obtain ⟨v,hv⟩:∃ v,v=ar Y:=⟨_,rfl⟩
      have tk:Tor b2 aO (.aff (ar (X2,X1)) v):=by rw [hv];exact tk
      have hv0:v≠0:=FY ic tk.on tk.tor GA
      obtain ⟨d1,d2⟩:=zg7 (X:=(X2,X1)) (big:=jT f) hv0 (by rw [hY];exact hv)
      rw [hY] at d1 d2
      have zL8:ιP2 S = .aff (ar (X2,X1)) v:=by rw [hS,hv];rfl
      have RM:jx (dr v)=jT f:=by rw [←d1];exact d2
      refine ⟨rfl,by rw [hS];exact sP,fun i hi=>?_⟩
      rw [o8 zL8 hi]
      show f i=if i=0 then FB false (jx (dr v)) (dk (φ X1).val 48 0) else if i<48 then dk (φ X1).val 48 i else dk (φ X2).val 48 (i-48)
      rw [←zt hx,←zt bC,RM,←e1,←e2]
      by_cases e:i=0
      ·rw [if_pos e,IW gx (by omega),e]
       unfold cn jT
       rw [if_pos rfl]
       rw [Z3] at h1 h2
       rw [Z3]
       exact (zxL b h1 h2).symm
      ·rw [if_neg e]
       by_cases Vo:i<48
       ·rw [if_pos Vo,IW gx Vo]
        unfold cn
        rw [if_neg e]
       ·rw [if_neg Vo,IW gx2 (by omega)]
        unfold tf
        have e9:i=48+(i-48):=by omega
        exact congrArg f e9
     ·rw [h'] at h
      have:e=0:=congrArg Prod.snd h
      subst this
      simp at he
    ·rw [if_neg bC] at h;exact absurd h (no (by decide))
   ·rw [if_neg hx] at h;exact absurd h (no (by decide))
 ·rw [if_pos h1] at h;exact absurd h (no (by decide))
theorem Uj:Prime aO:=zu7
def eB:dv:=GF (iO (bO dj) (ιP2 gI))
theorem zEV:pow eB aO=1:=by
 have h:=nd aO 1
 rw [dX.tor,eF,gv _ ph,Nat.mul_one] at h
 exact h.symm
theorem zEW:eB≠1:=S_
theorem As{d:Nat}(h:pow eB d=1):aO ∣ d:=by
 by_cases hd:aO ∣ d
 ·exact hd
 ·obtain ⟨c,t,e⟩:=Jz Uj hd
  have h1:pow eB (c*d)=1:=by rw [aar,cC,h,fT]
  rw [e,ed,aar,cC,zEV,fT,aP,ft] at h1
  exact absurd h1 zEW
theorem Ar{m n:Nat}(hmn:n≤m)(h:pow eB m=pow eB n):pow eB (m-n)=1:=by
 have hr:0<aO:=by decide +kernel
 have h1:pow eB (n*(aO-1))*pow eB n=1:=by
  rw [←ed]
  have:n*(aO-1)+n=aO*n:=by
   rw [←Nat.mul_succ,Nat.succ_eq_add_one,acI hr,aar]
  rw [this,cC,zEV,fT]
 have h2:pow eB m=pow eB (m-n)*pow eB n:=by rw [←ed,acI hmn]
 calc pow eB (m-n)=pow eB (m-n)*(pow eB n*pow eB (n*(aO-1))):=by rw [mul_comm (pow eB n),h1,mul_one]
  _=pow eB m*pow eB (n*(aO-1)):=by rw [←mul_assoc,←h2]
  _=1:=by rw [h,mul_comm,h1]
theorem zxP{m n:Nat}(h:pow eB m=pow eB n):m%aO=n%aO:=by
 rcases Nat.le_total n m with hle|hle
 ·obtain ⟨q,hq⟩:=As (Ar hle h)
  rw [show m=n+aO*q by omega,abI]
 ·obtain ⟨q,hq⟩:=As (Ar hle h.symm)
  rw [show n=m+aO*q by omega,abI]
theorem LG{p:Pt F2}(hp:Tor b2 aO p)(m:Nat):smul m p=smul (m%aO) p:=by
 have e:=Nat.div_add_mod m aO
 have h:smul (aO*(m/aO)) p = .inf:=by rw [aar,ji ic hp.on,hp.tor,jZ]
 calc smul m p=smul (aO*(m/aO)+m%aO) p:=by rw [e]
  _=smul (m%aO) p:=by rw [rA ic hp.on,h,b6]
theorem zc0{k:Nat}{H S:P2}(hH:dW H=true)(hS:dW S=true):fW (E3 k) H=fW dj S↔ιP2 S=smul k (ιP2 H):=by
 have hb:eV dj=true:=(kM _).2 dX
 have hk:bO (E3 k)=smul k (bO dj):=by unfold E3;rw [tV]
 obtain ⟨a,ha⟩:=zE6 ((gX H).1 hH)
 obtain ⟨s,hs⟩:=zE6 ((gX S).1 hS)
 have e1:∀ s,GF (iO (bO dj) (smul s (ιP2 gI)))=pow eB s:=fun s=>by
  have:=nd 1 s
  rw [eF,Nat.one_mul] at this
  exact this
 have e2:GF (iO (smul k (bO dj)) (smul a (ιP2 gI)))=pow eB (k*a):=nd k a
 rw [oO (Up k) hH,oO hb hS,hk,ha,e2]
 have e3:smul k (smul a (ιP2 gI))=smul (k*a) (ιP2 gI):=(ji ic ph.on k a).symm
 rw [e3]
 constructor
 ·intro h
  rw [hs,e1] at h
  rw [hs,LG ph s,LG ph (k*a),zxP (vd h)]
 ·intro h
  rw [h,e1]
theorem zjz{dL:Rho}{w0 w:World}{st:St}{a:Act}{Q:Exit→Act→World→Prop}(h25:st.slot 25=none)(hA:At 80 dL w0 st a w)(hQ:∀ ρ a',Ext dL w0 ρ w→Sim ρ 80 st a w→Sim ρ 80 (aX st [(24,sl (.v (.map (some w.heap.size))))]) a' (w.alloc (.map #[] 0))→Q .normal a' (w.alloc (.map #[] 0))):(mi 4).wp Tryz.prog Q a w:=by
 obtain ⟨o,p1,p2,p3,p4⟩:=fH zB1
 obtain ⟨o',q1,q2,q3,q4⟩:=fH zB2
 obtain ⟨ρ,hE,hs⟩:=hA
 have key:WO Tryz.prog (cq (mi 4)) (Nrm fun a' w'=>w'=w.alloc (.map #[] 0)∧Sim ρ 80 (aX st [(24,sl (.v (.map (some w.heap.size))))]) a' w') [0,1] a w:=by
  generalize cq (mi 4)=ops at *
  refine ⟨?_⟩
  rw [wpOps_cons]
  refine lQ (v:=.map (some w.heap.size)) (w':=w.alloc (.map #[] 0)) p1 p4 ?_ ?_
  ·unfold execOp
   rw [p2]
   simp only [Option.map_none,Sem.run_bind,run_makeMap,abw,Sem.run_pure]
  ·rw [wpOps_cons,p3]
   have hs1:Sim ρ 80 st (a.put (some 25) (.map (some w.heap.size))) (w.alloc (.map #[] 0)):=(Sim.of_below hs ((Below.refl _ w).alloc (Nat.le_refl _) _)).put_off h25 _
   refine lQ (v:=.map (some w.heap.size)) (w':=w.alloc (.map #[] 0)) q1 q4 ?_ ?_
   ·have hlt:25<a.tmps.size:=by rw [hs.size];omega
    unfold execOp
    rw [q2]
    simp [Act.put,Act.eval,hlt]
   ·rw [q3]
    exact ⟨rfl,rfl,Sim.put (t:=12) (x:=.one (bT (.v (.map (some w.heap.size))))) hs1 (by omega) (AV.val_v (ρ:=ρ) (x:=.map (some w.heap.size)) rfl)⟩
 refine m6 zuS zuR key fun a' w' h=>?_
 obtain ⟨rfl,DN⟩:=h
 exact hQ ρ a' hE hs DN
theorem zjB(B c1 c2:Nat)(l:St)(k:Nat):Eng.look (mpV B::(Cu c1 c2++l)) k=Eng.look (aX (Cu c1 c2++l) [(24,sl (.v (.map (some B))))]) k:=by
 show _=Eng.look (Eng.upd (Cu c1 c2++l) 24 (sl (.v (.map (some B))))) k
 rw [oV]
 show (if (24==k)=true then _ else _)=_
 simp only [beq_iff_eq]
theorem zjA{px py:Nat}{ip:Bool}{sx bA sy bz:Nat}{is:Bool}{hx bC hy bM:Nat}{ih:Bool}{gx gy:Nat}{ig:Bool}{fa fb fc fd fe ff fg fh fi fj fk fl wa wb wc wd we wf wg wh wi wj wk wl:Nat}{w:World}{z zs:Bool}{u1 o1 u2 o2 u3 o3 u4 o4 c1 c2 n c ns cs:Nat}{fm fs:Nat→Int}(jt:VfMem w (aQ px py ip) z zs u1 o1 u2 o2 u3 o3 u4 o4 n c ns fm fs)(hn:n≤90000)(hp:eV (aQ px py ip)=true)(hH:hV z n fm=(aG hx bC hy bM ih))(hD:kW zs ns fs=((aG sx bA sy bz is),0))(hc:zs=false→ns≤cs∧bOk ns fs)
  (hN:rQ=(aQ gx gy ig)) (hF:tK (aQ px py ip) (aG hx bC hy bM ih) (aQ gx gy ig) (aG sx bA sy bz is)=(eM fa fb fc fd fe ff fg fh fi fj fk fl)) (hW:cr 1=(eM wa wb wc wd we wf wg wh wi wj wk wl)) {b:Bool} (hb:(eM fa fb fc fd fe ff fg fh fi fj fk fl)=(eM wa wb wc wd we wf wg wh wi wj wk wl)↔b=true) :
  cX Tryz.prog 44 #[.slice (some ⟨u1,o1,none⟩) 1 (c1+1),.slice (some ⟨u2,o2,none⟩) 1 (c2+1),byV zs u4 o4 ns cs,.string cT] (.bool b) w:=by
 have hM:=zaL jt
 have cv:=zaJ u1 o1 u2 o2 u3 o3 u4 o4
 have hv:=Tn z zs u1 o1 u2 o2 u3 o3 u4 o4 c1 c2 n c ns cs
 obtain ⟨fn,Fi,l7,oX,RF,_⟩:=(aB _ _ Sd).ok
 have hT:=Aa ((aG sx bA sy bz is),0) (aG hx bC hy bM ih) (aQ gx gy ig) (eM fa fb fc fd fe ff fg fh fi fj fk fl) (eM wa wb wc wd we wf wg wh wi wj wk wl)
 have zM3:dW (aG hx bC hy bM ih)=true:=(gX _).2 (by rw [←hH];exact zj z n fm)
 have zMZ:dW (aG sx bA sy bz is)=true:=by
  rcases uI zs ns fs with ⟨_,h⟩|⟨e,he,h⟩
  ·rw [hD] at h;exact h
  ·rw [hD] at h
   have:=congrArg Prod.snd h
   have this:(0:Int)=e:=this
   subst this
   simp at he
 refine calls_of_wp Fi l7 ?_
 rw [RF,zA6,Tr]
 have c9:=At.begin (N:=80) hM (zaK (aQ px py ip) z n c ns fm fs) hv (by show 4≤80;omega)
 refine At.probes (E:=(qC ((aG sx bA sy bz is),0) (aG hx bC hy bM ih) (aQ gx gy ig) (eM fa fb fc fd fe ff fg fh fi fj fk fl) (eM wa wb wc wd we wf wg wh wi wj wk wl))) an ab hT (zjv px py ip sx bA sy bz is hx bC hy bM ih (aQ gx gy ig) (eM fa fb fc fd fe ff fg fh fi fj fk fl) (eM wa wb wc wd we wf wg wh wi wj wk wl) z zs c1 c2 n c ns cs fm fs) (To hD hc) c9 oc (ba (kv1 px py ip sx bA sy bz is hx bC hy bM ih z c1 c2 n c ns 0 fm fs).1) (kv1 px py ip sx bA sy bz is hx bC hy bM ih z c1 c2 n c ns 0 fm fs).2.1 (Tq rfl) fun a1 w1 nq=>?_
 refine wp_seq ?_
 refine zjz (kv1 px py ip sx bA sy bz is hx bC hy bM ih z c1 c2 n c ns 0 fm fs).2.2.2 nq fun ρa a2 hEa hsa DN=>?_
 have hka:∀ id q,ρa id=some q→id∈oc:=fun id q hq=>by
  obtain ⟨l,hl⟩:=hsa.dom id q hq
  have:=VU hl
  rwa [(kv1 px py ip sx bA sy bz is hx bC hy bM ih z c1 c2 n c ns 0 fm fs).2.2.1] at this
 obtain ⟨B,hBd⟩:∃ B,w1.heap.size=B:=⟨_,rfl⟩
 obtain ⟨wB,hwb⟩:∃ wB,w1.alloc (.map #[] 0)=wB:=⟨_,rfl⟩
 have zM7:Below w1.heap.size w1 wB:=by rw [←hwb];exact (Below.refl _ w1).alloc (Nat.le_refl _) _
 have hB:wB.heap[B]? = some (.map #[] 0):=by rw [←hwb,←hBd];exact World.alloc_heap_new w1 _
 rw [hwb,hBd] at DN
 rw [hwb]
 have zME:¬Eng.Own ρa B:=by
  rintro ⟨id,o,_,hq⟩
  have:=Sim.lt hsa hq
  omega
 have DP:w.heap.size≤B:=by rw [←hBd];exact hEa.keep.size
 have YM:At 80 ρa wB (mpV B::(Cu c1 c2++fK (aQ px py ip) (aG sx bA sy bz is) z n c ns fm fs)) a2 wB:=⟨ρa,.refl _ _,DN.congr fun k=>zjB B c1 c2 _ k⟩
 show (Code.seq (mi 5) (bVf 6)).wp _ _ a2 wB
 refine wp_seq ?_
 rw [zA8]
 refine wp_seq ?_
 refine At.probe (E:=(qC ((aG sx bA sy bz is),0) (aG hx bC hy bM ih) (aQ gx gy ig) (eM fa fb fc fd fe ff fg fh fi fj fk fl) (eM wa wb wc wd we wf wg wh wi wj wk wl))) an ab hT (zju px py ip sx bA sy bz is hx bC hy bM ih (aQ gx gy ig) (eM fa fb fc fd fe ff fg fh fi fj fk fl) (eM wa wb wc wd we wf wg wh wi wj wk wl) z c1 c2 n c ns fm fs B) (fun p hp=>by cases hp) YM oc (ba (kv3 px py ip sx bA sy bz is hx bC hy bM ih z c1 c2 n c ns B fm fs).1) (kv3 px py ip sx bA sy bz is hx bC hy bM ih z c1 c2 n c ns B fm fs).2 hka fun a3 w3 hA3=>?_
 refine wp_block ?_
 refine @zaE px py ip sx bA sy bz is hx bC hy bM ih gx gy ig fa fb fc fd fe ff fg fh fi fj fk fl wa wb wc wd we wf wg wh wi wj wk wl z c1 c2 n c ns B fm fs ρa wB w3 a3 w.heap.size hka DP hB zME hn hH hA3 _ fun xV w2 wm a4 w4 hE2 tP RH Fm=>?_
 show (bVf 6).wp _ _ a4 w4
 refine At.probe (E:=(qC ((aG sx bA sy bz is),0) (aG hx bC hy bM ih) (aQ gx gy ig) (eM fa fb fc fd fe ff fg fh fi fj fk fl) (eM wa wb wc wd we wf wg wh wi wj wk wl))) an ab hT (zth px py ip sx bA sy bz is hx bC hy bM ih gx gy ig fa fb fc fd fe ff fg fh fi fj fk fl wa wb wc wd we wf wg wh wi wj wk wl b z c1 c2 n c ns fm fs) (zjy hp zM3 zMZ hN hF hW hb) Fm js (ba (kvF px py ip sx bA sy bz is hx bC hy bM ih z c1 c2 n c ns 0 fm fs b).1) (kvF px py ip sx bA sy bz is hx bC hy bM ih z c1 c2 n c ns 0 fm fs b).2.1 RH fun a5 w5 G9=>?_
 obtain ⟨ρf,hEf,hsf⟩:=G9
 obtain ⟨v,qL,uX⟩:=jl ab hsf (oX.trans zaF) (kvF px py ip sx bA sy bz is hx bC hy bM ih z c1 c2 n c ns 0 fm fs b).2.2
 have hvb:v = .bool b:=by
  have e:SV.val ρf (pT [cY b])=some (.bool b):=ga ρf b
  rw [e] at qL;exact (abn qL).symm
 subst hvb
 have zxc:Ext (aH (EL u1 o1 u2 o2 u3 o3 u4 o4)) w xV w2:=(hEa.trans (Ext.of_below zM7)).trans hE2
 have znh:Below w.heap.size w w5:=(zxc.below cv).trans (tP.trans (zgp hEf (Nat.le_trans zxc.keep.size tP.size) (zc6 zxc cv)))
 exact ⟨hsf.calm,.bool b,uX,rfl,znh⟩
def TV(p:P1)(z:Bool)(n c ns:Nat)(fm fs:Nat→Int):St:=[(16,sl (.v (.bool false))),(3,.bl (wP p).its),(5,.bl (gn z 3 n c).its),(7,.bl (gM n fm)),(9,.bl (gM ns fs))]
theorem kvB(p:P1)(z:Bool)(n c ns:Nat)(fm fs:Nat→Int):zwQ.all (fun id=>(St.blk (TV p z n c ns fm fs) id).isSome)=true∧aw (TV p z n c ns fm fs) zwQ=true∧cO bh (TV p z n c ns fm fs) zaM=some [cY false]:=by cases z<;>exact ⟨by kernel_rfl,by kernel_rfl,by kernel_rfl⟩
theorem sn{e:Int}{w:World}{p:P1}{z zs:Bool}{u1 o1 u2 o2 u3 o3 u4 o4 c1 c2 n c ns cs:Nat}{fm fs:Nat→Int}(jt:VfMem w p z zs u1 o1 u2 o2 u3 o3 u4 o4 n c ns fm fs)(hD:kW zs ns fs=(iX,e))(hc:zs=false→ns≤cs∧bOk ns fs)
  {H:P2} {Ng:P1} {F W:b9} (eN:Eng.probes (qC (iX,e) H Ng F W) 100 [mi 0,mi 1,mi 2,mi 3] (MV p z zs c1 c2 n c ns cs fm fs) 16 [] [16,3,5,7,9]=some (1,IZ zs ns cs fs (iX,e),[some (sl (.v (.bool false))),some (.bl (wP p).its),some (.bl (gn z 3 n c).its),some (.bl (gM n fm)),some (.bl (gM ns fs))])) :
  cX Tryz.prog 44 #[.slice (some ⟨u1,o1,none⟩) 1 (c1+1),.slice (some ⟨u2,o2,none⟩) 1 (c2+1),byV zs u4 o4 ns cs,.string cT] (.bool false) w:=by
 have hM:=zaL jt
 have cv:=zaJ u1 o1 u2 o2 u3 o3 u4 o4
 have hv:=Tn z zs u1 o1 u2 o2 u3 o3 u4 o4 c1 c2 n c ns cs
 obtain ⟨fn,Fi,l7,oX,RF,_⟩:=(aB _ _ Sd).ok
 refine calls_of_wp Fi l7 ?_
 rw [RF,zA6,Tr]
 have c9:=At.begin (N:=80) hM (zaK p z n c ns fm fs) hv (by show 4≤80;omega)
 refine At.probes (E:=qC (iX,e) H Ng F W) (cE:=TV p z n c ns fm fs) an ab (Aa (iX,e) H Ng F W) eN (To hD hc) c9 zwQ (ba (kvB p z n c ns fm fs).1) (kvB p z n c ns fm fs).2.1 (Tq rfl) fun a5 w5 G9=>?_
 obtain ⟨ρf,hEf,hsf⟩:=G9
 obtain ⟨v,qL,uX⟩:=jl ab hsf (oX.trans zaF) (kvB p z n c ns fm fs).2.2
 have hvb:v = .bool false:=by
  have e:SV.val ρf (pT [cY false])=some (.bool false):=ga ρf false
  rw [e] at qL;exact (abn qL).symm
 subst hvb
 exact ⟨hsf.calm,.bool false,uX,rfl,hEf.below cv⟩
theorem zjC{p:P1}{H:P2}{e:Int}(he:e≠0):KH p H (iX,e)=false:=by
 unfold KH
 rw [decide_eq_false he];rfl
theorem Kn{w:World}{p:P1}{z zs:Bool}{u1 o1 u2 o2 u3 o3 u4 o4 c1 c2 n c ns cs:Nat}{fm fs:Nat→Int}(jt:VfMem w p z zs u1 o1 u2 o2 u3 o3 u4 o4 n c ns fm fs)(hn:n≤90000)(hp:eV p=true)(hc:zs=false→ns≤cs∧bOk ns fs):
  cX Tryz.prog 44 #[.slice (some ⟨u1,o1,none⟩) 1 (c1+1),.slice (some ⟨u2,o2,none⟩) 1 (c2+1),byV zs u4 o4 ns cs,.string cT] (.bool (KH p (hV z n fm) (kW zs ns fs))) w:=by
 rcases uI zs ns fs with ⟨h1,_⟩|⟨e,he,h⟩
 ·obtain ⟨D,hD⟩:∃ D,kW zs ns fs=D:=⟨_,rfl⟩
  obtain ⟨H,hH⟩:∃ H,hV z n fm=H:=⟨_,rfl⟩
  rw [hD] at h1
  rw [hD,hH]
  obtain ⟨S,e⟩:=D
  have h1:e=0:=h1
  subst h1
  obtain ⟨Ng,hN⟩:∃ N,rQ=N:=⟨_,rfl⟩
  obtain ⟨F,hF⟩:∃ F,tK p H Ng S=F:=⟨_,rfl⟩
  obtain ⟨W,hW⟩:∃ W,cr 1=W:=⟨_,rfl⟩
  obtain ⟨b,hb⟩:∃ b,KH p H (S,0)=b:=⟨_,rfl⟩
  have JE:F=W↔b=true:=by
   rw [←hb]
   unfold KH
   rw [hN,hF,hW]
   simp
  rw [hb]
  obtain ⟨⟨px,py⟩,ip⟩:=p
  obtain ⟨⟨⟨sx,bA⟩,⟨sy,bz⟩⟩,is⟩:=S
  obtain ⟨⟨⟨hx,bC⟩,⟨hy,bM⟩⟩,ih⟩:=H
  obtain ⟨⟨gx,gy⟩,ig⟩:=Ng
  obtain ⟨⟨⟨fa,fb⟩,⟨fc,fd⟩,⟨fe,ff⟩⟩,⟨⟨fg,fh⟩,⟨fi,fj⟩,⟨fk,fl⟩⟩⟩:=F
  obtain ⟨⟨⟨wa,wb⟩,⟨wc,wd⟩,⟨we,wf⟩⟩,⟨⟨wg,wh⟩,⟨wi,wj⟩,⟨wk,wl⟩⟩⟩:=W
  exact zjA (px:=px) (py:=py) (ip:=ip) (sx:=sx) (bA:=bA) (sy:=sy) (bz:=bz) (is:=is) (hx:=hx) (bC:=bC) (hy:=hy) (bM:=bM) (ih:=ih) jt hn hp hH hD hc hN hF hW JE
 ·rw [h]
  simp only [List.mem_cons,List.not_mem_nil,or_false] at he
  have he0:e≠0:=by omega
  rw [zjC he0]
  rcases he with rfl|rfl|rfl|rfl|rfl|rfl
  ·exact sn jt h hc (WE p iX EJ ll ll z zs c1 c2 n c ns cs fm fs)
  ·exact sn jt h hc (WD p iX EJ ll ll z zs c1 c2 n c ns cs fm fs)
  ·exact sn jt h hc (WC p iX EJ ll ll z zs c1 c2 n c ns cs fm fs)
  ·exact sn jt h hc (WB p iX EJ ll ll z zs c1 c2 n c ns cs fm fs)
  ·exact sn jt h hc (WA p iX EJ ll ll z zs c1 c2 n c ns cs fm fs)
  ·exact sn jt h hc (Wz p iX EJ ll ll z zs c1 c2 n c ns cs fm fs)
def dKs:Fn1:=match fJ 94 with
 | some d=>d
 | none=>⟨.skip,[],0⟩
theorem zgh:fJ 94=some dKs:=by kernel_rfl
def Tc(D:P1×Int):Eng:={ tab:=bh,call:=kR bh (d1T D) fJ 1000 (fun _=>[]) 6,N:=25 }
theorem ziS(D:P1×Int):ag Tryz.prog (Tc D).call:=gm an ab (zhC D) aB 1000 (fun _=>[]) 6
def lpK:Code:=gw (dh (aJ dKs.body))
def r0K:Code:=bJ dKs.body
def r1K:Code:=bJ lpK
def c1K:Code:=bJ (aJ lpK)
def b1K:Code:=dh (bJ (aJ (aJ lpK)))
def r5K:Code:=aJ (aJ (aJ lpK))
def r2K:Code:=bJ b1K
def r3K:Code:=bJ (aJ b1K)
def QZ:Code:=bJ (aJ (aJ b1K))
def i4K:Code:=aJ (aJ (aJ b1K))
def yV(l:Nat):Value:=.func (.yield l) #[] #[]
def zL0(l:Nat)(z:Bool)(c2 n c:Nat)(f:Nat→Int):St:=aW 0 [⟨false,[.v (yV l)]⟩,bT (.p 1 0)] (25-2)++cj [(1,[.s 2 0 1 (c2+1)]),(2,(gn z 3 n c).its),(3,gM n f)]
def Bk(z:Bool)(c2 n c:Nat)(f:Nat→Int):St:=[(3,.bl [.s 2 0 1 (c2+1)]),(5,.bl (gn z 3 n c).its),(7,.bl (gM n f))]
def Lw(l c2:Nat):St:=[(0,sl (.v (yV l))),(14,sl (.s 2 0 1 (c2+1))),(16,iC 1),(18,iC 0)]
theorem zmq(D:P1×Int)(l:Nat)(z:Bool)(c2 n c:Nat)(f:Nat→Int):Eng.probe (Tc D) 100 r0K (zL0 l z c2 n c f) 16 [] ((Lw l c2++Bk z c2 n c f).map (·.1))=some (0,[],(Lw l c2++Bk z c2 n c f).map fun p=>some p.2):=by cases z<;>kernel_rfl
theorem zmp(D:P1×Int)(l:Nat)(z:Bool)(c2 n c:Nat)(f:Nat→Int):Eng.probes (Tc D) 100 [r1K,c1K] (Lw l c2++Bk z c2 n c f) 30 [] ((Lw l c2++Bk z c2 n c f).map (·.1))=some (0,[],(Lw l c2++Bk z c2 n c f).map fun p=>some p.2):=by cases z<;>kernel_rfl
def obK(z:Bool)(n c:Nat)(f:Nat→Int)(D:P1×Int):List Prop:=match z with
 | true=>[BV true 0 (fun _=>0)=D]
 | false=>[BV false n (fun i=>f (0+i))=D,n≤c,bOk n (fun i=>f (0+i)),0+n*1≤n]
def O0(p:P1):St:=[(91,.bl (wP p).its)]
def W5(l:Nat)(e:Int):St:=[(0,sl (.v (yV l))),(10,sl (.p 45 0)),(12,iC e),(16,iC 1),(18,iC 0)]
theorem zmo(px py:Nat)(ip:Bool)(e:Int)(l:Nat)(z:Bool)(c2 n c:Nat)(f:Nat→Int):Eng.probes (Tc (aQ px py ip,e)) 100 [r2K,r3K] (Lw l c2++Bk z c2 n c f) 37 [] ((W5 l e++Bk z c2 n c f++O0 (aQ px py ip)).map (·.1))=some (0,obK z n c f (aQ px py ip,e),(W5 l e++Bk z c2 n c f++O0 (aQ px py ip)).map fun p=>some p.2):=by cases z<;>kernel_rfl
def Cz(l:Nat)(p:P1)(e:Int):St:=[(16,iC 1),(18,iC 0),(36,sl (.v (yV l))),(38,.sl (.one (wP p))),(42,sl (.v (.bool (e==0))))]
theorem zmn(px py:Nat)(ip:Bool)(e:Int)(l:Nat)(z:Bool)(c2 n c:Nat)(f:Nat→Int):rpart (Tc (aQ px py ip,e)) (cq QZ) (vL (cq QZ) 0 4) (W5 l e++Bk z c2 n c f++O0 (aQ px py ip)) 50 [] ((Cz l (aQ px py ip) e++Bk z c2 n c f++O0 (aQ px py ip)).map (·.1))=some ([],(Cz l (aQ px py ip) e++Bk z c2 n c f++O0 (aQ px py ip)).map fun p=>some p.2):=by cases z<;>kernel_rfl
def zbH(b:Bool):St:=[(16,iC 1),(18,iC 0),(44,sl (.v (.bool b)))]
def H5(b:Bool):St:=[(16,iC 1),(18,iC 0),(46,sl (.v (.bool b)))]
theorem zmm(D:P1×Int)(b:Bool):rpart (Tc D) (cq QZ) (vL (cq QZ) 5 1) (zbH b) 60 [] ((H5 (!b)).map (·.1))=some ([],(H5 (!b)).map fun p=>some p.2):=by cases b<;>kernel_rfl
def zki:St:=[(16,iC 1),(18,iC 1)]
theorem zml(D:P1×Int):Eng.probe (Tc D) 100 r5K (H5 false) 70 [] (zki.map (·.1))=some (0,[],zki.map fun p=>some p.2):=by kernel_rfl
theorem zmk(D:P1×Int):Eng.probes (Tc D) 100 [r1K,c1K] zki 80 [] []=some (2,[],[]):=by kernel_rfl
theorem zms:dKs.body = .seq r0K (.block 0 (.loop lpK)):=by kernel_rfl
theorem zDf:lpK=gG [r1K,c1K] (.seq (.block 1 b1K) r5K):=by kernel_rfl
theorem zDh:b1K=gG [r2K,r3K] (.seq QZ i4K):=by kernel_rfl
theorem zDg:i4K = .cond (.tmp 23) .ret .skip:=by kernel_rfl
theorem zLM:dKs.ntmps=25:=by kernel_rfl
theorem zwn:dKs.results=[]:=by kernel_rfl
theorem zwo:QZ = .region (xg QZ) (cq QZ) false:=by kernel_rfl
theorem zwm:List.range (cq QZ).size=aaQ 0 4++(4::(aaQ 5 1++[])):=by kernel_rfl
theorem zmr:oQ QZ 4=some (.call { callee:=.value (.tmp 18),args:=#[.tmp 19,.tmp 21],argTypes:=#[29,4] },some 22,none):=by kernel_rfl
theorem zwq(z:Bool)(c2 n c:Nat)(f:Nat→Int):(cj [(1,[.s 2 0 1 (c2+1)]),(2,(gn z 3 n c).its),(3,gM n f)]).all (fun p=>p.1%2==1)=true:=by cases z<;>kernel_rfl
end Sh
end Go.Proofs.YtcafpgpahbplaaaGreat
namespace Go.Eng
open Go Go.RowKit
theorem Us{P:Program}{ops:Array Oper}{n:Nat}{G:Act→World→Prop}{Q:Exit→Act→World→Prop}{rest:List Nat}(hG:∀ a w,G a w→wpOpsIn abU n P ops Q rest a w):∀ (l:List Nat) (a:Act) (w:World),wpOps P ops (Nrm G) l a w→wpOpsIn abU n P ops Q (l++rest) a w:=by
 intro l
 induction l with
 | nil=>intro a w h;exact hG a w h.2
 | cons i l ih=>
  intro a w h
  rw [wpOps_cons] at h
  unfold wpOp at h
  show wpOpsIn abU n P ops Q (i::(l++rest)) a w
  unfold wpOpsIn
  split
  ·rename_i ho;rw [ho] at h;exact ih a w h
  ·rename_i o ho
   rw [ho] at h
   simp only at h
   split at h
   ·rename_i hw
    rw [if_pos hw]
    rcases h with h|⟨_,h⟩
    ·refine ⟨fun _ _=>trivial,?_⟩
     show ad5 _ _ _ _ _ _ _ ((execOp a.eval o).run P w)
     unfold Oper.wp at h
     generalize (execOp a.eval o).run P w=r at h ⊢
     have dn:abU.depth.isSome=true→1≤n:=fun h=>by cases h
     cases r with
     | ok m w'=>
      cases m<;>simp only [Oper.upon] at h<;>simp only [ad5] <;>
       first
        | exact ih _ _ h
        | (refine ⟨dn,callsIn_wide.2 (Calls.mono h fun e uV he=>?_)⟩;cases e<;>first | exact ih _ _ he | exact (GO he).elim | exact (sL he).elim)
        | exact ⟨dn,fun c cs _=>let ⟨v,uV,r,s⟩:=h c cs;⟨v,uV,ih _ _ r,stepsIn_wide.2 s⟩⟩
        | exact h.elim
     | halt x w'=>cases x<;>simp only [Oper.upon] at h<;>first | exact (GO h).elim | exact h.elim
    ·exact (sL h).elim
   ·rename_i hw
    rw [if_neg hw]
    exact ⟨fun _ _=>trivial,ih _ _ h⟩
theorem EK{P:Program}{ops:Array Oper}{n:Nat}{Q:Exit→Act→World→Prop}{i:Nat}{rest:List Nat}{o:Oper}{a:Act}{w:World}{l:Nat}{args:Array Value}{R:Ending→World→Prop}(hi:ops[i]? = some o)(hg:o.guard=none)(hr:(execOp a.eval o).run P w=(Instr.yield l args).run P w)
  (hY:YieldAt abU (n-1) P l args w R) (hR:∀ e w',R e w'→∃ v,e = .returned v∧wpOpsIn abU n P ops Q rest (a.put o.dst v) w'):wpOpsIn abU n P ops Q (i::rest) a w:=by
 unfold wpOpsIn
 rw [hi]
 have hw:ab1 o (yielded ops a.tmps)=true:=by unfold ab1;rw [hg]
 simp only [hw,if_true]
 refine ⟨fun _ _=>trivial,?_⟩
 show ad5 _ _ _ _ _ _ _ ((execOp a.eval o).run P w)
 obtain ⟨fn,tmps,assign,body,hy,hRd⟩:=hY
 rw [hr,hy,Oper.uponIn_round]
 refine ⟨fun h=>(by cases h),hRd.mono fun e w' he=>?_⟩
 obtain ⟨v,rfl,h⟩:=hR e w' he
 exact h
theorem zbZ{N:Nat}{st:St}{a:Act}{w:World}(q9:a.tmps.size=N)(hc:a.defers=[])(h:∀ t x,st.slot t=some x→x.val rho0=some (a.tmps.getD t undef))(hb:∀ id,st.blk id=none):Sim rho0 N st a w:=
 ⟨h,q9,⟨fun id l hl=>by rw [hb] at hl;cases hl⟩,⟨fun id id' b o o' l l' _ h1=>by rw [hb] at h1;cases h1⟩,fun id q hq=>(by cases hq),hc⟩
end Go.Eng
namespace Go.Proofs.YtcafpgpahbplaaaGreat
open Go Go.Eng Go.RowKit Go.Wd Go.Alg Go.Pr
namespace Sh
theorem kp{w W:World}{b o:Nat}{vs:List Value}(h:Stands w b o vs)(hB:Below w.heap.size w W):Stands W b o vs:=
 ⟨abk h.1 hB.size,fun i v hv=>by
  rw [←h.2 i v hv]
  exact World.cell?_of_block (a:=⟨b,o+i,none⟩) (hB.block b h.1)⟩
theorem Np{w W:World}(hB:Below w.heap.size w W)(row:Option Nat):w.grownBy W row:=⟨hB.os,hB.tape,hB.output,hB.size,fun k hk _=>hB.block k hk⟩
def zgA(x:P1×Bool):Array Value:=#[i_ x.1,.bool x.2]
def xK(z:Bool)(n:Nat)(f:Nat→Int):P1×Bool:=((BV z n f).1,(BV z n f).2==0)
structure KsMem(w:World)(z:Bool)(u1 o1 u2 o2 u3 o3 c2 n c:Nat)(f:Nat→Int):Prop where
 box:Stands w u1 o1 [.slice (some ⟨u2,o2,none⟩) 1 (c2+1)]
 ks:Stands w u2 o2 [byV z u3 o3 n c]
 key:Stands w u3 o3 (gvals .u8 n f)
theorem KsMem.below{w W:World}{z:Bool}{u1 o1 u2 o2 u3 o3 c2 n c:Nat}{f:Nat→Int}(h:KsMem w z u1 o1 u2 o2 u3 o3 c2 n c f)(hB:Below w.heap.size w W):KsMem W z u1 o1 u2 o2 u3 o3 c2 n c f:=
 ⟨kp h.box hB,kp h.ks hB,kp h.key hB⟩
def Rr(u1 o1 u2 o2 u3 o3:Nat):List (Nat×(Nat×Nat)):=[(1,(u1,o1)),(2,(u2,o2)),(3,(u3,o3))]
theorem zrK{u1 o1 u2 o2 u3 o3 id:Nat}{q:Nat×Nat}(hq:aH (Rr u1 o1 u2 o2 u3 o3) id=some q):id=1∨id=2∨id=3:=by
 simp only [aH,Rr] at hq
 split at hq
 ·rename_i e;exact .inl e.symm
 ·split at hq
  ·rename_i e;exact .inr (.inl e.symm)
  ·split at hq
   ·rename_i e;exact .inr (.inr e.symm)
   ·cases hq
theorem zwp(u1 o1 u2 o2 u3 o3:Nat):∀ c,¬Eng.Own (aH (Rr u1 o1 u2 o2 u3 o3)) c:=by
 rintro c ⟨id,o,ho,hq⟩
 rcases zrK hq with rfl|rfl|rfl<;>(rcases ho with ho|ho<;>cases ho)
theorem gZ{ρ:Rho}{x:It}{v:Value}(h:AV.val ρ (bT x)=some v):conc ρ [x]=some [v]:=by
 obtain ⟨vs,hc,hh⟩:=AV.cells h
 rcases hh with ⟨hf,_⟩|⟨_,hh⟩
 ·cases hf
 ·rw [hh] at hc;exact hc
theorem zws{w:World}{z:Bool}{u1 o1 u2 o2 u3 o3 c2 n c:Nat}{f:Nat→Int}(h:KsMem w z u1 o1 u2 o2 u3 o3 c2 n c f):Mem (aH (Rr u1 o1 u2 o2 u3 o3)) (cj [(1,[.s 2 0 1 (c2+1)]),(2,(gn z 3 n c).its),(3,gM n f)]) w:=by
 obtain ⟨hs1,DN,hs3⟩:=h
 refine oU (l:=[(1,[.s 2 0 1 (c2+1)]),(2,(gn z 3 n c).its),(3,gM n f)]) rfl rfl fun id its q h1 h2=>?_
 simp only [Eng.look,Rr,beq_iff_eq] at h1 h2
 split at h1
 ·rename_i e;rw [if_pos e] at h2;cases h1;cases h2
  refine ⟨_,gZ (v:=.slice (some ⟨u2,o2,none⟩) 1 (c2+1)) ?_,hs1⟩
  have e:=bu (ρ:=aH (Rr u1 o1 u2 o2 u3 o3)) (id:=2) (q:=(u2,o2)) (by simp [aH,Rr]) 0 1 (c2+1)
  simpa [iG,SV.val,bT] using e
 ·rename_i e1;rw [if_neg e1] at h2
  split at h1
  ·rename_i e;rw [if_pos e] at h2;cases h1;cases h2
   refine ⟨[byV z u3 o3 n c],?_,DN⟩
   cases z with
   | true=>rfl
   | false=>
    refine gZ (x:=.s 3 0 n c) ?_
    have e:=bu (ρ:=aH (Rr u1 o1 u2 o2 u3 o3)) (id:=3) (q:=(u3,o3)) (by simp [aH,Rr]) 0 n c
    simpa [iG,SV.val,bT,byV] using e
  ·rename_i e2;rw [if_neg e2] at h2
   split at h1
   ·rename_i e;rw [if_pos e] at h2;cases h1;cases h2
    exact ⟨_,aD,hs3⟩
   ·cases h1
theorem BH{u1 o1 u2 o2 u3 o3:Nat}{keep:List Nat}(h:[1,2,3].all (fun i=>keep.contains i)=true):∀ id q,aH (Rr u1 o1 u2 o2 u3 o3) id=some q→id∈keep:=by
 intro id q hq
 simp only [List.all_cons,List.all_nil,Bool.and_true,aaf,List.contains_eq_mem,decide_eq_true_eq] at h
 rcases zrK hq with rfl|rfl|rfl
 ·exact h.1
 ·exact h.2.1
 ·exact h.2.2
theorem zwr{z:Bool}{n c:Nat}{f:Nat→Int}{D:P1×Int}(hD:BV z n f=D)(hc:z=false→n≤c∧bOk n f):∀ q∈obK z n c f D,q:=by
 have e0:(fun i=>f (0+i))=f:=nI f
 cases z with
 | true=>exact aa hD ad
 | false=>
  obtain ⟨h1,h2⟩:=hc rfl
  exact aa (by rw [e0];exact hD) (aa h1 (aa (by rw [e0];exact h2) (aa (by omega) ad)))
abbrev Bf:List Nat:=[1,2,3]
theorem kk0(l:Nat)(z:Bool)(c2 n c:Nat)(f:Nat→Int):Bf.all (fun id=>(St.blk (Lw l c2++Bk z c2 n c f) id).isSome)=true∧aw (Lw l c2++Bk z c2 n c f) Bf=true:=by cases z<;>exact ⟨by kernel_rfl,by kernel_rfl⟩
theorem kk3(px py:Nat)(ip:Bool)(e:Int)(l:Nat)(z:Bool)(c2 n c:Nat)(f:Nat→Int):(45::Bf).all (fun id=>(St.blk (W5 l e++Bk z c2 n c f++O0 (aQ px py ip)) id).isSome)=true∧aw (W5 l e++Bk z c2 n c f++O0 (aQ px py ip)) (45::Bf)=true:=by cases z<;>exact ⟨by kernel_rfl,by kernel_rfl⟩
theorem kk4(px py:Nat)(ip:Bool)(e:Int)(l:Nat)(z:Bool)(c2 n c:Nat)(f:Nat→Int):(45::Bf).all (fun id=>(St.blk (Cz l (aQ px py ip) e++Bk z c2 n c f++O0 (aQ px py ip)) id).isSome)=true∧aw (Cz l (aQ px py ip) e++Bk z c2 n c f++O0 (aQ px py ip)) (45::Bf)=true ∧
  St.slot (Cz l (aQ px py ip) e++Bk z c2 n c f++O0 (aQ px py ip)) 18=some (.one (bT (.v (yV l))))∧St.slot (Cz l (aQ px py ip) e++Bk z c2 n c f++O0 (aQ px py ip)) 19=some (.one (wP (aQ px py ip)))∧St.slot (Cz l (aQ px py ip) e++Bk z c2 n c f++O0 (aQ px py ip)) 21=some (.one (bT (.v (.bool (e==0))))) ∧
  St.slot (Cz l (aQ px py ip) e++Bk z c2 n c f++O0 (aQ px py ip)) 8=some (.one (bT (.v (.int .i64 1))))∧St.slot (Cz l (aQ px py ip) e++Bk z c2 n c f++O0 (aQ px py ip)) 9=some (.one (bT (.v (.int .i64 0)))):=by cases z<;>exact ⟨by kernel_rfl,by kernel_rfl,by kernel_rfl,by kernel_rfl,by kernel_rfl,by kernel_rfl,by kernel_rfl⟩
theorem zGA{a:Act}{w:World}{b:Bool}(q9:a.tmps.size=25)(hc:a.defers=[])(h8:a.eval (.tmp 8) = .int .i64 1)(h9:a.eval (.tmp 9) = .int .i64 0):Sim rho0 25 (zbH b) (a.put (some 22) (.bool b)) w:=by
 have hn:∀ t,t≠22→(a.put (some 22) (.bool b)).tmps.getD t undef=a.tmps.getD t undef:=fun t ht=>by
  simp only [Act.put,Array.getD_eq_getD_getElem?]
  rw [Array.getElem?_setIfInBounds_ne (Ne.symm ht)]
 refine zbZ (by simp [Act.put,q9]) hc (fun t x hx=>?_) fun id=>?_
 ·have RC:x = .one (bT (.v (.int .i64 1)))∧t=8∨x = .one (bT (.v (.int .i64 0)))∧t=9∨x = .one (bT (.v (.bool b)))∧t=22:=by
   unfold St.slot at hx
   simp only [zbH,Eng.look,beq_iff_eq] at hx
   split at hx
   ·rename_i y hy
    cases hx
    split at hy
    ·rename_i e;cases hy;exact .inl ⟨rfl,by omega⟩
    ·split at hy
     ·rename_i e;cases hy;exact .inr (.inl ⟨rfl,by omega⟩)
     ·split at hy
      ·rename_i e;cases hy;exact .inr (.inr ⟨rfl,by omega⟩)
      ·cases hy
   ·cases hx
  rcases RC with ⟨rfl,rfl⟩|⟨rfl,rfl⟩|⟨rfl,rfl⟩
  ·rw [hn 8 (by omega)]
   have e:SV.val rho0 (.one (bT (.v (.int .i64 1))))=some (.int .i64 1):=AV.val_v (ρ:=rho0) (x:=.int .i64 1) rfl
   rw [e];exact congrArg some h8.symm
  ·rw [hn 9 (by omega)]
   have e:SV.val rho0 (.one (bT (.v (.int .i64 0))))=some (.int .i64 0):=AV.val_v (ρ:=rho0) (x:=.int .i64 0) rfl
   rw [e];exact congrArg some h9.symm
  ·have e:SV.val rho0 (.one (bT (.v (.bool b))))=some (.bool b):=AV.val_v (ρ:=rho0) (x:=.bool b) rfl
   have hlt:22<a.tmps.size:=by omega
   rw [e]
   simp [Act.put,hlt]
 ·unfold St.blk
  simp only [zbH,Eng.look,beq_iff_eq]
  split
  ·rename_i y hy
   split at hy
   ·omega
   ·split at hy
    ·omega
    ·split at hy
     ·omega
     ·cases hy
  ·rfl
theorem Yy{px py:Nat}{ip:Bool}{e:Int}{l n:Nat}{z:Bool}{c2 k c:Nat}{f:Nat→Int}{qD:Rho}{w1 w:World}{a:Act}(hk:∀ id q,qD id=some q→id∈Bf)(hA:At 25 qD w1 (W5 l e++Bk z c2 k c f++O0 (aQ px py ip)) a w){R:Ending→World→Prop}
  (hY:∀ w',Ext qD w1 qD w'∨True→(∃ ρ,Ext qD w1 ρ w')→YieldAt abU (n-1) Tryz.prog l #[i_ (aQ px py ip),.bool (e==0)] w' R) (hR:∀ e w',R e w'→∃ b,e = .returned (.bool b))
  {Q:Exit→Act→World→Prop} (hQ:∀ b w2,R (.returned (.bool b)) w2→∀ a' w',At 25 rho0 w2 (H5 (!b)) a' w'→Q .normal a' w'):QZ.wp Tryz.prog Q a w:=by
 refine (wpIn_wide (n:=n)).1 ?_
 have hT:=ziS (aQ px py ip,e)
 have hR4:=zmn px py ip e l z c2 k c f
 have hR5:=fun b=>zmm (aQ px py ip,e) b
 have KJ:(vL (cq QZ) 0 4).length=4:=by kernel_rfl
 have JD:(vL (cq QZ) 5 1).length=1:=by kernel_rfl
 have zMy:=zwm
 obtain ⟨o,p1,p2,p3,p4⟩:=fH zmr
 rw [zwo]
 generalize cq QZ=ops at *
 generalize xg QZ=i0
 refine wpIn_region ?_
 rw [zMy]
 have k4:=kk4 px py ip e l z c2 k c f
 have hk':∀ id q,qD id=some q→id∈45::Bf:=fun id q hq=>aaa _ (hk id q hq)
 refine Us (G:=fun a' w'=>At 25 qD w1 (Cz l (aQ px py ip) e++Bk z c2 k c f++O0 (aQ px py ip)) a' w') (fun a' w' bY=>?_) (aaQ 0 4) a w (by
  have:=At.rpart (E:=Tc (aQ px py ip,e)) (rest:=[]) (Q:=Nrm fun a' w'=>At 25 qD w1 (Cz l (aQ px py ip) e++Bk z c2 k c f++O0 (aQ px py ip)) a' w') ab hT KJ hR4 (fun p hp=>by cases hp) hA (45::Bf) (ba k4.1) k4.2.1 hk' (fun a' w' h=>⟨rfl,h⟩)
  rwa [aaP] at this)
 obtain ⟨ρ',BO,fD⟩:=bY
 have v18:=rC fD k4.2.2.1 rfl
 have v21:=rC fD k4.2.2.2.2.1 rfl
 have v8:=rC fD k4.2.2.2.2.2.1 rfl
 have v9:=rC fD k4.2.2.2.2.2.2 rfl
 have v19:a'.eval (.tmp 19)=i_ (aQ px py ip):=by
  have hv:=fD.slots 19 _ k4.2.2.2.1
  have e1:SV.val ρ' (.one (wP (aQ px py ip)))=some (i_ (aQ px py ip)):=jO ρ' (aQ px py ip)
  rw [e1] at hv;exact (abn hv).symm
 refine EK (l:=l) (args:=#[i_ (aQ px py ip),.bool (e==0)]) p1 p4 ?_ (hY w' (.inr trivial) ⟨ρ',BO⟩) fun e2 w2 he=>?_
 ·unfold execOp
  rw [p2]
  simp [v18,v19,v21,yV,invoke,Deferred.ofValue,resolve,Sem.run_bind,abw]
 ·obtain ⟨b,rfl⟩:=hR e2 w2 he
  refine ⟨_,rfl,?_⟩
  rw [p3]
  have hs5:=zGA (w:=w2) (b:=b) fD.size fD.calm v8 v9
  have G9:At 25 rho0 w2 (zbH b) (a'.put (some 22) (.bool b)) w2:=⟨rho0,.refl _ _,hs5⟩
  refine Us (Q:=Q) (rest:=[]) (G:=fun SY uV=>At 25 rho0 w2 (H5 (!b)) SY uV) (fun SY uV h=>hQ b w2 he SY uV h) (aaQ 5 1) _ w2 ?_
  have:=At.rpart (E:=Tc (aQ px py ip,e)) (rest:=[]) (Q:=Nrm fun SY uV=>At 25 rho0 w2 (H5 (!b)) SY uV) ab hT JD (hR5 b) (fun p hp=>by cases hp) G9 [] (fun _ h=>by cases h) (by cases b<;>kernel_rfl) (fun id q hq=>by cases hq) (fun a' w' h=>⟨rfl,h⟩)
  rwa [aaP] at this
theorem zmj(u1 o1 u2 o2 u3 o3 l:Nat):ay (aH (Rr u1 o1 u2 o2 u3 o3)) [⟨false,[.v (yV l)]⟩,bT (.p 1 0)]=some [yV l,.pointer (some ⟨u1,o1,none⟩)]:=by
 have e1:AV.val (aH (Rr u1 o1 u2 o2 u3 o3)) ⟨false,[.v (yV l)]⟩=some (yV l):=AV.val_v rfl
 have e2:AV.val (aH (Rr u1 o1 u2 o2 u3 o3)) (bT (.p 1 0))=some (.pointer (some ⟨u1,o1,none⟩)):=AV.val_mk (by simp [It.cs,aH,Rr,mo])
 simp only [ay,e1,e2]
theorem kk6(b:Bool):aw (H5 b) []=true∧En (H5 b) (.tmp 23)=some b∧aw zki []=true∧cO bh (H5 b) []=some []:=by cases b<;>exact ⟨by kernel_rfl,by kernel_rfl,by kernel_rfl,by kernel_rfl⟩
theorem MI(n:Nat){w:World}{z:Bool}{u1 o1 u2 o2 u3 o3 c2 k c:Nat}{f:Nat→Int}(hm:KsMem w z u1 o1 u2 o2 u3 o3 c2 k c f)(hc:z=false→k≤c∧bOk k f):
  SeqStopsK abU n Tryz.prog 94 #[.pointer (some ⟨u1,o1,none⟩)] zgA (fun _ _=>True) (fun xs=>xs=[xK z k f]) (fun pre=>pre=[xK z k f]) 1 w:=by
 intro l J Jx W hW hJ hJx hY h0
 have hmW:=hm.below hW
 refine callsIn_wide.2 ?_
 obtain ⟨fn,Fi,l7,oX,RF,_⟩:=(aB _ _ zgh).ok
 obtain ⟨D,hD⟩:∃ D,BV z k f=D:=⟨_,rfl⟩
 obtain ⟨⟨⟨px,py⟩,ip⟩,e⟩:=D
 have hx:xK z k f=(aQ px py ip,e==0):=by unfold xK;rw [hD];rfl
 have hT:=ziS (aQ px py ip,e)
 have cv:=zwp u1 o1 u2 o2 u3 o3
 refine calls_of_wp Fi l7 ?_
 rw [RF,zLM,zms]
 have c9:=At.begin (N:=25) (zws hmW) (zwq z c2 k c f) (zmj u1 o1 u2 o2 u3 o3 l) (by show 2≤25;omega)
 have grow:∀ {ρ:Rho} {w':World},Ext (aH (Rr u1 o1 u2 o2 u3 o3)) W ρ w'→Below W.heap.size W w':=fun h=>h.below cv
 have fin:∀ (Q:Exit→Act→World→Prop) (ex:Exit) (st:St) (w2:World) (a':Act) (w':World),(ex = .normal∨ex = .ret)→At 25 rho0 w2 st a' w'→cO bh st []=some []→(∀ v,(∃ xs,xs=[xK z k f]∧J xs w')∨(∃ pre,pre=[xK z k f]∧Jx pre w')→(results fn a'.tmps).run Tryz.prog w' = .ok v w'→a'.defers=[]→Q ex a' w')→((∃ xs,xs=[xK z k f]∧J xs w')∨(∃ pre,pre=[xK z k f]∧Jx pre w'))→Q ex a' w':=by
  intro Q ex st w2 a' w' hex hA hr hQ hj
  obtain ⟨ρ,hE,hs⟩:=hA
  obtain ⟨v,qL,uX⟩:=jl ab hs (oX.trans zwn) hr
  exact hQ v hj uX hs.calm
 refine wp_seq ?_
 refine At.probe (E:=Tc (aQ px py ip,e)) an ab hT (zmq (aQ px py ip,e) l z c2 k c f) (fun p hp=>by cases hp) c9 Bf (ba (kk0 l z c2 k c f).1) (kk0 l z c2 k c f).2 (BH rfl) fun a1 w1 nq=>?_
 refine wp_block ?_
 refine wp_loop_rounds 2 ?_
 rw [rounds_succ,zDf]
 refine At.probes (E:=Tc (aQ px py ip,e)) an ab hT (zmp (aQ px py ip,e) l z c2 k c f) (fun p hp=>by cases hp) nq Bf (ba (kk0 l z c2 k c f).1) (kk0 l z c2 k c f).2 (BH rfl) fun a2 w2 YM=>?_
 refine wp_seq (wp_block ?_)
 rw [zDh]
 refine At.probes (E:=Tc (aQ px py ip,e)) an ab hT (zmo px py ip e l z c2 k c f) (zwr hD hc) YM (45::Bf) (ba (kk3 px py ip e l z c2 k c f).1) (kk3 px py ip e l z c2 k c f).2 (BH rfl) fun a3 w3 hA3=>?_
 refine wp_seq ?_
 refine Yy (n:=n) (BH rfl) hA3 (R:=fun e2 W'=>(e2 = .returned (.bool true)∧J [xK z k f] W'∧True)∨(e2 = .returned (.bool false)∧Jx [xK z k f] W')) (fun w4 _ ⟨ρ4,hE4⟩=>?_) (fun e2 w4 h=>?_) fun b w5 hb a4 w4 Fm=>?_
 ·have hJ4:J [] w4:=hJ [] W w4 none h0 (Np (grow hE4) none) (fun r hr=>by cases hr)
  have:=hY [] (xK z k f) w4 hJ4 (by show 0<1;omega)
  rw [hx] at this ⊢
  exact this
 ·rcases h with ⟨rfl,_⟩|⟨rfl,_⟩
  ·exact ⟨true,rfl⟩
  ·exact ⟨false,rfl⟩
 ·rw [zDg]
  have zEm:a4.eval (.tmp 23) = .bool (!b):=by
   obtain ⟨ρ,_,hs⟩:=Fm
   exact lB hs (kk6 (!b)).2.1
  have jj:∀ {st:St} {a':Act} {w':World},At 25 rho0 w5 st a' w'→(∃ xs,xs=[xK z k f]∧J xs w')∨(∃ pre,pre=[xK z k f]∧Jx pre w'):=fun {st a' w'} hA=>by
   obtain ⟨ρ,hE,_⟩:=hA
   have hg:=Np (hE.below (fun c ⟨_,_,_,h⟩=>by cases h)) none
   rcases hb with ⟨_,h,_⟩|⟨_,h⟩
   ·exact .inl ⟨_,rfl,hJ _ _ _ none h hg (fun r hr=>by cases hr)⟩
   ·exact .inr ⟨_,rfl,hJx _ _ _ none h hg (fun r hr=>by cases hr)⟩
  cases b with
  | true=>
   refine wp_cond_false zEm (wp_skip ?_)
   show Exit.inBlock 1 _ .normal a4 w4
   show r5K.wp _ _ a4 w4
   refine At.probe (E:=Tc (aQ px py ip,e)) an ab hT (zml (aQ px py ip,e)) (fun p hp=>by cases hp) Fm [] (fun _ h=>by cases h) (kk6 true).2.2.1 (fun id q hq=>by cases hq) fun a5 w6 G9=>?_
   show Code.rounds _ _ _ 1 a5 w6
   rw [rounds_succ]
   refine At.probes (E:=Tc (aQ px py ip,e)) (cE:=[]) an ab hT (zmk (aQ px py ip,e)) (fun p hp=>by cases hp) G9 [] (fun _ h=>by cases h) rfl (fun id q hq=>by cases hq) fun a6 w7 Nn=>?_
   refine (?_:bodyPost Tryz.prog fn (fun e W'=>(∃ v,e=Ending.returned v)∧((∃ xs,xs=[xK z k f]∧J xs W')∨∃ pre,pre=[xK z k f]∧Jx pre W')) .normal a6 w7)
   refine fin _ .normal [] w5 a6 w7 (.inl rfl) Nn rfl (fun v hj hr hd=>?_) (jj Nn)
   exact ⟨hd,v,hr,⟨v,rfl⟩,hj⟩
  | false=>
   refine wp_cond_true zEm (wp_ret ?_)
   refine (?_:bodyPost Tryz.prog fn (fun e W'=>(∃ v,e=Ending.returned v)∧((∃ xs,xs=[xK z k f]∧J xs W')∨∃ pre,pre=[xK z k f]∧Jx pre W')) .ret a4 w4)
   refine fin _ .ret _ w5 a4 w4 (.inr rfl) Fm (kk6 _).2.2.2 (fun v hj hr hd=>?_) (jj Fm)
   exact ⟨hd,v,hr,⟨v,rfl⟩,hj⟩
def vfT(b:Bool):CallT:=fun f args m _=>match f==44 with
 | true=>match args with
  | [⟨false,[.c id sz adr off len]⟩,⟨false,[.s id2 zCn zCN c2]⟩,y,⟨false,[.v (.string s)]⟩]=>match m.blk id,m.blk id2 with
   | some its,some [it]=>match (dV A1).rd ⟨true,its⟩,tn m ⟨false,[it]⟩,tn m y with
    | some p,some (z,n,fm,ob),some (zs,ns,fs,jW)=>some { val:=.one (cY b),wr:=[],news:=[],ob:=(app id=true∧sz=13∧adr=0∧off=0∧len=1∧zCn=0∧zCN=1∧app id2=false)::(s=cT)::(1≤c2)::(n≤90000)::(eV p=true)::(KH p (hV z n fm) (kW zs ns fs)=b)::(ob++jW) }
    | _,_,_=>none
   | _,_=>none
  | _=>none
 | false=>none
def dAl:Fn1:=match fJ 17 with
 | some d=>d
 | none=>⟨.skip,[],0⟩
theorem zgi:fJ 17=some dAl:=by kernel_rfl
def Te(b:Bool):Eng:={ tab:=bh,call:=kR bh (vfT b) fJ 1000 (fun _=>[]) 6,N:=41 }
def bAl(i:Nat):Code:=match i with
 | 0=>dAl.body
 | i+1=>aJ (bAl i)
def cAl(i:Nat):Code:=bJ (bAl i)
def r4A:Code:=bJ (cAl 3)
def zL3(zp z zs:Bool)(c2 c4 np cp n c ns cs:Nat)(fp fm fs:Nat→Int):St:=aW 0 [bT (.s 2 0 1 (c2+1)),bT (.s 4 0 1 (c4+1)),gn zs 6 ns cs,⟨false,[.v (.string cT)]⟩] (41-4)++cj [(2,(gn zp 3 np cp).its),(3,gM np fp),(4,(gn z 5 n c).its),(5,gM n fm),(6,gM ns fs)]
def zil:Code→Code
 | .rangeFunc _ _ a _=>a
 | c=>c
def zyC:Code→Code
 | .rangeFunc _ _ _ b=>b
 | c=>c
def asA:Code:=zil (dh (aJ (cAl 3)))
def bdA:Code:=zyC (dh (aJ (cAl 3)))
def b8(zp z:Bool)(np cp n c ns:Nat)(fp fm fs:Nat→Int):St:=[(5,.bl (gn zp 3 np cp).its),(7,.bl (gM np fp)),(9,.bl (gn z 5 n c).its),(11,.bl (gM n fm)),(13,.bl (gM ns fs))]
def h_(c2:Nat):St:=[(60817409,.bl [.s 2 0 1 (c2+1)])]
def gH(b:Bool)(ps:It):St:=[(33,.bl [.v (.bool b)]),(55,.bl [ps])]
def eD(zs:Bool)(c4 ns cs:Nat):St:=[(2,sl (.s 4 0 1 (c4+1))),(4,.sl (.one (gn zs 6 ns cs))),(6,sl (.v (.string cT))),(16,sl (.p 16 0)),(18,sl (.p 27 0))]
def Pu:St:=[(46,sl (.f 94 [(29*1048576,0)]))]
def dt:It:=.v (.slice none 0 0)
def ysA(ok:Bool):St:=[(20,sl (.p 40 0)),(22,sl (.v (.bool ok)))]
def GI(p:P1):St:=[(81,.bl (wP p).its)]
def tc(p:P1):St:=[(2*cU 59+1,.bl (wP p).its)]
def u7:It:=.c (cU 59) 13 0 0 1
theorem zGH:cAl 3 = .seq r4A (.block 0 (.rangeFunc (.tmp 23) #[24,25] asA bdA)):=by kernel_rfl
theorem zpv:dAl.body=gG [cAl 0,cAl 1,cAl 2] (.seq (cAl 3) (bAl 4)):=by kernel_rfl
theorem zN7:dAl.ntmps=41:=by kernel_rfl
def Hz:List ResultVar:=[.cell 8 4]
theorem zyZ:dAl.results=Hz:=by kernel_rfl
theorem zix:GL asA=true:=by kernel_rfl
theorem ziw:GL bdA=true:=by kernel_rfl
theorem zy1:GL (bAl 4)=true:=by kernel_rfl
def GM(z:Bool)(n c:Nat)(f:Nat→Int):List Prop:=match z with
 | true=>[]
 | false=>[n≤c,bOk n (fun i=>f (0+i)),0+n*1≤n]
def nZ(z:Bool)(n:Nat):Nat:=match z with
 | true=>0
 | false=>n
def fZ(z:Bool)(f:Nat→Int):Nat→Int:=match z with
 | true=>fun _=>0
 | false=>fun i=>f (0+i)
def obE(p:P1)(z zs:Bool)(c4 n c ns cs:Nat)(fm fs:Nat→Int)(b:Bool):List Prop:=
 [app (cU 59)=true∧13=13∧0=0∧0=0∧1=1∧0=0∧1=1∧app 4=false,cT=cT,1≤c4+1,nZ z n≤90000,eV p=true,KH p (hV z (nZ z n) (fZ z fm)) (kW zs (nZ zs ns) (fZ zs fs))=b]++(GM z n c fm++GM zs ns cs fs)
def H6(zp z:Bool)(c2 np cp n c ns:Nat)(fp fm fs:Nat→Int)(b:Bool):St:=[(16,sl (.p 16 0))]++b8 zp z np cp n c ns fp fm fs++gH b dt++h_ c2
def Ly(zp z:Bool)(c2 np cp n c ns:Nat)(fp fm fs:Nat→Int)(b:Bool):St:=[(16,sl (.p 16 0))]++b8 zp z np cp n c ns fp fm fs++gH b u7++h_ c2
theorem zy5(b zp z zs:Bool)(px py:Nat)(c2 c4 np cp n c ns cs:Nat)(fp fm fs:Nat→Int):Eng.probe (Te b) 100 (bAl 4) (eD zs c4 ns cs++b8 zp z np cp n c ns fp fm fs++gH false u7++h_ c2++tc (aQ px py false)) 70 [] ((Ly zp z c2 np cp n c ns fp fm fs b++tc (aQ px py false)).map (·.1)) =
  some (1,obE (aQ px py false) z zs c4 n c ns cs fm fs b,(Ly zp z c2 np cp n c ns fp fm fs b++tc (aQ px py false)).map fun p=>some p.2):=by cases zp<;>cases z<;>cases zs<;>kernel_rfl
theorem OS{ρ:Rho}{id:Nat}{v:Value}(hv:AV.val ρ ⟨false,[.c id 13 0 0 1]⟩=some v)(ha:app id=true):∃ b o cap,ρ id=some (b,o)∧v = .slice (some ⟨b,0,none⟩) 1 (cap+1):=by
 obtain ⟨q,hq,h1,h2,rfl⟩:=dB hv
 refine ⟨q.1,q.2,q.2/13-1,hq,?_⟩
 have h3:1≤q.2/13:=by omega
 unfold pf
 rw [Nat.sub_zero,ite_self,acI h3]
theorem dF{w:World}{z:Bool}{n:Nat}{f:Nat→Int}{v:Value}(h:ByAt w z n f v)(u:Nat)(hu:u<w.heap.size):∃ b o c,v=byV z b o n c∧Stands w b o (gvals .u8 n f)∧(z=false→n≤c∧bOk n f):=by
 cases h with
 | nil=>exact ⟨u,0,0,rfl,⟨hu,fun i v hv=>by cases hv⟩,fun h=>by cases h⟩
 | pt hc hb hs=>exact ⟨_,_,_,rfl,hs,fun _=>⟨hc,hb⟩⟩
theorem zuN{its:List It}{p:P1}(h:(dV A1).rd ⟨true,its⟩=some p){ρ:Rho}{vs:List Value}(hc:conc ρ its=some vs):conc rho0 (wP p).its=some vs:=by
 have h1:AV.val ρ ⟨true,its⟩=some (.agg vs.toArray):=by unfold AV.val;rw [hc]
 have h2:=(dV A1).ok h h1
 have h3:(wP p).val rho0=some (i_ p):=jO rho0 p
 obtain ⟨us,e1,e2⟩:=AV.cells h3
 rcases e2 with ⟨_,e2⟩|⟨e2,_⟩
 ·have h4:i_ p = .agg vs.toArray:=h2.symm
  rw [h4] at e2
  have:vs=us:=by
   have:=congrArg (fun v=>match v with | Value.agg c=>c.toList | _=>[]) e2
   simpa using this
  rw [this];exact e1
 ·cases e2
theorem OU{m:St}{it:It}{z:Bool}{n:Nat}{f:Nat→Int}{ob:List Prop}(h:tn m ⟨false,[it]⟩=some (z,n,f,ob)):∀ (ρ:Rho) (vs:List Value),conc ρ [it]=some vs→∃ v,vs=[v]:=by
 intro ρ vs hc
 unfold tn at h
 split at h
 ·rename_i e
  simp only [AV.mk.injEq,aaM,and_true,true_and] at e
  subst e
  have:conc ρ [.v (.slice none 0 0)]=some [.slice none 0 0]:=rfl
  rw [this] at hc;cases hc;exact ⟨_,rfl⟩
 ·rename_i id off n' c e
  simp only [AV.mk.injEq,aaM,and_true,true_and] at e
  subst e
  simp only [conc,It.cs] at hc
  cases hq:ρ.at id with
  | none=>simp [hq] at hc
  | some q=>simp [hq] at hc;exact ⟨_,hc.symm⟩
 ·cases h
theorem yk{ρ:Rho}{w:World}{id:Nat}{vs:List Value}{b o:Nat}(hq:ρ id=some (b,o))(hB:BlkOk w id b o vs)(ha:app id=false){q:Nat×Nat}(h:ρ.at id=some q):Stands w q.1 q.2 vs:=by
 rw [Rho.at_not ha,hq] at h
 cases h
 refine ⟨hB.1,fun i v hv=>?_⟩
 cases ho:own id with
 | true=>
  obtain ⟨rfl,t,ht⟩:=hB.2.1 ho
  unfold ady
  simp only [ht]
  rw [Nat.zero_add]
  simpa using hv
 | false=>exact hB.2.2.1 ho ha i v hv
theorem zti(b:Bool):ag Tryz.prog (vfT b):=by
 intro f args m nid out af ax ρ w vs hv hM df
 unfold vfT at af
 split at af
 ·rename_i hf
  rw [beq_iff_eq] at hf
  subst hf
  split at af
  ·rename_i id sz adr off len id2 zCn zCN c2 y s
   split at af
   ·rename_i its it hi1 Vo
    split at af
    ·rename_i p z n fm ob zs ns fs jW hp hz hzs
     cases af
     obtain ⟨v1,us,h1,h2,rfl⟩:=aj hv
     obtain ⟨v2,ov,h3,h4,rfl⟩:=aj h2
     obtain ⟨v3,ov,h5,h6,rfl⟩:=aj h4
     obtain ⟨v4,ov,h7,h8,rfl⟩:=aj h6
     cases h8
     obtain ⟨q7,rfl,rfl,rfl,rfl,rfl,rfl,ha2⟩:=ax _ aac
     have hs:s=cT:=ax _ (aaa _ aac)
     have RJ:1≤c2:=ax _ (aaa _ (aaa _ aac))
     have hn:n≤90000:=ax _ (aaa _ (aaa _ (aaa _ aac)))
     have hpi:eV p=true:=ax _ (aaa _ (aaa _ (aaa _ (aaa _ aac))))
     have hb:KH p (hV z n fm) (kW zs ns fs)=b:=ax _ (aaa _ (aaa _ (aaa _ (aaa _ (aaa _ aac)))))
     have mH:∀ q∈ob++jW,q:=fun q hq=>ax q (aaa _ (aaa _ (aaa _ (aaa _ (aaa _ (aaa _ hq))))))
     subst hs
     rw [show AV.val ρ ⟨false,[.v (.string cT)]⟩=some (.string cT) from AV.val_v (ρ:=ρ) (x:=.string cT) rfl] at h7
     cases h7
     obtain ⟨bp,op,cap,hq1,rfl⟩:=OS h1 q7
     obtain ⟨q2,hq2,rfl⟩:=aY h3
     obtain ⟨k2,rfl⟩:∃ k,c2=k+1:=⟨c2-1,by omega⟩
     obtain ⟨b1',o1',vs1,e1,c1,l1,_,_,a1⟩:=hM.ok.blk id its hi1
     rw [hq1] at e1;cases e1
     have zMg:=zuN hp c1
     have hS1:Stands w bp 0 vs1:=by
      refine ⟨l1,fun i v hv=>?_⟩
      have kN:vs1≠[]:=fun e=>by rw [e] at hv;cases hv
      obtain ⟨jY,t,ht,_,zMP⟩:=a1 q7 kN
      unfold ady
      simp only [ht]
      rw [Nat.zero_add];exact zMP i v hv
     obtain ⟨b2',o2',vs2,e2,c2',hB2⟩:=hM.ok.blk id2 [it] Vo
     obtain ⟨vm,hvm⟩:∃ vm,AV.val ρ ⟨false,[it]⟩=some vm∧vs2=[vm]:=by
      have:∃ vm,vs2=[vm]:=by
       have hB:=OU hz
       exact hB ρ vs2 c2'
      obtain ⟨vm,rfl⟩:=this
      exact ⟨vm,by unfold AV.val;rw [c2'],rfl⟩
     obtain ⟨hvm,rfl⟩:=hvm
     have hS2:Stands w q2.1 q2.2 [vm]:=yk e2 hB2 ha2 hq2
     obtain ⟨u3,o3,c3,e3,s3,k3⟩:=dF (lN hM hz (fun q hq=>mH q (List.mem_append_left _ hq)) hvm) bp l1
     obtain ⟨u4,o4,c4,e4,s4,k4⟩:=dF (lN hM hzs (fun q hq=>mH q (List.mem_append_right _ hq)) h5) bp l1
     subst e3
     subst e4
     have jt:VfMem w p z zs bp 0 q2.1 q2.2 u3 o3 u4 o4 n c3 ns fm fs:=⟨⟨vs1,zMg,hS1⟩,hS2,s3,s4⟩
     have key:=Kn (c1:=cap) (c2:=k2) (cs:=c4) jt hn hpi k4
     refine .inr ⟨(aB _ _ Sd).enter _ _,key.mono ?_⟩
     rintro e w' ⟨rfl,hB⟩
     rw [hb]
     exact ⟨_,rfl,ρ,Ext.of_below hB,ga ρ b,hM.of_below hB⟩
    ·cases af
   ·cases af
  ·cases af
 ·cases af
end Sh
end Go.Proofs.YtcafpgpahbplaaaGreat
namespace Go.Eng
open Go Go.RowKit
theorem SC{w:World}{a:Addr}{v:Value}{o:Obj}(h:w.cell? a=some v)(ho:w.heap[a.block]? = some o):o.isCells=true:=by
 unfold ady at h
 rw [ho] at h
 cases o<;>first | rfl | (simp at h)
theorem BlkOk.grown{w w':World}{row:Option Nat}(hg:w.grownBy w' row)(hr:∀ r,row=some r→∃ o:Obj,w.heap[r]? = some o∧o.isCells=false){id b o:Nat}{vs:List Value}(h:BlkOk w id b o vs):BlkOk w' id b o vs:=by
 by_cases hb:row=some b
 ·obtain ⟨ob,h1,h2⟩:=hr b hb
  obtain ⟨f1,f2,f3,f4⟩:=h
  refine ⟨abk f1 hg.size,fun ho=>?_,fun ho ha i v hv=>?_,fun ha kN=>?_⟩
  ·obtain ⟨_,t,ht⟩:=f2 ho;rw [h1] at ht;cases ht;cases h2
  ·have:=SC (f3 ho ha i v hv) h1
   rw [h2] at this;cases this
  ·obtain ⟨jY,t,ht,_⟩:=f4 ha kN;rw [h1] at ht;cases ht;cases h2
 ·exact h.of_kept hg.size (hg.block b h.1 (Ne.symm hb))
theorem Sim.grown{ρ:Rho}{N:Nat}{st:St}{a:Act}{w w':World}{row:Option Nat}(h:Sim ρ N st a w)(hg:w.grownBy w' row)(hr:∀ r,row=some r→∃ o:Obj,w.heap[r]? = some o∧o.isCells=false):Sim ρ N st a w':=
 ⟨h.slots,h.size,⟨fun id l hl=>by obtain ⟨b,o,vs,h1,h2,h3⟩:=h.mem.blk id l hl;exact ⟨b,o,vs,h1,h2,h3.grown hg hr⟩⟩,h.inj,h.dom,h.calm⟩
theorem At.grown{N:Nat}{dL:Rho}{w0:World}{st:St}{a:Act}{w w':World}{row:Option Nat}(h:At N dL w0 st a w)(hg:w.grownBy w' row)(hr:∀ r,row=some r→w0.heap.size≤r∧∃ o:Obj,w.heap[r]? = some o∧o.isCells=false):At N dL w0 st a w':=by
 obtain ⟨ρ,hE,hs⟩:=h
 refine ⟨ρ,⟨hE.le,hE.new,⟨hg.os.trans hE.keep.os,hg.tape.trans hE.keep.tape,hg.output.trans hE.keep.output,Nat.le_trans hE.keep.size hg.size,fun k hk cv=>?_⟩⟩,hs.grown hg fun r e=>(hr r e).2⟩
 rw [hg.block k (abk hk hE.keep.size) (fun e=>by have:=(hr k e.symm).1;omega)]
 exact hE.keep.block k hk cv
theorem At.swap{N:Nat}{dL:Rho}{w0:World}{qG vt st:St}{a b:Act}{w:World}(hL:Sim dL N qG a w0)(hA:At N dL w0 vt b w)(h1:∀ t x,st.slot t=some x→qG.slot t=some x)(h2:∀ id,st.blk id=vt.blk id):At N dL w0 st a w:=by
 obtain ⟨ρ,hE,hs⟩:=hA
 have hb:st.blk=vt.blk:=funext h2
 exact ⟨ρ,hE,⟨fun t x hx=>SV.val_le hE.le _ _ (hL.slots t x (h1 t x hx)),hL.size,by rw [hb];exact hs.mem,by rw [hb];exact hs.inj,fun id q hq=>by rw [hb];exact hs.dom id q hq,hL.calm⟩⟩
theorem Jo{ρ ρ':Rho}{N:Nat}{st:St}{a:Act}{w w':World}(hs:Sim ρ N st a w)(q7:∀ id l,app id=true→st.blk id=some l→gd l≠0)(hE:Ext ρ w ρ' w')(B:Nat):KeepsFrom B w w':=by
 refine ⟨hE.keep.size,fun k o _ hk ho=>?_⟩
 rw [hE.keep.block k (Array.getElem?_eq_some_iff.1 hk).1 ?_]
 ·exact hk
 ·rintro ⟨id,off,hoa,hq⟩
  rcases hoa with qZ|ha
  ·obtain ⟨l,hl⟩:=hs.dom id _ hq
   obtain ⟨b,o',vs,h1,h2,h3⟩:=hs.mem.blk id l hl
   rw [hq] at h1;cases h1
   obtain ⟨_,t,ht⟩:=h3.2.1 qZ
   rw [hk] at ht;cases ht;cases ho
  ·obtain ⟨l,hl⟩:=hs.dom id _ hq
   obtain ⟨b,o',vs,h1,h2,h3⟩:=hs.mem.blk id l hl
   rw [hq] at h1;cases h1
   have kN:vs≠[]:=fun e=>q7 id l ha hl (by rw [←c7 _ _ h2,e];rfl)
   obtain ⟨jY,t,ht,_⟩:=h3.2.2.2 ha kN
   rw [hk] at ht;cases ht;cases ho
def oa(st:St):Bool:=(fP st).all fun id=>!(app id) || (match st.blk id with
 | some l=>!(Nat.beq (gd l) 0)
 | none=>false)
theorem Ew{st:St}{id:Nat}{l:List It}(hl:st.blk id=some l):id∈fP st:=by
 unfold St.blk at hl
 split at hl
 ·rename_i mm hm
  unfold fP
  rw [List.mem_filterMap]
  refine ⟨_,lr _ _ _ hm,?_⟩
  simp only
  rw [if_pos (by omega)]
  congr 1;omega
 ·cases hl
theorem Yc{st:St}(h:oa st=true):∀ id l,app id=true→st.blk id=some l→gd l≠0:=fun id l ha hl e=>by
 unfold oa at h
 rw [List.all_eq_true] at h
 have:=h id (Ew hl)
 rw [ha,hl] at this
 simp only [Bool.not_true,Bool.false_or,e] at this
 cases this
theorem At.runL{P:Program}{E:Eng}(L:Lg P)(az:∀ t d,E.tab t=some d→TyOk P t d)(cP:ag P E.call){n:Nat}{c:Code}{st:St}{nid:Nat}{hints:List (Nat×Bool)}{cE:St}{kc:Nat}{ob:List Prop}
  (h:Eng.probe E n c st nid hints (cE.map (·.1))=some (kc,ob,cE.map fun p=>some p.2)) (od:GL c=true) (ax:∀ q∈ob,q) {dL:Rho} {w0:World} {a:Act} {w:World} (hA:At E.N dL w0 st a w) (q7:oa st=true)
  (keep:List Nat) (h2:∀ id∈keep,∃ l,cE.blk id=some l) (h3:aw cE keep=true) (h4:∀ id∈fP st,id∈keep) {Q:Exit→Act→World→Prop} (hQ:∀ a' w',At E.N dL w0 cE a' w'→(∀ B,KeepsFrom B w w')→Q (zr kc) a' w'):L.wp c Q a w:=by
 obtain ⟨ρ,hE,hs⟩:=hA
 have zMN:∀ id q,ρ id=some q→id∈fP st:=fun id q hq=>by
  obtain ⟨l,hl⟩:=hs.dom id q hq
  exact Ew hl
 refine At.probeL L az cP h od ax (dL:=ρ) (w0:=w) ⟨ρ,.refl _ _,hs⟩ keep h2 h3 (fun id q hq=>h4 id (zMN id q hq)) fun a' w' bY=>?_
 obtain ⟨ρ',BO,fD⟩:=bY
 exact hQ a' w' ⟨ρ',hE.trans BO,fD⟩ (Jo hs (Yc q7) BO)
theorem At.sub{N:Nat}{dL:Rho}{w0:World}{st cE:St}{a:Act}{w:World}(hA:At N dL w0 st a w)(h:(cE.map fun p=>look st p.1)=cE.map fun p=>some p.2)(keep:List Nat)(h2:∀ id∈keep,∃ l,cE.blk id=some l)(h3:aw cE keep=true)(h4:∀ id q,dL id=some q→id∈keep):At N dL w0 cE a w:=by
 refine hA.forget keep (fun j v hj=>?_) h2 h3 h4
 have jt:=gz hj
 have:∀ (l:St),l.map (fun p=>look st p.1)=l.map (fun p=>some p.2)→∀ p∈l,look st p.1=some p.2:=by
  intro l
  induction l with
  | nil=>intro _ p hp;cases hp
  | cons q l ih=>
   intro hl p hp
   simp only [List.map_cons,aaM] at hl
   rcases List.mem_cons.1 hp with rfl|hp
   ·exact hl.1
   ·exact ih hl.2 p hp
 exact this cE h _ jt
theorem zEN{ρ:Rho}{fn:FuncId}{id:Nat}{v:Value}(hv:AV.val ρ ⟨false,[.f fn [(id,0)]]⟩=some v):∃ q,ρ.at id=some q∧v = .func (.func fn) #[] #[.pointer (some ⟨q.1,q.2,none⟩)]:=by
 have:=AV.val_one hv
 simp only [It.cs,gP] at this
 cases hq:ρ.at id with
 | none=>simp [hq] at this
 | some q=>
  refine ⟨q,rfl,?_⟩
  simp [hq,mo] at this
  exact this.symm
end Go.Eng
