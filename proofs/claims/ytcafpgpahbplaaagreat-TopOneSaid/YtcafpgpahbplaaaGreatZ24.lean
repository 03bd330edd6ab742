/-
 The proof, part 24 of 25.
-/
import Derived.Test.YtcafpgpahbplaaaGreatZ23
import Derived.Lib.SlBytesConst
import Derived.Test.YtcafpgpahbplaaaGreatZ21
import Derived.Test.YtcafpgpahbplaaaGreatZ22
import Derived.Test.YtcafpgpahbplaaaGreatZ19
open Bool renaming and_eq_true->aaf
open Go.Result renaming andThen->abw
open List renaming forall_mem_cons->aab,not_mem_nil->aad,range'->aaQ
open Nat renaming lt_trans->aaW,mod_eq_of_lt->aah,zero_add->aay
noncomputable section
set_option linter.unusedVariables false
set_option linter.unusedSimpArgs false
namespace Go.Proofs.YtcafpgpahbplaaaGreat
open Go Go.Eng Go.RowKit Go.Wd Go.Alg Go.Pr
namespace Sh
def awT:CallT:=fun f args _ _=>match f==5 with
 | true=>match args with
  | []=>some { val:=.one (cY true),wr:=[],news:=[],ob:=[] }
  | _=>none
 | false=>none
theorem zih(h:∀ w,cX Tryz.prog 5 #[] (.bool true) w):ag Tryz.prog awT:=by
 intro f args m nid out af ax ρ w vs hv hM df
 unfold awT at af
 split at af
 ·rename_i hf
  rw [beq_iff_eq] at hf
  subst hf
  split at af
  ·cases af
   cases hv
   obtain ⟨d,hd⟩:∃ d,fJ 5=some d:=⟨match fJ 5 with|some d=>d|none=>⟨.skip,[],0⟩,by kernel_rfl⟩
   refine .inr ⟨(aB _ _ hd).enter _ _,(h w).mono ?_⟩
   rintro e w' ⟨rfl,hB⟩
   exact ⟨_,rfl,ρ,Ext.of_below hB,ga ρ true,hM.of_below hB⟩
  ·cases af
 ·cases af
def QI:List Row:=[L6 (dV A1) (dV A2) gu 10 (fun p q=>(fW p q,0)) (fun p q=>Aw p q=(fW p q,0))]
theorem XA:∀ r∈QI,bE Tryz.prog r:=by
 simp only [QI,aab,aad,false_imp_iff,implies_true,and_true]
 exact C0 fun p q h=>by rw [←h];exact IM p q
def TA(b:Bool)(D1:P1×Int)(D2:P2×Int)(H:P2):CallT:=jV awT (jV (vyT fun _ _=>b) (jV (d1T D1) (jV (d2T D2) (jV (Ni H) (jV (aA QI) TS1)))))
theorem xR(h:∀ w,cX Tryz.prog 5 #[] (.bool true) w)(b:Bool)(D1:P1×Int)(D2:P2×Int)(H:P2):ag Tryz.prog (TA b D1 D2 H):=aT (zih h) (aT (PC _) (aT (zhC D1) (aT (zhB D2) (aT (xk H) (aT (ap XA) oo)))))
def taA(zp z zs:Bool)(np cp n c ns cs:Nat):List AV:=[gn zp 1 np cp,gn z 2 n c,gn zs 3 ns cs]
def k_(z:Bool)(n:Nat)(b:Bool):Prop:=((nZ z n:Nat):Int)>300↔b=true
def X9(zp z zs:Bool)(np n ns:Nat):List Prop:=[k_ zp np false,k_ z n false,k_ zs ns false]
def X7(zp z zs:Bool)(np cp n c ns cs:Nat)(fp fm fs:Nat→Int)(b:Bool):List Prop:=
 [nZ z n≤90000,uO (xK zp (nZ zp np) (fZ zp fp)) (hV z (nZ z n) (fZ z fm)) (kW zs (nZ zs ns) (fZ zs fs))=b]++(GM zp np cp fp++(GM z n c fm++GM zs ns cs fs))
def X_(zp zs:Bool)(np cp ns cs:Nat)(fp fs:Nat→Int)(D1:P1×Int)(D2:P2×Int):List Prop:=
 (BV zp (nZ zp np) (fZ zp fp)=D1)::(GM zp np cp fp++((kW zs (nZ zs ns) (fZ zs fs)=D2)::GM zs ns cs fs))
theorem zbr(b zp z zs:Bool)(np cp n c ns cs:Nat)(fp fm fs:Nat→Int)(D1:P1×Int)(D2:P2×Int)(H:P2):cV (TA b D1 D2 H) 3 (taA zp z zs np cp n c ns cs) (vyM np n ns fp fm fs) [(22,true)] (fun _=>[])=some (.one (cY true),[k_ zp np true]):=by cases zp<;>cases z<;>cases zs<;>kernel_rfl
theorem zbq(b zp z zs:Bool)(np cp n c ns cs:Nat)(fp fm fs:Nat→Int)(D1:P1×Int)(D2:P2×Int)(H:P2):cV (TA b D1 D2 H) 3 (taA zp z zs np cp n c ns cs) (vyM np n ns fp fm fs) [(22,false),(26,true)] (fun _=>[])=some (.one (cY true),[k_ zp np false,k_ z n true]):=by cases zp<;>cases z<;>cases zs<;>kernel_rfl
theorem zbp(b zp z zs:Bool)(np cp n c ns cs:Nat)(fp fm fs:Nat→Int)(D1:P1×Int)(D2:P2×Int)(H:P2):cV (TA b D1 D2 H) 3 (taA zp z zs np cp n c ns cs) (vyM np n ns fp fm fs) [(22,false),(26,false),(31,true)] (fun _=>[])=some (.one (cY true),[k_ zp np false,k_ z n false,k_ zs ns true]):=by cases zp<;>cases z<;>cases zs<;>kernel_rfl
theorem zj1(zp z zs:Bool)(np cp n c ns cs:Nat)(fp fm fs:Nat→Int)(px py:Nat)(i:Bool)(e1 e2:Int)(s1 s2 s3 s4:Nat)(j:Bool)(H:P2):cV (TA false (aQ px py i,e1) (aG s1 s2 s3 s4 j,e2) H) 3 (taA zp z zs np cp n c ns cs) (vyM np n ns fp fm fs) [(22,false),(26,false),(31,false),(49,true)] (fun _=>[]) =
  some (.one (cY true),X9 zp z zs np n ns++(X7 zp z zs np cp n c ns cs fp fm fs false++(X_ zp zs np cp ns cs fp fs (aQ px py i,e1) (aG s1 s2 s3 s4 j,e2)++[e1≠0↔true=true]))):=by cases zp<;>cases z<;>cases zs<;>kernel_rfl
theorem zj0(zp z zs:Bool)(np cp n c ns cs:Nat)(fp fm fs:Nat→Int)(px py:Nat)(i:Bool)(e2:Int)(s1 s2 s3 s4:Nat)(j:Bool)(H:P2):cV (TA false (aQ px py i,0) (aG s1 s2 s3 s4 j,e2) H) 3 (taA zp z zs np cp n c ns cs) (vyM np n ns fp fm fs) [(22,false),(26,false),(31,false),(52,true)] (fun _=>[]) =
  some (.one (cY true),X9 zp z zs np n ns++(X7 zp z zs np cp n c ns cs fp fm fs false++(X_ zp zs np cp ns cs fp fs (aQ px py i,0) (aG s1 s2 s3 s4 j,e2)++[e2≠0↔true=true]))):=by cases zp<;>cases z<;>cases zs<;>kernel_rfl
theorem ztH(zp z zs:Bool)(np cp n c ns cs:Nat)(fp fm fs:Nat→Int)(px py:Nat)(s1 s2 s3 s4:Nat)(j:Bool)(H:P2):cV (TA false (aQ px py true,0) (aG s1 s2 s3 s4 j,0) H) 3 (taA zp z zs np cp n c ns cs) (vyM np n ns fp fm fs) [(22,false),(26,false),(31,false)] (fun _=>[]) =
  some (.one (cY true),X9 zp z zs np n ns++(X7 zp z zs np cp n c ns cs fp fm fs false++X_ zp zs np cp ns cs fp fs (aQ px py true,0) (aG s1 s2 s3 s4 j,0))):=by cases zp<;>cases z<;>cases zs<;>kernel_rfl
def dTa:Fn1:=match fJ 3 with
 | some d=>d
 | none=>⟨.skip,[],0⟩
theorem zxI:fJ 3=some dTa:=by kernel_rfl
def ETa(b:Bool)(D1:P1×Int)(D2:P2×Int)(H:P2):Eng:={ tab:=bh,call:=kR bh (TA b D1 D2 H) fJ 1000 (fun _=>[]) 6,N:=102 }
def zFw:List Code:=Dz.zbo 6 dTa.body++[bJ (Dz.Of 6 dTa.body)]
def SI:Code:=bJ (aJ (Dz.Of 6 dTa.body))
def zFv:Code:=aJ (aJ (Dz.Of 6 dTa.body))
def A_:Array Oper:=cq SI
theorem zj2:dTa.body=gG zFw (.seq SI zFv):=by kernel_rfl
theorem ztG:dTa.ntmps=102:=by kernel_rfl
theorem ztA:dTa.results=[.tmp 6]:=by kernel_rfl
theorem ztB:SI = .region (xg SI) A_ false:=by kernel_rfl
theorem ztz:List.range A_.size=aaQ 0 1++(1::2::(aaQ 3 7++[])):=by kernel_rfl
def zrz:Array (Nat×Operand):=match oQ SI 1 with
 | some (.buildSlice _ _ ps,_,_)=>ps
 | _=>#[]
theorem ztE:oQ SI 1=some (.buildSlice 22 43 zrz,some 65,none):=by kernel_rfl
theorem ztD:oQ SI 2=some (.convert 22 22 (.tmp 65),some 66,none):=by kernel_rfl
def zeh:Array (Nat×Value):=((List.range 43).map fun i=>(i,Value.int .u8 (eK.getD i 0))).toArray
theorem zeg(a:Act):zrz.map (fun q=>(q.1,a.eval q.2))=zeh:=by kernel_rfl
theorem Yq(w:World):(Instr.buildSlice 22 43 zeh).run Tryz.prog w = .ok (.slice (some ⟨w.heap.size,0,none⟩) 43 43) (w.alloc (.cells ye.toArray 5)):=by kernel_rfl
theorem zuu:(vL A_ 0 1).length=1:=by kernel_rfl
theorem zut:(vL A_ 3 7).length=7:=by kernel_rfl
theorem At.lit{ops:Array Oper}{Q:Exit→Act→World→Prop}{rest:List Nat}{i t d:Nat}{ps:Array (Nat×Operand)}{o1 o2:Oper}(hi1:ops[i]? = some o1)(p1:o1.op = .buildSlice 22 43 ps)(d1:o1.dst=some t)(g1:o1.guard=none)
  (Vo:ops[i+1]? = some o2) (p2:o2.op = .convert 22 22 (.tmp t)) (d2:o2.dst=some d) (g2:o2.guard=none) (hps:∀ a:Act,ps.map (fun q=>(q.1,a.eval q.2))=zeh)
  {dL:Rho} {w0:World} {N:Nat} {st:St} {a:Act} {w:World} (hA:At N dL w0 st a w) (htN:t<N) (hdN:d<N) {id:Nat} (hn:st.blk id=none) (qZ:own id=false) (q7:app id=false)
  (hQ:∀ a' w',At N dL w0 (aX (aX (aX st (ia ([]++[(id,bR eK)]))) [(2*t,.sl (.one (bT (.s id 0 43 43))))]) [(2*d,.sl (.one (bT (.s id 0 43 43))))]) a' w'→wpOps Tryz.prog ops Q rest a' w'):wpOps Tryz.prog ops Q (i::(i+1)::rest) a w:=by
 obtain ⟨ρ,hE,hs⟩:=hA
 rw [wpOps_cons]
 refine lQ (v:=.slice (some ⟨w.heap.size,0,none⟩) 43 43) (w':=w.alloc (.cells ye.toArray 5)) hi1 g1 ?_ ?_
 ·unfold execOp
  rw [p1]
  simp only [hps,Sem.run_bind,Yq,abw,Sem.run_pure]
 ·rw [wpOps_cons,d1]
  have hC:ye.toArray.size=43:=by kernel_rfl
  refine lQ (v:=.slice (some ⟨w.heap.size,0,none⟩) 43 43) (w':=w.alloc (.cells ye.toArray 5 (43,43+1))) Vo g2 ?_ ?_
  ·have r2:(a.put (some t) (.slice (some ⟨w.heap.size,0,none⟩) 43 43)).eval (.tmp t) = .slice (some ⟨w.heap.size,0,none⟩) 43 43:=by
    have:t<a.tmps.size:=by rw [hs.size];exact htN
    simp [Act.eval,Act.put,this]
   have hr:=Lib.run_convert_bytes_const (P:=Tryz.prog) w 22 5 ye.toArray 43 43 gR.2.1 gR.2.2
   rw [hC] at hr
   unfold execOp
   rw [p2]
   simp only [r2,Sem.run_bind,hr,abw,Sem.run_pure]
  ·have hB:Below w.heap.size w (w.alloc (.cells ye.toArray 5 (43,43+1))):=(Below.refl _ w).alloc (Nat.le_refl _) _
   have hS:Stands (w.alloc (.cells ye.toArray 5 (43,43+1))) w.heap.size 0 ye:=by
    refine ⟨by simp,fun j v hv=>?_⟩
    have hh:=World.alloc_heap_new w (.cells ye.toArray 5 (43,43+1))
    unfold World.cell?
    simp only [hh]
    rw [aay]
    simpa using hv
   have hM0:Mem (fun id=>if ((dc st []).blk id).isSome then ρ id else none) (dc st []) w:=⟨⟨fun id l hl=>by cases hl⟩,⟨fun id id' b o o' l l' ho h1=>by cases h1⟩,fun id q hq=>by simp [dc,St.blk,Eng.look] at hq⟩
   obtain ⟨hE1,hM1⟩:=Dq (nid:=id) (g:=w.heap.size) (go:=0) hM0 hB rfl qZ q7 (Nat.le_refl _) (l:=bR eK) (fun ρ=>g_ ρ .u8 eK) hS
   obtain ⟨xV,hE2,hle,DN⟩:=hs.call (wr:=[]) (news:=[(id,bR eK)]) hE1 hM1 (fun p hp=>by cases hp) (fun p hp=>by rw [List.mem_singleton] at hp;subst hp;exact hn)
   have hq:xV id=some (w.heap.size,0):=hle _ _ (by simp [Rho.setq])
   have e1:SV.val xV (.one (bT (.s id 0 43 43)))=some (.slice (some ⟨w.heap.size,0,none⟩) 43 43):=by
    have e:=bu (ρ:=xV) (id:=id) (q:=(w.heap.size,0)) (by rw [Rho.at_not q7];exact hq) 0 43 43
    simpa [iG,SV.val,bT] using e
   rw [d2]
   exact hQ _ _ ⟨xV,hE.trans hE2,(DN.put htN e1).put hdN e1⟩
def zDt(zp z zs:Bool)(np cp n c ns cs:Nat)(fp fm fs:Nat→Int):St:=aW 0 (taA zp z zs np cp n c ns cs) (102-3)++vyM np n ns fp fm fs
def zyG(np n ns:Nat)(fp fm fs:Nat→Int)(p:P1)(S:P2):St:=[(3,.bl (gM np fp)),(5,.bl (gM n fm)),(7,.bl (gM ns fs)),(85,.bl (wP p).its),(101,.bl (wP S).its)]
def zt0(b:Bool):St:=[(14,sl (.v (.bool true))),(16,sl (.v (.bool b))),(18,sl (.p 42 0)),(22,sl (.p 50 0))]
def F8(b z:Bool)(np n c ns:Nat)(fp fm fs:Nat→Int)(p:P1)(S:P2):St:=(2,.sl (.one (gn z 2 n c)))::(zt0 b++zyG np n ns fp fm fs p S)
def F7(b z:Bool)(np n c ns:Nat)(fp fm fs:Nat→Int)(p:P1)(S:P2):St:=(128,.sl (.one (gn z 2 n c)))::(zt0 b++zyG np n ns fp fm fs p S)
def ztN(b z:Bool)(np n c ns:Nat)(fp fm fs:Nat→Int)(p:P1)(S:P2):St:=aX (aX (aX (F7 b z np n c ns fp fm fs p S) (ia ([]++[(gC 100,bR eK)]))) [(2*65,.sl (.one (bT (.s (gC 100) 0 43 43))))]) [(2*66,.sl (.one (bT (.s (gC 100) 0 43 43))))]
def F5(b:Bool)(np n ns:Nat)(fp fm fs:Nat→Int)(p:P1)(S H:P2):St:=(26,sl (.p 84 0))::(28,sl (.v (.int .i64 0)))::(169,.bl (wP H).its)::(zt0 b++zyG np n ns fp fm fs p S)
def Lk(np n ns:Nat)(fp fm fs:Nat→Int):St:=[(12,sl (.v (.bool true))),(3,.bl (gM np fp)),(5,.bl (gM n fm)),(7,.bl (gM ns fs))]
theorem zjY(b zp z zs:Bool)(np cp n c ns cs:Nat)(fp fm fs:Nat→Int)(px py s1 s2 s3 s4:Nat)(j:Bool)(H:P2):Eng.probes (ETa b (aQ px py false,0) (aG s1 s2 s3 s4 j,0) H) 100 zFw (zDt zp z zs np cp n c ns cs fp fm fs) 16 [(22,false),(26,false),(31,false)] ((F8 b z np n c ns fp fm fs (aQ px py false) (aG s1 s2 s3 s4 j)).map (·.1)) =
  some (0,X9 zp z zs np n ns++(X7 zp z zs np cp n c ns cs fp fm fs b++X_ zp zs np cp ns cs fp fs (aQ px py false,0) (aG s1 s2 s3 s4 j,0)),(F8 b z np n c ns fp fm fs (aQ px py false) (aG s1 s2 s3 s4 j)).map fun p=>some p.2):=by cases zp<;>cases z<;>cases zs<;>kernel_rfl
theorem zjX(b z:Bool)(np n c ns:Nat)(fp fm fs:Nat→Int)(D1:P1×Int)(D2:P2×Int)(px py s1 s2 s3 s4:Nat)(j:Bool)(H:P2):rpart (ETa b D1 D2 H) A_ (vL A_ 0 1) (F8 b z np n c ns fp fm fs (aQ px py false) (aG s1 s2 s3 s4 j)) 64 [] ((F7 b z np n c ns fp fm fs (aQ px py false) (aG s1 s2 s3 s4 j)).map (·.1))=some ([],(F7 b z np n c ns fp fm fs (aQ px py false) (aG s1 s2 s3 s4 j)).map fun p=>some p.2):=by cases z<;>kernel_rfl
def zro(z:Bool)(n:Nat)(fm:Nat→Int)(H:P2):List Prop:=match z with
 | true=>[43=43,0≤90000,43≤43,bn (fun i=>eK.getD i 0) 0 43=eK,mw true 0 (fun _=>0)=H]
 | false=>[43=43,n≤90000,43≤43,bn (fun i=>eK.getD i 0) 0 43=eK,mw false n (fun i=>fm (0+i))=H,0+n*1≤n]
theorem zjW(b z:Bool)(np n c ns:Nat)(fp fm fs:Nat→Int)(D1:P1×Int)(D2:P2×Int)(px py s1 s2 s3 s4 h1 h2 h3 h4:Nat)(j hi:Bool):rpart (ETa b D1 D2 (aG h1 h2 h3 h4 hi)) A_ (vL A_ 3 7) (ztN b z np n c ns fp fm fs (aQ px py false) (aG s1 s2 s3 s4 j)) 80 [] ((F5 b np n ns fp fm fs (aQ px py false) (aG s1 s2 s3 s4 j) (aG h1 h2 h3 h4 hi)).map (·.1)) =
  some (zro z n fm (aG h1 h2 h3 h4 hi),(F5 b np n ns fp fm fs (aQ px py false) (aG s1 s2 s3 s4 j) (aG h1 h2 h3 h4 hi)).map fun p=>some p.2):=by cases z<;>kernel_rfl
def zrn(b:Bool)(p:P1)(S H:P2):List Prop:=[Aw p H=(fW p H,0),Aw dj S=(fW dj S,0),dJ (fW p H) (fW dj S) b]
theorem zjV(b:Bool)(np n ns:Nat)(fp fm fs:Nat→Int)(D1:P1×Int)(D2:P2×Int)(HH:P2)(px py s1 s2 s3 s4 h1 h2 h3 h4:Nat)(j hi:Bool):Eng.probe (ETa b D1 D2 HH) 100 zFv (F5 b np n ns fp fm fs (aQ px py false) (aG s1 s2 s3 s4 j) (aG h1 h2 h3 h4 hi)) 100 [(99,b)] ((Lk np n ns fp fm fs).map (·.1)) =
  some (1,zrn b (aQ px py false) (aG s1 s2 s3 s4 j) (aG h1 h2 h3 h4 hi),(Lk np n ns fp fm fs).map fun p=>some p.2):=by cases b<;>kernel_rfl
def EG:Prop:=∀ w,cX Tryz.prog 5 #[] (.bool true) w
theorem zE2(z:Bool)(n:Nat)(f:Nat→Int):BV z (nZ z n) (fZ z f)=BV z n f:=by
 have e0:(fun i=>f (0+i))=f:=nI f
 cases z
 ·show BV false n (fun i=>f (0+i))=_;rw [e0]
 ·rfl
theorem zfT{z:Bool}{n:Nat}(h:300<nZ z n):k_ z n true:=bD (by omega)
theorem rW{z:Bool}{n:Nat}(h:¬300<nZ z n):k_ z n false:=br (by omega)
theorem B0{zp z zs:Bool}{np n ns:Nat}{fp fm fs:Nat→Int}(h:(BV zp np fp).2≠0∨(BV zp np fp).1.2=true∨(kW zs ns fs).2≠0):uO (xK zp np fp) (hV z n fm) (kW zs ns fs)=false:=by
 unfold uO xK
 split
 ·rename_i hx
  simp only [aaf,beq_iff_eq,Bool.not_eq_true'] at hx
  rcases h with h|h|h
  ·exact absurd hx.1 h
  ·rw [h] at hx;cases hx.2
  ·unfold KH;simp [h]
 ·rfl
theorem ziz{p:P1}{S:P2}{zp z zs:Bool}{np n ns:Nat}{fp fm fs:Nat→Int}(h1:BV zp np fp=(p,0))(hi:p.2=false)(h2:kW zs ns fs=(S,0)):uO (xK zp np fp) (hV z n fm) (kW zs ns fs)=KH p (hV z n fm) (S,0):=by
 unfold uO xK
 rw [h1,h2]
 simp only [hi]
 rfl
structure By3(zp z zs:Bool)(np cp n c ns cs:Nat)(fp fm fs:Nat→Int):Prop where
 k1:zp=false→np≤cp∧bOk np fp
 k2:z=false→n≤c∧bOk n fm
 k3:zs=false→ns≤cs∧bOk ns fs
theorem IY{zp z zs:Bool}{np cp n c ns cs:Nat}{fp fm fs:Nat→Int}(k:By3 zp z zs np cp n c ns cs fp fm fs)(hn:nZ z n≤300){b:Bool}(hb:uO (xK zp np fp) (hV z n fm) (kW zs ns fs)=b):∀ q∈X7 zp z zs np cp n c ns cs fp fm fs b,q:=by
 refine al (aa (by omega) (aa ?_ ad)) (al (gU k.k1) (al (gU k.k2) (gU k.k3)))
 rw [zAY,zfN,Oj];exact hb
theorem I1{zp z zs:Bool}{np cp n c ns cs:Nat}{fp fm fs:Nat→Int}(k:By3 zp z zs np cp n c ns cs fp fm fs){D1:P1×Int}{D2:P2×Int}(h1:BV zp np fp=D1)(h2:kW zs ns fs=D2):∀ q∈X_ zp zs np cp ns cs fp fs D1 D2,q:=by
 refine aa (by rw [zE2];exact h1) (al (gU k.k1) (aa (by rw [Oj];exact h2) (gU k.k3)))
theorem zdp{z:Bool}{n:Nat}{fm:Nat→Int}{H:P2}(hn:nZ z n≤300)(hH:hV z n fm=H):∀ q∈zro z n fm H,q:=by
 have e0:(fun i=>fm (0+i))=fm:=nI fm
 have ht:bn (fun i=>eK.getD i 0) 0 43=eK:=by decide +kernel
 cases z with
 | true=>exact aa rfl (aa (by omega) (aa (by omega) (aa ht (aa hH ad))))
 | false=>
  have hn:n≤300:=hn
  exact aa rfl (aa (by omega) (aa (by omega) (aa ht (aa (by rw [e0];exact hH) (aa (by omega) ad)))))
theorem zdo{p:P1}{S H:P2}(hp:eV p=true)(hH:dW H=true)(hS:dW S=true){b:Bool}(hb:KH p H (S,0)=b):∀ q∈zrn b p S H,q:=by
 have Nd:eV dj=true:=(kM _).2 dX
 refine aa (IN hp hH) (aa (IN Nd hS) (aa (ej ?_ ?_ ?_) ad))
 ·rw [mT];exact Bs _
 ·rw [mT];exact Bs _
 ·rw [←hb];exact (KW hp hH hS).symm
theorem zk1{u1 o1 u2 o2 u3 o3 id:Nat}{q:Nat×Nat}(hq:yE u1 o1 u2 o2 u3 o3 id=some q):id=1∨id=2∨id=3:=by
 unfold yE at hq
 rw [fX] at hq
 have:=lq _ _ _ hq
 simp only [List.mem_cons,Prod.mk.injEq,aad,or_false] at this
 omega
theorem yC{u1 o1 u2 o2 u3 o3:Nat}{l:List Nat}(h:[1,2,3].all (fun i=>l.contains i)=true):∀ id q,yE u1 o1 u2 o2 u3 o3 id=some q→id∈l:=fun id q hq=>by
 simp only [List.all_cons,List.all_nil,Bool.and_true,aaf,List.contains_eq_mem,decide_eq_true_eq] at h
 rcases zk1 hq with rfl|rfl|rfl
 ·exact h.1
 ·exact h.2.1
 ·exact h.2.2
def xf:List Nat:=[1,2,3,42,50]
theorem zBi(b z:Bool)(np n c ns:Nat)(fp fm fs:Nat→Int)(px py s1 s2 s3 s4:Nat)(j:Bool):xf.all (fun id=>(St.blk (F8 b z np n c ns fp fm fs (aQ px py false) (aG s1 s2 s3 s4 j)) id).isSome)=true∧aw (F8 b z np n c ns fp fm fs (aQ px py false) (aG s1 s2 s3 s4 j)) xf=true:=by cases z<;>exact ⟨by kernel_rfl,by kernel_rfl⟩
theorem zbt(b z:Bool)(np n c ns:Nat)(fp fm fs:Nat→Int)(px py s1 s2 s3 s4:Nat)(j:Bool):xf.all (fun id=>(St.blk (F7 b z np n c ns fp fm fs (aQ px py false) (aG s1 s2 s3 s4 j)) id).isSome)=true∧aw (F7 b z np n c ns fp fm fs (aQ px py false) (aG s1 s2 s3 s4 j)) xf=true∧St.blk (F7 b z np n c ns fp fm fs (aQ px py false) (aG s1 s2 s3 s4 j)) (gC 100)=none:=by cases z<;>exact ⟨by kernel_rfl,by kernel_rfl,by kernel_rfl⟩
theorem zbs(b:Bool)(np n ns:Nat)(fp fm fs:Nat→Int)(px py s1 s2 s3 s4 h1 h2 h3 h4:Nat)(j hi:Bool):(84::xf).all (fun id=>(St.blk (F5 b np n ns fp fm fs (aQ px py false) (aG s1 s2 s3 s4 j) (aG h1 h2 h3 h4 hi)) id).isSome)=true∧aw (F5 b np n ns fp fm fs (aQ px py false) (aG s1 s2 s3 s4 j) (aG h1 h2 h3 h4 hi)) (84::xf)=true:=⟨by kernel_rfl,by kernel_rfl⟩
theorem zBh(np n ns:Nat)(fp fm fs:Nat→Int):[1,2,3].all (fun id=>(St.blk (Lk np n ns fp fm fs) id).isSome)=true∧aw (Lk np n ns fp fm fs) [1,2,3]=true:=⟨by kernel_rfl,by kernel_rfl⟩
theorem ztC(np n ns:Nat)(fp fm fs:Nat→Int):cO bh (Lk np n ns fp fm fs) [.tmp 6]=some [cY true]:=by kernel_rfl
theorem WU(KK:EG){b z:Bool}{np n c ns:Nat}{fp fm fs:Nat→Int}{D1:P1×Int}{D2:P2×Int}{px py s1 s2 s3 s4 h1 h2 h3 h4:Nat}{j hi:Bool}{dL:Rho}{w0 w:World}{a:Act}(h4':∀ (l:List Nat),[1,2,3].all (fun i=>l.contains i)=true→∀ id q,dL id=some q→id∈l)(hn:nZ z n≤300)(hH:hV z n fm=aG h1 h2 h3 h4 hi)
  (hA:At 102 dL w0 (F8 b z np n c ns fp fm fs (aQ px py false) (aG s1 s2 s3 s4 j)) a w) :
  WO Tryz.prog A_ (Nrm fun a' w'=>At 102 dL w0 (F5 b np n ns fp fm fs (aQ px py false) (aG s1 s2 s3 s4 j) (aG h1 h2 h3 h4 hi)) a' w') (aaQ 0 1++(1::2::(aaQ 3 7++[]))) a w:=by
 have hT:ag Tryz.prog (kR bh (TA b D1 D2 (aG h1 h2 h3 h4 hi)) fJ 1000 (fun _=>[]) 6):=gm an ab (xR KK _ _ _ _) aB 1000 (fun _=>[]) 6
 have hR:=zjX b z np n c ns fp fm fs D1 D2 px py s1 s2 s3 s4 j (aG h1 h2 h3 h4 hi)
 have hR2:=zjW b z np n c ns fp fm fs D1 D2 px py s1 s2 s3 s4 h1 h2 h3 h4 j hi
 have KJ:=zuu
 have JD:=zut
 obtain ⟨o1,a1,a2,a3,a4⟩:=fH ztE
 obtain ⟨o2,b1',b2',b3,b4⟩:=fH ztD
 have a1:A_[1]? = some o1:=a1
 have b1':A_[1+1]? = some o2:=b1'
 generalize A_=ops at *
 refine ⟨?_⟩
 refine At.rpart (E:=ETa b D1 D2 (aG h1 h2 h3 h4 hi)) ab hT KJ hR (fun p hp=>by cases hp) hA xf (ba (zbt b z np n c ns fp fm fs px py s1 s2 s3 s4 j).1) (zbt b z np n c ns fp fm fs px py s1 s2 s3 s4 j).2.1 (h4' _ rfl) fun a4' w4 Fm=>?_
 refine At.lit (id:=gC 100) a1 a2 a3 a4 b1' b2' b3 b4 zeg Fm (by show 65<102;omega) (by show 66<102;omega) (zbt b z np n c ns fp fm fs px py s1 s2 s3 s4 j).2.2 (nt 100) (kO 100) fun a5 w5 G9=>?_
 refine At.rpart (E:=ETa b D1 D2 (aG h1 h2 h3 h4 hi)) ab hT JD hR2 (zdp hn hH) G9 (84::xf) (ba (zbs b np n ns fp fm fs px py s1 s2 s3 s4 h1 h2 h3 h4 j hi).1) (zbs b np n ns fp fm fs px py s1 s2 s3 s4 h1 h2 h3 h4 j hi).2 (h4' _ rfl) fun a6 w6 Nn=>?_
 exact ⟨rfl,Nn⟩
theorem iR(b:Bool):∀ ρ u,SV.val ρ (.one (cY b))=some u→u = .bool b:=fun ρ u hu=>by
 rw [show SV.val ρ (.one (cY b))=AV.val ρ (cY b) from rfl,ga] at hu;cases hu;rfl
theorem TH{u1 o1 u2 o2 u3 o3:Nat}{zp z zs:Bool}{np cp n c ns cs:Nat}:ay (yE u1 o1 u2 o2 u3 o3) (taA zp z zs np cp n c ns cs)=some [byV zp u1 o1 np cp,byV z u2 o2 n c,byV zs u3 o3 ns cs]:=
 Ci (lD (by simp [yE,aH])) (lD (by simp [yE,aH])) (lD (by simp [yE,aH]))
theorem zjZ(KK:EG){w:World}{u1 o1 u2 o2 u3 o3:Nat}{zp z zs:Bool}{np cp n c ns cs:Nat}{fp fm fs:Nat→Int}(k:By3 zp z zs np cp n c ns cs fp fm fs)(g1:Stands w u1 o1 (gvals .u8 np fp))(g2:Stands w u2 o2 (gvals .u8 n fm))(g3:Stands w u3 o3 (gvals .u8 ns fs))
  (n1:¬300<nZ zp np) (n2:¬300<nZ z n) (n3:¬300<nZ zs ns) {px py s1 s2 s3 s4:Nat} {j:Bool} (e1:BV zp np fp=(aQ px py false,0)) (e2:kW zs ns fs=(aG s1 s2 s3 s4 j,0)) (i1:eV (aQ px py false)=true) (i2:dW (aG s1 s2 s3 s4 j)=true) :
  cX Tryz.prog 3 #[byV zp u1 o1 np cp,byV z u2 o2 n c,byV zs u3 o3 ns cs] (.bool true) w:=by
 obtain ⟨hM,cv⟩:=zv0 g1 g2 g3
 obtain ⟨H,hH⟩:∃ H,hV z n fm=H:=⟨_,rfl⟩
 have iH:dW H=true:=(gX _).2 (by rw [←hH];exact zj z n fm)
 obtain ⟨⟨⟨h1,h2⟩,⟨h3,h4⟩⟩,hi⟩:=H
 obtain ⟨b,hb⟩:∃ b,KH (aQ px py false) (aG h1 h2 h3 h4 hi) (aG s1 s2 s3 s4 j,0)=b:=⟨_,rfl⟩
 have JE:uO (xK zp np fp) (hV z n fm) (kW zs ns fs)=b:=by
  rw [ziz e1 rfl e2,hH];exact hb
 have hT:ag Tryz.prog (kR bh (TA b (aQ px py false,0) (aG s1 s2 s3 s4 j,0) (aG h1 h2 h3 h4 hi)) fJ 1000 (fun _=>[]) 6):=gm an ab (xR KK _ _ _ _) aB 1000 (fun _=>[]) 6
 refine (bX (G:=fun xs st=>xs=[cY true]) ab (aB _ _ zxI) hM (by kernel_rfl) (TH (zp:=zp) (z:=z) (zs:=zs) (np:=np) (cp:=cp) (n:=n) (c:=c) (ns:=ns) (cs:=cs)) (by rw [ztG];show 3≤102;omega) fun a c9=>?_).mono ?_
 ·rw [ztG] at c9
  have c9:At 102 (yE u1 o1 u2 o2 u3 o3) w (zDt zp z zs np cp n c ns cs fp fm fs) a w:=c9
  rw [ztG,ztA,zj2]
  have k1:=zBi b z np n c ns fp fm fs px py s1 s2 s3 s4 j
  have k3:=zbs b np n ns fp fm fs px py s1 s2 s3 s4 h1 h2 h3 h4 j hi
  have kE:=zBh np n ns fp fm fs
  refine At.probes (E:=ETa b (aQ px py false,0) (aG s1 s2 s3 s4 j,0) (aG h1 h2 h3 h4 hi)) an ab hT (zjY b zp z zs np cp n c ns cs fp fm fs px py s1 s2 s3 s4 j (aG h1 h2 h3 h4 hi))
   (al (aa (rW n1) (aa (rW n2) (aa (rW n3) ad))) (al (IY k (by omega) JE) (I1 k e1 e2))) c9 xf (ba k1.1) k1.2 (yC rfl) fun a1 w1 nq=>?_
  show Code.wp _ _ _ _ _
  refine wp_seq ?_
  refine m6 ztB ztz (WU (D1:=(aQ px py false,0)) (D2:=(aG s1 s2 s3 s4 j,0)) KK (fun l h=>yC h) (by omega) hH nq) fun a2 w2 YM=>?_
  show Code.wp _ _ _ _ _
  refine At.probe (E:=ETa b (aQ px py false,0) (aG s1 s2 s3 s4 j,0) (aG h1 h2 h3 h4 hi)) an ab hT (zjV b np n ns fp fm fs _ _ _ px py s1 s2 s3 s4 h1 h2 h3 h4 j hi) (zdo i1 iH i2 hb) YM [1,2,3] (ba kE.1) kE.2 (yC rfl) fun a3 w3 hA3=>?_
  exact ⟨.inr rfl,_,[cY true],hA3,ztC np n ns fp fm fs,rfl⟩
 ·rintro e w' ⟨v,rfl,xs,st,ρ',hE,hval,Bg,rfl⟩
  refine ⟨?_,hE.below cv⟩
  have:(pT [cY true]).val ρ'=some (.bool true):=ga ρ' true
  rw [this] at hval;cases hval;rfl
theorem K5(KK:EG){w:World}{u1 o1 u2 o2 u3 o3:Nat}{zp z zs:Bool}{np cp n c ns cs:Nat}{fp fm fs:Nat→Int}(k:By3 zp z zs np cp n c ns cs fp fm fs)(g1:Stands w u1 o1 (gvals .u8 np fp))(g2:Stands w u2 o2 (gvals .u8 n fm))(g3:Stands w u3 o3 (gvals .u8 ns fs)):
  cX Tryz.prog 3 #[byV zp u1 o1 np cp,byV z u2 o2 n c,byV zs u3 o3 ns cs] (.bool true) w:=by
 obtain ⟨hM,cv⟩:=zv0 g1 g2 g3
 have hv:=TH (u1:=u1) (o1:=o1) (u2:=u2) (o2:=o2) (u3:=u3) (o3:=o3) (zp:=zp) (z:=z) (zs:=zs) (np:=np) (cp:=cp) (n:=n) (c:=c) (ns:=ns) (cs:=cs)
 by_cases n1:300<nZ zp np
 ·exact ae (xR KK true (EJ,0) (iX,0) iX) (zbr true zp z zs np cp n c ns cs fp fm fs _ _ _) (aa (zfT n1) ad) hM cv hv (iR true)
 by_cases n2:300<nZ z n
 ·exact ae (xR KK true (EJ,0) (iX,0) iX) (zbq true zp z zs np cp n c ns cs fp fm fs _ _ _) (aa (rW n1) (aa (zfT n2) ad)) hM cv hv (iR true)
 by_cases n3:300<nZ zs ns
 ·exact ae (xR KK true (EJ,0) (iX,0) iX) (zbp true zp z zs np cp n c ns cs fp fm fs _ _ _) (aa (rW n1) (aa (rW n2) (aa (zfT n3) ad))) hM cv hv (iR true)
 have hL:∀ q∈X9 zp z zs np n ns,q:=aa (rW n1) (aa (rW n2) (aa (rW n3) ad))
 have c1:=Ee zp np fp
 have c2:=uI zs ns fs
 have hA:=fun (h:(BV zp np fp).2≠0∨(BV zp np fp).1.2=true∨(kW zs ns fs).2≠0)=>IY k (by omega) (B0 (z:=z) (n:=n) (fm:=fm) h)
 obtain ⟨D1,e1⟩:∃ D,BV zp np fp=D:=⟨_,rfl⟩
 obtain ⟨D2,e2⟩:∃ D,kW zs ns fs=D:=⟨_,rfl⟩
 have hD:=I1 k e1 e2
 rw [e1] at c1
 rw [e2] at c2
 rw [e1,e2] at hA
 obtain ⟨⟨⟨px,py⟩,i⟩,d1⟩:=D1
 obtain ⟨⟨⟨⟨s1,s2⟩,⟨s3,s4⟩⟩,j⟩,d2⟩:=D2
 by_cases hd1:d1=0
 ·subst hd1
  by_cases hd2:d2=0
  ·subst hd2
   have i1:eV (aQ px py i)=true:=by
    rcases c1 with h|⟨e,he,h⟩
    ·exact h.2
    ·exact absurd (congrArg Prod.snd h).symm he
   have i2:dW (aG s1 s2 s3 s4 j)=true:=by
    rcases c2 with h|⟨e,he,h⟩
    ·exact h.2
    ·have:=(congrArg Prod.snd h).symm
     have this:e=0:=this
     subst this
     simp at he
   cases i with
   | true=>exact ae (xR KK false (aQ px py true,0) (aG s1 s2 s3 s4 j,0) iX) (ztH zp z zs np cp n c ns cs fp fm fs px py s1 s2 s3 s4 j iX) (al hL (al (hA (.inr (.inl rfl))) hD)) hM cv hv (iR true)
   | false=>exact zjZ KK k g1 g2 g3 n1 n2 n3 e1 e2 i1 i2
  ·exact ae (xR KK false (aQ px py i,0) (aG s1 s2 s3 s4 j,d2) iX) (zj0 zp z zs np cp n c ns cs fp fm fs px py i d2 s1 s2 s3 s4 j iX) (al hL (al (hA (.inr (.inr hd2))) (al hD (aa (bD hd2) ad)))) hM cv hv (iR true)
 ·exact ae (xR KK false (aQ px py i,d1) (aG s1 s2 s3 s4 j,d2) iX) (zj1 zp z zs np cp n c ns cs fp fm fs px py i d1 d2 s1 s2 s3 s4 j iX) (al hL (al (hA (.inl hd1)) (al hD (aa (bD hd1) ad)))) hM cv hv (iR true)
theorem zrj{k:Nat}(h0:k≠0)(hr:k<aO):∃ x y,bO (E3 k) = .aff x y:=by
 have hk:bO (E3 k)=smul k (bO dj):=by unfold E3;rw [tV]
 rw [hk]
 cases h:smul k (bO dj) with
 | aff x y=>exact ⟨x,y,rfl⟩
 | inf=>
  have hd:¬aO ∣ k:=fun ⟨q,hq⟩=>by
   cases q with
   | zero=>rw [Nat.mul_zero] at hq;exact h0 hq
   | succ q=>rw [Nat.mul_succ] at hq;omega
  obtain ⟨c,t,e⟩:=Jz Uj hd
  have h1:smul (c*k) (bO dj) = .inf:=by rw [ji oi dX.on,h,jZ]
  rw [e,rA oi dX.on,ji oi dX.on,dX.tor,jZ,b6,eF] at h1
  have h2:bO dj = .aff (φ dj.1.1) (φ dj.1.2):=rfl
  rw [h2] at h1
  cases h1
theorem zva{k:Nat}(h0:k≠0)(hr:k<aO):BV false 48 (uW k)=(E3 k,0)∧(E3 k).2=false:=by
 obtain ⟨x,y,h⟩:=zrj h0 hr
 have e:E3 k=((x.val,y.val),false):=by
  have:smul k (bO dj) = .aff x y:=by
   rw [←h];unfold E3;rw [tV]
  unfold E3
  rw [this];rfl
 refine ⟨?_,by rw [e]⟩
 have:=zgW (Up k) h
 rw [e]
 exact this
theorem Ed{f g:Nat→Int}(h:∀ i,i<96→f i=g i):r8 96 f=r8 96 g:=by
 have h0:=h 0 (by omega)
 have hb:jT f=jT g:=by unfold jT;rw [h0]
 have hr:∀ i,i<96→cn f i=cn g i:=fun i hi=>by unfold cn;rw [h0,h i hi]
 have e1:eo (cn f) 48=eo (cn g) 48:=lG 48 fun i hi=>hr i (by omega)
 have e2:eo (tf f) 48=eo (tf g) 48:=lG 48 fun i hi=>h (48+i) (by omega)
 have hz:SZ 96 f (jT g)↔SZ 96 g (jT g):=⟨fun k=>⟨k.1,fun i hi=>by rw [←hr i hi];exact k.2 i hi⟩,fun k=>⟨k.1,fun i hi=>by rw [hr i hi];exact k.2 i hi⟩⟩
 unfold r8
 rw [h0,hb,e1,e2]
 by_cases hzz:SZ 96 f (jT g)
 ·rw [if_pos hzz,if_pos (hz.1 hzz)]
 ·rw [if_neg hzz,if_neg (fun k=>hzz (hz.2 k))]
theorem zgB{P Q:P2}(h:ιP2 P=ιP2 Q):j2 P=j2 Q:=by unfold j2;rw [h]
theorem FN{P Q:P2}(hP:dW P=true)(hQ:dW Q=true)(h:∀ i,i<96→j2 P i=j2 Q i):ιP2 P=ιP2 Q:=by
 have e:=Ed h
 rw [Ec hP,Ec hQ] at e
 have:cS (ιP2 P)=cS (ιP2 Q):=congrArg Prod.fst e
 rw [←jN (ιP2 P),this,jN]
theorem BA{k:Nat}(h0:k≠0)(hr:k<aO){z:Bool}{n:Nat}{fm:Nat→Int}{zs:Bool}{ns:Nat}{fs:Nat→Int}(hs:zs=false→bOk ns fs):
  uO (xK false 48 (uW k)) (hV z n fm) (kW zs ns fs)=true↔Ao zs ns fs 96 (Bt k (hV z n fm)):=by
 obtain ⟨p1,p2⟩:=zva h0 hr
 obtain ⟨H,hH⟩:∃ H,hV z n fm=H:=⟨_,rfl⟩
 have tH:Tor b2 aO (ιP2 H):=by rw [←hH];exact zj z n fm
 have iH:dW H=true:=(gX _).2 tH
 have iP:dW (tM k H)=true:=wR tH k
 have ιP:ιP2 (tM k H)=smul k (ιP2 H):=by unfold tM;rw [jN]
 obtain ⟨D,hD⟩:∃ D,kW zs ns fs=D:=⟨_,rfl⟩
 by_cases hd:D.2=0
 ·obtain ⟨S,d⟩:=D
  have hd:d=0:=hd
  subst hd
  have ha:=ziz (z:=z) (n:=n) (fm:=fm) p1 p2 hD
  cases zs with
  | true=>
   have hD:((iX,200):P2×Int)=(S,0):=hD
   have:(200:Int)=0:=congrArg Prod.snd hD
   omega
  | false=>
   have hD:r8 ns fs=(S,0):=hD
   obtain ⟨rfl,iS,hf⟩:=zgV (hs rfl) hD
   rw [ha,hH]
   refine (KW (Up k) iH iS).trans ((zc0 iH iS).trans ?_)
   unfold Bt
   constructor
   ·intro e
    refine ⟨rfl,rfl,fun i hi=>?_⟩
    rw [hf i hi,zgB (e.trans ιP.symm)]
   ·rintro ⟨_,_,e⟩
    rw [←ιP]
    exact FN iS iP fun i hi=>by rw [←hf i hi];exact e i hi
 ·have ha:=B0 (zp:=false) (np:=48) (fp:=uW k) (z:=z) (n:=n) (fm:=fm) (zs:=zs) (ns:=ns) (fs:=fs) (.inr (.inr (by rw [hD];exact hd)))
  rw [ha]
  constructor
  ·intro e;cases e
  ·rintro ⟨rfl,rfl,e⟩
   refine absurd ?_ hd
   have:r8 96 fs=D:=hD
   rw [←this,Ed e]
   unfold Bt
   rw [hH,Ec iP]
def Qz:List Row:=[jb kd4 (kdF .u8 32).rs 84 (fun n=>dk (n%pw 4%aO) 32)]
theorem Xw:∀ r∈Qz,bE Tryz.prog r:=by
 simp only [Qz,aab,aad,false_imp_iff,implies_true,and_true]
 exact cW zf5
def TVg:CallT:=jV (aA Qz) TFb
theorem zzd:ag Tryz.prog TVg:=aT (ap Xw) uP
def TO(k:Nat)(g gs:Nat→Int)(b:Bool):CallT:=jV awT (jV (vyT fun _ _=>b) (jV (skT k g) (jV (sgT k gs) (jV (smT b) TVg))))
theorem Wg(KK:EG)(k:Nat)(g gs:Nat→Int)(b:Bool):ag Tryz.prog (TO k g gs b):=aT (zih KK) (aT (PC _) (aT (zbX k g) (aT (zb7 k gs) (aT (ztY b) zzd))))
def hfK(b:Bool):FuncId→List (Nat×Bool):=fun f=>match f==36 with
 | true=>[(9,b)]
 | false=>[]
def aF(fa:Nat→Int):Nat→Int:=fun i=>(bn fa 0 32).getD i 0
def kB(K:Nat):Nat→Int:=fun i=>(bn (dk (K%pw 4%aO) 32) 0 32).getD i 0
def m32(n c:Nat)(ns:Nat)(fm fs:Nat→Int):St:=cj [(2,gM n fm),(3,gM ns fs)]
def toA(z zs:Bool)(n c ns cs:Nat)(fa:Nat→Int):List AV:=[uM .u8 32 fa,gn z 2 n c,gn zs 3 ns cs]
def K0(fa:Nat→Int):Nat:=eo (aF fa) 32%pw 4%aO
def z64(j:Nat):Int:=((0/2^(64*j)%2^64:Nat):Int)
def K1:Nat:=Rd [1,z64 1,z64 2,z64 3]
def zvD(b:Bool)(fa:Nat→Int):List Prop:=((32=32∨32=48∨32=64)∧bOk 32 (aF fa))::(mOb 4++[aV [.w 4 (K0 fa)]=aV [.w 4 0]↔b=true])
def MN(b:Bool)(fa:Nat→Int):Nat:=match b with | true=>K1 | false=>K0 fa
def zdq(K k:Nat)(g:Nat→Int):List Prop:=[32=32,bOk 32 (kB K),eo (kB K) 32=k,k≠0∧k<aO,uW k=g]
def zdt(K k:Nat)(z:Bool)(n c:Nat)(fm gs:Nat→Int):List Prop:=[32=32,bOk 32 (kB K),eo (kB K) 32=k,k≠0∧k<aO,nZ z n≤90000,cT=cT,Bt k (hV z (nZ z n) (fZ z fm))=gs]++GM z n c fm
def zrp(zs:Bool)(ns cs:Nat)(fs gs:Nat→Int)(b:Bool):List Prop:=[96=96,Ao zs (nZ zs ns) (fZ zs fs) 96 (fun i=>gs (0+i))↔b=true]++(GM zs ns cs fs++[0+96*1≤96])
def zvx(z zs:Bool)(n c ns cs:Nat)(fm fs g:Nat→Int)(b:Bool):List Prop:=[nZ z n≤90000,uO (xK false 48 fun i=>g (0+i)) (hV z (nZ z n) (fZ z fm)) (kW zs (nZ zs ns) (fZ zs fs))=b]++(GM false 48 48 g++(GM z n c fm++GM zs ns cs fs))
theorem zbk(k:Nat)(g gs:Nat→Int)(b z zs:Bool)(n c ns cs:Nat)(fa fm fs:Nat→Int):cV (TO k g gs b) 4 (toA z zs n c ns cs fa) (m32 n c ns fm fs) [(16,true)] (hfK b)=some (.one (cY true),[k_ z n true]):=by cases z<;>cases zs<;>kernel_rfl
theorem zbj(k:Nat)(g gs:Nat→Int)(b z zs:Bool)(n c ns cs:Nat)(fa fm fs:Nat→Int):cV (TO k g gs b) 4 (toA z zs n c ns cs fa) (m32 n c ns fm fs) [(16,false),(20,true)] (hfK b)=some (.one (cY true),[k_ z n false,k_ zs ns true]):=by cases z<;>cases zs<;>kernel_rfl
theorem ztv(k:Nat)(g gs:Nat→Int)(b d z zs:Bool)(n c ns cs:Nat)(fa fm fs:Nat→Int):cV (TO k g gs b) 4 (toA z zs n c ns cs fa) (m32 n c ns fm fs) [(16,false),(20,false)] (hfK d) =
  some (.one (cY true),[k_ z n false,k_ zs ns false]++(zvD d fa++(zdq (MN d fa) k g++(zdt (MN d fa) k z n c fm gs++(zrp zs ns cs fs gs b++zvx z zs n c ns cs fm fs g b))))):=by cases z<;>cases zs<;>cases d<;>cases b<;>kernel_rfl
theorem zGJ(fa:Nat→Int){i:Nat}(hi:i<32):aF fa i=fa i:=by
 unfold aF
 rw [j1 32 0 i hi,aay]
theorem zrP(K:Nat){i:Nat}(hi:i<32):kB K i=dk (K%pw 4%aO) 32 i:=by
 unfold kB
 rw [j1 32 0 i hi,aay]
theorem zrO(K:Nat):bOk 32 (kB K):=fun i hi=>by rw [zrP K hi];exact wD _ 32 i hi
theorem zeL{K:Nat}(h:K<aO):eo (kB K) 32=K:=by
 rw [lG (g:=dk (K%pw 4%aO) 32) 32 fun i hi=>zrP K hi,Ez,aah (aaW h vU),aah h,←pw4,aah (aaW h vU)]
theorem zsW(fa:Nat→Int):K0 fa<aO:=Nat.mod_lt _ yJ
theorem zIR:K1=1:=by decide +kernel
theorem U2(fa:Nat→Int):MN (decide (K0 fa=0)) fa≠0∧MN (decide (K0 fa=0)) fa<aO:=by
 have h1:1<aO:=by decide +kernel
 by_cases h:K0 fa=0
 ·rw [decide_eq_true h]
  show K1≠0∧K1<aO
  rw [zIR];omega
 ·rw [decide_eq_false h]
  exact ⟨h,zsW fa⟩
theorem UA{fa:Nat→Int}(ha:bOk 32 fa):∀ q∈zvD (decide (K0 fa=0)) fa,q:=by
 refine aa ⟨.inl rfl,fun i hi=>by rw [zGJ fa hi];exact ha i hi⟩ (al (Jf (by omega)) (aa ?_ ad))
 exact BS (aaW (zsW fa) vU) (by decide +kernel) decide_eq_true_iff.symm
theorem Mk{K:Nat}(h0:K≠0)(hr:K<aO):∀ q∈zdq K K (uW K),q:=
 aa rfl (aa (zrO K) (aa (zeL hr) (aa ⟨h0,hr⟩ (aa rfl ad))))
theorem Ml{K:Nat}(h0:K≠0)(hr:K<aO){z:Bool}{n c:Nat}{fm:Nat→Int}(hn:nZ z n≤300)(hm:z=false→n≤c∧bOk n fm):∀ q∈zdt K K z n c fm (Bt K (hV z n fm)),q:=by
 refine al (aa rfl (aa (zrO K) (aa (zeL hr) (aa ⟨h0,hr⟩ (aa (by omega) (aa rfl (aa ?_ ad))))))) (gU hm)
 rw [zfN]
theorem T8(zs:Bool)(ns:Nat)(fs gs:Nat→Int):Ao zs (nZ zs ns) (fZ zs fs) 96 (fun i=>gs (0+i))↔Ao zs ns fs 96 gs:=by
 have e0:(fun i=>gs (0+i))=gs:=nI gs
 have e1:(fun i=>fs (0+i))=fs:=nI fs
 rw [e0]
 cases zs with
 | false=>show Ao false ns (fun i=>fs (0+i)) 96 gs↔_;rw [e1]
 | true=>exact ⟨fun h=>(by cases h.1),fun h=>(by cases h.1)⟩
theorem Y_{P:P2}:bOk 96 (j2 P):=fun i hi=>by
 cases h:ιP2 P with
 | inf=>
  rw [sX h hi];split<;>omega
 | aff x y=>
  rw [o8 h hi]
  split
  ·obtain ⟨b,hb⟩:=Dg x.b.lt
   obtain ⟨_,_,_,_,a5,a6⟩:=Sf b (jx (dr y))
   rw [hb];exact ⟨a5,a6⟩
  ·split
   ·exact wD _ 48 i (by omega)
   ·exact wD _ 48 (i-48) (by omega)
theorem He{k:Nat}(h0:k≠0)(hr:k<aO):bOk 48 (uW k):=fun i hi=>by
 obtain ⟨x,y,h⟩:=zrj h0 hr
 show 0≤(qM (gJ (bO (E3 k))) (qP (gJ (bO (E3 k))).1.2)).getD i 0∧(qM (gJ (bO (E3 k))) (qP (gJ (bO (E3 k))).1.2)).getD i 0<256
 rw [h,VC _ _ hi]
 show 0≤(if i=0 then FB false (qP y.val) (dk (fV x.val) 48 0) else dk (fV x.val) 48 i)∧(if i=0 then FB false (qP y.val) (dk (fV x.val) 48 0) else dk (fV x.val) 48 i)<256
 rw [By]
 split
 ·obtain ⟨b,hb⟩:=Dg x.lt
  obtain ⟨_,_,_,_,a5,a6⟩:=Sf b (qP y.val)
  rw [hb];exact ⟨a5,a6⟩
 ·exact wD _ 48 i (by omega)
theorem Uy{K:Nat}(h0:K≠0)(hr:K<aO){z zs:Bool}{n c ns cs:Nat}{fm fs:Nat→Int}(hn:nZ z n≤300)(hm:z=false→n≤c∧bOk n fm)(hs:zs=false→ns≤cs∧bOk ns fs){b:Bool}(hb:uO (xK false 48 (uW K)) (hV z n fm) (kW zs ns fs)=b):
  ∀ q∈zvx z zs n c ns cs fm fs (uW K) b,q:=by
 have e0:(fun i=>uW K (0+i))=uW K:=nI _
 refine al (aa (by omega) (aa ?_ ad)) (al (gU fun _=>⟨by omega,He h0 hr⟩) (al (gU hm) (gU hs)))
 rw [e0,zfN,Oj];exact hb
theorem PN(KK:EG){w:World}{u2 o2 u3 o3:Nat}{z zs:Bool}{n c ns cs:Nat}{fa fm fs:Nat→Int}(ha:bOk 32 fa)(hm:z=false→n≤c∧bOk n fm)(hs:zs=false→ns≤cs∧bOk ns fs)(g2:Stands w u2 o2 (gvals .u8 n fm))(g3:Stands w u3 o3 (gvals .u8 ns fs)):
  cX Tryz.prog 4 #[rf .u8 32 fa,byV z u2 o2 n c,byV zs u3 o3 ns cs] (.bool true) w:=by
 have jd:∀ e∈[((2:Nat),gM n fm,(u2,o2),gvals .u8 n fm),(3,gM ns fs,(u3,o3),gvals .u8 ns fs)],e.1<16∧conc rho0 e.2.1=some e.2.2.2∧Stands w e.2.2.1.1 e.2.2.1.2 e.2.2.2:=
  aab.2 ⟨⟨(by show 2<16;decide),aD,g2⟩,aab.2 ⟨⟨(by show 3<16;decide),aD,g3⟩,fun _ h=>by cases h⟩⟩
 have hM:Mem (aH [(2,(u2,o2)),(3,(u3,o3))]) (m32 n c ns fm fs) w:=dU _ jd
 have cv:∀ c,¬Eng.Own (aH [(2,(u2,o2)),(3,(u3,o3))]) c:=iD (w:=w) _ jd
 have hv:ay (aH [(2,(u2,o2)),(3,(u3,o3))]) (toA z zs n c ns cs fa)=some [rf .u8 32 fa,byV z u2 o2 n c,byV zs u3 o3 ns cs]:=
  Ci (nJ _ _ _ _) (lD (by simp [aH])) (lD (by simp [aH]))
 have DQ:∀ ρ u,SV.val ρ (.one (cY true))=some u→u = .bool true:=iR true
 by_cases n2:300<nZ z n
 ·exact ae (Wg KK 0 (fun _=>0) (fun _=>0) true) (zbk 0 (fun _=>0) (fun _=>0) true z zs n c ns cs fa fm fs) (aa (zfT n2) ad) hM cv hv DQ
 by_cases n3:300<nZ zs ns
 ·exact ae (Wg KK 0 (fun _=>0) (fun _=>0) true) (zbj 0 (fun _=>0) (fun _=>0) true z zs n c ns cs fa fm fs) (aa (rW n2) (aa (zfT n3) ad)) hM cv hv DQ
 obtain ⟨h0,hr⟩:=U2 fa
 have hK:=UA ha
 generalize hd:decide (K0 fa=0)=d at *
 obtain ⟨K,hKe⟩:∃ K,MN d fa=K:=⟨_,rfl⟩
 rw [hKe] at h0 hr
 obtain ⟨b,hb⟩:∃ b,uO (xK false 48 (uW K)) (hV z n fm) (kW zs ns fs)=b:=⟨_,rfl⟩
 have zfD:=BA h0 hr (z:=z) (n:=n) (fm:=fm) (zs:=zs) (ns:=ns) (fs:=fs) (fun h=>(hs h).2)
 rw [hb] at zfD
 refine ae (Wg KK K (uW K) (Bt K (hV z n fm)) b) (ztv K (uW K) (Bt K (hV z n fm)) b d z zs n c ns cs fa fm fs) ?_ hM cv hv DQ
 rw [hKe]
 refine al (aa (rW n2) (aa (rW n3) ad)) (al hK (al (Mk h0 hr) (al (Ml h0 hr (by omega) hm) (al (al (aa rfl (aa ?_ ad)) (al (gU hs) (aa (by omega) ad))) (Uy h0 hr (by omega) hm hs hb)))))
 exact (T8 zs ns fs _).trans zfD.symm
def zN4(zp z:Bool):Bool:=!zp&&z
def TAw(g gs:Nat→Int):CallT:=jV (vyT zN4) (jV (skT 1 g) (sgT 1 gs))
theorem zzr(g gs:Nat→Int):ag Tryz.prog (TAw g gs):=aT (PC _) (aT (zbX 1 g) (zb7 1 gs))
def wy:List Int:=[0,0,0,0,0,0,0,0,0,0,0,0,0,0,0,0,0,0,0,0,0,0,0,0,0,0,0,0,0,0,0,1]
def E7:Nat→Int:=fun i=>wy.getD i 0
def f0:Nat→Int:=fun _=>0
def f1:Nat→Int:=fun i=>[(1:Int)].getD i 0
def zLe(g:Nat→Int):List Prop:=[32=32,bOk 32 E7,eo E7 32=1,(1:Nat)≠0∧1<aO,uW 1=g]
def zLf(gs:Nat→Int):List Prop:=[32=32,bOk 32 E7,eo E7 32=1,(1:Nat)≠0∧1<aO,0≤90000,cT=cT,Bt 1 (hV true 0 f0)=gs]
def zLi(g gs:Nat→Int):List Prop:=[0≤90000,uO (xK false 48 fun i=>g (0+i)) (hV true 0 f0) (kW false 96 fun i=>gs (0+i))=true]++(GM false 48 48 g++GM false 96 96 gs)
def zLh(g gs:Nat→Int):List Prop:=[1≤90000,uO (xK false 48 fun i=>g (0+i)) (hV false 1 f1) (kW false 96 fun i=>gs (0+i))=false]++(GM false 48 48 g++([1≤1,bOk 1 f1]++GM false 96 96 gs))
def zLg:List Prop:=[0≤90000,uO (xK true 0 f0) (hV true 0 f0) (kW true 0 f0)=false]
theorem zyP(g gs:Nat→Int):cV (TAw g gs) 5 [] [] [] (fun _=>[])=some (.one (cY true),zLe g++(zLf gs++(zLi g gs++(zLh g gs++zLg)))):=by kernel_rfl
theorem zig(kN:ιP2 (hV true 0 f0)≠ιP2 (hV false 1 f1)):EG:=by
 intro w
 have hr:1<aO:=by decide +kernel
 have h1:(1:Nat)≠0∧1<aO:=⟨by omega,hr⟩
 have e0:(fun i=>uW 1 (0+i))=uW 1:=nI _
 have e1:(fun i=>Bt 1 (hV true 0 f0) (0+i))=Bt 1 (hV true 0 f0):=nI _
 have hk:eo E7 32=1:=by decide +kernel
 have uD:bOk 32 E7:=fun i hi=>by
  have:∀ i:Fin 32,0≤E7 i.val∧E7 i.val<256:=by decide +kernel
  exact this ⟨i,hi⟩
 have hf1:bOk 1 f1:=fun i hi=>by
  obtain rfl:i=0:=by omega
  show (0:Int)≤1∧(1:Int)<256
  omega
 have hsg:bOk 96 (Bt 1 (hV true 0 f0)):=Y_
 have hpk:bOk 48 (uW 1):=He h1.1 hr
 have l1:=BA h1.1 hr (z:=true) (n:=0) (fm:=f0) (zs:=false) (ns:=96) (fs:=Bt 1 (hV true 0 f0)) (fun _=>hsg)
 have l2:=BA h1.1 hr (z:=false) (n:=1) (fm:=f1) (zs:=false) (ns:=96) (fs:=Bt 1 (hV true 0 f0)) (fun _=>hsg)
 have a1:uO (xK false 48 (uW 1)) (hV true 0 f0) (kW false 96 (Bt 1 (hV true 0 f0)))=true:=l1.2 ⟨rfl,rfl,fun i _=>rfl⟩
 have a2:uO (xK false 48 (uW 1)) (hV false 1 f1) (kW false 96 (Bt 1 (hV true 0 f0)))=false:=by
  cases h:uO (xK false 48 (uW 1)) (hV false 1 f1) (kW false 96 (Bt 1 (hV true 0 f0))) with
  | false=>rfl
  | true=>
   obtain ⟨_,_,e⟩:=l2.1 h
   have:=FN (wR (zj true 0 f0) 1) (wR (zj false 1 f1) 1) e
   unfold tM at this
   rw [jN,jN,eF,eF] at this
   exact absurd this kN
 have a3:uO (xK true 0 f0) (hV true 0 f0) (kW true 0 f0)=false:=B0 (.inl (by show (200:Int)≠0;decide))
 have hv:ay rho0 []=some []:=rfl
 have key:=ae (zzr (uW 1) (Bt 1 (hV true 0 f0))) (zyP (uW 1) (Bt 1 (hV true 0 f0))) ?_ (fU (w:=w)).1 (fU (w:=w)).2 hv (iR true)
 ·exact key
 ·refine al (aa rfl (aa uD (aa hk (aa h1 (aa rfl ad))))) (al (aa rfl (aa uD (aa hk (aa h1 (aa (by omega) (aa rfl (aa rfl ad))))))) (al ?_ (al ?_ ?_)))
  ·refine al (aa (by omega) (aa ?_ ad)) (al (gU fun _=>⟨by omega,hpk⟩) (gU fun _=>⟨by omega,hsg⟩))
   rw [e0,e1];exact a1
  ·refine al (aa (by omega) (aa ?_ ad)) (al (gU fun _=>⟨by omega,hpk⟩) (al (aa (by omega) (aa hf1 ad)) (gU fun _=>⟨by omega,hsg⟩)))
   rw [e0,e1];exact a2
  ·exact aa (by omega) (aa a3 ad)
def Red(a:N2):Prop:=a.1<pN∧a.2<pN
theorem xc{a b:N2}(h:ai a b=(1,0))(hb:Red b):bU a=b:=by
 have e:ar a*ar b=1:=by rw [←dw,h,zlt]
 have:bU a=dr (inv (ar a)):=rfl
 rw [this,nk e]
 exact (yH hb).symm
theorem T2(x:F):Ge x.val=((x.val%2:Nat):Int):=by unfold Ge fV;rw [cM]
theorem T3{x:F}(h:x≠0):Ge (-x).val≠Ge x.val:=by
 obtain ⟨h1,h2⟩:=Tt h
 have h3:=x.lt
 have h4:=zrm
 rw [T2,T2,h1]
 omega
theorem LL(z:F2):gK (dr z)=if z.a.val=0 then Ge z.b.val else Ge z.a.val:=by
 unfold gK dr
 simp only [fV,cM]
theorem zb8{z:F2}(h:z≠0):gK (dr (-z))≠gK (dr z):=by
 rw [LL,LL]
 show (if (-z.a).val=0 then Ge (-z.b).val else Ge (-z.a).val)≠_
 by_cases ha:z.a.val=0
 ·rw [if_pos ha,if_pos (wJ.2 ha)]
  exact T3 fun e=>h (Quad.ext' (oA.1 ha) e)
 ·rw [if_neg ha,if_neg fun e=>ha (wJ.1 e)]
  exact T3 fun e=>ha (oA.2 e)
theorem zCy{a:N2}(hr:Red a)(h:a≠(0,0)):ar a≠0:=Ti (yH hr) h
theorem C2(a:N2):kY a=(kt a,kq a):=rfl
theorem zBU{X u Y:N2}(hr:Red Y)(h:ai Y Y=di X)(h0:Y≠(0,0))(hs:gK Y=gK u):(LU X u,LS X u)=Y:=by
 have hY:=yH hr
 have kN:=zCy hr h0
 have hx:LU X u=EZ (decide (gK (kY (di X))≠gK u)) (kY (di X)).1:=by
  unfold LU rtB
  rw [C2]
 have hy:LS X u=EZ (decide (gK (kY (di X))≠gK u)) (kY (di X)).2:=by
  unfold LS rtB
  rw [C2]
 rw [hx,hy]
 generalize di X=a at *
 have hsq:ar Y*ar Y=ar a:=by rw [←h,dw]
 have h1:ar (kY a)*ar (kY a)=ar a:=L_ ⟨ar Y,hsq⟩
 have h2:=yH (C3 a)
 generalize kY a=r at *
 rcases ry (h1.trans hsq.symm) with e|e
 ·have er:r=Y:=by rw [h2,e,←hY]
  rw [er,hs,decide_eq_false (fun k=>k rfl)];rfl
 ·have er:r=dr (-ar Y):=by rw [h2,e]
  have hn:gK r≠gK u:=by
   rw [er,←hs]
   have:=zb8 kN
   rw [←hY] at this
   exact this
  rw [decide_eq_true hn]
  show (du r.1,du r.2)=Y
  have:gl r=(du r.1,du r.2):=rfl
  rw [←this]
  show dr (-ar r)=Y
  rw [e,bm,←hY]
theorem I_{u T W wA X1:N2}(hT:yR u=T)(hT0:T≠(0,0))(hW:ai T W=(1,0))(hWr:Red W)(hA:ai xT wA=(1,0))(hAr:Red wA)(hX:ai (gl (ai vo wA)) (bk (1,0) W)=X1):Mv u=X1:=by
 rw [zrv (by rw [hT];exact hT0),xc hA hAr,hT,xc hW hWr]
 exact hX
theorem ME{u X1 R:N2}(h:Mv u=X1)(hR:ai R R=di X1):mE u=X1:=by
 rw [zdW (Ja.2 ⟨ar R,by rw [h,←hR,dw]⟩),h]
theorem UM{u X1 X G:N2}{s:Nat}(h:Mv u=X1)(hG:di X1=G)(hs:ao s s=du (bZ (ao G.1 G.1) (ao G.2 G.2)))(h0:φ s≠0)(hX:ai (Bb u) X1=X):mE u=X:=by
 have hI:mpI u=false:=by
  cases hi:mpI u with
  | false=>rfl
  | true=>
   have hq:=Ja.1 hi
   rw [h,hG] at hq
   obtain ⟨t,ht⟩:=zlQ hq
   have e:φ s*φ s=-(ar G).norm:=by
    rw [←pq,hs,q_,Pv,pq,pq,UF];rfl
   exact (rO h0 (r:=t) (by rw [e,bm];exact ht)).elim
 rw [zdX hI,h];exact hX
theorem Bu{u X Y S2 I2 S4 I4 PX PY:N2}(hX:mE u=X)(hr:Red Y)(h:ai Y Y=di X)(h0:Y≠(0,0))(hs:gK Y=gK u)(e2:cR X=S2)(n2:S2≠(0,0))(m2:ai S2 I2=(1,0))(r2:Red I2)
  (e4:c6 X=S4) (n4:S4≠(0,0)) (m4:ai S4 I4=(1,0)) (r4:Red I4) (hPX:ai (mY X) I2=PX) (hPY:ai Y (ai (mX X) I4)=PY):ib u=((PX,PY),false):=by
 have hb:Be X=false:=by
  show (decide (cR X=(0,0)) || decide (c6 X=(0,0)))=false
  rw [e2,e4,decide_eq_false n2,decide_eq_false n4];rfl
 have h1:ib u=Ff (mE u) (LU (mE u) u,LS (mE u) u):=rfl
 rw [h1,hX,zBU hr h h0 hs,Rw hb]
 have i2:bU (cR X)=I2:=xc (by rw [e2];exact m2) r2
 have i4:bU (c6 X)=I4:=xc (by rw [e4];exact m4) r4
 have x1:zf X=PX:=by
  have:zf X=ai (mY X) (bU (cR X)):=rfl
  rw [this,i2];exact hPX
 have y1:Bd X Y=PY:=by
  have:Bd X Y=ai Y (ai (mX X) (bU (c6 X))):=rfl
  rw [this,i4];exact hPY
 rw [x1,y1]
theorem sk(x y:N2):ar (d_ x y)=ar x-ar y:=bW _
theorem IP{X1 Y1 X2 Y2 I L X3 Y3:N2}(hI:ai (d_ X2 X1) I=(1,0))(hL:ai (d_ Y2 Y1) I=L)(hX:d_ (d_ (ai L L) X1) X2=X3)(hY:d_ (ai L (d_ X1 X3)) Y1=Y3):
  padd (.aff (ar X1) (ar Y1)) (.aff (ar X2) (ar Y2)) = .aff (ar X3) (ar Y3):=by
 have hi:(ar X2-ar X1)*ar I=1:=by rw [←sk,←dw,hI,zlt]
 have kN:ar X1≠ar X2:=fun e=>by
  rw [e,cL,aS] at hi
  exact bB (R:=F2) hi.symm
 have hl:(ar Y2-ar Y1)*inv (ar X2-ar X1)=ar L:=by rw [nk hi,←hL,dw,sk]
 rw [eI,if_neg kN,hl]
 have h3:ar L*ar L-ar X1-ar X2=ar X3:=by rw [←hX,sk,sk,dw]
 have h4:ar L*(ar X1-ar X3)-ar Y1=ar Y3:=by rw [←hY,sk,dw,sk]
 unfold sumBy
 rw [h3,h4]
theorem Gf{u v:N2}{A B:P2}(hA:ib u=A)(hB:ib v=B):ιP2 (ku u v)=smul qO (padd (ιP2 A) (ιP2 B)):=by
 rw [zhM (LO u v) (LN u v),jN]
 have:Gg u v=cS (padd (ιP2 (ib u)) (ιP2 (ib v))):=rfl
 rw [this,jN,hA,hB]
theorem PJ{u1 v1 u2 v2:N2}{A1 B1 A2 B2:P2}(a1:ib u1=A1)(b1':ib v1=B1)(a2:ib u2=A2)(b2':ib v2=B2){S1 S2 D:Pt F2}(s1:padd (ιP2 A1) (ιP2 B1)=S1)(s2:padd (ιP2 A2) (ιP2 B2)=S2)
  (d:padd S1 S2.neg=D) (hD:On b2 D→smul qO D≠.inf):ιP2 (ku u1 v1)≠ιP2 (ku u2 v2):=by
 intro e
 rw [Gf a1 b1',Gf a2 b2',s1,s2] at e
 have p1:=sG u1
 have p2:=sG v1
 have p3:=sG u2
 have p4:=sG v2
 rw [a1] at p1
 rw [b1'] at p2
 rw [a2] at p3
 rw [b2'] at p4
 have o1:On b2 S1:=by rw [←s1];exact fL ic p1.on p2.on
 have o2:On b2 S2:=by rw [←s2];exact fL ic p3.on p4.on
 have oD:On b2 D:=by rw [←d];exact fL ic o1 (db o2)
 refine hD oD ?_
 rw [←d,pJ ic o1 (db o2),vG ic o2,e]
 exact dZ ic _
theorem zGt:qO<2^754:=by decide +kernel
def lwA:N2:=(0,2718303156254715771362915589978968239661549581875242855454689484117571495958360716267325348116789805159069860113522)
def zd9:N2:=(29049427705470064014372021539200946731799999421508007424058975406727614446045474101630850618806446883308850416212,1902536696277558307181953186589646430378426314321017542292852776971493752529393071590138748612350933458183942594017)
def zLG:N2:=(3286320483078909602859901312206415945705665760238300741456726822467652203565018553756402928012093455942076737455841,306381877306241344816677297973572236903432223222126740695064722956842733547508678155431617661921333737506664714853)
def zLC:N2:=(1653987109339724309464598824873403415896317135932851965056616582830112942021492433941718212855434059869139904590573,2018646273246379359914226110119727031762875123305726113676822920146064721425758551591334774943567387041574048362092)
def zCR:N2:=(2791399538940877290727195061639595593980170851265465111023728917416862056372251258623900074470048764632873343072619,3932313584329883308275051042383737767057087007161024783271942730353913252516156285315789923004692544608024866261808)
theorem zCF:Mv zd9=zCR:=I_ (T:=zLG) (W:=zLC) (wA:=lwA) (by decide +kernel) (by decide +kernel) (by decide +kernel) ⟨by decide +kernel,by decide +kernel⟩ (by decide +kernel) ⟨by decide +kernel,by decide +kernel⟩ (by decide +kernel)
def zCV:N2:=(337725438187709982817188701931175748950561864071211469604211805451542415352866003578718608366094520056481699232210,325784474482020989596135374893471919876505088991873421195308352667079503424389512976821068246925718319548045276021)
theorem zv4:mE zd9=zCV:=UM (G:=(3373497300402030053449372816216273123572760027086975128253428241889361218379858237131097770078730260415158492045635,969297700487165618199677391114266081593830916477987320998209764076437118523707766265462401789790356178670049987919)) (s:=53919010705642460886516638001300397036149014277012423073464166692353631484805248982462273798810543608830392751848) zCF (by decide +kernel) (by decide +kernel) (fun e=>absurd (congrArg Z.val e) (by decide +kernel)) (by decide +kernel)
def zLx:N2:=(2965841325781469856973174148258785715970498867849450741444982165189412687797594966692602501064144340797710797471604,1396501224612541682947972324170488919567615665343008985787728980681572855276817422483173426760119128141672533354119)
def zC3:N2:=(1011179440795530287308720851452539318464214733177580110393251669635938862602653647754095102717337211732756972557711,2137265223571649663206201487845622824606442699534377332642896473877933677037012285475450688754148856177036661060496)
def zDb:N2:=(836690941191793646332472376746891984842634286553789018290153178031109028457902311931134628708844447853367007800575,1250346203928345340372267985930588998291079052910174753041082000076295041946650764155243487496616809899774751722686)
def zCZ:N2:=(3335107218505236871475195641408427503443030312238314142352722652371561230661171285056685289748181658007547761714567,445282937548283248585364229950847876384745523972541476574086588556728357649882976670935286904207023789938921118307)
def zC7:N2:=(1320870084406977331627908371472029013264774194996796307868512676849799747496705703864202532673847692106666250802614,919666233064756691792288127140099269546469199163170144673618272365912022020091401451861992052434152604520226757953)
def zrJ:N2:=(1190169518718555147526206545470112373901461165289259188891986388774937487787799700660584433316520447377928959986842,2267123909282838134150005424781702684335626615832022127242480854565168964547106468357400575352225855473425396571214)
def zrF:N2:=(2368608044425872680189948882389955183157693322020396647696347966212435513880135537719533836843790834299330269999255,3133137554799961953039083907411499586257367791788874137103066221279166322917009549571304502425749361580634227157804)
theorem zuq:ib zd9=((zrJ,zrF),false):=Bu (X:=zCV) (Y:=zLx) (S2:=zC3) (I2:=zDb) (S4:=zCZ) (I4:=zC7) zv4 ⟨by decide +kernel,by decide +kernel⟩ (by decide +kernel) (by decide +kernel) (by decide +kernel) (by decide +kernel) (by decide +kernel) (by decide +kernel) ⟨by decide +kernel,by decide +kernel⟩ (by decide +kernel) (by decide +kernel) (by decide +kernel) ⟨by decide +kernel,by decide +kernel⟩ (by decide +kernel) (by decide +kernel)
def zd8:N2:=(1469261503385240180838932949518429345203566614064503355039321556894749047984560599095216903263030533722651807245292,572729459443939985969475830277770585760085104819073756927946494897811696192971610777692627017094870085003613417370)
def zLF:N2:=(3946829076259883820858949233813211276444605197582187739746269529609326674454384371862407686684986876268793420386221,18732412472627596222480217376686582439282878168372949318334672227556300216346285662221556679225274806235369941755)
def zLB:N2:=(3583584277404366059785593296366562995059140435448433096399669136139442800602221757587193144887341803438752013340774,2275682687710195205253362904182304132922344473196575878542760619645588059292122612878377272205070724003662216830605)
def zrB:N2:=(3310291183651938419676930134503606039576251708119934019650494815974674760881379622302324811830103490883079904029190,845507222118475144290150023685070019360459684233155402409229752404383900284940551672371362493058110240418657298132)
theorem zCE:Mv zd8=zrB:=I_ (T:=zLF) (W:=zLB) (wA:=lwA) (by decide +kernel) (by decide +kernel) (by decide +kernel) ⟨by decide +kernel,by decide +kernel⟩ (by decide +kernel) ⟨by decide +kernel,by decide +kernel⟩ (by decide +kernel)
def zCU:N2:=zrB
theorem zv3:mE zd8=zCU:=ME (R:=(569469686320544423596306308487126199229297307366529623191489815159190893993668979352767262071942316086625514601662,2551756239942517806379811015764241238167383065214268002625836091916337464087928632477808357405422759164808763594986)) zCE (by decide +kernel)
def zLw:N2:=(569469686320544423596306308487126199229297307366529623191489815159190893993668979352767262071942316086625514601662,2551756239942517806379811015764241238167383065214268002625836091916337464087928632477808357405422759164808763594986)
def zC2:N2:=(1782753167327043431702604175992885061379328807579788088620845184755654663200600999054669887129769886310482038351800,3209214729235824156982353004514395021721910179523882423262876400074170574898623070515600405856528465591244748992879)
def zDa:N2:=(1648501686249252264966800253662870198273484888754007243942507609630773978270467484723989041254421641196069090827996,1110857537796182252715391230198279750170117386944412737762762714634733977058268104570866993270877817783575795906789)
def zCY:N2:=(672944120363929303995899813054584933778938789260817054618599706795355702746375770775012061467719578565296015649565,2649133099733243722674225934105747963300506386711768793309614446599605458816466916349706503467327201929517572473166)
def zC6:N2:=(3896664033848016064528479347981656239797658499513198005429884279628407066124585878428494341573127099616733571117037,3274964940715542884271020924545441084143392800596163493157527741342261464154318626251235420982747975174438681154689)
def zrI:N2:=(3809964976590898745842980938066690182247659765754037700021190080740259647627174051010547602904200590929922717146758,1292626195604863091640260238025527254009977967498325940515678821338051118605887155419084799376601954736509425313130)
def zrE:N2:=(2702341238950691964452564470798383795380522081348309081960776433506254593670812108470970268772707095169497862612696,2338862369084406560431972775367768183932991379045508594683242755933432182122884288593782514649263364933278502181198)
theorem zup:ib zd8=((zrI,zrE),false):=Bu (X:=zCU) (Y:=zLw) (S2:=zC2) (I2:=zDa) (S4:=zCY) (I4:=zC6) zv3 ⟨by decide +kernel,by decide +kernel⟩ (by decide +kernel) (by decide +kernel) (by decide +kernel) (by decide +kernel) (by decide +kernel) (by decide +kernel) ⟨by decide +kernel,by decide +kernel⟩ (by decide +kernel) (by decide +kernel) (by decide +kernel) ⟨by decide +kernel,by decide +kernel⟩ (by decide +kernel) (by decide +kernel)
def zd7:N2:=(81430369995292892790304106256316947729427243046433498828751540538669501672178667841178534697249393353485551974805,1034620123887222799211151623974203871395665359228685269126364348424784409322132036032531151347713168730963501698558)
def zLE:N2:=(3691761774201752356753016197699131895683350226839212090124125910081009876289418133846897359245054797453668552194033,3915572273594349498564958845419887597559040479690413912508159676370818050497016817623162943741049385345760506900862)
def zLA:N2:=(1630777633731275327178694559869242406305056342981454200460655705777951869236604617336986898644501509998020720442110,859409857408238455807063312501434512508975825744288118115078171289624387309018646493697640022530182513191985262795)
def zrA:N2:=(1106697122504552322654978132804434379682457866362909424135290746458078571322718377731074319761495122287613148034362,2985773486480694314722525771351863008403013993020783121535048061350845438761931652759690531914044719958501548502130)
theorem zCD:Mv zd7=zrA:=I_ (T:=zLE) (W:=zLA) (wA:=lwA) (by decide +kernel) (by decide +kernel) (by decide +kernel) ⟨by decide +kernel,by decide +kernel⟩ (by decide +kernel) ⟨by decide +kernel,by decide +kernel⟩ (by decide +kernel)
def zCT:N2:=zrA
theorem zv2:mE zd7=zCT:=ME (R:=(375556610368742714036361024557919862298206321704707465882231949235149612954298040204168523696726768583845866241005,1427429749980383116012891325374817621509046533931177941174632915718180981216652977791423111140420171285430403134650)) zCD (by decide +kernel)
def zLv:N2:=(375556610368742714036361024557919862298206321704707465882231949235149612954298040204168523696726768583845866241005,1427429749980383116012891325374817621509046533931177941174632915718180981216652977791423111140420171285430403134650)
def zC1:N2:=(2610589851223240133677964831287997703003102060581094816396006525029567707204342083907668053860358463404063911269357,1194701770524084866873182342469834788865399377538915877744811565060803327088356233754448330417707534764915193132498)
def zC9:N2:=(1638425884313131640264059768949482787635287763866158504227679735255001091294390212300265115447696927669667505449562,3251658229603537996610498207950158536738705114797853549792610722157348583163834592159661815992422633915529903173925)
def zCX:N2:=(2314621684139186287293867027325025964331888627978429613573769857067109519892996659873096584556659131950801501936276,1992546373352352160417170149024955918957267892022443812396149408717098622899084553786296095692367654694544311447744)
def zC5:N2:=(3028500438627671064266057344187123496004098047983577446466313472133994269537508483989885941148136388899150700019607,2513215764840827706007755328700177742234586132562724859348066527331420225706288525969573954098913946432930075979747)
def zrH:N2:=(2403308182843933970905091955698530063327480847799721085734798703593584727931081359498886334419237562687583682161246,677439183915985110705119353516340223593807015237560468077451154753340417497216101621170305229846150384309590781195)
def zrD:N2:=(3544862262628797163789501850549883728575238925234001040655215219366528015077837130868806388825041351160907025502645,291722379035820892135050948891568670674228609474785315554089148025479704503316147979874562099375624913095245980172)
theorem zuo:ib zd7=((zrH,zrD),false):=Bu (X:=zCT) (Y:=zLv) (S2:=zC1) (I2:=zC9) (S4:=zCX) (I4:=zC5) zv2 ⟨by decide +kernel,by decide +kernel⟩ (by decide +kernel) (by decide +kernel) (by decide +kernel) (by decide +kernel) (by decide +kernel) (by decide +kernel) ⟨by decide +kernel,by decide +kernel⟩ (by decide +kernel) (by decide +kernel) (by decide +kernel) ⟨by decide +kernel,by decide +kernel⟩ (by decide +kernel) (by decide +kernel)
def zd6:N2:=(3607922939825291997323471043728737534110379527842771286626063642240947134789402375305585583223497110967565341810295,3737383509801777508078526659645002172458227669881728670981428870758616428883996295021484468390254002932564673278255)
def zLD:N2:=(1034848540018298536711901375054469891701512540738799955461625610809112652822978871488684398129976523688856764721932,1859505387888162061899090080696139751353645531604431238595877586357821134893717436493649670423065564743062756203097)
def zLz:N2:=(3549272416216163589629854491483097511124467640944951955377195340610722499765547858291517051920838888599995758573991,3444367110827318744971740588888592475797959964080583851361045893735014729139712205853802733606703179949231707475088)
def zCQ:N2:=(2529429769406655303105592683653273807598826158321053764243547884167727888709522978395402604057656256587245031971342,3377451044885518516814759494813159280435154772066691287844939467483524309832221435036999636919217058438510882010889)
theorem zCC:Mv zd6=zCQ:=I_ (T:=zLD) (W:=zLz) (wA:=lwA) (by decide +kernel) (by decide +kernel) (by decide +kernel) ⟨by decide +kernel,by decide +kernel⟩ (by decide +kernel) ⟨by decide +kernel,by decide +kernel⟩ (by decide +kernel)
def zCS:N2:=(1482181591929971513146041677700172767688039879711519342131682386661833326617780923838236661560372593317581560398891,938427361353567951760932161241915837985192461047554463367625589358402701691228205674799423003328263993929493508178)
theorem zv1:mE zd6=zCS:=UM (G:=(1285241959136204952811948649979539584551661665083302721167644583924828946738651002736736416699950684567312157683436,3314797847179731601491224017115838556665506698713627543073821660068097958719741131489384134090157628277662057311087)) (s:=2712819983183442889133467994566751150016107165165925530883364475767934504948211044949583563447576413177700293894365) zCC (by decide +kernel) (by decide +kernel) (fun e=>absurd (congrArg Z.val e) (by decide +kernel)) (by decide +kernel)
def zLu:N2:=(3831019604360623112822452901168955722420541074316951068607293916815967292939257813395701349359492886744742203924615,491280555826903763289313378581662354781579196109606368072052938552597325948379216664786560048071281398888523560174)
def zC0:N2:=(3841024484610182983854335781903928044938496699460477001408616323624754644464699273239759412026804718550922951831105,3621481473649661742876765166840167322033571263642463459703205776307283940429507690147449725026452943066590434850321)
def zC8:N2:=(2673860487228060618971246556656450070589335470035539700384433637645229712039148158959303936907880892829459736340024,919990215247774627414271911007491516015609589501254904953859762110281694836893211139560036756652165923129828951137)
def zCW:N2:=(3289452035845936438160257337758338068925494810603708655247907324764883839919906144341532898354915401810066752328536,2588532342758536406465757088088061362507270751958502498557031641296189213584843590068748412472557133765035867677032)
def zC4:N2:=(1138506889263240186385742743817014721992369776147767492951930303113757864741608682860625500014746512345795856851525,188443334886534639202575641577828972750192054683991616737798151132346628103681293068246586718355566808050226999964)
def zrG:N2:=(1174017793006641280992789651910668112567041066604935574577863257780246540834925264507377515889925857045597602277127,412684629203548962254021205337215691895841130826287253628895482766615502977704934263510289939852900735330040278651)
def zrC:N2:=(3759463602107153406303046108512416484914134794920946595661519098053104708713570054653739998410295664490262944985225,3381370242403668255346332745958796687050053270378955366005817555028027437512161538869423307842200970365997724588808)
theorem zun:ib zd6=((zrG,zrC),false):=Bu (X:=zCS) (Y:=zLu) (S2:=zC0) (I2:=zC8) (S4:=zCW) (I4:=zC4) zv1 ⟨by decide +kernel,by decide +kernel⟩ (by decide +kernel) (by decide +kernel) (by decide +kernel) (by decide +kernel) (by decide +kernel) (by decide +kernel) ⟨by decide +kernel,by decide +kernel⟩ (by decide +kernel) (by decide +kernel) (by decide +kernel) ⟨by decide +kernel,by decide +kernel⟩ (by decide +kernel) (by decide +kernel)
def lXa:N2:=(3219922746671482828210036408711997441423671614254909325234707044434520756052360285257107968950769890523504628275940,1689252599334450651431125834598273362703914442067213087777626885820814565104897473205802289043260096634945919754747)
def lYa:N2:=(3277365552217223927730141275188890184833071787772555827000840921808443941258778716588573376888715070179970391655322,583921403203359937897773959554466412643567032578544897698779952656397892876222999644067619700087458377600564507453)
theorem zKu:padd (.aff (ar zrJ) (ar zrF)) (.aff (ar zrI) (ar zrE)) = .aff (ar lXa) (ar lYa):=IP (I:=(2674961923428758010519235563941334818872788694531410818140581842884531402088668476915396228583255051078104813508954,3230784755690884076572502350674185487864220212743624382109194878275740895385744144498319648043448791750277595366707)) (L:=(292134490292534631906497904703336124968535612833040563861555239285449125814729147625850854063715126295494825943950,1540636504386844279883200072645177322488974045776048674518602920691902346375532656908342310278603949232046821755026)) (by decide +kernel) (by decide +kernel) (by decide +kernel) (by decide +kernel)
def lXb:N2:=(1376182954274531174211136896671389569259256205157277799548406940638293999199320194853888599068705064991282698968225,1277592461923803397431637316372369705437795458727505152164846432935957479625438382459966651326556098485415971305745)
def lYb:N2:=(2772865634468626139472848121832152057324857229915813016741548230961550397343350839408099047207729660070075929707522,2624691555690739289910607837632256715353591109969881300719129586522433732786184185987785632763708273264803900890533)
theorem zKt:padd (.aff (ar zrH) (ar zrD)) (.aff (ar zrG) (ar zrC)) = .aff (ar lXb) (ar lYb):=IP (I:=(1275157449716268101237933044850589824817309181560986944051764655563850386788710582792507500705114117290564909095945,2645147136310180238207434028207867035335791641709522917126885928110919581688590411252884594749393324703171236101284)) (L:=(3996968898081755553671092870465861244018149141565395922453202368578834230430402575265550526574026439151708730994416,2729442256393203670844024068750196147547888050720350075326089244526516183586442432178050516525480809115853834582000)) (by decide +kernel) (by decide +kernel) (by decide +kernel) (by decide +kernel)
def lYn:N2:=(1229543920753041253944941703903752099232025590023194868590509905162481253147487025034588581921286003967818342852265,1377717999530928103507181988103647441203291709969126584612928549601597917704653678454901996365307390773090371669254)
theorem zwk:gl lYb=lYn:=by decide +kernel
def lXd:N2:=(1015034593560161451360437069953998454577716786341922773321288459832155581225177282922329445171607371519151472926800,1103019248618539954998083950501595767658062559965595713193389419941014902251170657766462091739759705375222895919865)
def lYd:N2:=(824216032891977939601573577610190340070506729475483889048790152047666621184386694432311577456593815455998924819012,2671197096503264428443871825402902248701865330568154458543061235230160987821954422119365316746012807944111629982287)
theorem zKs:padd (.aff (ar lXa) (ar lYa)) (.aff (ar lXb) (ar lYn)) = .aff (ar lXd) (ar lYd):=IP (I:=(387215960919176078263088135066001963423331979695460831794477242132937881043349922069505261372020479679879895940538,2953808458874536409183270895751762718970958139867956518712780731444042478335065958659809391010204467081363989172294)) (L:=(2146703160268721295140678873476401379442021162610196944714387444240176848882737212415270363135126152827083591783849,3960601714575116891946780744755531934977457765032667061203996872290284373829743324129314488018041190745302949597484)) (by decide +kernel) (by decide +kernel) (by decide +kernel) (by decide +kernel)
theorem zCx:Pt.neg (.aff (ar lXb) (ar lYb)) = .aff (ar lXb) (ar lYn):=by
 rw [←zwk,HF];rfl
theorem zNt(h:On b2 (.aff (ar lXd) (ar lYd))):smul qO (.aff (ar lXd) (ar lYd))≠.inf:=zmX ic fq h 754 zGt (by decide +kernel)
theorem zni:ιP2 (ku zd9 zd8)≠ιP2 (ku zd7 zd6):=
 PJ zuq zup zuo zun (S1:=.aff (ar lXa) (ar lYa)) (S2:=.aff (ar lXb) (ar lYb)) (D:=.aff (ar lXd) (ar lYd)) zKu zKt (by rw [zCx];exact zKs) zNt
end Sh
end Go.Proofs.YtcafpgpahbplaaaGreat
