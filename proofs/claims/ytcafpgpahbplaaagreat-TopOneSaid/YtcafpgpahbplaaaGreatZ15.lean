/-
 The proof, part 15 of 25.
-/
import Derived.Test.YtcafpgpahbplaaaGreatZ14
open BitVec renaming ofInt->aa0,toNat_ofInt->abu
open Bool renaming and_eq_true->aaf
open Int renaming fdiv_eq_ediv_of_nonneg->adI,toNat_natCast->aam
open List renaming forall_mem_cons->aab,mem_append->aaw,mem_cons->aae,mem_cons_of_mem->aaa,mem_cons_self->aac,mem_singleton->aao,not_mem_nil->aad
open Nat renaming div_div_eq_div_mul->abj,le_refl->aaV,min->ado,mod_eq_of_lt->aah,mul_comm->aar,mul_lt_mul_of_pos_right->ab9,pow_add->acb,pow_mul->aej,pow_succ->aa9,pow_zero->abR,zero_add->aay
noncomputable section
set_option linter.unusedVariables false
set_option linter.unusedSimpArgs false
namespace Go.Proofs.YtcafpgpahbplaaaGreat
open Go Go.Eng Go.RowKit Go.Wd Go.Alg Go.Pr
namespace Sh
def zfG:List (Nat×Bool):=[(14,false),(21,false),(39,false),(39,false),(39,false),(39,false),(39,false),(39,false),(39,false),(39,false)]
def qV(n:Nat):Int:=IntKind.i64.wrap (IntKind.i64.wrap (Int.tdiv (IntKind.i64.wrap (IntKind.i64.wrap ((n:Int)+9)+63)) 64)*64)
def zc3(n:Nat):Nat→Int
 | 0=>IntKind.u64.wrap (8*IntKind.u64.wrap (n:Int))
 | i+1=>(zc3 n i).fdiv (2^(min (8:Int).toNat IntKind.u64.bits))
def XW(n:Nat)(j:Nat):Int:=IntKind.i64.wrap (IntKind.i64.wrap (qV n-1)-(j:Int))
def XX(n:Nat)(f:Nat→Int):Nat→(Nat→Int)
 | 0=>Fb (0+(n:Int).toNat*1) 1 (fun i=>[(128:Int)].getD i 0) (Fb 0 (ado n (qV n).toNat*1) (fun i=>f (0+i)) (fun _=>0))
 | j+1=>Fb (0+(XW n j).toNat*1) 1 (fun i=>[IntKind.u8.wrap (zc3 n j)].getD i 0) (XX n f j)
def zc2(n:Nat):List Prop:=[qV n=qV n,1≤qV n,qV n≤1000000,0+ado n (qV n).toNat*1≤n,0+ado n (qV n).toNat*1≤(qV n).toNat-1+1,0≤(n:Int)∧(n:Int)<((qV n).toNat:Int),0+(n:Int).toNat*1+1≤(qV n).toNat-1+1] ++
 (List.range 8).flatMap fun j=>[0≤XW n j∧XW n j<((qV n).toNat:Int),0+(XW n j).toNat*1+1≤(qV n).toNat-1+1]
def T0:CallT:=aA []
theorem pk:ag Tryz.prog T0:=ap (fun r h=>by cases h)
theorem zlm(n c:Nat)(f:Nat→Int):tG T0 149 [⟨false,[.s 1 0 n c]⟩] (cj [(1,gM n f)]) zfG (fun _=>[]) 25=some (iG (.s 25 0 (qV n).toNat (qV n).toNat),zc2 n,some [.w 0 0,.g .u8 ((qV n).toNat-1+1) (XX n f 8)]):=by kernel_rfl
theorem zqH(n:Nat):IntKind.u8.wrap (n:Int)=((n%256:Nat):Int):=by
 unfold IntKind.wrap
 simp only [IntKind.signed,IntKind.bits,Bool.false_and,Bool.false_eq_true,if_false]
 omega
def dl(n:Nat):Nat:=(n+72)/64*64
def lk(n:Nat)(f:Nat→Int)(i:Nat):Int:=if i<n then f i else if i=n then 128 else if dl n-8≤i then ((8*n/256^(dl n-1-i)%256:Nat):Int) else 0
theorem Bz{n:Nat}(h:n≤100000):qV n=(dl n:Int):=by
 unfold qV dl
 have e1:IntKind.i64.wrap ((n:Int)+9)=((n+9:Nat):Int):=by rw [bq (by omega) (by omega)];omega
 have e2:IntKind.i64.wrap (((n+9:Nat):Int)+63)=((n+72:Nat):Int):=by rw [bq (by omega) (by omega)];omega
 have e3:((n+72:Nat):Int).tdiv 64=(((n+72)/64:Nat):Int):=by
  rw [Int.tdiv_eq_ediv_of_nonneg (by omega)];omega
 rw [e1,e2,e3,bq (a:=(((n+72)/64:Nat):Int)) (by omega) (by omega),bq (by omega) (by omega)]
 omega
theorem IQ{n j:Nat}(h:n≤100000)(hj:j<8):XW n j=((dl n-1-j:Nat):Int):=by
 unfold XW
 rw [Bz h,bq (a:=(dl n:Int)-1) (by unfold dl;omega) (by unfold dl;omega),bq (by unfold dl;omega) (by unfold dl;omega)]
 unfold dl
 omega
theorem zlp{n:Nat}(h:n≤100000):∀ j,zc3 n j=((8*n/256^j:Nat):Int):=by
 intro j
 induction j with
 | zero=>
  unfold zc3
  rw [bH (by omega),abR,Nat.div_one]
  have:(8:Int)*(n:Int)=((8*n:Nat):Int):=by omega
  rw [this,bH (by omega)]
 | succ j ih=>
  unfold zc3
  rw [ih]
  have e:(2:Int)^(min (8:Int).toNat IntKind.u64.bits)=256:=by decide
  rw [e,adI _ (by omega),aa9,←abj]
  omega
theorem zc1{n:Nat}(h:n≤100000):∀ p∈zc2 n,p:=by
 have hL:n+9≤dl n∧dl n≤n+72:=by unfold dl;omega
 have hI:=Bz h
 intro p hp
 unfold zc2 at hp
 rw [aaw] at hp
 rcases hp with hp|hp
 ·simp only [aae,aad,or_false] at hp
  have zwY:ado n (dl n)=n:=Nat.min_eq_left (by omega)
  rcases hp with rfl|rfl|rfl|rfl|rfl|rfl|rfl
  ·trivial
  all_goals (rw [hI];try rw [aam];try rw [zwY]);omega
 ·rw [List.mem_flatMap] at hp
  obtain ⟨j,hj,hp⟩:=hp
  rw [List.mem_range] at hj
  simp only [aae,aad,or_false] at hp
  rcases hp with rfl|rfl
  ·rw [hI,IQ h hj,aam];omega
  ·rw [hI,IQ h hj,aam,aam];omega
theorem zln{n:Nat}(f:Nat→Int)(h:n≤100000):∀ j≤8,∀ i<dl n,XX n f j i=if i<n then f i else if i=n then 128 else if dl n-j≤i then ((8*n/256^(dl n-1-i)%256:Nat):Int) else 0:=by
 have hL:n+9≤dl n∧dl n≤n+72:=by unfold dl;omega
 have hI:=Bz h
 have zwY:ado n (dl n)=n:=Nat.min_eq_left (by omega)
 intro j
 induction j with
 | zero=>
  intro _ i hi
  unfold XX Fb
  rw [hI,aam,aam,zwY]
  by_cases h1:i<n
  ·rw [if_neg (by omega),if_pos (by omega),if_pos h1];simp
  ·rw [if_neg h1]
   by_cases h2:i=n
   ·rw [if_pos (by omega),if_pos h2,h2];simp
   ·rw [if_neg (by omega),if_neg (by omega),if_neg h2,if_neg (by omega)]
 | succ j ih=>
  intro hj i hi
  have:=ih (by omega) i hi
  unfold XX Fb
  rw [IQ h (by omega),aam,zlp h,zqH,this]
  by_cases h1:i=dl n-1-j
  ·rw [if_pos (by omega),if_neg (by omega),if_neg (by omega),if_pos (by omega),h1]
   have e1:dl n-1-j-(0+(dl n-1-j)*1)=0:=by omega
   have e2:dl n-1-(dl n-1-j)=j:=by omega
   rw [e1,e2];rfl
  ·rw [if_neg (by omega)]
   by_cases h2:i<n
   ·rw [if_pos h2,if_pos h2]
   ·rw [if_neg h2,if_neg h2]
    by_cases h3:i=n
    ·rw [if_pos h3,if_pos h3]
    ·rw [if_neg h3,if_neg h3]
     by_cases h4:dl n-j≤i
     ·rw [if_pos h4,if_pos (by omega)]
     ·rw [if_neg h4,if_neg (by omega)]
def zNu:Fn1:=match fJ 149 with
 | some d=>d
 | none=>⟨.skip,[],0⟩
theorem XV{w:World}{v:Value}{n:Nat}{f:Nat→Int}(h:n≤100000){b o c:Nat}(hv:v = .slice (some ⟨b,o,none⟩) n c)(hs:Stands w b o (gvals .u8 n f)):
  Calls Tryz.prog 149 #[v] w fun e w'=>∃ g,w.heap.size≤g∧e = .returned (.slice (some ⟨g,0,none⟩) (dl n) (dl n))∧mb w' g (gvals .u8 (dl n) (lk n f))∧Below w.heap.size w w':=by
 subst hv
 have jd:∀ e∈[((1:Nat),gM n f,(b,o),gvals .u8 n f)],e.1<16∧conc rho0 e.2.1=some e.2.2.2∧Stands w e.2.2.1.1 e.2.2.1.2 e.2.2.2:=
  aab.2 ⟨⟨(by show 1<16;decide),aD,hs⟩,fun _ h=>by cases h⟩
 have hM:Mem (bV b o) (cj [(1,gM n f)]) w:=dU _ jd
 have cv:∀ c,¬Own (bV b o) c:=iD (w:=w) _ jd
 have hv:ay (bV b o) [⟨false,[.s 1 0 n c]⟩]=some [.slice (some ⟨b,o,none⟩) n c]:=by
  have e:=bu (ρ:=bV b o) (id:=1) (q:=(b,o)) (by simp [bV,aH]) 0 n c
  have e':AV.val (bV b o) ⟨false,[.s 1 0 n c]⟩=some (.slice (some ⟨b,o,none⟩) n c):=by simpa [iG,SV.val] using e
  simp only [ay,e']
 have hL:n+9≤dl n∧dl n≤n+72:=by unfold dl;omega
 have hI:=Bz h
 have eN:=zlm n c f
 rw [hI,aam,show dl n-1+1=dl n by omega] at eN
 have hc:∀ ρ,conc ρ [.w 0 0,.g .u8 (dl n) (XX n f 8)]=some (gvals .u8 (dl n) (lk n f)):=fun ρ=>by
  exact aD.trans (congrArg some (AK fun i hi=>zln f h 8 (aaV 8) i hi))
 have ho:own 25=true:=by kernel_rfl
 have hn:bV b o 25=none:=by simp [bV,aH]
 have key:=ta pk eN (zc1 h) hM cv hv ho hn hc
 exact key
def zvd:CallT:=fun f args m nid=>match f==149 with
 | true=>match args with
  | [⟨false,[.s id off len c]⟩]=>match iJ m id off len,own nid with
   | some (n,g,ob),true=>some { val:=iG (.s nid 0 (dl n) (dl n)),wr:=[],news:=[(nid,gM (dl n) (lk n g))],ob:=(n≤100000)::ob }
   | _,_=>none
  | [⟨false,[.c id 1 _ off len]⟩]=>match app id&&XQ len with
   | true=>match iJ m id off len,own nid with
    | some (n,g,ob),true=>some { val:=iG (.s nid 0 (dl n) (dl n)),wr:=[],news:=[(nid,gM (dl n) (lk n g))],ob:=(n≤100000)::ob }
    | _,_=>none
   | false=>none
  | _=>none
 | false=>none
theorem zlo:ag Tryz.prog zvd:=by
 intro f args m nid out af ax ρ w vs hv hM df
 unfold zvd at af
 have fin:∀ {id off len n:Nat} {g:Nat→Int} {ob:List Prop} {v1:Value} {q:Nat×Nat} {c:Nat},iJ m id off len=some (n,g,ob)→own nid=true→m.blk nid=none→(∀ p∈(n≤100000)::ob,p)→ρ.at id=some q→v1 = .slice (some ⟨q.1,q.2+off,none⟩) len c →
   Invoked Tryz.prog 149 [v1].toArray w fun v w'=>∃ ρ',Ext ρ w ρ' w'∧(iG (.s nid 0 (dl n) (dl n))).val ρ'=some v∧Mem ρ' (aX m (ia ([]++[(nid,gM (dl n) (lk n g))]))) w':=by
  intro id off len n g ob v1 q c hb ho hn ax hq qL
  have hle:n≤100000:=ax _ aac
  obtain ⟨rfl,hs⟩:=eW hM hb (fun p hp=>ax p (aaa _ hp)) hq
  refine .inr ⟨(aB _ zNu (by kernel_rfl)).enter _ _,(XV hle qL hs).mono ?_⟩
  rintro e w' ⟨a,ha,rfl,hH,hB⟩
  obtain ⟨hE,Bh⟩:=Je hM hB hn ho ha (l:=gM (dl n) (lk n g)) (fun ρ=>aD) hH
  refine ⟨_,rfl,_,hE,?_,Bh⟩
  have:=bu (ρ:=ρ.set nid a) (id:=nid) (q:=(a,0)) (by rw [Rho.at_own ho];simp [Rho.set]) 0 (dl n) (dl n)
  simpa using this
 split at af
 ·rename_i hf
  rw [beq_iff_eq] at hf
  subst hf
  split at af
  ·rename_i id off len c
   split at af
   ·rename_i n g ob hb ho
    cases af
    obtain ⟨v1,us,h1,h2,rfl⟩:=aj hv
    cases h2
    obtain ⟨q,hq,qL⟩:=aY h1
    exact fin hb ho (df _ aac) ax hq qL
   ·cases af
  ·rename_i id adr off len
   split at af
   ·rename_i Nl
    rw [aaf] at Nl
    split at af
    ·rename_i n g ob hb ho
     cases af
     obtain ⟨v1,us,h1,h2,rfl⟩:=aj hv
     cases h2
     obtain ⟨q,cap,hq,qL⟩:=j3 h1 Nl.1 (rK Nl.2)
     exact fin hb ho (df _ aac) ax hq qL
    ·cases af
   ·cases af
  ·cases af
 ·cases af
def Wj(f:FuncId)(args:List Value)(v:Value)(w:World):Prop:=Invoked Tryz.prog f args.toArray w fun u w'=>u=v∧Below w.heap.size w w'
def TSu:CallT:=jV zvd (aA [TN])
theorem zzg:ag Tryz.prog TSu:=aT zlo (ap fun r hr=>by rw [aao] at hr;subst hr;exact Qa)
def dSu:Fn1:=match fJ 132 with
 | some d=>d
 | none=>⟨.skip,[],0⟩
theorem zhd:FnOk Tryz.prog 132 dSu:=aB _ _ (by kernel_rfl)
def ESu:Eng:={ tab:=bh,call:=jw bh TSu fJ 1000 6,N:=37 }
theorem Kk:ag Tryz.prog ESu.call:=dd an ab zzg aB 1000 6
def zFz:List Code:=Dz.zbo 2 dSu.body
def zFx:Code:=Dz.Of 2 dSu.body
def zov:Code:=gw (dh (bJ zFx))
def zFy:Code:=aJ zFx
theorem zhe:dSu.body=gG zFz (.seq (.block 0 (.loop zov)) zFy):=by kernel_rfl
theorem zD:dSu.ntmps=37:=by kernel_rfl
theorem Ol:dSu.results=[.cell 2 149]:=by kernel_rfl
def zDu(n c:Nat)(f:Nat→Int):St:=aW 0 [⟨false,[.s 1 0 n c]⟩] (37-1)++[(3,.bl (gM n f))]
def bgF:Nat→Int:=jE [0x6a09e667,0xbb67ae85,0x3c6ef372,0xa54ff53a,0x510e527f,0x9b05688c,0x1f83d9ab,0x5be0cd19]
def Cp(h g:Nat→Int):Nat→Int:=Cr (fun i=>((List.range 8).map h).getD i 0) g
def ptS(id off:Nat):Ct:=.sl (iG (.p id off))
def vw(n N:Nat)(f G:Nat→Int)(off len cap:Nat)(h:Nat→Int):St:=[(4,ptS 16 0),(6,.sl (iG (.s 18 off len cap))),(8,ptS 20 0),(3,.bl (gM n f)),(33,.bl (qX .u8 32 fun _=>0)),(37,.bl (gM N G)),(41,.bl (qX .u32 8 h))]
def zgK(h:Nat→Int)(i:Nat):Int:=IntKind.u8.wrap ((h (i/4)).fdiv (2^(min (24-8*(i%4)) 32)))
def TP(n:Nat)(f h:Nat→Int):St:=[(4,ptS 16 0),(3,.bl (gM n f)),(33,.bl (qX .u8 32 (zgK h)))]
theorem ziI(n c:Nat)(f:Nat→Int):probes ESu 100 zFz (zDu n c f) 16 [] ((vw n (dl n) f (lk n fun i=>f (0+i)) 0 (dl n) (dl n) bgF).map (·.1)) =
 some (0,[n≤100000,0+n*1≤n],(vw n (dl n) f (lk n fun i=>f (0+i)) 0 (dl n) (dl n) bgF).map fun p=>some p.2):=by kernel_rfl
theorem zpI(n N:Nat)(f G:Nat→Int)(off len cap:Nat)(h:Nat→Int):probe ESu 100 zov (vw n N f G off len cap h) 40 [(11,false)] ((vw n N f G off len cap h).map (·.1))=some (2,[(len:Int)>0↔false=true],(vw n N f G off len cap h).map fun p=>some p.2):=by kernel_rfl
def zlE(off cap:Nat):Nat:=if cap=64 then off else off+64*1
def zdk(off cap:Nat):Nat:=if cap=0 then off else off+0*1
theorem zpG(n N:Nat)(f G:Nat→Int)(off len cap:Nat)(h:Nat→Int):probe ESu 100 zov (vw n N f G off len cap h) 40 [(11,true),(16,false),(13,false)] ((vw n N f G (zlE off cap) (len-64) (cap-64) (Cp h fun i=>G (zdk off cap+i))).map (·.1)) =
 some (0,[(len:Int)>0↔true=true,0≤64,64≤cap,(0:Int)≤64,zdk off cap+64≤N,64≤len,len≤cap,(0:Int)≤64],(vw n N f G (zlE off cap) (len-64) (cap-64) (Cp h fun i=>G (zdk off cap+i))).map fun p=>some p.2):=by kernel_rfl
theorem zpF(n N:Nat)(f G:Nat→Int)(off len cap:Nat)(h:Nat→Int):probe ESu 100 zFy (vw n N f G off len cap h) 40 [] ((TP n f h).map (·.1))=some (1,[],(TP n f h).map fun p=>some p.2):=by kernel_rfl
def hS(G:Nat→Int):Nat→(Nat→Int)
 | 0=>bgF
 | j+1=>Cp (hS G j) fun i=>G (64*j+i)
def X6(N:Nat):Nat→Nat
 | 0=>0
 | j+1=>zlE (X6 N j) (N-64*j)
theorem zlD{N M:Nat}(h:N=64*M):∀ j,j<M→X6 N j=64*j:=by
 intro j
 induction j with
 | zero=>intro _;rfl
 | succ j ih=>
  intro hj
  unfold X6 zlE
  rw [ih (by omega),if_neg (by omega)]
  omega
def kSu:List Nat:=[1,16,18,20]
theorem Jp(n N:Nat)(f G:Nat→Int)(off len cap:Nat)(h:Nat→Int):aw (vw n N f G off len cap h) kSu=true:=by kernel_rfl
theorem zeq(n:Nat)(f h:Nat→Int):aw (TP n f h) [1,16]=true:=by kernel_rfl
theorem SO(n N:Nat)(f G:Nat→Int)(off len cap:Nat)(h:Nat→Int):∀ id∈kSu,∃ l,(vw n N f G off len cap h).blk id=some l:=fun id cl=>by
 simp only [kSu,aae,aad,or_false] at cl
 rcases cl with rfl|rfl|rfl|rfl
 ·exact ⟨_,rfl⟩
 ·exact ⟨_,rfl⟩
 ·exact ⟨_,rfl⟩
 ·exact ⟨_,rfl⟩
theorem zoQ(n:Nat)(f h:Nat→Int):∀ id∈[1,16],∃ l,(TP n f h).blk id=some l:=fun id cl=>by
 simp only [aae,aad,or_false] at cl
 rcases cl with rfl|rfl
 ·exact ⟨_,rfl⟩
 ·exact ⟨_,rfl⟩
theorem VG{b o:Nat}{l:List Nat}(h:1∈l):∀ id q,bV b o id=some q→id∈l:=fun id q hq=>by
 have:id=1:=by
  unfold bV aH at hq
  split at hq
  ·rename_i e;exact e.symm
  ·cases hq
 subst this;exact h
theorem zpH{b o:Nat}{w0:World}{n N M:Nat}{f G:Nat→Int}(hN:N=64*M){Q:Exit→Act→World→Prop}(hX:∀ off len cap a w,At 37 (bV b o) w0 (vw n N f G off len cap (hS G M)) a w→Q (.exit 0) a w){a:Act}{w:World}
  (hA:At 37 (bV b o) w0 (vw n N f G 0 N N bgF) a w):(Code.loop zov).wp Tryz.prog Q a w:=by
 refine dG (w0:=w0) (dL:=bV b o) (N:=37) (ι:=Nat) (fun j=>j≤M) (fun j=>vw n N f G (X6 N j) (N-64*j) (N-64*j) (hS G j)) (fun j=>M-j) ?_ 0 (Nat.zero_le _) a w hA
 intro j hj a w hA
 have hj:j≤M:=hj
 rcases Nat.lt_or_ge j M with hlt|hge
 ·have ho:=zlD hN j hlt
  have e0:zdk (X6 N j) (N-64*j)=64*j:=by unfold zdk;rw [ho,if_neg (by omega)];omega
  have jd:=zpG n N f G (X6 N j) (N-64*j) (N-64*j) (hS G j)
  rw [e0] at jd
  refine At.probe (E:=ESu) an ab Kk jd (aa (bD (by omega)) (aa (by omega) (aa (by omega) (aa (by omega) (aa (by omega) (aa (by omega) (aa (by omega) (aa (by omega) ad)))))))) hA kSu (SO _ _ _ _ _ _ _ _) (Jp _ _ _ _ _ _ _ _) (VG aac) fun a' w' bY=>⟨j+1,by omega,by show M-(j+1)<M-j;omega,?_⟩
  have e1:N-64*j-64=N-64*(j+1):=by omega
  rw [e1] at bY
  exact bY
 ·obtain rfl:j=M:=by omega
  exact At.probe (E:=ESu) an ab Kk (zpI n N f G _ _ _ _) (aa (br (by omega)) ad) hA kSu (SO _ _ _ _ _ _ _ _) (Jp _ _ _ _ _ _ _ _) (VG aac) fun a' w' bY=>hX _ _ _ a' w' bY
def lf(n:Nat)(f:Nat→Int):Nat→Int:=zgK (hS (lk n f) (dl n/64))
theorem zku{w:World}{b o c n:Nat}{f:Nat→Int}(h:n≤100000)(hs:Stands w b o (gvals .u8 n f)):Wj 132 [.slice (some ⟨b,o,none⟩) n c] (rf .u8 32 (lf n f)) w:=by
 refine .inr ⟨zhd.enter _ _,?_⟩
 have jd:∀ e∈[((1:Nat),gM n f,(b,o),gvals .u8 n f)],e.1<16∧conc rho0 e.2.1=some e.2.2.2∧Stands w e.2.2.1.1 e.2.2.1.2 e.2.2.2:=
  aab.2 ⟨⟨(by show 1<16;decide),aD,hs⟩,fun _ h=>by cases h⟩
 have hM:Mem (bV b o) (cj [(1,gM n f)]) w:=dU _ jd
 have cv:∀ c,¬Own (bV b o) c:=iD (w:=w) _ jd
 have hv:ay (bV b o) [⟨false,[.s 1 0 n c]⟩]=some [.slice (some ⟨b,o,none⟩) n c]:=by
  have e:=bu (ρ:=bV b o) (id:=1) (q:=(b,o)) (by simp [bV,aH]) 0 n c
  have e':AV.val (bV b o) ⟨false,[.s 1 0 n c]⟩=some (.slice (some ⟨b,o,none⟩) n c):=by simpa [iG,SV.val] using e
  simp only [ay,e']
 have hN:dl n=64*(dl n/64):=by unfold dl;omega
 have e0:(lk n fun i=>f (0+i))=lk n f:=by congr 1;funext i;rw [aay]
 refine (bX (G:=fun xs st=>xs=[uM .u8 32 (lf n f)]) ab zhd hM (by kernel_rfl) hv (by rw [zD];simp) fun a c9=>?_).mono ?_
 ·rw [zD] at c9
  have c9:At 37 (bV b o) w (zDu n c f) a w:=c9
  rw [zD,Ol,zhe]
  refine At.probes (E:=ESu) an ab Kk (ziI n c f) (aa h (aa (by omega) ad)) c9 kSu (SO _ _ _ _ _ _ _ _) (Jp _ _ _ _ _ _ _ _) (VG aac) fun a1 w1 g1=>?_
  rw [e0] at g1
  show Code.wp _ _ _ _ _
  refine wp_seq (wp_block (zpH hN (fun off len cap a2 w2 g2=>?_) g1))
  show Code.wp _ _ _ _ _
  refine At.probe (E:=ESu) an ab Kk (zpF n _ f _ _ _ _ _) (fun p hp=>by cases hp) g2 [1,16] (zoQ _ _ _) (zeq _ _ _) (VG aac) fun a3 w3 g3=>?_
  exact ⟨.inr rfl,_,[uM .u8 32 (lf n f)],g3,by kernel_rfl,rfl⟩
 ·rintro e w' ⟨v,rfl,xs,st,ρ',hE,hval,Bg,rfl⟩
  refine ⟨v,rfl,?_,hE.below cv⟩
  simp only [pT,SV.val,nJ,Option.some.injEq] at hval
  exact hval.symm
theorem P8{n:Nat}{f g:Nat→Int}(h:∀ i,i<n→f i=g i):lf n f=lf n g:=by
 unfold lf
 have e:lk n f=lk n g:=by
  funext i
  unfold lk
  by_cases hi:i<n
  ·rw [if_pos hi,if_pos hi,h i hi]
  ·rw [if_neg hi,if_neg hi]
 rw [e]
def zcE{R:Type}(r:Rs R)(f:FuncId)(g:Nat→(Nat→Int)→R)(k:Nat→Prop):CallT:=fun f' args m _=>match f'==f with
 | true=>match args with
  | [x]=>match qp m x with
   | some (n,b,ob)=>some { val:=r.sv (g n b),wr:=[],news:=[],ob:=k n::ob }
   | none=>none
  | _=>none
 | false=>none
theorem zcD{R:Type}{r:Rs R}{f:FuncId}{g:Nat→(Nat→Int)→R}{k:Nat→Prop}(h:∀ w v n b,k n→B6 w v n b→Wj f [v] (r.vl (g n b)) w):ag Tryz.prog (zcE r f g k):=by
 intro f' args m nid out af ax ρ w vs hv hM df
 unfold zcE at af
 split at af
 ·rename_i hf
  rw [beq_iff_eq] at hf
  subst hf
  split at af
  ·rename_i x
   split at af
   ·rename_i n b ob hb
    cases af
    obtain ⟨v1,us,h1,h2,rfl⟩:=aj hv
    cases h2
    refine (h w v1 n b (ax _ aac) (ny hM hb (fun p hp=>ax p (aaa _ hp)) h1)).mono fun u w' hu=>?_
    obtain ⟨rfl,hB⟩:=hu
    exact ⟨ρ,Ext.of_below hB,r.val ρ _,hM.of_below hB⟩
   ·cases af
  ·cases af
 ·cases af
def zkv:CallT:=zcE (kdF .u8 32).rs 132 lf (fun n=>1≤n∧n≤100000)
theorem Ia:ag Tryz.prog zkv:=zcD fun w v n b hk hb=>by
 rcases hb with ⟨_,rfl⟩|⟨bb,o,c,rfl,hs⟩
 ·omega
 ·exact zku hk.2 hs
abbrev fE:=Option (Nat×(Nat→Int))
def rN:fE→Nat
 | none=>0
 | some (n,_)=>n
def szF(s:Int):List fE→Int
 | []=>s
 | p::l=>szF (IntKind.i64.wrap (s+(rN p:Int))) l
def zj8(s:Int):List fE→List Prop
 | []=>[]
 | p::l=>(IntKind.i64.wrap (s+(rN p:Int))<0↔false=true)::zj8 (IntKind.i64.wrap (s+(rN p:Int))) l
def apF(len:Nat)(F:Nat→Int):List fE→Nat×(Nat→Int)
 | []=>(len,F)
 | none::l=>apF len F l
 | some (n,g)::l=>apF (len+n) (fun i=>if i<len*1 then F (0+i) else g (0+(i-len*1))) l
def apK(K len:Nat):List fE→Nat
 | []=>K
 | none::l=>apK K len l
 | some (n,_)::l=>apK (len*1+n*1-1+1) (len+n) l
def zio(K len:Nat):List fE→List Prop
 | []=>[]
 | none::l=>zio K len l
 | some (n,_)::l=>[len+n≤100000,0+len*1≤K,0+n*1≤n,1≤len*1+n*1]++zio (len*1+n*1-1+1) (len+n) l
def z0:Int:=((0:Nat):Int)
def grI(l:List fE):Int:=IntKind.i64.wrap (szF 0 l-IntKind.i64.wrap (z0-z0))
def zsB(l:List fE):List Prop:=zj8 0 l++([szF 0 l<0↔false=true,grI l>0↔true=true,1≤grI l,grI l≤100000,0≤z0.toNat,z0.toNat≤(grI l).toNat,0≤z0]++zio ((grI l).toNat-1+1) (z0.toNat-0) l)
def xB(l:List fE):Nat×(Nat→Int):=apF (z0.toNat-0) (fun _=>0) l
def La(l:List fE):List Prop:=zsB l++[1≤(xB l).1∧(xB l).1≤100000,0+(xB l).1*1≤apK ((grI l).toNat-1+1) (z0.toNat-0) l]
def zfK:FuncId→List (Nat×Bool):=fun f=>match Nat.beq f 133 with
 | true=>[(20,false),(20,false),(20,false),(20,false),(33,false),(33,false),(33,false),(33,false)]
 | false=>match Nat.beq f 152 with
  | true=>[(6,false),(16,true),(22,false),(25,false)]
  | false=>[]
theorem zby(a b c d c1 c2 c3 c4 c5:Nat)(f1 f2 f3 f4:Nat→Int):
  cV zkv 108 [⟨false,[.s 5 0 4 c5]⟩] (cj [(1,gM a f1),(2,gM b f2),(3,gM c f3),(4,gM (d+1) f4),(5,[.s 1 0 a c1,.s 2 0 b c2,.s 3 0 c c3,.s 4 0 (d+1) c4])]) [] zfK =
   some (.one (uM .u8 32 (lf (xB [some (a,f1),some (b,f2),some (c,f3),some (d+1,f4)]).1 fun i=>(xB [some (a,f1),some (b,f2),some (c,f3),some (d+1,f4)]).2 (0+i))),La [some (a,f1),some (b,f2),some (c,f3),some (d+1,f4)]):=by kernel_rfl
theorem WX(a c d c1 c3 c4 c5:Nat)(f1 f3 f4:Nat→Int):
  cV zkv 108 [⟨false,[.s 5 0 4 c5]⟩] (cj [(1,gM a f1),(3,gM c f3),(4,gM (d+1) f4),(5,[.s 1 0 a c1,.v (.slice none 0 0),.s 3 0 c c3,.s 4 0 (d+1) c4])]) [] zfK =
   some (.one (uM .u8 32 (lf (xB [some (a,f1),none,some (c,f3),some (d+1,f4)]).1 fun i=>(xB [some (a,f1),none,some (c,f3),some (d+1,f4)]).2 (0+i))),La [some (a,f1),none,some (c,f3),some (d+1,f4)]):=by kernel_rfl
theorem zbz(a c d c1 c3 c4 c5:Nat)(f1 f3 f4:Nat→Int):
  cV zkv 108 [⟨false,[.s 5 0 3 c5]⟩] (cj [(1,gM a f1),(3,gM c f3),(4,gM (d+1) f4),(5,[.s 1 0 a c1,.s 3 0 c c3,.s 4 0 (d+1) c4])]) [] zfK =
   some (.one (uM .u8 32 (lf (xB [some (a,f1),some (c,f3),some (d+1,f4)]).1 fun i=>(xB [some (a,f1),some (c,f3),some (d+1,f4)]).2 (0+i))),La [some (a,f1),some (c,f3),some (d+1,f4)]):=by kernel_rfl
def fO:List fE→Nat
 | []=>0
 | p::l=>rN p+fO l
def qj:List fE→(Nat→Int)
 | []=>fun _=>0
 | none::l=>qj l
 | some (n,f)::l=>fun i=>if i<n then f i else qj l (i-n)
theorem ztI:∀ (l:List fE) (s:Nat),s+fO l≤100000→szF (s:Int) l=((s+fO l:Nat):Int):=by
 intro l
 induction l with
 | nil=>intro s _;simp [szF,fO]
 | cons p l ih=>
  intro s h
  simp only [fO] at h
  unfold szF
  rw [bq (by omega) (by omega),show (s:Int)+(rN p:Int)=((s+rN p:Nat):Int) by omega,ih _ (by omega)]
  simp only [fO];omega
theorem zj7:∀ (l:List fE) (s:Nat),s+fO l≤100000→∀ p∈zj8 (s:Int) l,p:=by
 intro l
 induction l with
 | nil=>intro s _ p hp;cases hp
 | cons q l ih=>
  intro s h
  simp only [fO] at h
  unfold zj8
  rw [bq (by omega) (by omega),show (s:Int)+(rN q:Int)=((s+rN q:Nat):Int) by omega]
  exact aa (br (by omega)) (ih _ (by omega))
def Led(len:Nat)(l:List fE):Prop:=1≤len∨∃ n f l',l=some (n,f)::l'∧1≤n
theorem zpo:∀ (l:List fE) (K len:Nat),len≤K→1≤K→len+fO l≤100000→Led len l→∀ p∈zio K len l,p:=by
 intro l
 induction l with
 | nil=>intro K len _ _ _ _ p hp;cases hp
 | cons q l ih=>
  intro K len h1 h2 h3 h4
  simp only [fO] at h3
  cases q with
  | none=>
   refine ih K len h1 h2 (by simpa [rN] using h3) ?_
   rcases h4 with h4|⟨n,f,l',e,_⟩
   ·exact .inl h4
   ·cases e
  | some q=>
   obtain ⟨n,f⟩:=q
   simp only [rN] at h3
   have hn:1≤len+n:=by
    rcases h4 with h4|⟨n',f',l',e,hn⟩
    ·omega
    ·cases e;omega
   intro p hp
   unfold zio at hp
   rw [aaw] at hp
   rcases hp with hp|hp
   ·exact aa (by omega) (aa (by omega) (aa (by omega) (aa (by omega) ad))) p hp
   ·exact ih _ _ (by omega) (by omega) (by omega) (.inl hn) p hp
theorem zir:∀ (l:List fE) (len:Nat) (F:Nat→Int),(apF len F l).1=len+fO l∧∀ i,i<len+fO l→(apF len F l).2 i=if i<len then F i else qj l (i-len):=by
 intro l
 induction l with
 | nil=>intro len F;exact ⟨rfl,fun i hi=>by rw [if_pos (by simpa [fO] using hi)];rfl⟩
 | cons q l ih=>
  intro len F
  cases q with
  | none=>simpa [apF,fO,rN,qj] using ih len F
  | some q=>
   obtain ⟨n,g⟩:=q
   obtain ⟨h1,h2⟩:=ih (len+n) (fun i=>if i<len*1 then F (0+i) else g (0+(i-len*1)))
   refine ⟨by show (apF (len+n) _ l).1=_;rw [h1];simp only [fO,rN];omega,fun i hi=>?_⟩
   simp only [fO,rN] at hi
   show (apF (len+n) _ l).2 i=_
   rw [h2 i (by omega)]
   simp only [qj]
   by_cases e1:i<len
   ·rw [if_pos (by omega),if_pos (by omega),if_pos e1,aay]
   ·rw [if_neg e1]
    by_cases e2:i<len+n
    ·rw [if_pos e2,if_neg (by omega),if_pos (by omega),aay,Nat.mul_one]
    ·rw [if_neg e2,if_neg (by omega),Nat.sub_add_eq]
theorem zyW:∀ (l:List fE) (K len:Nat),len≤K→len+fO l≤apK K len l:=by
 intro l
 induction l with
 | nil=>intro K len h;simpa [apK,fO] using h
 | cons q l ih=>
  intro K len h
  cases q with
  | none=>simpa [apK,fO,rN] using ih K len h
  | some q=>
   obtain ⟨n,g⟩:=q
   have:=ih (len*1+n*1-1+1) (len+n) (by omega)
   simp only [apK,fO,rN]
   omega
theorem K_{l:List fE}(h1:1≤fO l)(h2:fO l≤100000)(h3:Led 0 l):∀ p∈La l,p:=by
 have e0:szF 0 l=(fO l:Int):=by have:=ztI l 0 (by omega);simpa using this
 have e1:grI l=(fO l:Int):=by
  unfold grI z0
  rw [e0,bq (a:=((0:Nat):Int)-((0:Nat):Int)) (by decide) (by decide),bq (by omega) (by omega)]
  omega
 have ez:z0.toNat=0:=rfl
 have e2:=(zir l (z0.toNat-0) (fun _=>0)).1
 rw [ez,Nat.zero_sub,aay] at e2
 have e3:(xB l).1=fO l:=by unfold xB;rw [ez];exact e2
 have e4:=zyW l ((grI l).toNat-1+1) (z0.toNat-0) (by rw [ez];omega)
 rw [ez,Nat.zero_sub,aay] at e4
 intro p hp
 unfold La zsB at hp
 rw [aaw,aaw,aaw] at hp
 rcases hp with (hp|hp|hp)|hp
 ·exact zj7 l 0 (by omega) p hp
 ·revert p hp
  rw [e0,e1,ez]
  exact aa (br (by omega)) (aa (bD (by omega)) (aa (by omega) (aa (by omega) (aa (by omega) (aa (by omega) (aa (by unfold z0;omega) ad))))))
 ·have ez0:z0.toNat-0=0:=rfl
  rw [ez0] at hp
  exact zpo l _ 0 (by omega) (by omega) (by omega) h3 p hp
 ·revert p hp
  rw [e3,ez,Nat.sub_zero]
  exact aa ⟨h1,h2⟩ (aa (by omega) ad)
theorem Co(l:List fE):(lf (xB l).1 fun i=>(xB l).2 (0+i))=lf (fO l) (qj l):=by
 have h:=zir l (z0.toNat-0) (fun _=>0)
 have ez:z0.toNat-0=0:=rfl
 unfold xB
 rw [h.1,ez,aay]
 refine P8 fun i hi=>?_
 have:=h.2 i (by rw [ez,aay];exact hi)
 rw [ez] at this
 rw [aay,this,if_neg (by omega),Nat.sub_zero]
def mO(w:World)(u:Value):fE→Prop
 | none=>u = .slice none 0 0
 | some (n,f)=>∃ b o c,u = .slice (some ⟨b,o,none⟩) n c∧Stands w b o (gvals .u8 n f)
theorem p7{L:List (Nat×(Nat×Nat))}{l:List (Nat×List It)}{P:Nat→List It→Nat×Nat→Prop}(h:∀ x∈l,∀ q,Eng.look L x.1=some q→P x.1 x.2 q):∀ id its q,Eng.look l id=some its→Eng.look L id=some q→P id its q:=
 fun id its q h1 h2=>h _ (lq _ _ _ h1) q h2
theorem zaq{w:World}{b5 o5 c5 a c d:Nat}{f1 f3 f4:Nat→Int}{p2:fE}{u1 u2 u3 u4:Value}(hs:Stands w b5 o5 [u1,u2,u3,u4])(h1:mO w u1 (some (a,f1)))(h2:mO w u2 p2)(h3:mO w u3 (some (c,f3)))(h4:mO w u4 (some (d+1,f4)))
  (ha:1≤a) (hn:fO [some (a,f1),p2,some (c,f3),some (d+1,f4)]≤100000) :
  cX Tryz.prog 108 #[.slice (some ⟨b5,o5,none⟩) 4 c5] (rf .u8 32 (lf (fO [some (a,f1),p2,some (c,f3),some (d+1,f4)]) (qj [some (a,f1),p2,some (c,f3),some (d+1,f4)]))) w:=by
 obtain ⟨b1,o1,c1,rfl,s1⟩:=h1
 obtain ⟨b3,o3,c3,rfl,s3⟩:=h3
 obtain ⟨b4,o4,c4,rfl,s4⟩:=h4
 have ax:=K_ (l:=[some (a,f1),p2,some (c,f3),some (d+1,f4)]) (by simp only [fO,rN];omega) hn (.inr ⟨a,f1,_,rfl,ha⟩)
 cases p2 with
 | none=>
  have h2:u2 = .slice none 0 0:=h2
  subst h2
  have eN:=WX a c d c1 c3 c4 c5 f1 f3 f4
  rw [Co] at eN
  let L:List (Nat×(Nat×Nat)):=[(1,(b1,o1)),(3,(b3,o3)),(4,(b4,o4)),(5,(b5,o5))]
  have hM:Mem (aH L) (cj [(1,gM a f1),(3,gM c f3),(4,gM (d+1) f4),(5,[.s 1 0 a c1,.v (.slice none 0 0),.s 3 0 c c3,.s 4 0 (d+1) c4])]) w:=by
   refine oU rfl rfl (p7 ?_)
   simp only [aab,aad,false_imp_iff,implies_true,and_true]
   refine ⟨?_,?_,?_,?_⟩
   ·rintro q hq;cases hq;exact ⟨_,aD,s1⟩
   ·rintro q hq;cases hq;exact ⟨_,aD,s3⟩
   ·rintro q hq;cases hq;exact ⟨_,aD,s4⟩
   ·rintro q hq;cases hq;exact ⟨_,rfl,hs⟩
  have hv:ay (aH L) [⟨false,[.s 5 0 4 c5]⟩]=some [.slice (some ⟨b5,o5,none⟩) 4 c5]:=rfl
  exact ae Ia eN ax hM (I7 rfl) hv fun ρ u hu=>by rw [lR] at hu;cases hu;rfl
 | some p2=>
  obtain ⟨b,f2⟩:=p2
  obtain ⟨b2,o2,c2,rfl,s2⟩:=h2
  have eN:=zby a b c d c1 c2 c3 c4 c5 f1 f2 f3 f4
  rw [Co] at eN
  let L:List (Nat×(Nat×Nat)):=[(1,(b1,o1)),(2,(b2,o2)),(3,(b3,o3)),(4,(b4,o4)),(5,(b5,o5))]
  have hM:Mem (aH L) (cj [(1,gM a f1),(2,gM b f2),(3,gM c f3),(4,gM (d+1) f4),(5,[.s 1 0 a c1,.s 2 0 b c2,.s 3 0 c c3,.s 4 0 (d+1) c4])]) w:=by
   refine oU rfl rfl (p7 ?_)
   simp only [aab,aad,false_imp_iff,implies_true,and_true]
   refine ⟨?_,?_,?_,?_,?_⟩
   ·rintro q hq;cases hq;exact ⟨_,aD,s1⟩
   ·rintro q hq;cases hq;exact ⟨_,aD,s2⟩
   ·rintro q hq;cases hq;exact ⟨_,aD,s3⟩
   ·rintro q hq;cases hq;exact ⟨_,aD,s4⟩
   ·rintro q hq;cases hq;exact ⟨_,rfl,hs⟩
  have hv:ay (aH L) [⟨false,[.s 5 0 4 c5]⟩]=some [.slice (some ⟨b5,o5,none⟩) 4 c5]:=rfl
  exact ae Ia eN ax hM (I7 rfl) hv fun ρ u hu=>by rw [lR] at hu;cases hu;rfl
theorem zar{w:World}{b5 o5 c5 a c d:Nat}{f1 f3 f4:Nat→Int}{u1 u3 u4:Value}(hs:Stands w b5 o5 [u1,u3,u4])(h1:mO w u1 (some (a,f1)))(h3:mO w u3 (some (c,f3)))(h4:mO w u4 (some (d+1,f4)))
  (ha:1≤a) (hn:fO [some (a,f1),some (c,f3),some (d+1,f4)]≤100000) :
  cX Tryz.prog 108 #[.slice (some ⟨b5,o5,none⟩) 3 c5] (rf .u8 32 (lf (fO [some (a,f1),some (c,f3),some (d+1,f4)]) (qj [some (a,f1),some (c,f3),some (d+1,f4)]))) w:=by
 obtain ⟨b1,o1,c1,rfl,s1⟩:=h1
 obtain ⟨b3,o3,c3,rfl,s3⟩:=h3
 obtain ⟨b4,o4,c4,rfl,s4⟩:=h4
 have ax:=K_ (l:=[some (a,f1),some (c,f3),some (d+1,f4)]) (by simp only [fO,rN];omega) hn (.inr ⟨a,f1,_,rfl,ha⟩)
 have eN:=zbz a c d c1 c3 c4 c5 f1 f3 f4
 rw [Co] at eN
 let L:List (Nat×(Nat×Nat)):=[(1,(b1,o1)),(3,(b3,o3)),(4,(b4,o4)),(5,(b5,o5))]
 have hM:Mem (aH L) (cj [(1,gM a f1),(3,gM c f3),(4,gM (d+1) f4),(5,[.s 1 0 a c1,.s 3 0 c c3,.s 4 0 (d+1) c4])]) w:=by
  refine oU rfl rfl (p7 ?_)
  simp only [aab,aad,false_imp_iff,implies_true,and_true]
  refine ⟨?_,?_,?_,?_⟩
  ·rintro q hq;cases hq;exact ⟨_,aD,s1⟩
  ·rintro q hq;cases hq;exact ⟨_,aD,s3⟩
  ·rintro q hq;cases hq;exact ⟨_,aD,s4⟩
  ·rintro q hq;cases hq;exact ⟨_,rfl,hs⟩
 have hv:ay (aH L) [⟨false,[.s 5 0 3 c5]⟩]=some [.slice (some ⟨b5,o5,none⟩) 3 c5]:=rfl
 exact ae Ia eN ax hM (I7 rfl) hv fun ρ u hu=>by rw [lR] at hu;cases hu;rfl
def eo(f:Nat→Int):Nat→Nat
 | 0=>0
 | n+1=>eo f n*256+(f n).toNat
def bOk(n:Nat)(f:Nat→Int):Prop:=∀ i,i<n→0≤f i∧f i<256
theorem zV{f:Nat→Int}:∀ n,bOk n f→eo f n<256^n:=by
 intro n
 induction n with
 | zero=>intro _;simp [eo]
 | succ n ih=>
  intro h
  have h1:=ih fun i hi=>h i (by omega)
  have h2:=h n (by omega)
  unfold eo
  rw [aa9]
  omega
theorem zpd(f:Nat→Int)(a:Nat):∀ b,eo f (a+b)=eo f a*256^b+eo (fun i=>f (a+i)) b:=by
 intro b
 induction b with
 | zero=>simp [eo]
 | succ b ih=>
  show eo f (a+b)*256+(f (a+b)).toNat=_
  rw [ih]
  simp only [eo]
  rw [aa9,Nat.add_mul,Nat.mul_assoc,Nat.add_assoc]
theorem lG{f g:Nat→Int}:∀ n,(∀ i,i<n→f i=g i)→eo f n=eo g n:=by
 intro n
 induction n with
 | zero=>intro _;rfl
 | succ n ih=>intro h;simp only [eo];rw [ih fun i hi=>h i (by omega),h n (by omega)]
def shB(x:Int)(t:Nat):Int:=IntKind.u64.wrap (IntKind.u64.wrap x*2^(min (8*t) 64))
def orC(f:Nat→Int)(b:Nat):Nat→Int
 | 0=>0
 | m+1=>Eng.bits .or .u64 (orC f b m) (shB (f (b+m)) (7-m))
theorem zo7(a b:Nat)(ha:a<18446744073709551616)(hb:b<18446744073709551616):Eng.bits .or .u64 (a:Int) (b:Int)=((a ||| b:Nat):Int):=by
 have e:(aa0 IntKind.u64.bits (a:Int) ||| aa0 IntKind.u64.bits (b:Int)).toNat=a ||| b:=by
  show (aa0 64 (a:Int) ||| aa0 64 (b:Int)).toNat=a ||| b
  rw [BitVec.toNat_or,abu,abu]
  have h1:((a:Int)%((2^64:Nat):Int)).toNat=a:=by omega
  have h2:((b:Int)%((2^64:Nat):Int)).toNat=b:=by omega
  rw [h1,h2]
 have hlt:a ||| b<2^64:=Nat.or_lt_two_pow (by omega) (by omega)
 have:Eng.bits .or .u64 (a:Int) (b:Int)=IntKind.u64.wrap ((aa0 IntKind.u64.bits (a:Int) ||| aa0 IntKind.u64.bits (b:Int)).toNat:Int):=rfl
 rw [this,e,bH (by omega)]
theorem zvj(f:Nat→Int)(b:Nat)(h:bOk 8 fun i=>f (b+i)):∀ m≤8,orC f b m=((eo (fun i=>f (b+i)) m*256^(8-m):Nat):Int):=by
 intro m
 induction m with
 | zero=>intro _;simp [orC,eo]
 | succ m ih=>
  intro hm
  have hx:0≤f (b+m)∧f (b+m)<256:=h m (by omega)
  obtain ⟨x,RC⟩:∃ x:Nat,f (b+m)=(x:Int):=⟨(f (b+m)).toNat,by omega⟩
  have bC:x<256:=by omega
  have hA:=zV m fun i hi=>h i (by omega)
  unfold orC shB
  rw [ih (by omega),RC,bH (by omega)]
  have e1:min (8*(7-m)) 64=8*(7-m):=by omega
  have e2:((x:Int)*2^(8*(7-m)))=((x*256^(7-m):Nat):Int):=by
   rw [Int.natCast_mul]
   congr 1
   have:(256:Nat)^(7-m)=2^(8*(7-m)):=by rw [aej]
   rw [this];rfl
  have hP:256^m*256^(8-m)=18446744073709551616:=by
   rw [←acb,show m+(8-m)=8 by omega]
  have e3:256^(8-m)=256*256^(7-m):=by rw [show 8-m=(7-m)+1 by omega,aa9,aar]
  have hp1:1≤256^(7-m):=Nat.one_le_pow _ _ (by omega)
  have hb1:x*256^(7-m)<256^(8-m):=by rw [e3];exact ab9 bC hp1
  have hle:256^(8-m)≤18446744073709551616:=by
   have:256^(8-m)≤256^8:=Nat.pow_le_pow_right (by omega) (by omega)
   omega
  have ha1:eo (fun i=>f (b+i)) m*256^(8-m)<18446744073709551616:=by
   rw [←hP];exact ab9 hA (Nat.pow_pos (by omega))
  rw [e1,e2,bH (by omega),zo7 _ _ ha1 (by omega)]
  have e4:256^(8-m)=2^(8*(8-m)):=by rw [aej]
  have e5:eo (fun i=>f (b+i)) m*256^(8-m) ||| x*256^(7-m)=eo (fun i=>f (b+i)) m*256^(8-m)+x*256^(7-m):=by
   rw [aar (eo _ m),e4]
   refine (Nat.two_pow_add_eq_or_of_lt ?_ _).symm
   rw [←e4];exact hb1
  rw [e5]
  simp only [eo]
  rw [RC,aam,show 8-(m+1)=7-m by omega,e3,Nat.add_mul,Nat.mul_assoc]
def wdL(f:Nat→Int)(n:Nat):Nat→List Int
 | 0=>[]
 | k+1=>orC f (n-8) 8::wdL f (n-8) k
theorem zdB(f:Nat→Int):∀ k,bOk (8*k) f→Rd (wdL f (8*k) k)=eo f (8*k)∧∀ z∈wdL f (8*k) k,0≤z∧z<18446744073709551616:=by
 intro k
 induction k with
 | zero=>intro _;exact ⟨rfl,fun z hz=>by cases hz⟩
 | succ k ih=>
  intro h
  obtain ⟨h1,h2⟩:=ih fun i hi=>h i (by omega)
  have e:8*(k+1)-8=8*k:=by omega
  have ho:=zvj f (8*k) (fun i hi=>h (8*k+i) (by omega)) 8 (aaV 8)
  have hlt:=zV 8 (fun i hi=>h (8*k+i) (by omega):bOk 8 fun i=>f (8*k+i))
  rw [Nat.sub_self,abR,Nat.mul_one] at ho
  unfold wdL
  rw [e,ho]
  refine ⟨?_,fun z hz=>?_⟩
  ·simp only [Rd]
   rw [h1,aam,show 8*(k+1)=8*k+8 by omega,zpd]
   have:(256:Nat)^8=18446744073709551616:=by decide
   rw [this];omega
  ·rcases aae.1 hz with rfl|hz
   ·have:(256:Nat)^8=18446744073709551616:=by decide
    omega
   ·exact h2 z hz
theorem Ro(f:Nat→Int):∀ k n,(wdL f n k).length=k:=by
 intro k
 induction k with
 | zero=>intro n;rfl
 | succ k ih=>intro n;simp [wdL,ih]
theorem KS(c:Nat)(f:Nat→Int):tG T0 74 [⟨false,[.s 1 0 32 c]⟩] (cj [(1,YP .u8 32 f)]) [] (fun _=>[]) 21=some (iG (.s 21 0 4 4),[],some ((wdL f 32 4).map fun z=>It.v (.int .u64 z))):=by kernel_rfl
theorem KR(c:Nat)(f:Nat→Int):tG T0 74 [⟨false,[.s 1 0 48 c]⟩] (cj [(1,YP .u8 48 f)]) [] (fun _=>[]) 21=some (iG (.s 21 0 6 6),[],some ((wdL f 48 6).map fun z=>It.v (.int .u64 z))):=by kernel_rfl
theorem KQ(c:Nat)(f:Nat→Int):tG T0 74 [⟨false,[.s 1 0 64 c]⟩] (cj [(1,YP .u8 64 f)]) [] (fun _=>[]) 21=some (iG (.s 21 0 8 8),[],some ((wdL f 64 8).map fun z=>It.v (.int .u64 z))):=by kernel_rfl
def dWo:Fn1:=match fJ 74 with
 | some d=>d
 | none=>⟨.skip,[],0⟩
theorem g_(ρ:Rho)(ik:IntKind)(l:List Int):conc ρ (l.map fun z=>It.v (.int ik z))=some (l.map (Value.int ik)):=by
 have:(l.map fun z=>It.v (.int ik z))=(l.map (Value.int ik)).map It.v:=by rw [List.map_map];rfl
 rw [this]
 exact iU ρ _ fun v hv=>by obtain ⟨i,_,rfl⟩:=List.mem_map.1 hv;rfl
theorem sN{w:World}{b o n:Nat}{f:Nat→Int}{its:List It}(hc:conc rho0 its=some (gvals .u8 n f))(hs:Stands w b o (gvals .u8 n f))(c:Nat):
  Mem (bV b o) (cj [(1,its)]) w∧(∀ c,¬Own (bV b o) c)∧ay (bV b o) [⟨false,[.s 1 0 n c]⟩]=some [.slice (some ⟨b,o,none⟩) n c]:=by
 have jd:∀ e∈[((1:Nat),its,(b,o),gvals .u8 n f)],e.1<16∧conc rho0 e.2.1=some e.2.2.2∧Stands w e.2.2.1.1 e.2.2.1.2 e.2.2.2:=
  aab.2 ⟨⟨(by show 1<16;decide),hc,hs⟩,fun _ h=>by cases h⟩
 refine ⟨dU _ jd,iD (w:=w) _ jd,?_⟩
 have e:=bu (ρ:=bV b o) (id:=1) (q:=(b,o)) (by simp [bV,aH]) 0 n c
 have e':AV.val (bV b o) ⟨false,[.s 1 0 n c]⟩=some (.slice (some ⟨b,o,none⟩) n c):=by simpa [iG,SV.val] using e
 simp only [ay,e']
theorem KU{w:World}{b o c k:Nat}{f:Nat→Int}(hk:k=4∨k=6∨k=8)(hf:bOk (8*k) f)(hs:Stands w b o (gvals .u8 (8*k) f)):
  Calls Tryz.prog 74 #[.slice (some ⟨b,o,none⟩) (8*k) c] w fun e w'=>∃ g,w.heap.size≤g∧e = .returned (.slice (some ⟨g,0,none⟩) k k)∧mb w' g (au k (eo f (8*k)))∧Below w.heap.size w w':=by
 obtain ⟨hM,cv,hv⟩:=sN (Hq rho0 .u8 (8*k) f) hs c
 have hc:∀ ρ,conc ρ ((wdL f (8*k) k).map fun z=>It.v (.int .u64 z))=some (au k (eo f (8*k))):=fun ρ=>by
  obtain ⟨h1,h2⟩:=zdB f k hf
  have h3:=Cb _ h2
  rw [Ro,h1] at h3
  rw [g_,h3]
 have ho:own 21=true:=by kernel_rfl
 have hn:bV b o 21=none:=by simp [bV,aH]
 rcases hk with rfl|rfl|rfl
 ·exact ta pk (KS c f) (fun p hp=>by cases hp) hM cv hv ho hn hc
 ·exact ta pk (KR c f) (fun p hp=>by cases hp) hM cv hv ho hn hc
 ·exact ta pk (KQ c f) (fun p hp=>by cases hp) hM cv hv ho hn hc
def HJ:CallT:=fun f args m nid=>match f==74 with
 | true=>match args with
  | [x]=>match qp m x,own nid with
   | some (n,g,ob),true=>some { val:=iG (.s nid 0 (n/8) (n/8)),wr:=[],news:=[(nid,[.w (n/8) (eo g n)])],ob:=((n=32∨n=48∨n=64)∧bOk n g)::ob }
   | _,_=>none
  | _=>none
 | false=>none
theorem FP:ag Tryz.prog HJ:=by
 intro f args m nid out af ax ρ w vs hv hM df
 unfold HJ at af
 split at af
 ·rename_i hf
  rw [beq_iff_eq] at hf
  subst hf
  split at af
  ·rename_i x
   split at af
   ·rename_i n g ob hb ho
    cases af
    obtain ⟨v1,us,h1,h2,rfl⟩:=aj hv
    cases h2
    obtain ⟨hk0,hg⟩:=ax _ aac
    have hb:=ny hM hb (fun p hp=>ax p (aaa _ hp)) h1
    obtain ⟨k,rfl,hk⟩:∃ k,n=8*k∧(k=4∨k=6∨k=8):=by
     rcases hk0 with rfl|rfl|rfl
     ·exact ⟨4,rfl,.inl rfl⟩
     ·exact ⟨6,rfl,.inr (.inl rfl)⟩
     ·exact ⟨8,rfl,.inr (.inr rfl)⟩
    rcases hb with ⟨_,h0⟩|⟨b,o,c,rfl,hs⟩
    ·omega
    ·have e8:8*k/8=k:=by omega
     rw [e8]
     refine .inr ⟨(aB _ dWo (by kernel_rfl)).enter _ _,(KU hk hg hs).mono ?_⟩
     rintro e w' ⟨a,ha,rfl,hH,hB⟩
     obtain ⟨hE,Bh⟩:=Je hM hB (df _ aac) ho ha (l:=[.w k (eo g (8*k))]) (fun ρ=>by simp [conc,It.cs]) hH
     refine ⟨_,rfl,_,hE,?_,Bh⟩
     have:=bu (ρ:=ρ.set nid a) (id:=nid) (q:=(a,0)) (by rw [Rho.at_own ho];simp [Rho.set]) 0 k k
     simpa using this
   ·cases af
  ·cases af
 ·cases af
def dk(N n:Nat)(i:Nat):Int:=((N/256^(n-1-i)%256:Nat):Int)
def zdn(N n:Nat)(i:Nat):Int:=IntKind.u8.wrap (((N/2^(64*((n-1-i)/8))%2^64:Nat):Int).fdiv (2^(min (8*((n-1-i)%8)) 64)))
theorem zlF(N n i:Nat):zdn N n i=dk N n i:=by
 unfold zdn dk
 generalize n-1-i=k
 have e1:min (8*(k%8)) 64=8*(k%8):=by omega
 have e2:(2:Int)^(8*(k%8))=((2^(8*(k%8)):Nat):Int):=by rw [Int.natCast_pow];rfl
 rw [e1,e2,adI _ (Int.natCast_nonneg _),←Int.natCast_ediv,zqH]
 have h1:(2:Nat)^64=2^(8*(k%8))*2^(64-8*(k%8)):=by rw [←acb];congr 1;omega
 rw [h1,Nat.mod_mul_right_div_self,abj,←acb,show 64*(k/8)+8*(k%8)=8*k by omega]
 have h2:(2:Nat)^(64-8*(k%8))=256*2^(56-8*(k%8)):=by
  have:(256:Nat)=2^8:=rfl
  rw [this,←acb];congr 1;omega
 rw [h2,Nat.mod_mul_right_mod]
 congr 3
 rw [aej]
theorem wD(N n:Nat):bOk n (dk N n):=fun i _=>by unfold dk;omega
theorem Ez(N:Nat)(n:Nat):eo (dk N n) n=N%256^n:=by
 have key:∀ m≤n,eo (dk N n) m=N/256^(n-m)%256^m:=by
  intro m
  induction m with
  | zero=>intro _;simp [eo,Nat.mod_one]
  | succ m ih=>
   intro hm
   have e:N/256^(n-m)=N/256^(n-1-m)/256:=by
    have h:256^(n-m)=256^(n-1-m)*256:=by rw [←aa9];congr 1;omega
    rw [abj,h]
   simp only [eo]
   rw [ih (by omega),e]
   unfold dk
   rw [aam,show n-(m+1)=n-1-m by omega,aa9,aar (256^m) 256,Nat.mod_mul,aar,Nat.add_comm]
 have:=key n (aaV n)
 rwa [Nat.sub_self,abR,Nat.div_one] at this
theorem zpc{f g:Nat→Int}:∀ n,bOk n f→bOk n g→eo f n=eo g n→∀ i,i<n→f i=g i:=by
 intro n
 induction n with
 | zero=>intro _ _ _ i hi;omega
 | succ n ih=>
  intro hf hg h i hi
  have h1:=hf n (by omega)
  have h2:=hg n (by omega)
  simp only [eo] at h
  by_cases e:i=n
  ·subst e;omega
  ·exact ih (fun i hi=>hf i (by omega)) (fun i hi=>hg i (by omega)) (by omega) i (by omega)
def DD(n:Nat):AV:=⟨true,[.w 4 n]⟩
def Jw(n:Nat):Value:=.agg (au 4 n).toArray
theorem U4(ρ:Rho)(n:Nat):(DD n).val ρ=some (Jw n):=by simp [DD,Jw,AV.val,conc,It.cs]
def zww(x:AV):Option Nat:=match x with
 | ⟨true,[.w 4 n]⟩=>some n
 | ⟨true,l⟩=>match Eng.DI .u64 l with
  | some [a,b,c,d]=>match decide ((0≤a∧a<18446744073709551616)∧(0≤b∧b<18446744073709551616)∧(0≤c∧c<18446744073709551616)∧(0≤d∧d<18446744073709551616)) with
   | true=>some (Rd [a,b,c,d])
   | false=>none
  | _=>none
 | _=>none
theorem zmA{x:AV}{n:Nat}(h:zww x=some n){ρ:Rho}{v:Value}(hv:x.val ρ=some v):v=Jw n:=by
 unfold zww at h
 split at h
 ·cases h
  rw [show AV.val ρ ⟨true,[.w 4 n]⟩=some (Jw n) from U4 ρ n] at hv
  cases hv;rfl
 ·split at h
  ·rename_i a b c d hi
   split at h
   ·rename_i hd
    cases h
    have hd:=of_decide_eq_true hd
    obtain ⟨vs,hc,G6⟩:=AV.cells hv
    rcases G6 with ⟨_,e⟩|⟨e,_⟩
    ·have e1:=rU _ _ _ hi hc
     subst e1
     subst e
     have h2:=Cb [a,b,c,d] (fun z hz=>by
      simp only [aae,aad,or_false] at hz
      rcases hz with rfl|rfl|rfl|rfl<;>omega)
     unfold Jw
     rw [←h2];rfl
    ·cases e
   ·cases h
  ·cases h
 ·cases h
def kd4:Cd Nat:=⟨DD,Jw,zww,U4,fun h=>fun hv=>zmA h hv⟩
theorem Au(k n:Nat):aV [.w k n]=au k n:=by simp [aV]
theorem BS{x y:Nat}{b:Bool}(hx:x<pw 4)(hy:y<pw 4)(h:x=y↔b=true):aV [.w 4 x]=aV [.w 4 y]↔b=true:=by
 rw [Au,Au]
 refine ⟨fun e=>h.1 ?_,fun e=>by rw [h.2 e]⟩
 have:=sm e
 rwa [aah hx,aah hy] at this
def TFb:CallT:=jV (zl7 false) (jV HJ (aA pL))
theorem uP:ag Tryz.prog TFb:=aT (UL false) (aT FP (ap lj))
def mOb(k:Nat):List Prop:=[aO=aO,k<4294967296,4<4294967296,(0:Int)≤18446744069414584321∧(18446744069414584321:Int)<18446744073709551616,(0:Int)≤6034159408538082302∧(6034159408538082302:Int)<18446744073709551616,(0:Int)≤3691218898639771653∧(3691218898639771653:Int)<18446744073709551616,(0:Int)≤8353516859464449352∧(8353516859464449352:Int)<18446744073709551616]
theorem Jf{k:Nat}(h:k<4294967296):∀ p∈mOb k,p:=aa rfl (aa h (aa (by omega) (aa (by omega) (aa (by omega) (aa (by omega) (aa (by omega) ad))))))
def wOb(n:Nat)(f:Nat→Int):List Prop:=[(n=32∨n=48∨n=64)∧bOk n f,0+n*1≤n]
theorem nI(f:Nat→Int):(fun i=>f (0+i))=f:=by funext i;rw [aay]
theorem YQ(c:Nat)(f:Nat→Int):cV TFb 83 [⟨false,[.s 1 0 32 c]⟩] (cj [(1,gM 32 f)]) [] (fun _=>[])=some (.one (DD (eo (fun i=>f (0+i)) 32%pw 4%aO)),wOb 32 (fun i=>f (0+i))++mOb 4):=by kernel_rfl
theorem NM(n:Nat):cV TFb 84 [DD n] [] [] (fun _=>[])=some (.one (uM .u8 32 (zdn (n%pw 4%aO) 32)),mOb 4):=by kernel_rfl
theorem R4(b:Bool)(c:Nat)(f:Nat→Int):cV TFb 91 [⟨false,[.s 1 0 32 c]⟩] (cj [(1,gM 32 f)]) [(7,false),(16,b)] (fun _=>[]) =
 some (.tup (match b with | true=>[DD (eo (fun i=>f (0+i)) 32),pp 0] | false=>[DD 0,pp 61]),[((32:Nat):Int)≠32↔false=true]++wOb 32 (fun i=>f (0+i))++mOb 4++[aV [.w 4 (eo (fun i=>f (0+i)) 32%pw 4%aO)]=aV [.w 4 (eo (fun i=>f (0+i)) 32)]↔b=true]):=by cases b<;>kernel_rfl
theorem R7(b:Bool)(c:Nat)(f:Nat→Int):cV TFb 45 [⟨false,[.s 1 0 48 c]⟩] (cj [(1,gM 48 f)]) [(7,false),(16,b)] (fun _=>[]) =
 some (.tup (match b with | true=>[wN (eo (fun i=>f (0+i)) 48),pp 0] | false=>[wN 0,pp 41]),[((48:Nat):Int)≠48↔false=true]++wOb 48 (fun i=>f (0+i))++[dJ (fV (eo (fun i=>f (0+i)) 48)) (eo (fun i=>f (0+i)) 48) b]):=by cases b<;>kernel_rfl
theorem NR(n c:Nat)(f:Nat→Int):cV TFb 45 [⟨false,[.s 1 0 n c]⟩] (cj [(1,gM n f)]) [(7,true)] (fun _=>[])=some (.tup [wN 0,pp 40],[((n:Nat):Int)≠48↔true=true]):=by kernel_rfl
theorem NS(n:Nat):cV TFb 129 [wN n] [] [] (fun _=>[])=some (.one (uM .u8 48 (zdn (fV n) 48)),[]):=by kernel_rfl
theorem pw4:pw 4=256^32:=by decide +kernel
theorem zzB:M6=256^48:=by decide +kernel
theorem vU:aO<pw 4:=by decide +kernel
theorem yJ:0<aO:=by decide +kernel
theorem fU{w:World}:Mem rho0 [] w∧(∀ c,¬Own rho0 c):=⟨dU (w:=w) [] (fun x hx=>by cases hx),fun c ⟨_,_,_,h⟩=>by cases h⟩
theorem zAe{w:World}{b o c:Nat}{f:Nat→Int}(hf:bOk 32 f)(hs:Stands w b o (gvals .u8 32 f)):cX Tryz.prog 83 #[.slice (some ⟨b,o,none⟩) 32 c] (Jw (eo f 32%aO)) w:=by
 obtain ⟨hM,cv,hv⟩:=sN aD hs c
 have h:=YQ c f
 rw [nI] at h
 have hlt:=zV 32 hf
 rw [←pw4] at hlt
 refine ae uP h (aa ⟨.inl rfl,hf⟩ (aa (by omega) (Jf (by omega)))) hM cv hv fun ρ u hu=>?_
 rw [show SV.val ρ (.one (DD (eo f 32%pw 4%aO)))=AV.val ρ (DD (eo f 32%pw 4%aO)) from rfl,U4,aah hlt] at hu
 cases hu;rfl
theorem KV(N n:Nat):rf .u8 n (zdn N n)=rf .u8 n (dk N n):=FR fun i _=>zlF N n i
theorem zf5(n:Nat):bj Tryz.prog 84 [Jw n] (rf .u8 32 (dk (n%pw 4%aO) 32)):=by
 intro w
 refine .inr ⟨(aB _ (match fJ 84 with | some d=>d | none=>⟨.skip,[],0⟩) (by kernel_rfl)).enter _ _,?_⟩
 refine (ae uP (NM n) (Jf (by omega)) (fU (w:=w)).1 (fU (w:=w)).2 (vs:=[Jw n]) (by simp only [ay,U4]) (v:=rf .u8 32 (dk (n%pw 4%aO) 32)) fun ρ u hu=>?_).mono ?_
 ·rw [lR,KV] at hu;cases hu;rfl
 ·rintro e w' ⟨rfl,h⟩;exact ⟨_,rfl,rfl,h⟩
theorem zf6(n:Nat):bj Tryz.prog 129 [wv n] (rf .u8 48 (dk (fV n) 48)):=by
 intro w
 refine .inr ⟨(aB _ (match fJ 129 with | some d=>d | none=>⟨.skip,[],0⟩) (by kernel_rfl)).enter _ _,?_⟩
 refine (ae uP (NS n) (fun p hp=>by cases hp) (fU (w:=w)).1 (fU (w:=w)).2 (vs:=[wv n]) (eE n) (v:=rf .u8 48 (dk (fV n) 48)) fun ρ u hu=>?_).mono ?_
 ·rw [lR,KV] at hu;cases hu;rfl
 ·rintro e w' ⟨rfl,h⟩;exact ⟨_,rfl,rfl,h⟩
def frG(f:Nat→Int):Nat×Int:=if eo f 32<aO then (eo f 32,0) else (0,61)
def Vu(n:Nat)(f:Nat→Int):Nat×Int:=if n=48 then (if eo f 48<pN then (eo f 48,0) else (0,41)) else (0,40)
theorem znu{w:World}{b o c:Nat}{f:Nat→Int}(hf:bOk 32 f)(hs:Stands w b o (gvals .u8 32 f)):cX Tryz.prog 91 #[.slice (some ⟨b,o,none⟩) 32 c] ((tI kd4 tj).vl (frG f)) w:=by
 obtain ⟨hM,cv,hv⟩:=sN aD hs c
 have hlt:=zV 32 hf
 rw [←pw4] at hlt
 have h:=R4 (decide (eo f 32<aO)) c f
 rw [nI,aah hlt] at h
 have uE:eo f 32%aO=eo f 32↔decide (eo f 32<aO)=true:=by
  rw [decide_eq_true_iff]
  exact ⟨fun e=>by rw [←e];exact Nat.mod_lt _ yJ,fun e=>aah e⟩
 refine ae uP h ?_ hM cv hv fun ρ u hu=>?_
 ·intro p hp
  rw [aaw,aaw,aaw] at hp
  rcases hp with ((hp|hp)|hp)|hp
  ·exact aa (br (by omega)) ad p hp
  ·exact aa ⟨.inl rfl,hf⟩ (aa (by omega) ad) p hp
  ·exact Jf (by omega) p hp
  ·exact aa (BS (Nat.lt_trans (Nat.mod_lt _ yJ) vU) hlt uE) ad p hp
 ·unfold frG
  cases hd:decide (eo f 32<aO) with
  | true=>
   rw [hd] at hu
   rw [if_pos (of_decide_eq_true hd)]
   have:=(tI kd4 tj).val ρ (eo f 32,0)
   rw [show SV.val ρ (.tup [DD (eo f 32),pp 0])=_ from this] at hu
   cases hu;rfl
  | false=>
   rw [hd] at hu
   rw [if_neg (of_decide_eq_false hd)]
   have:=(tI kd4 tj).val ρ (0,61)
   rw [show SV.val ρ (.tup [DD 0,pp 61])=_ from this] at hu
   cases hu;rfl
theorem QX{n:Nat}(h:n<M6):fV n=n↔n<pN:=by
 unfold fV
 rw [←uo]
 exact ⟨fun e=>by rw [←e];exact lW n,fun e=>oL e⟩
theorem znv{w:World}{v:Value}{n:Nat}{f:Nat→Int}(hf:n=48→bOk 48 f)(hv:B6 w v n f)(hn:1≤n):Wj 45 [v] ((tI (kV Nat) tj).vl (Vu n f)) w:=by
 rcases hv with ⟨_,h0⟩|⟨b,o,c,rfl,hs⟩
 ·omega
 refine .inr ⟨(aB _ (match fJ 45 with | some d=>d | none=>⟨.skip,[],0⟩) (by kernel_rfl)).enter _ _,?_⟩
 suffices h:cX Tryz.prog 45 #[.slice (some ⟨b,o,none⟩) n c] ((tI (kV Nat) tj).vl (Vu n f)) w from h.mono fun e w' ⟨he,h⟩=>⟨_,he,rfl,h⟩
 obtain ⟨hM,cv,hv⟩:=sN aD hs c
 by_cases hn:n=48
 ·subst hn
  have hf:=hf rfl
  have hlt:=zV 48 hf
  rw [←zzB] at hlt
  have h:=R7 (decide (eo f 48<pN)) c f
  rw [nI] at h
  have hr:fV (eo f 48)<M6:=by unfold fV;rw [←uo];exact Nat.lt_trans (lW _) (by decide +kernel)
  refine ae uP h ?_ hM cv hv fun ρ u hu=>?_
  ·intro p hp
   rw [aaw,aaw] at hp
   rcases hp with (hp|hp)|hp
   ·exact aa (br (by omega)) ad p hp
   ·exact aa ⟨.inr (.inl rfl),hf⟩ (aa (by omega) ad) p hp
   ·refine aa (ej (fun m hm=>?_) (fun m hm=>?_) ((QX hlt).trans decide_eq_true_iff.symm)) ad p hp
    ·have:m=fV (eo f 48):=aao.1 hm
     subst this;exact hr
    ·have:m=eo f 48:=aao.1 hm
     subst this;exact hlt
  ·unfold Vu
   rw [if_pos rfl]
   cases hd:decide (eo f 48<pN) with
   | true=>
    rw [hd] at hu
    rw [if_pos (of_decide_eq_true hd)]
    have:=(tI (kV Nat) tj).val ρ (eo f 48,0)
    rw [show SV.val ρ (.tup [wN (eo f 48),pp 0])=_ from this] at hu
    cases hu;rfl
   | false=>
    rw [hd] at hu
    rw [if_neg (of_decide_eq_false hd)]
    have:=(tI (kV Nat) tj).val ρ (0,41)
    rw [show SV.val ρ (.tup [wN 0,pp 41])=_ from this] at hu
    cases hu;rfl
 ·refine ae uP (NR n c f) (aa (bD (by omega)) ad) hM cv hv fun ρ u hu=>?_
  unfold Vu
  rw [if_neg hn]
  have:=(tI (kV Nat) tj).val ρ (0,40)
  rw [show SV.val ρ (.tup [wN 0,pp 40])=_ from this] at hu
  cases hu;rfl
def IK(m:St):It→Option (fE×List Prop)
 | .v (.slice none 0 0)=>some (none,[])
 | .s id off len _=>match iJ m id off len with
  | some (n,f,ob)=>some (some (n,f),ob)
  | none=>none
 | .c id 1 _ off len=>match app id&&XQ len with
  | true=>match iJ m id off len with
   | some (n,f,ob)=>some (some (n,f),ob)
   | none=>none
  | false=>none
 | _=>none
def v_(m:St):List It→Option (List fE×List Prop)
 | []=>some ([],[])
 | i::l=>match IK m i,v_ m l with
  | some (p,ob),some (ps,jW)=>some (p::ps,ob++jW)
  | _,_=>none
theorem Q5{ρ:Rho}{m:St}{w:World}(hM:Mem ρ m w){i:It}{p:fE}{ob:List Prop}(h:IK m i=some (p,ob))(ax:∀ q∈ob,q){vs:List Value}(hv:i.cs ρ=some vs):∃ v,vs=[v]∧mO w v p:=by
 unfold IK at h
 split at h
 ·cases h
  simp only [It.cs] at hv
  split at hv
  ·cases hv;exact ⟨_,rfl,rfl⟩
  ·cases hv
 ·rename_i id off len c
  split at h
  ·rename_i n f jW hb
   cases h
   simp only [It.cs] at hv
   split at hv
   ·rename_i q hq
    cases hv
    obtain ⟨rfl,hs⟩:=eW hM hb ax hq
    exact ⟨_,rfl,_,_,_,rfl,hs⟩
   ·cases hv
  ·cases h
 ·rename_i id adr off len
  split at h
  ·rename_i Nl
   rw [aaf] at Nl
   split at h
   ·rename_i n f jW hb
    cases h
    have hlen:=It.length_cs hv
    obtain ⟨v,rfl⟩:∃ v,vs=[v]:=by
     match vs,hlen with
     | [v],_=>exact ⟨v,rfl⟩
    obtain ⟨q,cap,hq,rfl⟩:=j3 (AV.val_mk hv) Nl.1 (rK Nl.2)
    obtain ⟨rfl,hs⟩:=eW hM hb ax hq
    exact ⟨_,rfl,_,_,_,rfl,hs⟩
   ·cases h
  ·cases h
 ·cases h
theorem Av{ρ:Rho}{m:St}{w:World}(hM:Mem ρ m w):∀ (l:List It) (ps:List fE) (ob:List Prop),v_ m l=some (ps,ob)→(∀ q∈ob,q)→∀ vs,conc ρ l=some vs→vs.length=ps.length∧∀ (i:Nat) (v:Value) (p:fE),vs[i]? = some v→ps[i]? = some p→mO w v p:=by
 intro l
 induction l with
 | nil=>intro ps ob h _ vs hv;cases h;cases hv;exact ⟨rfl,fun i v p h=>by cases h⟩
 | cons i l ih=>
  intro ps ob h ax vs hv
  obtain ⟨a,b,ha,hb,rfl⟩:=cz hv
  simp only [v_] at h
  split at h
  ·rename_i p o1 ps' o2 hp hps
   cases h
   obtain ⟨v,rfl,hpa⟩:=Q5 hM hp (fun q hq=>ax q (List.mem_append_left _ hq)) ha
   obtain ⟨h1,h2⟩:=ih _ _ hps (fun q hq=>ax q (List.mem_append_right _ hq)) _ hb
   refine ⟨by simp [h1],fun j u q hj hq=>?_⟩
   cases j with
   | zero=>cases hj;cases hq;exact hpa
   | succ j=>exact h2 j u q hj hq
  ·cases h
def WY(l:List fE):SV:=.one (uM .u8 32 (lf (fO l) (qj l)))
def ztK:CallT:=fun f args m _=>match f==108 with
 | true=>match args with
  | [⟨false,[.s id off cnt _]⟩]=>match m.blk id with
   | some l=>match cut l off cnt with
    | some r=>match v_ m r with
     | some ([some (a,f1),p2,some (c,f3),some (d+1,f4)],ob)=>some { val:=WY [some (a,f1),p2,some (c,f3),some (d+1,f4)],wr:=[],news:=[],ob:=(1≤a)::(fO [some (a,f1),p2,some (c,f3),some (d+1,f4)]≤100000)::ob }
     | some ([some (a,f1),some (c,f3),some (d+1,f4)],ob)=>some { val:=WY [some (a,f1),some (c,f3),some (d+1,f4)],wr:=[],news:=[],ob:=(1≤a)::(fO [some (a,f1),some (c,f3),some (d+1,f4)]≤100000)::ob }
     | _=>none
    | none=>none
   | none=>none
  | _=>none
 | false=>none
theorem zkb:ag Tryz.prog ztK:=by
 intro f args m nid out af ax ρ w vs hv hM df
 unfold ztK at af
 split at af
 ·rename_i hf
  rw [beq_iff_eq] at hf
  subst hf
  split at af
  ·rename_i id off cnt cap
   split at af
   ·rename_i l hl
    split at af
    ·rename_i r hr
     obtain ⟨v1,us,h1,h2,rfl⟩:=aj hv
     cases h2
     obtain ⟨q,hq,rfl⟩:=aY h1
     obtain ⟨ys,e2,e3,e4⟩:=lC hM hl hq
     obtain ⟨k1,k2⟩:=o_ hr e2
     have jd:Stands w q.1 (q.2+off) ((ys.drop off).take cnt):=⟨e3,fun i v hi=>by
      rw [List.getElem?_take] at hi
      split at hi
      ·rw [List.getElem?_drop] at hi
       rw [Nat.add_assoc];exact e4 _ _ hi
      ·cases hi⟩
     have hlen:((ys.drop off).take cnt).length=cnt:=by rw [List.length_take,List.length_drop];omega
     generalize BM:(ys.drop off).take cnt=us at *
     split at af
     ·rename_i a f1 p2 c f3 d f4 ob hp
      cases af
      obtain ⟨h3,h4⟩:=Av hM _ _ _ hp (fun p hp=>ax p (aaa _ (aaa _ hp))) _ k2
      match us,h3,hlen with
      | [u1,u2,u3,u4],_,hlen=>
       obtain rfl:cnt=4:=hlen.symm
       refine .inr ⟨(aB _ (match fJ 108 with | some d=>d | none=>⟨.skip,[],0⟩) (by kernel_rfl)).enter _ _,?_⟩
       refine (zaq jd (h4 0 u1 _ rfl rfl) (h4 1 u2 _ rfl rfl) (h4 2 u3 _ rfl rfl) (h4 3 u4 _ rfl rfl) (ax _ aac) (ax _ (aaa _ aac))).mono ?_
       rintro e w' ⟨rfl,hB⟩
       exact ⟨_,rfl,ρ,Ext.of_below hB,lR ρ .u8 32 _,hM.of_below hB⟩
     ·rename_i a f1 c f3 d f4 ob hp
      cases af
      obtain ⟨h3,h4⟩:=Av hM _ _ _ hp (fun p hp=>ax p (aaa _ (aaa _ hp))) _ k2
      match us,h3,hlen with
      | [u1,u3,u4],_,hlen=>
       obtain rfl:cnt=3:=hlen.symm
       refine .inr ⟨(aB _ (match fJ 108 with | some d=>d | none=>⟨.skip,[],0⟩) (by kernel_rfl)).enter _ _,?_⟩
       refine (zar jd (h4 0 u1 _ rfl rfl) (h4 1 u3 _ rfl rfl) (h4 2 u4 _ rfl rfl) (ax _ aac) (ax _ (aaa _ aac))).mono ?_
       rintro e w' ⟨rfl,hB⟩
       exact ⟨_,rfl,ρ,Ext.of_below hB,lR ρ .u8 32 _,hM.of_below hB⟩
     ·cases af
    ·cases af
   ·cases af
  ·cases af
 ·cases af
end Sh
end Go.Proofs.YtcafpgpahbplaaaGreat
