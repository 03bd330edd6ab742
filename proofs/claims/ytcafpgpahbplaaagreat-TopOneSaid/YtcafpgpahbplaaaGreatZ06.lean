/-
 The proof, part 6 of 25.
-/
import Derived.Test.YtcafpgpahbplaaaGreatZ05
import Derived.Test.YtcafpgpahbplaaaGreatZ03
import Derived.Test.YtcafpgpahbplaaaGreatZ01
import Derived.Test.YtcafpgpahbplaaaGreatZ02
import Derived.Test.YtcafpgpahbplaaaGreatZ04
import Derived.WalkKit
import Derived.ProofKit
import Derived.OpenShut
import Derived.JoinedOf
import Derived.Carry
import Derived.WideKeyArgs
open Array renaming getElem?_eq_getElem->abZ
open BitVec renaming ofInt->aa0,toNat_ofInt->abu
open Bool renaming and_eq_true->aaf
open Go renaming MemPlace->adP,TypeId->aax
open Go.DataW renaming TrodAll->ac2,trod->ad9
open Go.Value renaming okWide->acJ
open Int renaming toNat->ace
open List renaming append_nil->aaP,cons_append->abe,drop_zero->adG,flatMap_eq_nil_iff->adO,forall_mem_cons->aab,getElem?_eq_getElem->aaC,length_drop->aa1,length_eq_zero_iff->ab4,map_cons->aaB,map_map->abm,mem_append->aaw,mem_append_left->aau,mem_append_right->aaq,mem_cons->aae,mem_cons_of_mem->aaa,mem_cons_self->aac,mem_iff_getElem->adv,mem_map->aaY,mem_singleton->aao,nil_append->abO,not_mem_nil->aad,range->aan,replicate->aap,replicate_succ->aby,take_append_drop->aci
open Nat renaming add_mod->abl,add_mod_right->aee,add_mul->aaD,add_zero->aaN,dvd_trans->acK,gcd->acD,lt_of_le_of_lt->ab0,lt_of_not_le->adk,lt_trans->aaW,lt_trichotomy->adK,mod_eq_of_lt->aah,mod_lt->aaH,mod_mod->acp,mul_assoc->aaA,mul_comm->aar,mul_le_mul_right->aaI,mul_mod->abb,one_mul->abh,zero_mod->abg,zero_mul->abi
noncomputable section
set_option linter.unusedVariables false
set_option linter.unusedSimpArgs false
namespace Go.Proofs.YtcafpgpahbplaaaGreat
open Go Go.Eng Go.RowKit Go.Wd
def dE:Fn1:=match fJ 102 with
 | some d=>d
 | none=>⟨.skip,[],0⟩
theorem zsv:FnOk Tryz.prog 102 dE:=aB _ _ (by kernel_rfl)
def zc5(q:Nat):Row where
 f:=56
 ans:=fun
  | []=>some (.one (W6 q),[q=pN])
  | _=>none
theorem zrk(q:Nat):bE Tryz.prog (zc5 q):=by
 intro args s ob ha ax ρ vs hv
 cases args with
 | nil=>
  have ha:some (SV.one (W6 q),[q=pN])=some (s,ob):=ha
  cases ha
  have e:q=pN:=ax _ (aao.2 rfl)
  subst e
  exact zve [] _ _ rfl (fun p hp=>by cases hp) ρ vs hv
 | cons a l=>
  have ha:(none:Option (SV×List Prop))=some (s,ob):=ha
  cases ha
def E8(q:Nat):Eng:={ tab:=bh,call:=jw bh (aA (zc5 q::Gu)) fJ 1000 6,N:=48 }
def cEL:Code:=gw (dh dE.body)
theorem zol:dE.body = .block 0 (.loop cEL):=by kernel_rfl
theorem Ej:dE.ntmps=48:=by kernel_rfl
theorem Sv:dE.results=[]:=by kernel_rfl
set_option maxRecDepth 100000 in
theorem zhQ(q:Nat):ag Tryz.prog (E8 q).call:=dd an ab (ap (by simp only [aab];exact ⟨zrk q,vP⟩)) aB 1000 6
theorem zty(q:Nat):∀ t d,(E8 q).tab t=some d→TyOk Tryz.prog t d:=ab
def hw(a b:Int):Int:=Eng.bits .or .u64 (a.fdiv (2^min (ace 1) IntKind.u64.bits)) (IntKind.u64.wrap (b*2^min (ace 63) IntKind.u64.bits))
def Fl(d:Nat→Int)(h:Int):Ct:=.bl [.v (.int .u64 (hw (d 0) (d 1))),.v (.int .u64 (hw (d 1) (d 2))),.v (.int .u64 (hw (d 2) (d 3))),.v (.int .u64 (hw (d 3) (d 4))),.v (.int .u64 (hw (d 4) (d 5))),.v (.int .u64 (hw (d 5) h))]
def SX(n:Nat)(b:Bool):Prop:=Eng.bits .and .u64 ((dg n 0:Nat):Int) 1=0↔b=true
def H6(u x:Nat):St:=[(0,jy 16),(2,jy 17),(33,.bl [.w 6 u]),(35,.bl [.w 6 x])]
def zbK(a b:Ct):St:=[(0,jy 16),(2,jy 17),(33,a),(35,b)]
def dI(x:Nat)(j:Nat):Int:=((dg x j:Nat):Int)
def aI(x q:Nat)(j:Nat):Int:=((cd 0 (dg x) (dg q) j:Nat):Int)
theorem znK(u x q:Nat):probe (E8 q) 100 cEL (H6 u x) 18 [(12,false)] ((H6 u x).map (·.1))=some (2,[SX u false],(H6 u x).map fun p=>some p.2):=by kernel_rfl
theorem zEP(u x q:Nat):probe (E8 q) 100 cEL (H6 u x) 18 [(12,true),(20,true)] ((H6 u x).map (·.1))=some (0,[SX u true,SX x true],(zbK (Fl (dI u) 0) (Fl (dI x) 0)).map fun p=>some p.2):=by kernel_rfl
theorem zEO(u x q:Nat):probe (E8 q) 100 cEL (H6 u x) 18 [(12,true),(20,false)] ((H6 u x).map (·.1)) =
 some (0,[SX u true,SX x false,q=pN]++(aan 6).map (V9 0 (dg x) (dg q)),(zbK (Fl (dI u) 0) (Fl (aI x q) ((cw 0 (dg x) (dg q) 6:Nat):Int))).map fun p=>some p.2):=by kernel_rfl
theorem Ky(x:Nat):Eng.bits .and .u64 (x:Int) 1=((x%2:Nat):Int):=by
 have e:(aa0 IntKind.u64.bits (x:Int) &&& aa0 IntKind.u64.bits 1).toNat=x%2:=by
  show (aa0 64 (x:Int) &&& aa0 64 1).toNat=x%2
  rw [BitVec.toNat_and,abu,abu]
  have h1:((x:Int)%((2^64:Nat):Int)).toNat=x%2^64:=by omega
  have h2:((1:Int)%((2^64:Nat):Int)).toNat=2^1-1:=by decide
  rw [h1,h2,Nat.and_two_pow_sub_one_eq_mod,Nat.mod_mod_of_dvd _ (by decide)]
 unfold Eng.bits
 simp only [e]
 exact bH (by omega)
theorem zgN(n:Nat):dg n 0%2=n%2:=by
 unfold dg;rw [gL,Nat.div_one,rp];omega
theorem se(n:Nat)(b:Bool):SX n b↔(n%2=0↔b=true):=by
 unfold SX
 rw [Ky,zgN]
 have:((n%2:Nat):Int)=0↔n%2=0:=by omega
 rw [this]
theorem zDL(a b:Nat)(ha:a<18446744073709551616):hw (a:Int) (b:Int)=((a/2+b%2*9223372036854775808:Nat):Int):=by
 unfold hw
 have e1:(2:Int)^min (ace 1) IntKind.u64.bits=((2:Nat):Int):=by decide
 have e2:(2:Int)^min (ace 63) IntKind.u64.bits=((9223372036854775808:Nat):Int):=by decide
 rw [e1,e2,←Int.ofNat_fdiv,←Int.natCast_mul,ko]
 have e3:b*9223372036854775808%18446744073709551616=b%2*2^63:=by omega
 rw [e3]
 have e:(aa0 IntKind.u64.bits ((a/2:Nat):Int) ||| aa0 IntKind.u64.bits ((b%2*2^63:Nat):Int)).toNat=a/2+b%2*9223372036854775808:=by
  show (aa0 64 ((a/2:Nat):Int) ||| aa0 64 ((b%2*2^63:Nat):Int)).toNat=_
  rw [BitVec.toNat_or,abu,abu]
  have h1:(((a/2:Nat):Int)%((2^64:Nat):Int)).toNat=a/2:=by omega
  have h2:(((b%2*2^63:Nat):Int)%((2^64:Nat):Int)).toNat=b%2*2^63:=by omega
  rw [h1,h2,Nat.or_comm,aar (b%2),Nat.two_pow_add_eq_or_of_lt (by omega) (b%2) |>.symm]
  omega
 unfold Eng.bits
 simp only [e]
 exact bH (by omega)
def hd(d:Nat→Nat)(j:Nat):Nat:=d j/2+d (j+1)%2*9223372036854775808
theorem zEh{d:Nat→Nat}{j:Nat}(h:d j<18446744073709551616):hd d j<18446744073709551616:=by unfold hd;omega
theorem zvK(d:Nat→Nat):∀ k,2*num (hd d) k+d 0%2=num d k+d k%2*pw k:=by
 intro k
 induction k with
 | zero=>simp [num,gL]
 | succ k ih=>
  simp only [num]
  rw [dA]
  have e:hd d k*2+d k%2=d k+d (k+1)%2*18446744073709551616:=by unfold hd;omega
  generalize num (hd d) k=A at *
  generalize num d k=B at *
  generalize hd d k=C at *
  generalize d k%2=D at *
  generalize d k=F at *
  generalize d (k+1)%2=G at *
  generalize d 0%2=H at *
  generalize pw k=W at *
  have e2:(C*2+D)*W=(F+G*18446744073709551616)*W:=by rw [e]
  rw [aaD,aaD,aaA,aaA] at e2
  rw [Nat.mul_add,aar W]
  have e3:2*(C*W)=C*(2*W):=Nat.mul_left_comm _ _ _
  omega
def d7(d:Nat→Nat)(h:Nat)(j:Nat):Nat:=if j<6 then d j else h
theorem tX{t:Nat→Int}{d:Nat→Nat}{h:Nat}{hI:Int}(e:∀ j,t j=((d j:Nat):Int))(eh:hI=(h:Int))(hd':∀ j,d j<18446744073709551616)(hh:h≤1){n:Nat}(hn:num d 6+h*pw 6=n):SameCt (Fl t hI) (.bl [.w 6 (n/2)]):=by
 intro ρ vs hv
 have e2:((aan 6).map fun j=>It.v (.int .u64 ((hd (d7 d h) j:Nat):Int)))=[.v (.int .u64 (hw (t 0) (t 1))),.v (.int .u64 (hw (t 1) (t 2))),.v (.int .u64 (hw (t 2) (t 3))),.v (.int .u64 (hw (t 3) (t 4))),.v (.int .u64 (hw (t 4) (t 5))),.v (.int .u64 (hw (t 5) hI))]:=by
  simp only [e,eh,zDL _ _ (hd' _)]
  rfl
 have G6:conc ρ ((aan 6).map fun j=>It.v (.int .u64 ((hd (d7 d h) j:Nat):Int)))=some vs:=by rw [e2];exact hv
 have e3:((aan 6).map fun j=>It.v (.int .u64 ((hd (d7 d h) j:Nat):Int)))=((aan 6).map fun j=>Value.int .u64 ((hd (d7 d h) j:Nat):Int)).map It.v:=by rw [abm];rfl
 rw [e3,iU ρ _ (fun v hv=>by obtain ⟨i,_,rfl⟩:=aaY.1 hv;rfl)] at G6
 have hlt:∀ i,i<6→hd (d7 d h) i<18446744073709551616:=fun i hi=>zEh (by unfold d7;rw [if_pos hi];exact hd' i)
 rw [←ld 6 hlt] at G6
 cases G6
 have k:=zvK (d7 d h) 6
 have k1:num (d7 d h) 6=num d 6:=mU 6 fun j hj=>by unfold d7;rw [if_pos hj]
 have k2:d7 d h 6%2=h:=by show h%2=h;omega
 have k3:num (hd (d7 d h)) 6=n/2:=by
  rw [k1,k2,hn] at k
  omega
 rw [k3]
 simp [conc,It.cs]
def hv(x:Nat):Nat:=if x%2=0 then x/2 else (x+pN)/2
def ev:Nat→Nat→Nat→Nat×Nat
 | 0,u,x=>(u,x)
 | n+1,u,x=>match u%2==0 with
  | true=>ev n (u/2) (hv x)
  | false=>(u,x)
def f_(u x:Nat):Nat×Nat:=ev (64*6) u x
theorem zDN{x:Nat}(h:x<M6):hv x<M6:=by
 have:pN<M6:=mq
 unfold hv;split<;>omega
theorem LP{a b:Ct}{u x:Nat}(h1:SameCt a (.bl [.w 6 u]))(h2:SameCt b (.bl [.w 6 x])):∀ k,match Eng.look (zbK a b) k,Eng.look (H6 u x) k with | some c,some c'=>SameCt c c' | none,none=>True | _,_=>False:=by
 intro k
 by_cases e1:k=33
 ·subst e1;exact h1
 ·by_cases e2:k=35
  ·subst e2;exact h2
  ·have f1:(33==k)=false:=by simp;omega
   have f2:(35==k)=false:=by simp;omega
   by_cases e3:k=0
   ·subst e3;exact SameCt.refl _
   ·by_cases e4:k=2
    ·subst e4;exact SameCt.refl _
    ·have f3:(0==k)=false:=by simp;omega
     have f4:(2==k)=false:=by simp;omega
     simp only [zbK,H6,Eng.look,f1,f2,f3,f4]
     trivial
structure InvE(R:Nat×Nat)(u x:Nat):Prop where
 pos:0<u
 ult:u<M6
 xlt:x<M6
 fin:∃ n,u<2^n∧ev n u x=R
theorem InvE.odd{R:Nat×Nat}{u x:Nat}(h:InvE R u x)(ho:u%2≠0):R=(u,x):=by
 obtain ⟨n,h1,h2⟩:=h.fin
 cases n with
 | zero=>have:=h.pos;simp at h1;omega
 | succ n=>
  rw [ev] at h2
  have e:(u%2==0)=false:=by simpa using ho
  rw [e] at h2
  exact h2.symm
theorem InvE.next{R:Nat×Nat}{u x:Nat}(h:InvE R u x)(he:u%2=0):InvE R (u/2) (hv x):=by
 obtain ⟨n,h1,h2⟩:=h.fin
 have hp:=h.pos
 have hu:=h.ult
 refine ⟨by omega,by omega,zDN h.xlt,?_⟩
 cases n with
 | zero=>simp at h1;omega
 | succ n=>
  rw [ev] at h2
  have e:(u%2==0)=true:=by simpa using he
  rw [e] at h2
  refine ⟨n,?_,h2⟩
  rw [Nat.pow_succ] at h1
  omega
theorem G0(u x:Nat):aw (H6 u x) [16,17]=true:=by kernel_rfl
theorem Dw(t t':Nat→Int)(h h':Int):aw (zbK (Fl t h) (Fl t' h')) [16,17]=true:=by kernel_rfl
theorem pV{x:Nat}(h:x<M6):num (dg x) 6=x:=by rw [iB];exact aah h
theorem zCK{R:Nat×Nat}{b1 b2:Nat}{w0:World}{Q:Exit→Act→World→Prop}(hQ:∀ a w,At 48 (cZ b1 b2) w0 (H6 R.1 R.2) a w→Q (.exit 0) a w){u x:Nat}(hI:InvE R u x){a:Act}{w:World}(hA:At 48 (cZ b1 b2) w0 (H6 u x) a w):
  (Code.loop cEL).wp Tryz.prog Q a w:=by
 refine dG (ι:=Nat×Nat) (fun p=>InvE R p.1 p.2) (fun p=>H6 p.1 p.2) (fun p=>p.1) ?_ (u,x) hI a w hA
 rintro ⟨u,x⟩ hI a w hA
 have hI:InvE R u x:=hI
 have hA:At 48 (cZ b1 b2) w0 (H6 u x) a w:=hA
 by_cases hu:u%2=0
 ·have h0:SameCt (Fl (dI u) 0) (.bl [.w 6 (u/2)]):=tX (h:=0) (d:=dg u) (fun j=>rfl) rfl (fun j=>eQ u j) (by omega) (by rw [pV hI.ult,abi,aaN])
  have hlt:u/2<u:=by have:=hI.pos;omega
  by_cases hx:x%2=0
  ·refine At.probe (E:=E8 0) an (zty 0) (zhQ 0) (zEP u x 0) (fun q hq=>?_) hA [16,17] (in2 rfl rfl) (Dw _ _ _ _) (FD b1 b2) fun a' w' bY=>?_
   ·simp only [aae,aad,or_false] at hq
    rcases hq with rfl|rfl
    ·rw [se];simp [hu]
    ·rw [se];simp [hx]
   ·have h1:SameCt (Fl (dI x) 0) (.bl [.w 6 (hv x)]):=by
     have:=tX (t:=dI x) (h:=0) (hI:=0) (d:=dg x) (fun j=>rfl) rfl (fun j=>eQ x j) (by omega) (n:=x) (by rw [pV hI.xlt,abi,aaN])
     unfold hv;rw [if_pos hx];exact this
    exact ⟨(u/2,hv x),hI.next hu,hlt,bY.same (LP h0 h1)⟩
  ·refine At.probe (E:=E8 pN) an (zty pN) (zhQ pN) (zEO u x pN) (fun q hq=>?_) hA [16,17] (in2 rfl rfl) (Dw _ _ _ _) (FD b1 b2) fun a' w' bY=>?_
   ·simp only [aaw,aae,aad,or_false] at hq
    rcases hq with (rfl|rfl|rfl)|hq
    ·rw [se];simp [hu]
    ·rw [se];simp [hx]
    ·trivial
    ·obtain ⟨i,_,rfl⟩:=aaY.1 hq
     have:cw 0 (dg x) (dg pN) i≤1:=zhE (by omega) i (fun _ _=>eQ _ _) (fun _ _=>eQ _ _)
     unfold V9;omega
   ·have hs:=zdA (c:=0) (x:=dg x) (y:=dg pN) 6
    rw [pV hI.xlt,zsb,aaN] at hs
    have h1:SameCt (Fl (aI x pN) ((cw 0 (dg x) (dg pN) 6:Nat):Int)) (.bl [.w 6 (hv x)]):=by
     have:=tX (t:=aI x pN) (h:=cw 0 (dg x) (dg pN) 6) (d:=cd 0 (dg x) (dg pN)) (fun j=>rfl) rfl (fun j=>zhN _ _ _ j) (zhE (by omega) 6 (fun _ _=>eQ _ _) (fun _ _=>eQ _ _)) hs
     unfold hv;rw [if_neg hx];exact this
    exact ⟨(u/2,hv x),hI.next hu,hlt,bY.same (LP h0 h1)⟩
 ·refine At.probe (E:=E8 0) an (zty 0) (zhQ 0) (znK u x 0) (fun q hq=>?_) hA [16,17] (in2 rfl rfl) (G0 _ _) (FD b1 b2) fun a' w' bY=>?_
  ·simp only [aae,aad,or_false] at hq
   subst hq;rw [se];simp [hu]
  ·have e:=hI.odd hu
   subst e
   exact hQ a' w' bY
def inE:List AV:=[⟨false,[.p 16 0]⟩,⟨false,[.p 17 0]⟩]
theorem zEd(u x:Nat):((H6 u x).map (·.1)).map (Eng.look (aW 0 inE (48-inE.length)++Dr [.w 6 u] [.w 6 x]))=(H6 u x).map fun p=>some p.2:=by kernel_rfl
theorem zgq(u x:Nat)(h0:0<u)(hu:u<M6)(hx:x<M6)(b1 b2:Nat)(kN:b1≠b2):
  Two Tryz.prog 102 [mo (b1,0) 0,mo (b2,0) 0] b1 b2 (au 6 u) (au 6 x) (au 6 (f_ u x).1) (au 6 (f_ u x).2) (.tuple #[]):=by
 have hA:conc (cZ b1 b2) [.w 6 u]=some (au 6 u):=by simp [conc,It.cs]
 have hB:conc (cZ b1 b2) [.w 6 x]=some (au 6 x):=by simp [conc,It.cs]
 refine tZ kN hA hB (A':=[.w 6 (f_ u x).1]) (B':=[.w 6 (f_ u x).2]) (fun ρ us h=>by simp [conc,It.cs] at h;exact h.symm) (fun ρ us h=>by simp [conc,It.cs] at h;exact h.symm) fun w hM=>?_
 refine .inr ⟨zsv.enter _ _,?_⟩
 have hv:ay (cZ b1 b2) inE=some [mo (b1,0) 0,mo (b2,0) 0]:=by
  have e2:AV.val (cZ b1 b2) ⟨false,[.p 16 0]⟩=some (mo (b1,0) 0):=AV.val_mk (by simp [It.cs,cZ])
  have e4:AV.val (cZ b1 b2) ⟨false,[.p 17 0]⟩=some (mo (b2,0) 0):=AV.val_mk (by simp [It.cs,cZ])
  simp only [inE,ay,e2,e4]
 have hI:InvE (f_ u x) u x:=⟨h0,hu,hx,64*6,hu,rfl⟩
 refine (bX (G:=fun xs st=>xs=[]∧st.blk 16=some [.w 6 (f_ u x).1]∧st.blk 17=some [.w 6 (f_ u x).2]) ab zsv hM (by kernel_rfl) hv (by rw [Ej];simp [inE]) fun a c9=>?_).mono ?_
 ·rw [Ej] at c9
  rw [zol,Ej,Sv]
  have h1:At 48 (cZ b1 b2) w (H6 u x) a w:=by
   refine c9.forget [16,17] (fun k c hk=>?_) (in2 rfl rfl) (G0 _ _) (FD b1 b2)
   have hm:=gz hk
   have he:=zEd u x
   rw [abm] at he
   simp only [H6,aaB,List.map_nil,Function.comp,List.cons.injEq,and_true] at he
   simp only [H6,aae,aad,or_false,Prod.mk.injEq] at hm
   rcases hm with ⟨rfl,rfl⟩|⟨rfl,rfl⟩|⟨rfl,rfl⟩|⟨rfl,rfl⟩
   ·exact he.1
   ·exact he.2.1
   ·exact he.2.2.1
   ·exact he.2.2.2
  refine wp_block (zCK (R:=f_ u x) (fun a3 w3 h3=>?_) hI h1)
  exact ⟨.inl rfl,_,[],h3,rfl,rfl,rfl,rfl⟩
 ·rintro e w' ⟨v,rfl,xs,st,ρ',hE,hval,Bg,rfl,h1,h2⟩
  refine ⟨v,rfl,?_,ρ',st,hE,Bg,h1,h2⟩
  simp only [pT,SV.val,ay,Option.some.injEq] at hval
  exact hval.symm
def zgs:CallT:=fun f args m _=>match f==102 with
 | true=>match args with
  | [⟨false,[.p a 0]⟩,⟨false,[.p b 0]⟩]=>match m.blk a,m.blk b with
   | some A,some B=>match xG A,xG B with
    | some (u,ob),some (x,jW)=>match (a != b&&(own a&&own b)) with
     | true=>some { val:=.tup [],wr:=[(a,[.w 6 (f_ u x).1]),(b,[.w 6 (f_ u x).2])],news:=[],ob:=(0<u∧u<M6∧x<M6)::(ob++jW) }
     | false=>none
    | _,_=>none
   | _,_=>none
  | _=>none
 | false=>none
theorem zgr:ag Tryz.prog zgs:=by
 intro f args m nid out af ax ρ w vs hv hM df
 unfold zgs at af
 split at af
 ·rename_i hf
  rw [beq_iff_eq] at hf
  subst hf
  split at af
  ·rename_i a b
   split at af
   ·rename_i A B hA hB
    split at af
    ·rename_i u ob x jW h6 h8
     split at af
     ·rename_i hc
      cases af
      simp only [aaf,bne_iff_ne,ne_eq] at hc
      obtain ⟨Nl,ha,hb⟩:=hc
      obtain ⟨h0,h1,h2⟩:=ax _ (aac)
      have ob1:∀ p∈ob,p:=fun p hp=>ax p (aaa _ (aau _ hp))
      have Dh:∀ p∈jW,p:=fun p hp=>ax p (aaa _ (aaq _ hp))
      obtain ⟨v2,r2,e3,e4,rfl⟩:=aj hv
      obtain ⟨v4,r4,e7,e8,rfl⟩:=aj e4
      cases e8
      refine Cl (args:=fun q1 q2=>[mo q1 0,mo q2 0]) hM Nl ha hb hA hB (sb h6 ob1) (sb h8 Dh) (fun ρ=>by simp [conc,It.cs]) (fun ρ=>by simp [conc,It.cs])
       (fun b1 b2 kN=>zgq u x h0 h1 h2 b1 b2 kN) (fun q1 q2 h1 h2=>?_) (s:=.tup []) rfl
      have c2:v2=mo q1 0:=by
       have:AV.val ρ ⟨false,[.p a 0]⟩=some (mo q1 0):=AV.val_mk (by simp [It.cs,Rho.at_own ha,h1])
       rw [this] at e3;cases e3;rfl
      have c4:v4=mo q2 0:=by
       have:AV.val ρ ⟨false,[.p b 0]⟩=some (mo q2 0):=AV.val_mk (by simp [It.cs,Rho.at_own hb,h2])
       rw [this] at e7;cases e7;rfl
      rw [c2,c4]
     ·cases af
    ·cases af
   ·cases af
  ·cases af
 ·cases af
def dC:Fn1:=match fJ 55 with
 | some d=>d
 | none=>⟨.skip,[],0⟩
theorem zsx:FnOk Tryz.prog 55 dC:=aB _ _ (by kernel_rfl)
def inC:List AV:=[⟨false,[.s 16 0 6 6]⟩,⟨false,[.s 17 0 6 6]⟩]
def Sy(u x:Nat)(h:List (Nat×Bool)):Option Out:=rF bh (jw bh (aA Gu) fJ 1000 6) 1000 dC inC (Dr [.w 6 u] [.w 6 x]) 18 h
def i64(n:Int):SV:=.one ⟨false,[.v (.int .i64 n)]⟩
def eqO(u x j:Nat)(b:Bool):Prop:=((dg u j:Nat):Int)=((dg x j:Nat):Int)↔b=true
def ltO(u x j:Nat)(b:Bool):Prop:=((dg u j:Nat):Int)<((dg x j:Nat):Int)↔b=true
def zNA(n:Nat)(b:Bool):List (Nat×Bool):=aap n (27,true)++[(27,false),(31,b)]
def FK(b:Bool):Int:=match b with
 | true=>-1
 | false=>1
def uU(n:Nat):Prop:=∀ (u x:Nat) (b:Bool),Sy u x (zNA n b)=some { val:=i64 (FK b),wr:=[],news:=[],ob:=(aan n).map (fun j=>eqO u x (5-j) true)++[eqO u x (5-n) false,ltO u x (5-n) b] }
theorem zNH:uU 0:=by intro u x b;cases b<;>kernel_rfl
theorem zNG:uU 1:=by intro u x b;cases b<;>kernel_rfl
theorem zNF:uU 2:=by intro u x b;cases b<;>kernel_rfl
theorem zNE:uU 3:=by intro u x b;cases b<;>kernel_rfl
theorem zND:uU 4:=by intro u x b;cases b<;>kernel_rfl
theorem zNC:uU 5:=by intro u x b;cases b<;>kernel_rfl
theorem zNB(u x:Nat):Sy u x (aap 6 (27,true))=some { val:=i64 0,wr:=[],news:=[],ob:=(aan 6).map (fun j=>eqO u x (5-j) true) }:=by kernel_rfl
theorem zNz(n:Nat)(h:n<6):uU n:=by
 have:n=0∨n=1∨n=2∨n=3∨n=4∨n=5:=by omega
 rcases this with rfl|rfl|rfl|rfl|rfl|rfl
 ·exact zNH
 ·exact zNG
 ·exact zNF
 ·exact zNE
 ·exact zND
 ·exact zNC
def jG(u x:Nat):Int:=if u<x then -1 else if u=x then 0 else 1
theorem s9{a b:Nat}(h:a<b):jG a b=-1:=if_pos h
theorem s_{a b:Nat}(h:b<a):jG a b=1:=by unfold jG;rw [if_neg (by omega),if_neg (by omega)]
theorem xA(a:Nat):jG a a=0:=by unfold jG;rw [if_neg (by omega),if_pos rfl]
theorem zhL(a b c:Nat):jG (a+c) (b+c)=jG a b:=by
 rcases adK a b with h|h|h
 ·rw [s9 h,s9 (by omega)]
 ·rw [h,xA,xA]
 ·rw [s_ h,s_ (by omega)]
theorem zhK{u x:Nat}:∀ m,m≤6→(∀ j,m≤j→j<6→dg u j=dg x j)→∃ (h:List (Nat×Bool)) (ob:List Prop),Sy u x h=some { val:=i64 (jG (num (dg u) m) (num (dg x) m)),wr:=[],news:=[],ob:=ob }∧∀ p∈ob,p:=by
 intro m
 induction m with
 | zero=>
  intro _ heq
  refine ⟨_,_,zNB u x,fun p hp=>?_⟩
  obtain ⟨j,hj,rfl⟩:=aaY.1 hp
  have hj:j<6:=by simpa using hj
  have:=heq (5-j) (by omega) (by omega)
  unfold eqO;rw [this];simp
 | succ m ih=>
  intro hm heq
  have hu:num (dg u) m<pw m:=n_ m fun i _=>eQ u i
  have hx:num (dg x) m<pw m:=n_ m fun i _=>eQ x i
  by_cases h:dg u m=dg x m
  ·obtain ⟨hh,ob,h1,h2⟩:=ih (by omega) fun j h1 h2=>by
    by_cases e:j=m
    ·rw [e];exact h
    ·exact heq j (by omega) h2
   refine ⟨hh,ob,?_,h2⟩
   have:jG (num (dg u) (m+1)) (num (dg x) (m+1))=jG (num (dg u) m) (num (dg x) m):=by
    show jG (num (dg u) m+dg u m*pw m) (num (dg x) m+dg x m*pw m)=_
    rw [h,zhL]
   rw [this];exact h1
  ·have eN:=zNz (5-m) (by omega) u x (decide (dg u m<dg x m))
   have e5:5-(5-m)=m:=by omega
   rw [e5] at eN
   have hv:FK (decide (dg u m<dg x m))=jG (num (dg u) (m+1)) (num (dg x) (m+1)):=by
    show _=jG (num (dg u) m+dg u m*pw m) (num (dg x) m+dg x m*pw m)
    by_cases hl:dg u m<dg x m
    ·have hb:(dg u m+1)*pw m≤dg x m*pw m:=aaI _ hl
     rw [aaD,abh] at hb
     rw [s9 (by omega),decide_eq_true hl];rfl
    ·have hb:(dg x m+1)*pw m≤dg u m*pw m:=aaI _ (by omega)
     rw [aaD,abh] at hb
     rw [s_ (by omega),decide_eq_false hl];rfl
   rw [hv] at eN
   refine ⟨_,_,eN,fun p hp=>?_⟩
   simp only [aaw,aae,aad,or_false] at hp
   rcases hp with hp|rfl|rfl
   ·obtain ⟨j,hj,rfl⟩:=aaY.1 hp
    have hj:j<5-m:=by simpa using hj
    have:=heq (5-j) (by omega) (by omega)
    unfold eqO;rw [this];simp
   ·unfold eqO
    have:((dg u m:Nat):Int)≠((dg x m:Nat):Int):=by omega
    simp [this]
   ·unfold ltO
    rw [decide_eq_true_iff];omega
theorem zon(u x:Nat)(hu:u<M6)(hx:x<M6)(b1 b2:Nat)(kN:b1≠b2):
  Two Tryz.prog 55 [.slice (some ⟨b1,0,none⟩) 6 6,.slice (some ⟨b2,0,none⟩) 6 6] b1 b2 (au 6 u) (au 6 x) (au 6 u) (au 6 x) (.int .i64 (jG u x)):=by
 obtain ⟨h,ob,h1,h2⟩:=zhK (u:=u) (x:=x) 6 (by omega) (fun j hj Vn=>by omega)
 rw [pV hu,pV hx] at h1
 have hA:conc (cZ b1 b2) [.w 6 u]=some (au 6 u):=by simp [conc,It.cs]
 have hB:conc (cZ b1 b2) [.w 6 x]=some (au 6 x):=by simp [conc,It.cs]
 refine tZ kN hA hB (A':=[.w 6 u]) (B':=[.w 6 x]) (fun ρ us h=>by simp [conc,It.cs] at h;exact h.symm) (fun ρ us h=>by simp [conc,It.cs] at h;exact h.symm) fun w hM=>?_
 have hv:ay (cZ b1 b2) inC=some [.slice (some ⟨b1,0,none⟩) 6 6,.slice (some ⟨b2,0,none⟩) 6 6]:=by
  have e2:AV.val (cZ b1 b2) ⟨false,[.s 16 0 6 6]⟩=some (.slice (some ⟨b1,0,none⟩) 6 6):=AV.val_mk (by simp [It.cs,cZ])
  have e4:AV.val (cZ b1 b2) ⟨false,[.s 17 0 6 6]⟩=some (.slice (some ⟨b2,0,none⟩) 6 6):=AV.val_mk (by simp [It.cs,cZ])
  simp only [inC,ay,e2,e4]
 refine .inr ⟨zsx.enter _ _,(fB an ab (dd an ab (ap vP) aB 1000 6) zsx h1 h2 hv hM).mono ?_⟩
 rintro e w' ⟨v,rfl,ρ',hE,hval,Bg⟩
 refine ⟨v,rfl,?_,ρ',Dr [.w 6 u] [.w 6 x],hE,Bg.ok,rfl,rfl⟩
 have:(i64 (jG u x)).val ρ'=some (.int .i64 (jG u x)):=AV.val_v (ρ:=ρ') (x:=.int .i64 (jG u x)) rfl
 rw [this] at hval
 cases hval;rfl
def zoo:CallT:=fun f args m _=>match f==55 with
 | true=>match args with
  | [⟨false,[.s a 0 6 6]⟩,⟨false,[.s b 0 6 6]⟩]=>match m.blk a,m.blk b with
   | some A,some B=>match xG A,xG B with
    | some (u,ob),some (x,jW)=>match (a != b&&(own a&&own b)) with
     | true=>some { val:=i64 (jG u x),wr:=[(a,[.w 6 u]),(b,[.w 6 x])],news:=[],ob:=(u<M6∧x<M6)::(ob++jW) }
     | false=>none
    | _,_=>none
   | _,_=>none
  | _=>none
 | false=>none
theorem VJ:ag Tryz.prog zoo:=by
 intro f args m nid out af ax ρ w vs hv hM df
 unfold zoo at af
 split at af
 ·rename_i hf
  rw [beq_iff_eq] at hf
  subst hf
  split at af
  ·rename_i a b
   split at af
   ·rename_i A B hA hB
    split at af
    ·rename_i u ob x jW h6 h8
     split at af
     ·rename_i hc
      cases af
      simp only [aaf,bne_iff_ne,ne_eq] at hc
      obtain ⟨Nl,ha,hb⟩:=hc
      obtain ⟨h1,h2⟩:=ax _ (aac)
      have ob1:∀ p∈ob,p:=fun p hp=>ax p (aaa _ (aau _ hp))
      have Dh:∀ p∈jW,p:=fun p hp=>ax p (aaa _ (aaq _ hp))
      obtain ⟨v2,r2,e3,e4,rfl⟩:=aj hv
      obtain ⟨v4,r4,e7,e8,rfl⟩:=aj e4
      cases e8
      refine Cl (args:=fun q1 q2=>[.slice (some ⟨q1.1,q1.2,none⟩) 6 6,.slice (some ⟨q2.1,q2.2,none⟩) 6 6]) hM Nl ha hb hA hB (sb h6 ob1) (sb h8 Dh) (fun ρ=>by simp [conc,It.cs]) (fun ρ=>by simp [conc,It.cs])
       (fun b1 b2 kN=>zon u x h1 h2 b1 b2 kN) (fun q1 q2 h1 h2=>?_) (s:=i64 (jG u x)) (AV.val_v (ρ:=rho0) (x:=.int .i64 (jG u x)) rfl)
      have c2:v2 = .slice (some ⟨q1.1,q1.2,none⟩) 6 6:=by
       have:AV.val ρ ⟨false,[.s a 0 6 6]⟩=some (.slice (some ⟨q1.1,q1.2,none⟩) 6 6):=AV.val_mk (by simp [It.cs,Rho.at_own ha,h1])
       rw [this] at e3;cases e3;rfl
      have c4:v4 = .slice (some ⟨q2.1,q2.2,none⟩) 6 6:=by
       have:AV.val ρ ⟨false,[.s b 0 6 6]⟩=some (.slice (some ⟨q2.1,q2.2,none⟩) 6 6):=AV.val_mk (by simp [It.cs,Rho.at_own hb,h2])
       rw [this] at e7;cases e7;rfl
      rw [c2,c4]
     ·cases af
    ·cases af
   ·cases af
  ·cases af
 ·cases af
def Std(a u x:Nat):Prop:=u%pN=x*a%pN
theorem Q7:pN%2=1:=by decide +kernel
def Nk:Nat:=(pN+1)/2
theorem Nj:2*Nk%pN=1:=by decide +kernel
theorem zou{x y:Nat}(h:2*x%pN=2*y%pN):x%pN=y%pN:=by
 have h2:Nk*(2*x)%pN=Nk*(2*y)%pN:=by rw [abb,h,←abb]
 rw [←aaA,←aaA,aar Nk 2,abb,Nj,abh,acp,abb (2*Nk) y,Nj,abh,acp] at h2
 exact h2
theorem Vi{x:Nat}(h:x<pN):hv x<pN∧2*hv x%pN=x%pN:=by
 have ho:=Q7
 unfold hv
 split
 ·rename_i e
  have:2*(x/2)=x:=by omega
  exact ⟨by omega,by rw [this]⟩
 ·rename_i e
  have:2*((x+pN)/2)=x+pN:=by omega
  exact ⟨by omega,by rw [this,aee]⟩
theorem Std.half{a u x:Nat}(h:Std a u x)(he:u%2=0)(hx:x<pN):Std a (u/2) (hv x):=by
 unfold Std at *
 apply zou
 have e1:2*(u/2)=u:=by omega
 rw [e1,h,←aaA,abb x,←(Vi hx).2,←abb]
structure EvOut(a u u' x':Nat):Prop where
 pos:0<u'
 le:u'≤u
 dvd:u' ∣ u
 odd:u'%2=1
 lt:x'<pN
 std:Std a u' x'
theorem znJ{a:Nat}:∀ n u x,0<u→u<2^n→x<pN→Std a u x→EvOut a u (ev n u x).1 (ev n u x).2:=by
 intro n
 induction n with
 | zero=>intro u x h0 h1;simp at h1;omega
 | succ n ih=>
  intro u x h0 h1 hx hs
  rw [ev]
  by_cases he:u%2=0
  ·have e:(u%2==0)=true:=by simpa using he
   rw [e]
   have hp:u/2<2^n:=by rw [Nat.pow_succ] at h1;omega
   have:=ih (u/2) (hv x) (by omega) hp (Vi hx).1 (hs.half he hx)
   exact ⟨this.pos,Nat.le_trans this.le (Nat.div_le_self _ _),acK this.dvd ⟨2,by omega⟩,this.odd,this.lt,this.std⟩
  ·have e:(u%2==0)=false:=by simpa using he
   rw [e]
   exact ⟨h0,Nat.le_refl _,Nat.dvd_refl _,by show u%2=1;omega,hx,hs⟩
theorem zgt(k:Nat){a u x:Nat}(h0:0<u)(h1:u<pw k)(hx:x<pN)(hs:Std a u x):EvOut a u (ev (64*k) u x).1 (ev (64*k) u x).2:=znJ (64*k) u x h0 h1 hx hs
theorem oZ{a u x:Nat}(h0:0<u)(h1:u<M6)(hx:x<pN)(hs:Std a u x):EvOut a u (f_ u x).1 (f_ u x).2:=zgt 6 h0 h1 hx hs
theorem vT{x:Nat}(h:x<pN):rd x=x:=by
 have:pN<M6:=mq
 have h2:x<M6:=aaW h this
 unfold rd;rw [aah h2,aah h]
theorem zke{x y:Nat}(hx:x<pN)(hy:y<pN):yh x y=(x+(pN-y))%pN:=by
 have h2:E_ y%pN=(pN-y)%pN:=by unfold E_;rw [vT hy,acp]
 have h3:E_ y<pN:=aaH _ iz
 unfold yh O9
 rw [vT hx,vT h3,abl,h2,←abl]
theorem TM(x y:Nat):yh x y<pN:=aaH _ iz
theorem Std.sub{a u v x y:Nat}(hu:Std a u x)(hv:Std a v y)(hx:x<pN)(hy:y<pN)(hvu:v≤u):Std a (u-v) (yh x y):=by
 unfold Std at *
 rw [zke hx hy]
 have key:(u-v+v)%pN=((x+(pN-y))%pN*a+y*a)%pN:=by
  rw [Nat.sub_add_cancel hvu,hu,abl,Nat.mod_mul_mod,←abl,←aaD]
  have:x+(pN-y)+y=x+pN:=by omega
  rw [this,aaD,aar pN,Nat.add_mul_mod_self_right]
 have k2:(u-v+v)%pN=(u-v+y*a)%pN:=by rw [abl,hv,←abl]
 rw [k2] at key
 have cancel:∀ p q r:Nat,(p+r)%pN=(q+r)%pN→p%pN=q%pN:=by
  intro p q r h
  have hr:=aaH r iz
  have h2:(p+r+(pN-r%pN))%pN=(q+r+(pN-r%pN))%pN:=by rw [abl,h,←abl]
  have e:∀ z,(z+r+(pN-r%pN))%pN=z%pN:=by
   intro z
   have:z+r+(pN-r%pN)=z+pN*(r/pN)+pN:=by
    have:=Nat.div_add_mod r pN
    omega
   rw [this,aee,Nat.add_mul_mod_self_left]
  rw [e,e] at h2
  exact h2
 exact cancel _ _ _ key
structure InvI(a u v x y:Nat):Prop where
 upos:0<u
 vpos:0<v
 ult:u<M6
 vlt:v<M6
 xlt:x<pN
 ylt:y<pN
 us:Std a u x
 vs:Std a v y
 gcd:acD u v=1
theorem DS{u v u' v':Nat}(h:acD u v=1)(hu:u' ∣ u)(hv:v' ∣ v):acD u' v'=1:=by
 have h1:acD u' v' ∣ acD u v:=Nat.dvd_gcd (acK (Nat.gcd_dvd_left _ _) hu) (acK (Nat.gcd_dvd_right _ _) hv)
 rw [h] at h1
 exact Nat.dvd_one.1 h1
theorem InvI.gt{a u v x y:Nat}(h:InvI a u v x y)(ho:¬(f_ u x).1=1)(hle:(f_ v y).1≤(f_ u x).1):InvI a ((f_ u x).1-(f_ v y).1) (f_ v y).1 (yh (f_ u x).2 (f_ v y).2) (f_ v y).2∧(f_ u x).1-(f_ v y).1+(f_ v y).1<u+v:=by
 have eu:=oZ h.upos h.ult h.xlt h.us
 have N_:=oZ h.vpos h.vlt h.ylt h.vs
 have hg:=DS h.gcd eu.dvd N_.dvd
 have hu:=h.ult;have hv:=h.vlt;have hv0:=h.vpos
 have u1:=eu.le;have v1:=N_.le;have u0:=eu.pos;have v0:=N_.pos
 have kN:(f_ u x).1≠(f_ v y).1:=by
  intro e
  rw [←e,Nat.gcd_self] at hg
  exact ho hg
 refine ⟨⟨by omega,v0,by omega,by omega,TM _ _,N_.lt,eu.std.sub N_.std eu.lt N_.lt hle,N_.std,?_⟩,by omega⟩
 rw [Nat.gcd_sub_self_left hle,hg]
theorem InvI.lt{a u v x y:Nat}(h:InvI a u v x y)(hlt:(f_ u x).1<(f_ v y).1):InvI a (f_ u x).1 ((f_ v y).1-(f_ u x).1) (f_ u x).2 (yh (f_ v y).2 (f_ u x).2)∧(f_ u x).1+((f_ v y).1-(f_ u x).1)<u+v:=by
 have eu:=oZ h.upos h.ult h.xlt h.us
 have N_:=oZ h.vpos h.vlt h.ylt h.vs
 have hg:=DS h.gcd eu.dvd N_.dvd
 have hu:=h.ult;have hv:=h.vlt;have hu0:=h.upos
 have u1:=eu.le;have v1:=N_.le;have u0:=eu.pos;have v0:=N_.pos
 refine ⟨⟨u0,by omega,by omega,by omega,eu.lt,TM _ _,eu.std,N_.std.sub eu.std N_.lt eu.lt (by omega),?_⟩,by omega⟩
 rw [Nat.gcd_sub_self_right (by omega),hg]
def IsInv(a r:Nat):Prop:=r<pN∧r*a%pN=1
theorem IsInv.unique{a r s:Nat}(h:IsInv a r)(k:IsInv a s):r=s:=by
 obtain ⟨h1,h2⟩:=h
 obtain ⟨k1,k2⟩:=k
 have e:r*a*s%pN=s*a*r%pN:=by rw [Nat.mul_right_comm];congr 1;rw [aar (r*s),aar s a,aaA,aar r s]
 rw [abb,h2,abb (s*a),k2,abh,abh,acp,acp,aah h1,aah k1] at e
 exact e.symm
theorem Ut:1%pN=1:=by decide +kernel
theorem xb{a x:Nat}(h:Std a 1 x)(hx:x<pN):IsInv a x:=⟨hx,by unfold Std at h;rw [←h,Ut]⟩
open Classical in
def MS(a:Nat):Nat:=if h:∃ r,IsInv (rd a) r then h.choose else 0
theorem Vc{a r:Nat}(h:IsInv (rd a) r):MS a=r:=by
 unfold MS
 rw [dif_pos ⟨r,h⟩]
 exact (Exists.choose_spec ⟨r,h⟩:IsInv (rd a) _).unique h
theorem G5{a:Nat}(h:rd a=0):MS a=0:=by
 unfold MS
 rw [dif_neg]
 rintro ⟨r,_,hr⟩
 rw [h,Nat.mul_zero,abg] at hr
 omega
theorem Ry{a:Nat}(h0:rd a≠0)(hg:acD (rd a) pN=1):InvI (rd a) (rd a) pN 1 0:=by
 have:=lW a
 have hp:pN<M6:=mq
 refine ⟨by omega,iz,by omega,hp,by omega,iz,?_,?_,hg⟩
 ·unfold Std;rw [abh]
 ·unfold Std;rw [abi,Nat.mod_self,abg]
end Go.Proofs.YtcafpgpahbplaaaGreat
namespace Go.Proofs.YtcafpgpahbplaaaGreat
open Go Go.Eng Go.RowKit Go.Wd
theorem Yk(u v:Nat):aK (aA Gu) 103 [W6 u,W6 v] []=some (.one ⟨true,(aan 6).map fun j=>.v (.int .u64 ((bd (dg u) (dg v) j:Nat):Int))⟩,(aan 6).map (F3 (dg u) (dg v))):=by kernel_rfl
theorem Ri(u v:Nat)(hu:u<M6)(hvu:v≤u):bj Tryz.prog 103 [.agg (au 6 u).toArray,.agg (au 6 v).toArray] (.agg (au 6 (u-v)).toArray):=by
 have hs:=Rc (x:=dg u) (y:=dg v) 6 (fun i _=>eQ _ _) (fun i _=>eQ _ _)
 rw [pV hu,pV (ab0 hvu hu)] at hs
 have hl:num (bd (dg u) (dg v)) 6<M6:=n_ (d:=bd (dg u) (dg v)) 6 fun i _=>Hy _ _ i
 have hb:=OV (dg u) (dg v) 6
 have hc:bw (dg u) (dg v) 6=0:=by
  rcases Nat.eq_zero_or_pos (bw (dg u) (dg v) 6) with h|h
  ·exact h
  ·have h1:bw (dg u) (dg v) 6=1:=by omega
   rw [h1,abh] at hs
   have e:M6=pw 6:=rfl
   omega
 rw [hc,abi,aaN] at hs
 have hn:num (bd (dg u) (dg v)) 6=u-v:=by omega
 refine bi (ap vP) (Yk u v) ?_ (by simp only [ay,iY]) fun ρ z hz=>?_
 ·intro q hq
  obtain ⟨i,_,rfl⟩:=aaY.1 hq
  exact vp _ _ _
 ·have hz:AV.val ρ ⟨true,(aan 6).map fun j=>.v (.int .u64 ((bd (dg u) (dg v) j:Nat):Int))⟩=some z:=hz
  obtain ⟨ws,h1,rfl⟩:=pB hz
  have e3:((aan 6).map fun j=>It.v (.int .u64 ((bd (dg u) (dg v) j:Nat):Int)))=((aan 6).map fun j=>Value.int .u64 ((bd (dg u) (dg v) j:Nat):Int)).map It.v:=by rw [abm];rfl
  rw [e3,iU ρ _ (fun v hv=>by obtain ⟨i,_,rfl⟩:=aaY.1 hv;rfl),←ld 6 (fun i _=>Hy _ _ i),hn] at h1
  cases h1;rfl
def Dm:Row where
 f:=103
 ans:=fun
  | [⟨true,l⟩,⟨true,m⟩]=>match xG l,xG m with
   | some (n,ob),some (n',jW)=>some (.one (W6 (n-n')),(n<M6∧n'≤n)::(ob++jW))
   | _,_=>none
  | _=>none
theorem Mw:bE Tryz.prog Dm:=by
 intro args s ob ha ax ρ vs hv
 unfold Dm at ha
 simp only at ha
 split at ha
 ·rename_i l m
  split at ha
  ·rename_i n ob1 n' Dh hn hm
   cases ha
   obtain ⟨h1',h2'⟩:=ax _ (aac)
   obtain ⟨v1,us,h1,h2,rfl⟩:=aj hv
   obtain ⟨v2,ov,h3,h4,rfl⟩:=aj h2
   cases h4
   obtain ⟨ws,hw,rfl⟩:=pB h1
   obtain ⟨ws',hw',rfl⟩:=pB h3
   have e:=n6 hn (fun p hp=>ax p (aaa _ (aau _ hp))) hw
   have e':=n6 hm (fun p hp=>ax p (aaa _ (aaq _ hp))) hw'
   subst e;subst e'
   exact ⟨_,iY rho0 _,Ri n n' h1' h2'⟩
  ·cases ha
 ·cases ha
def Z4:Fn1:=match fJ 64 with
 | some d=>d
 | none=>⟨.skip,[],0⟩
theorem zhv:FnOk Tryz.prog 64 Z4:=aB _ _ (by kernel_rfl)
def TB(q:Nat):CallT:=jV (aA (zc5 q::Dm::Gu)) (jV zgs zoo)
theorem zG7(q:Nat):ag Tryz.prog (TB q):=aT (ap (by simp only [aab];exact ⟨zrk q,Mw,vP⟩)) (aT zgr VJ)
def EB(q:Nat):Eng:={ tab:=bh,call:=jw bh (TB q) fJ 1000 6,N:=47 }
theorem Hs(q:Nat):ag Tryz.prog (EB q).call:=dd an ab (zG7 q) aB 1000 6
theorem WS(q:Nat):∀ t d,(EB q).tab t=some d→TyOk Tryz.prog t d:=ab
def cB1:Code:=bJ Z4.body
def cB2:Code:=bJ (aJ Z4.body)
def cB3:Code:=bJ (aJ (aJ Z4.body))
def cB4:Code:=bJ (aJ (aJ (aJ Z4.body)))
def cB5:Code:=bJ (aJ (aJ (aJ (aJ Z4.body))))
def cBL:Code:=gw (dh (aJ (aJ (aJ (aJ (aJ Z4.body))))))
theorem OA:Z4.body = .seq cB1 (.seq cB2 (.seq cB3 (.seq cB4 (.seq cB5 (.block 0 (.loop cBL)))))):=by kernel_rfl
theorem zM:Z4.ntmps=47:=by kernel_rfl
theorem Oz:Z4.results=[.cell 2 27]:=by kernel_rfl
def wy:List It:=[.v (.int .u64 1),.v (.int .u64 0),.v (.int .u64 0),.v (.int .u64 0),.v (.int .u64 0),.v (.int .u64 0)]
def stB(r:Nat)(u v:Nat)(x:List It)(y:Nat)(o:List It):St:=[(4,jy 17),(6,jy 21),(8,jy 22),(10,jy 27),(12,jy 28),(14,jy 35),(35,.bl [.w 6 r]),(43,.bl [.w 6 u]),(45,.bl [.w 6 v]),(55,.bl x),(57,.bl [.w 6 y]),(71,.bl o)]
def W7(u v x y:Nat):St:=stB 0 u v [.w 6 x] y [.w 6 1]
def ZW(r:Nat):St:=[(4,jy 17),(35,.bl [.w 6 r])]
def inB(a:Nat):St:=aW 0 [W6 a] (47 - [W6 a].length)++[]
def Tl(a:Nat)(b:Bool):Prop:=aV [.w 6 (rd a)]=aV [.w 6 0]↔b=true
def Dd(n:Nat)(b:Bool):Prop:=aV [.w 6 n]=aV [.w 6 1]↔b=true
theorem zLQ(a q:Nat):probes (EB q) 100 [cB1,cB2,cB3,cB4] (inB a) 16 [(15,true)] ((ZW (rd a)).map (·.1))=some (1,[q=pN,Tl a true],(ZW (rd a)).map fun p=>some p.2):=by kernel_rfl
theorem zLR(a q:Nat):probes (EB q) 100 [cB1,cB2,cB3,cB4,cB5] (inB a) 16 [(15,false)] ((stB 0 (rd a) q wy 0 wy).map (·.1))=some (0,[q=pN,Tl a false],(stB 0 (rd a) q wy 0 wy).map fun p=>some p.2):=by kernel_rfl
def evO(u x v y:Nat):List Prop:=[0<u∧u<M6∧x<M6,0<v∧v<M6∧y<M6]
theorem zLU(u v x y:Nat):probe (EB 0) 100 cBL (W7 u v x y) 40 [(29,true)] ((ZW (f_ u x).2).map (·.1))=some (1,evO u x v y++[Dd (f_ u x).1 true],(ZW (f_ u x).2).map fun p=>some p.2):=by kernel_rfl
theorem inv2(u v x y:Nat):probe (EB 0) 100 cBL (W7 u v x y) 40 [(29,false),(34,true)] ((ZW (f_ v y).2).map (·.1))=some (1,evO u x v y++[Dd (f_ u x).1 false,Dd (f_ v y).1 true],(ZW (f_ v y).2).map fun p=>some p.2):=by kernel_rfl
def ztR(u v x y:Nat):St:=W7 ((f_ u x).1-(f_ v y).1) (f_ v y).1 (yh (f_ u x).2 (f_ v y).2) (f_ v y).2
def ztQ(u v x y:Nat):St:=W7 (f_ u x).1 ((f_ v y).1-(f_ u x).1) (f_ u x).2 (yh (f_ v y).2 (f_ u x).2)
def zop(u x v y:Nat)(b:Bool):List Prop:=[(f_ u x).1<M6∧(f_ v y).1<M6,jG (f_ u x).1 (f_ v y).1≥0↔b=true]
theorem zLT(u v x y:Nat):probe (EB 0) 100 cBL (W7 u v x y) 40 [(29,false),(34,false),(40,true)] ((ztR u v x y).map (·.1)) =
 some (0,evO u x v y++[Dd (f_ u x).1 false,Dd (f_ v y).1 false]++zop u x v y true++[(f_ u x).1<M6∧(f_ v y).1≤(f_ u x).1],(ztR u v x y).map fun p=>some p.2):=by kernel_rfl
theorem zLS(u v x y:Nat):probe (EB 0) 100 cBL (W7 u v x y) 40 [(29,false),(34,false),(40,false)] ((ztQ u v x y).map (·.1)) =
 some (0,evO u x v y++[Dd (f_ u x).1 false,Dd (f_ v y).1 false]++zop u x v y false++[(f_ v y).1<M6∧(f_ u x).1≤(f_ v y).1],(ztQ u v x y).map fun p=>some p.2):=by kernel_rfl
theorem Su:Z4.body=gG [cB1,cB2,cB3,cB4] (.seq cB5 (.block 0 (.loop cBL))):=OA
theorem Ss:Z4.body=gG [cB1,cB2,cB3,cB4,cB5] (.block 0 (.loop cBL)):=OA
theorem Uh(r:Nat):cO bh (ZW r) [.cell 2 27]=some [W6 r]:=by kernel_rfl
theorem dP(l:List Nat):∀ id q,rho0 id=some q→id∈l:=fun id q h=>by cases h
theorem Dx(r:Nat):aw (ZW r) [17]=true:=by kernel_rfl
theorem YA(u v x y:Nat):aw (ztR u v x y) [17,21,22,27,28,35]=true:=by kernel_rfl
theorem Yz(u v x y:Nat):aw (ztQ u v x y) [17,21,22,27,28,35]=true:=by kernel_rfl
theorem zep(u v:Nat):aw (stB 0 u v wy 0 wy) [17,21,22,27,28,35]=true:=by kernel_rfl
theorem Ko(r:Nat):∀ id∈[17],∃ l,(ZW r).blk id=some l:=by
 intro id cl
 simp only [aae,aad,or_false] at cl
 subst cl
 exact ⟨_,rfl⟩
theorem Kp(r u v:Nat)(x:List It)(y:Nat)(o:List It):∀ id∈[17,21,22,27,28,35],∃ l,(stB r u v x y o).blk id=some l:=by
 intro id cl
 simp only [aae,aad,or_false] at cl
 rcases cl with rfl|rfl|rfl|rfl|rfl|rfl<;>exact ⟨_,rfl⟩
theorem zau(n m:Nat):aV [.w 6 n]=aV [.w 6 m]↔n%M6=m%M6:=by
 simp only [aV,aaP]
 constructor
 ·intro h;exact sm h
 ·intro h;rw [←jA 6 n,←jA 6 m];unfold M6 at h;rw [h]
theorem wx{n:Nat}(h:n<M6)(b:Bool):Dd n b↔(n=1↔b=true):=by
 have hp:pN<M6:=mq
 have h1:1<M6:=by have:=Ut;have:=Q7;have:=iz;omega
 unfold Dd
 rw [zau,aah h,aah h1]
theorem FO(a:Nat)(b:Bool):Tl a b↔(rd a=0↔b=true):=by
 have hp:pN<M6:=mq
 have:=lW a
 unfold Tl
 rw [zau,aah (aaW this hp),abg]
theorem VK(a b:Nat):jG a b≥0↔b≤a:=by
 rcases adK a b with h|h|h
 ·rw [s9 h];omega
 ·rw [h,xA];omega
 ·rw [s_ h];omega
theorem zCJ{a:Nat}{w0:World}{Q:Exit→Act→World→Prop}(hQ:∀ r a' w,IsInv a r→At 47 rho0 w0 (ZW r) a' w→Q .ret a' w){u v x y:Nat}(hI:InvI a u v x y){b:Act}{w:World}(hA:At 47 rho0 w0 (W7 u v x y) b w):(Code.loop cBL).wp Tryz.prog Q b w:=by
 refine dG (ι:=Nat×Nat×Nat×Nat) (fun p=>InvI a p.1 p.2.1 p.2.2.1 p.2.2.2) (fun p=>W7 p.1 p.2.1 p.2.2.1 p.2.2.2) (fun p=>p.1+p.2.1) ?_ (u,v,x,y) hI b w hA
 rintro ⟨u,v,x,y⟩ hI b w hA
 have hI:InvI a u v x y:=hI
 have hA:At 47 rho0 w0 (W7 u v x y) b w:=hA
 have eu:=oZ hI.upos hI.ult hI.xlt hI.us
 have N_:=oZ hI.vpos hI.vlt hI.ylt hI.vs
 have hp:pN<M6:=mq
 have lu:(f_ u x).1<M6:=ab0 eu.le hI.ult
 have lv:(f_ v y).1<M6:=ab0 N_.le hI.vlt
 have jL:∀ q∈evO u x v y,q:=by
  intro q hq
  simp only [evO,aae,aad,or_false] at hq
  rcases hq with rfl|rfl
  ·exact ⟨hI.upos,hI.ult,aaW hI.xlt hp⟩
  ·exact ⟨hI.vpos,hI.vlt,aaW hI.ylt hp⟩
 by_cases h1:(f_ u x).1=1
 ·refine At.probe (E:=EB 0) an (WS 0) (Hs 0) (zLU u v x y) (fun q hq=>?_) hA [17] (Ko _) (Dx _) (dP _) fun a' w' bY=>hQ _ a' w' (xb (h1 ▸ eu.std) eu.lt) bY
  rcases aaw.1 hq with hq|hq
  ·exact jL q hq
  ·simp only [aae,aad,or_false] at hq
   subst hq;rw [wx lu];simp [h1]
 ·have o1:Dd (f_ u x).1 false:=by rw [wx lu];simp [h1]
  by_cases h2:(f_ v y).1=1
  ·refine At.probe (E:=EB 0) an (WS 0) (Hs 0) (inv2 u v x y) (fun q hq=>?_) hA [17] (Ko _) (Dx _) (dP _) fun a' w' bY=>hQ _ a' w' (xb (h2 ▸ N_.std) N_.lt) bY
   rcases aaw.1 hq with hq|hq
   ·exact jL q hq
   ·simp only [aae,aad,or_false] at hq
    rcases hq with rfl|rfl
    ·exact o1
    ·rw [wx lv];simp [h2]
  ·have o2:Dd (f_ v y).1 false:=by rw [wx lv];simp [h2]
   by_cases h3:(f_ v y).1≤(f_ u x).1
   ·obtain ⟨k1,k2⟩:=hI.gt h1 h3
    refine At.probe (E:=EB 0) an (WS 0) (Hs 0) (zLT u v x y) (fun q hq=>?_) hA [17,21,22,27,28,35] (Kp _ _ _ _ _ _) (YA _ _ _ _) (dP _) fun a' w' bY=>⟨((f_ u x).1-(f_ v y).1,(f_ v y).1,yh (f_ u x).2 (f_ v y).2,(f_ v y).2),k1,k2,bY⟩
    simp only [aaw,zop,aae,aad,or_false] at hq
    rcases hq with ((hq|rfl|rfl)|rfl|rfl)|rfl
    ·exact jL q hq
    ·exact o1
    ·exact o2
    ·exact ⟨lu,lv⟩
    ·rw [VK];simp [h3]
    ·exact ⟨lu,h3⟩
   ·obtain ⟨k1,k2⟩:=hI.lt (adk h3)
    refine At.probe (E:=EB 0) an (WS 0) (Hs 0) (zLS u v x y) (fun q hq=>?_) hA [17,21,22,27,28,35] (Kp _ _ _ _ _ _) (Yz _ _ _ _) (dP _) fun a' w' bY=>⟨((f_ u x).1,(f_ v y).1-(f_ u x).1,(f_ u x).2,yh (f_ v y).2 (f_ u x).2),k1,k2,bY⟩
    simp only [aaw,zop,aae,aad,or_false] at hq
    rcases hq with ((hq|rfl|rfl)|rfl|rfl)|rfl
    ·exact jL q hq
    ·exact o1
    ·exact o2
    ·exact ⟨lu,lv⟩
    ·rw [VK];simp [h3]
    ·exact ⟨lv,Nat.le_of_lt (adk h3)⟩
theorem GJ:∀ ρ vs,conc ρ wy=some vs→conc ρ [.w 6 1]=some vs:=by
 intro ρ vs h
 have:conc ρ ([Value.int .u64 1,.int .u64 0,.int .u64 0,.int .u64 0,.int .u64 0,.int .u64 0].map It.v)=some [Value.int .u64 1,.int .u64 0,.int .u64 0,.int .u64 0,.int .u64 0,.int .u64 0]:=iU ρ _ (by intro v hv;simp only [aae,aad,or_false] at hv;rcases hv with rfl|rfl|rfl|rfl|rfl|rfl<;>rfl)
 rw [show wy=[Value.int .u64 1,.int .u64 0,.int .u64 0,.int .u64 0,.int .u64 0,.int .u64 0].map It.v from rfl,this] at h
 cases h
 have e:au 6 1=[Value.int .u64 1,.int .u64 0,.int .u64 0,.int .u64 0,.int .u64 0,.int .u64 0]:=by kernel_rfl
 simp [conc,It.cs,e]
theorem Qr(u v:Nat):∀ k,match Eng.look (stB 0 u v wy 0 wy) k,Eng.look (W7 u v 1 0) k with | some c,some c'=>SameCt c c' | none,none=>True | _,_=>False:=by
 intro k
 by_cases e1:k=55
 ·subst e1;exact GJ
 ·by_cases e2:k=71
  ·subst e2;exact GJ
  ·have f1:(55==k)=false:=by simp;omega
   have f2:(71==k)=false:=by simp;omega
   have:Eng.look (stB 0 u v wy 0 wy) k=Eng.look (W7 u v 1 0) k:=by
    simp only [W7,stB,Eng.look,f1,f2]
    rfl
   rw [this]
   split
   ·rename_i a b e3 e4;rw [e3] at e4;cases e4;exact SameCt.refl _
   ·trivial
   ·rename_i h3 h4;cases h5:Eng.look (W7 u v 1 0) k with
    | none=>exact h4 h5 h5
    | some c=>exact h3 c c h5 h5
theorem ze7(a:Nat)(hg:rd a=0∨acD (rd a) pN=1):bj Tryz.prog 64 [.agg (au 6 a).toArray] (.agg (au 6 (MS a)).toArray):=by
 intro w
 refine .inr ⟨zhv.enter _ _,?_⟩
 have hv:ay rho0 [W6 a]=some [.agg (au 6 a).toArray]:=by simp only [ay,iY]
 refine (bX (G:=fun xs st=>xs=[W6 (MS a)]) ab zhv (wV w) (by kernel_rfl) hv (by rw [zM];simp) fun b c9=>?_).mono ?_
 ·rw [zM] at c9
  have c9:At 47 rho0 w (inB a) b w:=c9
  rw [zM,Oz]
  by_cases h0:rd a=0
  ·rw [Su]
   refine At.probes (E:=EB pN) an (WS pN) (Hs pN) (zLQ a pN) (fun q hq=>?_) c9 [17] (Ko _) (Dx _) (dP _) fun a' w' bY=>?_
   ·simp only [aae,aad,or_false] at hq
    rcases hq with rfl|rfl
    ·trivial
    ·rw [FO];simp [h0]
   ·rw [h0] at bY
    refine ⟨.inr rfl,ZW 0,[W6 0],bY,Uh 0,?_⟩
    rw [G5 h0]
  ·have hg':acD (rd a) pN=1:=hg.resolve_left h0
   rw [Ss]
   refine At.probes (E:=EB pN) an (WS pN) (Hs pN) (zLR a pN) (fun q hq=>?_) c9 [17,21,22,27,28,35] (Kp _ _ _ _ _ _) (zep _ _) (dP _) fun a' w' bY=>?_
   ·simp only [aae,aad,or_false] at hq
    rcases hq with rfl|rfl
    ·trivial
    ·rw [FO];simp [h0]
   ·show Code.wp _ _ _ _ _
    refine wp_block (zCJ (a:=rd a) (fun r a3 w3 hr h3=>?_) (Ry h0 hg') (bY.same (Qr _ _)))
    refine ⟨.inr rfl,ZW r,[W6 r],h3,Uh r,?_⟩
    rw [Vc hr]
 ·rintro e w' ⟨v,rfl,xs,st,ρ',hE,hval,Bg,rfl⟩
  refine ⟨v,rfl,?_,hE.below fun b ⟨id,_,_,hq⟩=>by cases hq⟩
  have:(W6 (MS a)).val ρ'=some v:=hval
  rw [iY] at this
  cases this;rfl
end Go.Proofs.YtcafpgpahbplaaaGreat
namespace Go.Proofs.YtcafpgpahbplaaaGreat
open Go Go.Eng Go.RowKit Go.Wd Go.Alg Go.Pr
instance :Pos pN:=⟨iz⟩
theorem oP:Prime pN:=zlf
abbrev F:=Z pN
def φ(n:Nat):F:=Z.of pN (rd n)
theorem oL{n:Nat}(h:n<pN):rd n=n:=vT h
theorem cM(z:F):φ z.val=z:=by unfold φ;rw [oL z.lt];exact Z.of_val z
theorem uo(n:Nat):rd n=(φ n).val:=(aah (lW n)).symm
theorem V8(m n:Nat):O9 m n=(φ m+φ n).val:=by
 show _=((rd m%pN)+(rd n%pN))%pN
 rw [aah (lW m),aah (lW n)];rfl
theorem I9(m n:Nat):zl3 m n=(φ m*φ n).val:=by
 show _=((rd m%pN)*(rd n%pN))%pN
 rw [aah (lW m),aah (lW n)];rfl
theorem UI(n:Nat):E_ n=(-φ n).val:=by
 show _=(pN-(rd n%pN))%pN
 rw [aah (lW n)];rfl
theorem zkc(m n:Nat):yh m n=(φ m-φ n).val:=by
 unfold yh
 rw [V8,UI,cM];rfl
instance :IsField F where
 ne:=by
  intro h
  have:1%pN=0%pN:=congrArg Z.val h
  revert this
  decide +kernel
 ex a ha:=⟨_,pZ oP a ha⟩
theorem zxg(n:Nat):rd n=0∨acD (rd n) pN=1:=by
 by_cases h:rd n=0
 ·exact .inl h
 ·right
  rw [Nat.gcd_comm]
  refine oP.coprime fun hd=>?_
  have:=Nat.le_of_dvd (by omega) hd
  have:=lW n
  omega
theorem zmZ(n:Nat):MS n=(inv (φ n)).val:=by
 by_cases h:rd n=0
 ·have e:φ n=0:=by unfold φ;rw [h];rfl
  rw [G5 h,e,iQ];rfl
 ·have hz:φ n≠0:=fun e=>h (by rw [uo,e];rfl)
  have h1:=bs hz
  refine Vc ⟨(inv (φ n)).lt,?_⟩
  have h2:((φ n).val*(inv (φ n)).val)%pN=1%pN:=congrArg Z.val h1
  rw [aar,uo,h2]
  decide +kernel
def w1(z:F):List It:=[.w 6 z.val]
theorem KT(x:F)(n:Nat)(h:n=x.val):au 6 n=au 6 x.val:=by rw [h]
def inU(x:Int):Bool:=match x with
 | .ofNat n=>Nat.blt n 18446744073709551616
 | _=>false
theorem oW{x:Int}(h:inU x=true):0≤x∧x<18446744073709551616:=by
 unfold inU at h
 split at h
 ·rename_i n
  have:n<18446744073709551616:=by simpa [Nat.blt_eq] using h
  constructor
  ·exact Int.natCast_nonneg n
  ·show (n:Int)<18446744073709551616
   omega
 ·cases h
def ZM:Nat→List It→Option (List Nat)
 | 0,[]=>some []
 | 0,_=>none
 | m+1,.w 6 n::l=>match ZM m l with
  | some r=>some (n::r)
  | none=>none
 | m+1,.v (.int .u64 a) :: .v (.int .u64 b) :: .v (.int .u64 c) :: .v (.int .u64 d) :: .v (.int .u64 e) :: .v (.int .u64 f)::l=>
  match inU a&&(inU b&&(inU c&&(inU d&&(inU e&&inU f)))) with
  | true=>match ZM m l with
   | some r=>some (num (fun i=>([a,b,c,d,e,f].getD i 0).toNat) 6::r)
   | none=>none
  | false=>none
 | _,_=>none
theorem V5:∀ (m:Nat) (l:List It) (r:List Nat),ZM m l=some r→∀ {ρ:Rho} {vs:List Value},conc ρ l=some vs→r.length=m∧vs=(r.map (au 6)).flatten:=by
 intro m
 induction m with
 | zero=>
  intro l r h ρ vs hv
  cases l with
  | nil=>cases h;cases hv;exact ⟨rfl,rfl⟩
  | cons i l=>cases h
 | succ m ih=>
  intro l r h ρ vs hv
  unfold ZM at h
  split at h
  ·rename_i h0;cases h0
  ·cases h
  ·rename_i n l' h0
   cases h0
   split at h
   ·rename_i r' hr
    cases h
    obtain ⟨a,b,ha,hb,rfl⟩:=cz hv
    cases ha
    obtain ⟨h1,h2⟩:=ih _ _ hr hb
    exact ⟨by simp [h1],by simp [h2]⟩
   ·cases h
  ·rename_i y0 y1 y2 y3 y4 y5 l' h0
   cases h0
   split at h
   ·rename_i sP
    split at h
    ·rename_i r' hr
     cases h
     simp only [aaf] at sP
     have e6:=n6 (l:=[.v (.int .u64 y0),.v (.int .u64 y1),.v (.int .u64 y2),.v (.int .u64 y3),.v (.int .u64 y4),.v (.int .u64 y5)]) rfl (fun p hp=>by
      rw [aao] at hp;subst hp
      intro x hx
      simp only [aae,aad,or_false] at hx
      rcases hx with rfl|rfl|rfl|rfl|rfl|rfl
      ·exact oW sP.1
      ·exact oW sP.2.1
      ·exact oW sP.2.2.1
      ·exact oW sP.2.2.2.1
      ·exact oW sP.2.2.2.2.1
      ·exact oW sP.2.2.2.2.2) (ρ:=ρ) (vs:=[.int .u64 y0,.int .u64 y1,.int .u64 y2,.int .u64 y3,.int .u64 y4,.int .u64 y5]) (by
      exact iU ρ [.int .u64 y0,.int .u64 y1,.int .u64 y2,.int .u64 y3,.int .u64 y4,.int .u64 y5] (by intro v hv;simp only [aae,aad,or_false] at hv;rcases hv with rfl|rfl|rfl|rfl|rfl|rfl<;>rfl))
     have ztU:∃ us,conc ρ l'=some us∧vs=[Value.int .u64 y0,.int .u64 y1,.int .u64 y2,.int .u64 y3,.int .u64 y4,.int .u64 y5]++us:=by
      obtain ⟨a0,b0,c0,d0,rfl⟩:=cz hv
      obtain ⟨a1,b1,c1,d1,rfl⟩:=cz d0
      obtain ⟨a2,b2,c2,d2,rfl⟩:=cz d1
      obtain ⟨a3,b3,c3,d3,rfl⟩:=cz d2
      obtain ⟨a4,b4,c4,d4,rfl⟩:=cz d3
      obtain ⟨a5,b5,c5,d5,rfl⟩:=cz d4
      cases c0;cases c1;cases c2;cases c3;cases c4;cases c5
      exact ⟨_,d5,rfl⟩
     obtain ⟨us,hu,rfl⟩:=ztU
     obtain ⟨h1,h2⟩:=ih _ _ hr hu
     exact ⟨by simp [h1],by rw [e6,h2];rfl⟩
    ·cases h
   ·cases h
  ·cases h
end Go.Proofs.YtcafpgpahbplaaaGreat
namespace Go.Eng
open Go Go.RowKit Go.ChangeShapes Go.WideShapes Go.Wd
section
variable {H:Type}{enc:aax×Value→H}{P:Program}
def wOk(v:Value)(k:K):Bool:=match v,k with
 | .int k n,some k'=>decide (k=k')&&(Lit.int k n).wf
 | .bool _,none=>true
 | _,_=>false
def gE:List Value→List K→Bool
 | [],[]=>true
 | v::vs,k::ks=>wOk v k&&gE vs ks
 | _,_=>false
theorem xp:∀ (ks ls:List K) (vs us:List Value),gE vs ks=true→gE us ls=true→gE (vs++us) (ks++ls)=true:=by
 intro ks
 induction ks with
 | nil=>intro ls vs us h1 h2;cases vs with
  | nil=>exact h2
  | cons v vs=>cases h1
 | cons k ks ih=>intro ls vs us h1 h2;cases vs with
  | nil=>cases h1
  | cons v vs=>
   simp only [gE,aaf] at h1
   simp only [abe,gE,aaf]
   exact ⟨h1.1,ih ls vs us h1.2 h2⟩
theorem N7:∀ (ks ls:List K) (vs:List Value),gE vs (ks++ls)=true→∃ a b,vs=a++b∧gE a ks=true∧gE b ls=true:=by
 intro ks
 induction ks with
 | nil=>intro ls vs h;exact ⟨[],vs,rfl,rfl,h⟩
 | cons k ks ih=>intro ls vs h;cases vs with
  | nil=>cases h
  | cons v vs=>
   simp only [abe,gE,aaf] at h
   obtain ⟨a,b,rfl,h1,h2⟩:=ih ls vs h.2
   exact ⟨v::a,b,rfl,by simp only [gE,aaf];exact ⟨h.1,h1⟩,h2⟩
theorem Se{g:aax→Option (List K)}:∀ (fs:List Field) (off:Nat) (r:List K),mh P g off fs=some r→∀ f∈fs,∃ ks,g f.type=some ks:=by
 intro fs
 induction fs with
 | nil=>intro off r _ f hf;cases hf
 | cons f fs ih=>
  intro off r h f' hf
  simp only [mh] at h
  split at h
  ·split at h
   ·rename_i ks hk
    split at h
    ·split at h
     ·rename_i r' hr
      rcases aae.1 hf with rfl|hf
      ·exact ⟨ks,hk⟩
      ·exact ih _ _ hr f' hf
     ·cases h
    ·cases h
   ·cases h
  ·cases h
theorem zgl{ke:List K}:∀ (n:Nat) (cs:List Value),cs.length=n*ke.length→(∀ i<n,gE ((cs.drop (i*ke.length)).take ke.length) ke=true)→gE cs (aap n ke).flatten=true:=by
 intro n
 induction n with
 | zero=>intro cs h _;rw [abi,ab4] at h;subst h;rfl
 | succ n ih=>
  intro cs h hi
  have h0:=hi 0 (by omega)
  rw [abi,adG] at h0
  rw [aby,List.flatten_cons,←aci ke.length cs]
  refine xp _ _ _ _ h0 (ih _ ?_ fun i hlt=>?_)
  ·rw [aa1,h,Nat.succ_mul];omega
  ·have:=hi (i+1) (by omega)
   rw [List.drop_drop]
   rw [Nat.succ_mul,Nat.add_comm] at this
   exact this
theorem FX{w:World}{base:Nat}{sp:Nat→Bool}{hd:Bool}:∀ d t ks,flat P d t=some ks→P.cellsOf t=ks.length→∀ jR cs x,ad9 enc P w base sp hd jR t cs=some x→x.2=[]∧gE cs ks=true:=by
 intro d
 induction d with
 | zero=>intro t ks h;cases h
 | succ d ih=>
  intro t ks h hc jR cs x hx
  simp only [flat] at h
  split at h
  ·rename_i hu
   cases h
   cases jR with
   | zero=>cases hx
   | succ m=>
    unfold ad9 at hx
    rw [hu] at hx
    split at hx<;>simp_all
    ·rename_i b;obtain ⟨rfl⟩:=hx;simp [gE,wOk]
  ·rename_i k hu
   cases h
   cases jR with
   | zero=>cases hx
   | succ m=>
    unfold ad9 at hx
    rw [hu] at hx
    split at hx<;>simp_all
    ·obtain ⟨⟨rfl,h2⟩,rfl⟩:=hx;simp [gE,wOk,h2]
  ·rename_i n e hu
   split at h
   ·rename_i ke he
    split at h
    ·rename_i hce
     cases h
     obtain ⟨xs,m,rfl,rfl,hl,hn,hi⟩:=DataW.trod_array hu hx
     have hlen:cs.length=n*ke.length:=by rw [hl,hc];simp
     have key:∀ i<n,∃ y,xs[i]? = some y∧y.2=[]∧gE ((cs.drop (i*ke.length)).take ke.length) ke=true:=by
      intro i hlt
      have h1:=hi i hlt
      rw [hce.1] at h1
      have:i<xs.length:=by omega
      rw [aaC this] at h1
      obtain ⟨h2,h3⟩:=ih e ke he hce.1 _ _ _ h1
      exact ⟨_,aaC this,h2,h3⟩
     refine ⟨?_,zgl n cs hlen fun i hlt=>by obtain ⟨y,_,_,h⟩:=key i hlt;exact h⟩
     rw [adO]
     intro y hy
     obtain ⟨i,hlt,rfl⟩:=adv.1 hy
     obtain ⟨y,h1,h2,_⟩:=key i (by omega)
     rw [aaC hlt] at h1
     cases h1;exact h2
    ·cases h
   ·cases h
  ·rename_i fs hu
   split at h
   ·cases h
   ·obtain ⟨xs,m,rfl,rfl,hl,hn,hi⟩:=DataW.trod_struct hu hx
    have key:∀ f∈fs.toList,∀ kf,flat P d f.type=some kf→P.cellsOf f.type=kf.length→gE ((cs.drop f.offset).take kf.length) kf=true:=by
     intro f hf kf hk hcf
     obtain ⟨i,hlt,rfl⟩:=adv.1 hf
     have znb:i<fs.size:=by simpa using hlt
     have h1:=hi i fs[i] (abZ znb)
     have RC:i<xs.length:=by omega
     rw [aaC RC] at h1
     rw [Array.getElem_toList] at hk hcf ⊢
     rw [hcf] at h1
     exact (ih _ kf hk hcf _ _ _ h1).2
    refine ⟨?_,?_⟩
    ·rw [adO]
     intro y hy
     obtain ⟨i,hlt,rfl⟩:=adv.1 hy
     have znb:i<fs.size:=by omega
     have h1:=hi i fs[i] (abZ znb)
     rw [aaC hlt] at h1
     obtain ⟨kf,hk⟩:=Se _ _ _ h fs[i] (by simp)
     have hcf:P.cellsOf fs[i].type=kf.length:=by
      have:∀ (l:List Field) (off:Nat) (r:List K),mh P (flat P d) off l=some r→∀ f∈l,∀ kf,flat P d f.type=some kf→P.cellsOf f.type=kf.length:=by
       intro l
       induction l with
       | nil=>intro off r _ f hf;cases hf
       | cons g l ihl=>
        intro off r h f hf kf hk
        simp only [mh] at h
        split at h
        ·split at h
         ·rename_i ks' hk'
          split at h
          ·rename_i hc'
           split at h
           ·rename_i r' hr
            rcases aae.1 hf with rfl|hf
            ·rw [hk] at hk';cases hk';exact hc'
            ·exact ihl _ _ hr f hf kf hk
           ·cases h
          ·cases h
         ·cases h
        ·cases h
      exact this _ _ _ h fs[i] (by simp) kf hk
     exact (ih _ kf hk hcf _ _ _ h1).1
    ·have walk:∀ (l:List Field) (off:Nat) (r:List K),(∀ f∈l,f∈fs.toList)→mh P (flat P d) off l=some r→(cs.drop off).length=r.length→gE (cs.drop off) r=true:=by
      intro l
      induction l with
      | nil=>intro off r _ h hr;cases h;rw [List.length_nil,ab4] at hr;rw [hr];rfl
      | cons g l ihl=>
       intro off r hm h hr
       simp only [mh] at h
       split at h
       ·rename_i zMA
        split at h
        ·rename_i ks' hk'
         split at h
         ·rename_i hc'
          split at h
          ·rename_i r' hr'
           cases h
           have h1:=key g (hm g aac) ks' hk' hc'
           rw [zMA.2] at h1
           rw [←aci ks'.length (cs.drop off)]
           refine xp _ _ _ _ h1 ?_
           rw [List.drop_drop]
           refine ihl _ _ (fun f hf=>hm f (aaa _ hf)) hr' ?_
           rw [List.length_append,aa1] at hr
           rw [aa1];omega
          ·cases h
         ·cases h
        ·cases h
       ·cases h
     have:=walk fs.toList 0 ks (fun f hf=>hf) h (by rw [adG,hl,hc])
     rwa [adG] at this
  ·cases h
end
end Go.Eng
namespace Go.Eng
open Go Go.RowKit Go.ChangeShapes Go.WideShapes
section
variable {H:Type}{enc:aax×Value→H}{P:Program}
theorem EO{W W':World}(hl:laidOutB P=true)(hb:Below W.heap.size W W')(sp:Nat→Bool):∀ (ts:List aax) (vs:List Value) (ds:List (DataW H)) (ps:List adP),(∀ t∈ts,P.readableRec t=true∧t<P.types.size) →
  ac2 enc P W 0 (fun _=>true) true ts vs ds ps→(∀ p∈ps,p.block<W.heap.size)→(∀ p∈ps,sp p.block=true)→ac2 enc P W' 0 sp true ts vs ds ps:=by
 intro ts
 induction ts with
 | nil=>intro vs ds ps _ h _ _;obtain ⟨rfl,rfl,rfl⟩:=trodAll_nil h;exact trodAll_mk0
 | cons t ts ih=>
  intro vs ds ps ht h hlt hsp
  obtain ⟨v,vs',d,ds',p,q,rfl,rfl,rfl,h1,h2⟩:=trodAll_cons h
  obtain ⟨hr,zMx⟩:=ht t aac
  refine ⟨p,q,?_,ih _ _ _ (fun t ht'=>ht t (aaa _ ht')) h2 (fun x hx=>hlt x (aaq _ hx)) (fun x hx=>hsp x (aaq _ hx)),rfl⟩
  exact WideElems.Trod_stays hl hr zMx h1 (fun x hx=>hb.same (hlt x (aau _ hx))) (fun x hx=>hsp x (aau _ hx))
theorem E2{f:Func}{s:ChangeSpec}{apart je handsOn again:Bool}{W W':World}{args:Array Value}{ds:List (DataW H)}{before:List adP}{b:Bool}{tb:aax}(hl:laidOutB P=true)
  (hp:∀ t∈f.params.toList,P.readableRec t=true∧t<P.types.size) (M2:s.vars=[]) (hrt:f.resultTypes = #[tb]) (htb:P.underlying tb=some .bool)
  (hsp:(s.fn H ds).results=[.lit (.bool b)]∧(s.fn H ds).args=ds∧(s.fn H ds).vars=[])
  (hW:DataW.Whole enc P f.params.toList s.vars apart W args.toList ds [] before) (hb:Below W.heap.size W W'):s.post enc P f apart je handsOn again W args (.bool b) W':=by
 have hlt:=hW.lt
 have hW':=hW
 obtain ⟨p,q,hA,hV,rfl,hz,hn⟩:=hW'
 rw [M2] at hV
 obtain ⟨_,rfl⟩:=trodVars_none hV
 rw [aaP] at hlt hz hn hW
 have e0:s.fn H (ds++[])=s.fn H ds:=by rw [aaP]
 have oX:∀ (bb:Nat) (sp:Nat→Bool) (hd:Bool),ac2 enc P W' bb sp hd f.resultTypes.toList ((Value.bool b).resultList f.resultTypes.size) (s.fn H (ds++[])).results []:=by
  intro bb sp hd
  rw [e0,hsp.1,hrt]
  exact trodAll_cons_mk (shut_bool htb b) trodAll_mk0
 have hargs:∀ sp:Nat→Bool,(∀ x∈p,sp x.block=true)→ac2 enc P W' 0 sp true f.params.toList args.toList (s.fn H (ds++[])).args p:=by
  intro sp hs
  rw [e0,hsp.2.1]
  exact EO hl hb sp _ _ _ _ hp hA hlt hs
 have Pq:∀ sp:Nat→Bool,DataW.TrodVars enc P W' sp s.vars (s.fn H (ds++[])).vars []:=by
  intro sp
  rw [e0,hsp.2.2,M2]
  rfl
 have hold:∀ x∈p,(fun b=>decide (b<W.heap.size)) x.block=true:=fun x hx=>by simpa using hlt x hx
 refine ⟨ds,[],p,[],p,[],hW,oX _ _ _,hargs _ hold,Pq _,World.keptBut_mono (fun x hx=>hx.elim) (hb.frame (fun _=>False)),fun _=>⟨ok_one hrt rfl (okWide_bool_mk htb b),ds.cons (.lit (.bool b)),[],([]++p)++[],⟨[]++p,[],?_,?_,rfl,?_,?_⟩,?_⟩⟩
 ·have:=trodAll_append (hargs (fun _=>true) (fun _ _=>rfl)) (oX 0 (fun _=>true) true)
  rw [e0,hsp.1,hsp.2.1] at this
  exact this
 ·have:=Pq (fun _=>true)
  rwa [e0,hsp.2.2] at this
 ·intro b' off hx
  rw [abO,aaP] at hx
  rw [hb.frozen (p:=⟨b',off,none⟩) (hlt _ hx)]
  exact hz b' off hx
 ·intro ha
  rw [abO,aaP]
  exact hn ha
 ·intro x hx _
  rwa [abO,aaP] at hx
def cX(P:Program)(f:FuncId)(args:Array Value)(v:Value)(W:World):Prop:=Calls P f args W fun e W'=>e = .returned v∧Below W.heap.size W W'
theorem Dt{C:Checked}{os:Os}{f:FuncId}{fn:Func}{s:ChangeSpec}{conds:List PathCond}{apart je handsOn again:Bool}{tb:aax}
  (own:ownKnob C.prog.godebug=none) (started:os.Started) (zvM:C.prog.inits.idxOf? f=none) (Fi:C.prog.funcs[f]? = some fn)
  (witness:∃ (w:World) (tape:Tape) (i:Input),w.os=os∧(w.forCall tape i).Shaped C.prog∧i.vars=[]∧Input.okWide C.prog (w.forCall tape i) .any w.heap.size f i ∧
   s.pre6 enc C.prog fn conds apart (w.forCall tape i).memory i.args∧({}:Assume).holds C.prog (lone (Frame.enter C.prog f i.args .normal) [] (w.forCall tape i)))
  (hl:laidOutB C.prog=true) (hp:fn.params.toList.all (fun t=>C.prog.readableRec t&&decide (t<C.prog.types.size))=true) (M2:s.vars=[]) (hrt:fn.resultTypes = #[tb]) (htb:C.prog.underlying tb=some .bool)
  (zDT:∀ ds:List (DataW H),ds.length=fn.params.toList.length→(s.fn H ds).results=[.lit (.bool true)]∧(s.fn H ds).args=ds∧(s.fn H ds).vars=[])
  (cP:∀ (W:World) (base:Nat) (args:Array Value) (ds:List (DataW H)) (ps:List adP),(∀ (j:Nat) t v,fn.params[j]? = some t→args[j]? = some v→acJ C.prog W .any base t v) →
   ac2 enc C.prog W 0 (fun _=>true) true fn.params.toList args.toList ds ps→(∀ p∈ps,p.block<W.heap.size)→cX C.prog f args (.bool true) W) :
  ReturnsInHanded {} C os f .any (s.pre6 enc C.prog fn conds apart) (s.post enc C.prog fn apart je handsOn again):=by
 have hp':∀ t∈fn.params.toList,C.prog.readableRec t=true∧t<C.prog.types.size:=by
  intro t ht
  have:=List.all_eq_true.1 hp t ht
  simpa using this
 refine returnsInHanded_of_change (C:=C) own started zvM Fi witness ?_
 intro W base args ds gs before hval hW _ _
 have hlt:=hW.lt
 have hW':=hW
 obtain ⟨p,q,hA,hV,rfl,hz,hn⟩:=hW'
 rw [M2] at hV
 obtain ⟨rfl,rfl⟩:=trodVars_none hV
 rw [aaP] at hlt
 refine (cP W base args ds p hval hA hlt).mono fun e W' he=>⟨_,he.1,?_⟩
 have hlen:∀ (ts:List aax) (vs:List Value) (ds:List (DataW H)) (ps:List adP),ac2 enc C.prog W 0 (fun _=>true) true ts vs ds ps→ds.length=ts.length:=by
  intro ts
  induction ts with
  | nil=>intro vs ds ps h;obtain ⟨_,rfl,_⟩:=trodAll_nil h;rfl
  | cons t ts ih=>
   intro vs ds ps h
   obtain ⟨v,vs',d,ds',p,q,rfl,rfl,rfl,h1,h2⟩:=trodAll_cons h
   simp [ih _ _ _ h2]
 exact E2 hl hp' M2 hrt htb (zDT ds (hlen _ _ _ _ hA)) hW he.2
end
end Go.Eng
namespace Go.Eng
open Go Go.RowKit Go.ChangeShapes Go.WideShapes Go.Wd
section
variable {H:Type}{enc:aax×Value→H}{P:Program}
theorem zjm{v:Value}(h:wOk v (some .u64)=true):∃ n:Nat,n<18446744073709551616∧v = .int .u64 (n:Int):=by
 unfold wOk at h
 split at h
 ·rename_i k n k' e
  cases e
  simp only [aaf,decide_eq_true_eq] at h
  obtain ⟨rfl,h2⟩:=h
  obtain ⟨h3,h4⟩:=bounds_u64 h2
  exact ⟨n.toNat,by omega,by congr 1;omega⟩
 ·rename_i e;cases e
 ·cases h
theorem SB:∀ (n:Nat) (vs:List Value),gE vs (aap n (some .u64))=true→∃ d:Nat→Nat,(∀ i,d i<18446744073709551616)∧vs=(aan n).map fun i=>Value.int .u64 ((d i:Nat):Int):=by
 intro n
 induction n with
 | zero=>intro vs h;cases vs with
  | nil=>exact ⟨fun _=>0,fun _=>by show 0<18446744073709551616;omega,rfl⟩
  | cons v vs=>cases h
 | succ n ih=>
  intro vs h
  rw [aby] at h
  cases vs with
  | nil=>cases h
  | cons v vs=>
   simp only [gE,aaf] at h
   obtain ⟨x,hx,rfl⟩:=zjm h.1
   obtain ⟨d,hd,rfl⟩:=ih vs h.2
   refine ⟨fun i=>match i with | 0=>x | i+1=>d i,fun i=>by cases i<;>simp_all,?_⟩
   rw [List.range_succ_eq_map,aaB,abm]
   rfl
theorem OP(n:Nat)(vs:List Value)(h:gE vs (aap n (some .u64))=true):∃ x,x<pw n∧vs=au n x:=by
 obtain ⟨d,hd,rfl⟩:=SB n vs h
 exact ⟨num d n,n_ n fun i _=>hd i,(ld n fun i _=>hd i).symm⟩
theorem Zz:∀ (m:Nat) (ls:List K) (vs:List Value),gE vs (aap (6*m) (some .u64)++ls)=true →
  ∃ (l:List Nat) (rest:List Value),l.length=m∧(∀ x∈l,x<pw 6)∧gE rest ls=true∧∀ ρ its,conc ρ its=some rest→conc ρ (l.map (It.w 6)++its)=some vs:=by
 intro m
 induction m with
 | zero=>intro ls vs h;exact ⟨[],vs,rfl,by simp,h,fun ρ its h=>h⟩
 | succ m ih=>
  intro ls vs h
  rw [show 6*(m+1)=6+6*m by omega,←List.replicate_append_replicate,List.append_assoc] at h
  obtain ⟨a,b,rfl,h1,h2⟩:=N7 _ _ _ h
  obtain ⟨x,hx,rfl⟩:=OP 6 a h1
  obtain ⟨l,rest,e1,e2,e3,e4⟩:=ih ls b h2
  refine ⟨x::l,rest,by simp [e1],by simpa using ⟨hx,e2⟩,e3,fun ρ its hi=>?_⟩
  simp only [aaB,abe,conc,It.cs,e4 ρ its hi]
theorem zda{W:World}{base:Nat}{t:aax}{v:Value}{d:DataW H}{ps:List adP}(m:Nat){u:TypeDesc}(hu:P.underlying t=some u)(ha:kX u=true)
  (hk:flat P 8 t=some (aap (6*m) (some .u64))) (hc:P.cellsOf t=6*m) (hv:acJ P W .any base t v) (ht:DataW.Trod enc P W 0 (fun _=>true) true t v d ps) :
  ∃ l:List Nat,l.length=m∧(∀ x∈l,x<pw 6)∧∀ ρ,AV.val ρ ⟨true,l.map (It.w 6)⟩=some v:=by
 obtain ⟨jR,hx⟩:=ht
 obtain ⟨_,hf⟩:=FX 8 t _ hk (by rw [hc];simp) jR _ _ hx
 have:∃ cs,v = .agg cs:=by
  unfold acJ at hv
  rw [hu] at hv
  cases u<;>first | (obtain ⟨cs,rfl,_⟩:=hv;exact ⟨cs,rfl⟩) | (cases ha)
 obtain ⟨cs,rfl⟩:=this
 have hf:gE cs.toList (aap (6*m) (some .u64))=true:=hf
 rw [←aaP (aap _ _)] at hf
 obtain ⟨l,rest,e1,e2,e3,e4⟩:=Zz m [] _ hf
 cases rest with
 | cons x r=>cases e3
 | nil=>
  refine ⟨l,e1,e2,fun ρ=>?_⟩
  have:=e4 ρ [] rfl
  rw [aaP] at this
  simp [AV.val,this]
end
end Go.Eng
