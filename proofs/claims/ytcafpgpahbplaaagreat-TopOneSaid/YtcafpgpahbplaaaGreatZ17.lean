/-
 The proof, part 17 of 25.
-/
import Derived.Test.YtcafpgpahbplaaaGreatZ16
open Bool renaming and_eq_false_iff->acN
open Go renaming FuncId->aaz
open Go.Code renaming wp->aaT
open List renaming forall_mem_cons->aab,mem_append->aaw,mem_cons_of_mem->aaa,mem_cons_self->aac,not_mem_nil->aad
open Option.some renaming injEq->aag
open Prod.mk renaming injEq->abq
noncomputable section
set_option linter.unusedVariables false
set_option linter.unusedSimpArgs false
namespace Go.Proofs.YtcafpgpahbplaaaGreat
open Go Go.Eng Go.RowKit Go.Wd Go.Alg Go.Pr
def A7(b:Bool)(n:Nat):Nat:=match b with
 | true=>0
 | false=>n
def Be(x:N2):Bool:=decide (cR x=(0,0)) || decide (c6 x=(0,0))
def Ff(x y:N2):P2:=(((A7 (Be x) (zf x).1,A7 (Be x) (zf x).2),(A7 (Be x) (Bd x y).1,A7 (Be x) (Bd x y).2)),Be x)
theorem zur{b:Bool}{X Y:N2}(h:b=true):((((A7 b X.1,A7 b X.2),(A7 b Y.1,A7 b Y.2)):A2),b)=((((0,0),(0,0)):A2),true):=by subst h;rfl
theorem zus{b:Bool}{X Y:N2}(h:b=false):((((A7 b X.1,A7 b X.2),(A7 b Y.1,A7 b Y.2)):A2),b)=(((X,Y):A2),false):=by subst h;rfl
theorem Rv{x y:N2}(h:Be x=true):Ff x y=(((0,0),(0,0)),true):=zur (X:=zf x) (Y:=Bd x y) h
theorem Rw{x y:N2}(h:Be x=false):Ff x y=((zf x,Bd x y),false):=zus h
theorem TX(x y:N2):Sm (bk x y):=by unfold bk;exact mf _
theorem zbO(x y:N2):bj Tryz.prog 76 [wv x,wv y] (i_ (Ff x y)):=by
 have hv:ay rho0 [wN x,wN y]=some [wv x,wv y]:=rj x y
 have s2:Sm (cR x):=TX _ _
 have s4:Sm (c6 x):=TX _ _
 by_cases h2:cR x=(0,0)
 ·rw [Rv (by unfold Be;rw [decide_eq_true h2];rfl)]
  exact ah (ap fF) (dV A2).rs (x:=(((0,0),(0,0)),true)) (zeR x y) (aa (ej s2 Xd (bD h2)) ad) hv rfl
 ·by_cases h4:c6 x=(0,0)
  ·rw [Rv (by unfold Be;rw [decide_eq_true h4,Bool.or_true])]
   exact ah (ap fF) (dV A2).rs (x:=(((0,0),(0,0)),true)) (zeQ x y) (aa (ej s2 Xd (br h2)) (aa (ej s4 Xd (bD h4)) ad)) hv rfl
  ·rw [Rw (by unfold Be;rw [decide_eq_false h2,decide_eq_false h4];rfl)]
   exact ah (ap fF) (dV A2).rs (x:=((zf x,Bd x y),false)) (zeP x y) (aa (ej s2 Xd (br h2)) (aa (ej s4 Xd (br h4)) ad)) hv rfl
def QB:List Row:=[jb (kV N2) kv 77 zdY,C1 (kV N2) (kV N2) (dV A2).rs 76 Ff]
theorem Xy:∀ r∈QB,bE Tryz.prog r:=by
 simp only [QB,aab,aad,false_imp_iff,implies_true,and_true]
 exact ⟨cW zbN,rG zbO⟩
def ib(u:N2):P2:=Ff (mE u) (LU (mE u) u,LS (mE u) u)
def TSy(X Y:N2)(U:P2):CallT:=D4 (aA QB) [(19,kv.sv (X,Y)),(22,.one (wP U))]
theorem zca(u X Y:N2)(U:P2):aK (TSy X Y U) 75 [wN u] []=some (.one (wP U),[∀ ρ,SV.val ρ (kv.sv (zdY u))=SV.val ρ (kv.sv (X,Y)),∀ ρ,SV.val ρ (.one (wP (Ff X Y)))=SV.val ρ (.one (wP U))]):=by kernel_rfl
theorem XU{α β:Type}{a c:α}{b d:β}(h:(a,b)=(c,d)):a=c∧b=d:=by cases h;exact ⟨rfl,rfl⟩
theorem zfQ(u:N2):bj Tryz.prog 75 [wv u] (i_ (ib u)):=by
 obtain ⟨M,hM⟩:∃ M,zdY u=M:=⟨_,rfl⟩
 obtain ⟨X,Y⟩:=M
 obtain ⟨U,hU⟩:∃ U,Ff X Y=U:=⟨_,rfl⟩
 have hS:ib u=U:=by
  rw [←hU]
  have Bh:=hM
  unfold zdY at Bh
  have h:=XU Bh
  unfold ib;rw [h.2,h.1]
 rw [hS]
 exact ah (zo (ap Xy) _) (dV A2).rs (x:=U) (zca u X Y U) (aa (fun ρ=>by rw [hM]) (aa (fun ρ=>by rw [hU]) ad)) (eE u) rfl
def Ig:List Row:=[jb (kV N2) (dV A2).rs 75 ib]
theorem QA:∀ r∈Ig,bE Tryz.prog r:=by
 simp only [Ig,aab,aad,false_imp_iff,implies_true,and_true]
 exact cW zfQ
def zOc(U V S P:P2)(k:Int):CallT:=D4 (jV (aA Ig) TSb) [(22,.one (wP U)),(25,.one (wP V)),(26,.one (wP S)),(27,nE.sv (P,k))]
theorem zcc(u v:N2)(U V S P:P2)(k:Int):aK (zOc U V S P k) 34 [wN u,wN v] []=some (.one (wP P),[∀ ρ,SV.val ρ (.one (wP (ib u)))=SV.val ρ (.one (wP U)),∀ ρ,SV.val ρ (.one (wP (ib v)))=SV.val ρ (.one (wP V)),
  ∀ ρ,SV.val ρ (.one (wP (cS (padd (ιP2 U) (ιP2 V)))))=SV.val ρ (.one (wP S)),∀ ρ,SV.val ρ (nE.sv (Zy S))=SV.val ρ (nE.sv (P,k))]):=by kernel_rfl
def Gg(u v:N2):P2:=cS (padd (ιP2 (ib u)) (ιP2 (ib v)))
def ku(u v:N2):P2:=(Zy (Gg u v)).1
theorem zfR(u v:N2):bj Tryz.prog 34 [wv u,wv v] (i_ (ku u v)):=by
 obtain ⟨U,hU⟩:∃ U,ib u=U:=⟨_,rfl⟩
 obtain ⟨V,hV⟩:∃ U,ib v=U:=⟨_,rfl⟩
 obtain ⟨S,hS⟩:∃ S,cS (padd (ιP2 U) (ιP2 V))=S:=⟨_,rfl⟩
 obtain ⟨P,k,hP⟩:∃ P k,Zy S=(P,k):=⟨_,_,rfl⟩
 have e:ku u v=P:=by
  unfold ku Gg;rw [hU,hV,hS,hP]
 rw [e]
 exact ah (zo (aT (ap QA) EA) _) (dV A2).rs (x:=P) (zcc u v U V S P k) (aa (fun ρ=>by rw [hU]) (aa (fun ρ=>by rw [hV]) (aa (fun ρ=>by rw [hS]) (aa (fun ρ=>by rw [hP]) ad)))) (rj u v) rfl
namespace Sh
theorem zdT{ρ:Rho}{m:St}{w w':World}(hM:Mem ρ m w)(hb:Below w.heap.size w w'){nid g:Nat}(hn:m.blk nid=none)(ho:own nid=false)(ha:app nid=false)(hg:w.heap.size≤g){l:List It}{vs:List Value}(hl:∀ ρ,conc ρ l=some vs)(hH:Stands w' g 0 vs):
  Ext ρ w (ρ.set nid g) w'∧Mem (ρ.set nid g) (aX m (ia ([]++[(nid,l)]))) w':=by
 have YI:ρ nid=none:=by
  cases h:ρ nid with
  | none=>rfl
  | some q=>obtain ⟨l',l6⟩:=hM.dom nid q h;rw [hn] at l6;cases l6
 have hlt:∀ j c o,ρ j=some (c,o)→c<w.heap.size:=fun j c o h=>by
  obtain ⟨l',l6⟩:=hM.dom j _ h
  obtain ⟨b,o',vs',e1,e2,e3⟩:=hM.ok.blk j l' l6
  rw [h] at e1;cases e1
  exact e3.1
 have oe:∀ id,St.blk (aX m (ia ([]++[(nid,l)]))) id=if nid=id then some l else m.blk id:=fun id=>by
  rw [eJ,zd]
  by_cases e:nid=id
  ·simp [e]
  ·simp [e]
 refine ⟨⟨Rho.le_set YI,fun id b o h h'=>?_,hb.os,hb.tape,hb.output,hb.size,fun k hk _=>hb.block k hk⟩,⟨⟨fun id l' l6=>?_⟩,?_,fun id q hq=>?_⟩⟩
 ·unfold Rho.set at h'
  by_cases e:id=nid
  ·rw [if_pos e] at h';cases h';exact .inl hg
  ·rw [if_neg e,h] at h';cases h'
 ·rw [oe] at l6
  by_cases e:nid=id
  ·subst e
   rw [if_pos rfl] at l6;cases l6
   exact ⟨g,0,vs,by simp [Rho.set],hl _,hH.1,fun hf=>(by rw [ho] at hf;cases hf),fun _ _=>hH.2,fun hf=>(by rw [ha] at hf;cases hf)⟩
  ·rw [if_neg e] at l6
   obtain ⟨b,o,us,h1,h2,h3⟩:=hM.ok.blk id l' l6
   exact ⟨b,o,us,Rho.le_set YI _ _ h1,eR (Rho.le_set YI) _ _ h2,h3.of_kept hb.size (hb.block b h3.1)⟩
 ·exact (hM.inj.set (id:=nid) (l:=l) fun j c o hq=>Nat.lt_of_lt_of_le (hlt j c o hq) hg).congr oe
 ·rw [oe]
  by_cases e:nid=id
  ·exact ⟨l,if_pos e⟩
  ·unfold Rho.set at hq
   rw [if_neg fun h=>e h.symm] at hq
   obtain ⟨l',l6⟩:=hM.dom id q hq
   exact ⟨l',by rw [if_neg e];exact l6⟩
def gC(nid:Nat):Nat:=nid+3000000000000000000000000000000000000000000000000000000000000000000000000000000000000
theorem nt(nid:Nat):own (gC nid)=false:=by
 unfold own gC
 simp only [acN,decide_eq_false_iff_not]
 omega
theorem kO(nid:Nat):app (gC nid)=false:=by
 unfold app gC
 simp only [acN,decide_eq_false_iff_not]
 omega
def UK(m:St):AV→Option (Bool×Nat×(Nat→Int)×List Prop)
 | ⟨false,[.v (.slice none 0 0)]⟩=>some (true,0,fun _=>0,[])
 | ⟨false,[.s id off n _]⟩=>match iJ m id off n with
  | some (k,f,ob)=>some (false,k,f,ob)
  | none=>none
 | _=>none
theorem zjU{g:Nat→Int}{k:Nat}:∀ i,gvals .u8 k (fun j=>g (i+j))=(bn g i k).map (Value.int .u8):=by
 induction k with
 | zero=>intro i;rfl
 | succ k ih=>
  intro i
  simp only [bn,List.map_cons]
  rw [←ih (i+1)]
  unfold gvals
  rw [List.range_succ_eq_map,List.map_cons,List.map_map]
  apply congrArg (List.cons _)
  apply List.map_congr_left
  intro j _
  simp only [Function.comp]
  rw [show i+1+j=i+Nat.succ j by omega]
theorem oY{g:Nat→Int}{k:Nat}{l:List Int}(h:bn g 0 k=l):gvals .u8 k g=l.map (Value.int .u8):=by
 rw [←h,←zjU]
 exact AK fun i _=>by rw [Nat.zero_add]
theorem jh{ρ:Rho}{a b:AV}{va vb:Value}(h1:AV.val ρ a=some va)(h2:AV.val ρ b=some vb):SV.val ρ (.tup [a,b])=some (.tuple #[va,vb]):=by simp only [SV.val,ay,h1,h2]
def J7(X:Nat→Nat→Int):CallT:=fun f args m nid=>match f==72 with
 | true=>match args with
  | [x,⟨false,[.s id off k2 c2]⟩,⟨false,[.v (.int .i64 N)]⟩]=>match UK m x,iJ m id off k2 with
   | some (z,n,f,ob),some (_,g,jW)=>some { val:=.tup [bT (.s (gC nid) 0 256 256),bT (.v (.int .i64 0))],wr:=[],news:=[(gC nid,bR (IS X 0 8))],ob:=(N=256∧k2=43)::(n≤90000)::(43≤c2)::(bn g 0 43=eK)::(iL (tW z n f)=X)::(ob++jW) }
   | _,_=>none
  | _=>none
 | false=>none
theorem Sk(X:Nat→Nat→Int):ag Tryz.prog (J7 X):=by
 intro f args m nid out af ax ρ w vs hv hM df
 unfold J7 at af
 split at af
 ·rename_i hf
  rw [beq_iff_eq] at hf
  subst hf
  split at af
  ·rename_i x id off k2 c2 N
   split at af
   ·rename_i z n f ob k g jW hm hb
    cases af
    obtain ⟨v1,us,h1,h2,rfl⟩:=aj hv
    obtain ⟨v2,ov,h3,h4,rfl⟩:=aj h2
    obtain ⟨v3,ov,h5,h6,rfl⟩:=aj h4
    cases h6
    obtain ⟨hN,RH⟩:=ax _ aac
    subst hN
    subst RH
    have e5:AV.val ρ ⟨false,[.v (.int .i64 256)]⟩=some (.int .i64 256):=AV.val_v (ρ:=ρ) (x:=.int .i64 256) rfl
    rw [e5] at h5;cases h5
    have hn:n≤90000:=ax _ (aaa _ aac)
    have hc:43≤c2:=ax _ (aaa _ (aaa _ aac))
    have ht:bn g 0 43=eK:=ax _ (aaa _ (aaa _ (aaa _ aac)))
    have hX:iL (tW z n f)=X:=ax _ (aaa _ (aaa _ (aaa _ (aaa _ aac))))
    have mH:∀ p∈ob++jW,p:=fun p hp=>ax p (aaa _ (aaa _ (aaa _ (aaa _ (aaa _ hp)))))
    obtain ⟨q,hq,rfl⟩:=aY h3
    obtain ⟨rfl,hs⟩:=eW hM hb (fun p hp=>mH p (List.mem_append_right _ hp)) hq
    rw [oY ht] at hs
    have zfB:∃ b o c,v1=byV z b o n c∧Stands w b o (gvals .u8 n f):=by
     unfold UK at hm
     split at hm
     ·cases hm
      exact ⟨q.1,q.2+off,0,iE h1,hs.1,fun i v hi=>by cases hi⟩
     ·rename_i id' zdl n' c'
      split at hm
      ·rename_i k' f' ob1 JE
       cases hm
       obtain ⟨q',EH,rfl⟩:=aY h1
       obtain ⟨rfl,fD⟩:=eW hM JE (fun p hp=>mH p (List.mem_append_left _ hp)) EH
       exact ⟨_,_,c',rfl,fD⟩
      ·cases hm
     ·cases hm
    obtain ⟨b,o,c,rfl,fD⟩:=zfB
    refine (Pz z hn hc fD hs).mono ?_
    rintro u w' ⟨g',hg,rfl,hS,hB⟩
    rw [hX] at hS
    obtain ⟨hE,Bh⟩:=zdT hM hB (df _ aac) (nt nid) (kO nid) hg (l:=bR (IS X 0 8)) (fun ρ=>g_ ρ .u8 _) hS
    refine ⟨_,hE,?_,Bh⟩
    have e1:AV.val (ρ.set (gC nid) g') (bT (.s (gC nid) 0 256 256))=some (.slice (some ⟨g',0,none⟩) 256 256):=by
     have e:=bu (ρ:=ρ.set (gC nid) g') (id:=gC nid) (q:=(g',0)) (by rw [Rho.at_not (kO nid)];simp [Rho.set]) 0 256 256
     exact e
    have e3:AV.val (ρ.set (gC nid) g') (bT (.v (.int .i64 0)))=some (.int .i64 0):=AV.val_v (ρ:=ρ.set (gC nid) g') (x:=.int .i64 0) rfl
    exact jh e1 e3
   ·cases af
  ·cases af
 ·cases af
def QO:List Row:=[C1 (kV N2) (kV N2) (dV A2).rs 34 ku]
theorem XF:∀ r∈QO,bE Tryz.prog r:=by
 simp only [QO,aab,aad,false_imp_iff,implies_true,and_true]
 exact rG zfR
def Sa(T:CallT)(s:SV):CallT:=fun f args m nid=>match T f args m nid with
 | some out=>some { out with val:=s,ob:=(∀ ρ,out.val.val ρ=s.val ρ)::out.ob }
 | none=>none
theorem YX{P:Program}{T:CallT}(h:ag P T)(s:SV):ag P (Sa T s):=by
 intro f args m nid out af ax ρ w vs hv hM df
 unfold Sa at af
 split at af
 ·rename_i o ho
  cases af
  refine (h f args m nid o ho (fun p hp=>ax p (aaa _ hp)) ρ w vs hv hM df).mono ?_
  rintro u w' ⟨ρ',h1,h2,h3⟩
  refine ⟨ρ',h1,?_,h3⟩
  rw [←h2]
  exact (ax _ aac ρ').symm
 ·cases af
def THa(X:Nat→Nat→Int)(P:P2):CallT:=jV (J7 X) (jV HJ (jV (zl7 true) (Sa (aA QO) (.one (wP P)))))
theorem ziG(X:Nat→Nat→Int)(P:P2):ag Tryz.prog (THa X P):=aT (Sk X) (aT FP (aT (UL true) (YX (ap XF) _)))
def chF(X:Nat→Nat→Int)(k:Nat):Nat→Int:=fun i=>(IS X (2*k) 2).getD i 0
def kP(X:Nat→Nat→Int)(k:Nat):Nat:=eo (chF X k) 64%pw 8%pN
def XY(X:Nat→Nat→Int)(k:Nat):List Prop:=[(64=32∨64=48∨64=64)∧bOk 64 (chF X k),pN=pN,8<4294967296,6<4294967296,(0:Int)≤13402431016077863595∧(13402431016077863595:Int)<18446744073709551616,
 (0:Int)≤2210141511517208575∧(2210141511517208575:Int)<18446744073709551616,(0:Int)≤7435674573564081700∧(7435674573564081700:Int)<18446744073709551616,(0:Int)≤7239337960414712511∧(7239337960414712511:Int)<18446744073709551616,
 (0:Int)≤5412103778470702295∧(5412103778470702295:Int)<18446744073709551616,(0:Int)≤1873798617647539866∧(1873798617647539866:Int)<18446744073709551616]
theorem IR{X:Nat→Nat→Int}{k:Nat}(h:bOk 64 (chF X k)):∀ p∈XY X k,p:=
 aa ⟨.inr (.inr rfl),h⟩ (aa rfl (aa (by omega) (aa (by omega) (aa (by omega) (aa (by omega) (aa (by omega) (aa (by omega) (aa (by omega) (aa (by omega) ad)))))))))
def zvF(z:Bool)(n c2:Nat)(f:Nat→Int)(X:Nat→Nat→Int):List Prop:=[IntKind.i64.wrap (128*2)=256∧43=43,n≤90000,43≤c2,bn (fun i=>eK.getD i 0) 0 43=eK,iL (tW z n f)=X]
theorem RN(n c c2:Nat)(f:Nat→Int)(X:Nat→Nat→Int)(P:P2):cV (THa X P) 9 [gn true 1 n c,bT (.s 2 0 43 c2)] (cj [(1,gM n f),(2,bR eK)]) [] (fun _=>[]) =
 some (.tup [wP P,pp 0],zvF true 0 c2 (fun _=>0) X++(XY X 0++XY X 1++XY X 2++XY X 3++[∀ ρ,SV.val ρ (.one (wP (ku (kP X 0,kP X 1) (kP X 2,kP X 3))))=SV.val ρ (.one (wP P))])):=by kernel_rfl
theorem RO(n c c2:Nat)(f:Nat→Int)(X:Nat→Nat→Int)(P:P2):cV (THa X P) 9 [gn false 1 n c,bT (.s 2 0 43 c2)] (cj [(1,gM n f),(2,bR eK)]) [] (fun _=>[]) =
 some (.tup [wP P,pp 0],zvF false n c2 (fun i=>f (0+i)) X++(0+n*1≤n)::(XY X 0++XY X 1++XY X 2++XY X 3++[∀ ρ,SV.val ρ (.one (wP (ku (kP X 0,kP X 1) (kP X 2,kP X 3))))=SV.val ρ (.one (wP P))])):=by kernel_rfl
theorem re(x:Int):0≤IntKind.u8.wrap x∧IntKind.u8.wrap x<256:=by
 have h:IntKind.u8.wrap x=x%256:=by simp [IntKind.wrap,IntKind.bits,IntKind.signed]
 rw [h];omega
theorem P7(n:Nat)(f:Nat→Int)(i:Nat):0≤lf n f i∧lf n f i<256:=by
 unfold lf zgK
 exact re _
theorem Wq(A:Nat→Int)(j i:Nat):0≤iL A j i∧iL A j i<256:=by
 rw [zap];exact P7 _ _ _
theorem zdP{f:Nat→Int}:∀ k j x,x∈bn f j k→∃ i,x=f i:=by
 intro k
 induction k with
 | zero=>intro j x h;cases h
 | succ k ih=>
  intro j x h
  simp only [bn,List.mem_cons] at h
  rcases h with rfl|h
  ·exact ⟨j,rfl⟩
  ·exact ih _ _ h
theorem zdS{X:Nat→Nat→Int}:∀ k j x,x∈IS X j k→∃ a b,x=X a b:=by
 intro k
 induction k with
 | zero=>intro j x h;cases h
 | succ k ih=>
  intro j x h
  simp only [IS,aaw] at h
  rcases h with h|h
  ·obtain ⟨i,rfl⟩:=zdP _ _ _ h;exact ⟨_,_,rfl⟩
  ·exact ih _ _ h
theorem RQ{l:List Int}(h:∀ x∈l,0≤x∧x<256)(i:Nat):0≤l.getD i 0∧l.getD i 0<256:=by
 rw [List.getD_eq_getElem?_getD]
 cases hi:l[i]? with
 | none=>exact ⟨by decide,by decide⟩
 | some x=>exact h x (List.mem_of_getElem? hi)
theorem Ki{X:Nat→Nat→Int}(h:∀ a b,0≤X a b∧X a b<256)(k:Nat):bOk 64 (chF X k):=fun i _=>by
 refine RQ (fun x hx=>?_) i
 obtain ⟨a,b,rfl⟩:=zdS _ _ _ hx
 exact h a b
def G8(X:Nat→Nat→Int):P2:=ku (kP X 0,kP X 1) (kP X 2,kP X 3)
def mw(z:Bool)(n:Nat)(f:Nat→Int):P2:=G8 (iL (tW z n f))
def ye:List Value:=eK.map (Value.int .u8)
theorem HV:bn (fun i=>eK.getD i 0) 0 43=eK:=by decide +kernel
theorem Nh{z:Bool}{n c2:Nat}{f:Nat→Int}{P:P2}(hn:n≤90000)(h43:43≤c2)(hP:mw z n f=P):(∀ p∈zvF z n c2 f (iL (tW z n f)),p) ∧
  ∀ p∈XY (iL (tW z n f)) 0++XY (iL (tW z n f)) 1++XY (iL (tW z n f)) 2++XY (iL (tW z n f)) 3++[∀ ρ,SV.val ρ (.one (wP (ku (kP (iL (tW z n f)) 0,kP (iL (tW z n f)) 1) (kP (iL (tW z n f)) 2,kP (iL (tW z n f)) 3))))=SV.val ρ (.one (wP P))],p:=by
 have hr:=Wq (tW z n f)
 unfold mw at hP
 refine ⟨aa ⟨by decide,rfl⟩ (aa hn (aa h43 (aa HV (aa rfl ad)))),fun p hp=>?_⟩
 generalize iL (tW z n f)=X at *
 simp only [aaw,List.mem_singleton] at hp
 rcases hp with (((h|h)|h)|h)|h
 ·exact IR (Ki hr 0) p h
 ·exact IR (Ki hr 1) p h
 ·exact IR (Ki hr 2) p h
 ·exact IR (Ki hr 3) p h
 ·rw [h];intro ρ
  unfold G8 at hP
  rw [hP]
theorem zfS(z:Bool){w:World}{b1 o1 c n b2 o2 c2:Nat}{f:Nat→Int}(hn:n≤90000)(h43:43≤c2)(h1:Stands w b1 o1 (gvals .u8 n f))(h2:Stands w b2 o2 ye):
  cX Tryz.prog 9 #[byV z b1 o1 n c,.slice (some ⟨b2,o2,none⟩) 43 c2] (.tuple #[i_ (mw z n f),.int .i64 0]) w:=by
 have jd:∀ e∈[((1:Nat),gM n f,(b1,o1),gvals .u8 n f),(2,bR eK,(b2,o2),eK.map (Value.int .u8))],e.1<16∧conc rho0 e.2.1=some e.2.2.2∧Stands w e.2.2.1.1 e.2.2.1.2 e.2.2.2:=
  aab.2 ⟨⟨(by show 1<16;decide),aD,h1⟩,aab.2 ⟨⟨(by show 2<16;decide),g_ rho0 .u8 eK,h2⟩,fun _ h=>by cases h⟩⟩
 have hM:Mem (aH [(1,(b1,o1)),(2,(b2,o2))]) (cj [(1,gM n f),(2,bR eK)]) w:=dU _ jd
 have cv:∀ c,¬Own (aH [(1,(b1,o1)),(2,(b2,o2))]) c:=iD (w:=w) _ jd
 have e1:AV.val (aH [(1,(b1,o1)),(2,(b2,o2))]) (gn z 1 n c)=some (byV z b1 o1 n c):=by
  cases z with
  | true=>exact AV.val_v rfl
  | false=>
   have e:=bu (ρ:=aH [(1,(b1,o1)),(2,(b2,o2))]) (id:=1) (q:=(b1,o1)) (by simp [aH]) 0 n c
   simpa [iG,SV.val,gn,byV] using e
 have e2:AV.val (aH [(1,(b1,o1)),(2,(b2,o2))]) (bT (.s 2 0 43 c2))=some (.slice (some ⟨b2,o2,none⟩) 43 c2):=by
  have e:=bu (ρ:=aH [(1,(b1,o1)),(2,(b2,o2))]) (id:=2) (q:=(b2,o2)) (by simp [aH]) 0 43 c2
  simpa [iG,SV.val,bT] using e
 have hv:ay (aH [(1,(b1,o1)),(2,(b2,o2))]) [gn z 1 n c,bT (.s 2 0 43 c2)]=some [byV z b1 o1 n c,.slice (some ⟨b2,o2,none⟩) 43 c2]:=by
  simp only [ay,e1,e2]
 obtain ⟨P,hP⟩:∃ P,mw z n f=P:=⟨_,rfl⟩
 rw [hP]
 have hval:∀ ρ u,SV.val ρ (.tup [wP P,pp 0])=some u→u = .tuple #[i_ P,.int .i64 0]:=fun ρ u hu=>by
  rw [jh (jO ρ P) (so ρ 0)] at hu
  cases hu;rfl
 cases z with
 | true=>
  have hP':mw true 0 (fun _=>0)=P:=hP
  obtain ⟨k1,k2⟩:=Nh (z:=true) (n:=0) (c2:=c2) (f:=fun _=>0) (by omega) h43 hP'
  exact ae (ziG _ P) (RN n c c2 f (iL (tW true 0 fun _=>0)) P) (fun p hp=>(aaw.1 hp).elim (k1 p) (k2 p)) hM cv hv hval
 | false=>
  have hP':mw false n (fun i=>f (0+i))=P:=by rw [nI];exact hP
  obtain ⟨k1,k2⟩:=Nh (z:=false) (c2:=c2) hn h43 hP'
  refine ae (ziG _ P) (RO n c c2 f (iL (tW false n fun i=>f (0+i))) P) (fun p hp=>?_) hM cv hv hval
  rcases aaw.1 hp with hp|hp
  ·exact k1 p hp
  ·rcases List.mem_cons.1 hp with rfl|hp
   ·omega
   ·exact k2 p hp
def fz(T:CallT)(f0:aaz)(s:SV):CallT:=fun f args m nid=>match T f args m nid with
 | some out=>match f==f0 with
  | true=>some { out with val:=s,ob:=(∀ ρ,out.val.val ρ=s.val ρ)::out.ob }
  | false=>some out
 | none=>none
theorem b7{P:Program}{T:CallT}(h:ag P T)(f0:aaz)(s:SV):ag P (fz T f0 s):=by
 intro f args m nid out af ax ρ w vs hv hM df
 unfold fz at af
 split at af
 ·rename_i o ho
  split at af
  ·cases af
   refine (h f args m nid o ho (fun p hp=>ax p (aaa _ hp)) ρ w vs hv hM df).mono ?_
   rintro u w' ⟨ρ',h1,h2,h3⟩
   refine ⟨ρ',h1,?_,h3⟩
   rw [←h2]
   exact (ax _ aac ρ').symm
  ·cases af
   exact h f args m nid _ ho ax ρ w vs hv hM df
 ·cases af
theorem SG{T:CallT}(hT:ag Tryz.prog T){f:aaz}{args:List AV}{m:St}{hints:List (Nat×Bool)}{hf:aaz→List (Nat×Bool)}{id:Nat}{s:SV}{ob:List Prop}{l:List It}(h:tG T f args m hints hf id=some (s,ob,some l))(ax:∀ p∈ob,p){ρ:Rho}{w:World}(hM:Mem ρ m w)
  (cv:∀ c,¬Own ρ c) {vs us:List Value} (hv:ay ρ args=some vs) (AI:app id=true) (hn:ρ id=none) (hl:∀ ρ,conc ρ l=some us) {F:Nat→Value} (hs:∀ ρ' g,ρ'.at id=some (g,0)→∀ u,s.val ρ'=some u→u=F g) :
  Calls Tryz.prog f vs.toArray w fun e w'=>∃ g,w.heap.size≤g∧e = .returned (F g)∧Stands w' g 0 us∧Below w.heap.size w w':=by
 unfold tG at h
 split at h
 ·rename_i d hd
  split at h
  ·rename_i o ho
   simp only [aag,abq] at h
   obtain ⟨e1,e2,e3⟩:=h
   subst e2
   refine (fB an ab (gm an ab hT aB 1000 hf 6) (aB _ _ hd) ho ax hv hM).mono ?_
   rintro e w' ⟨u,rfl,ρ',hE,hu,Bh⟩
   have hb:St.blk (aX m (ia (o.wr++o.news))) id=some l:=by rw [eJ,e3]
   obtain ⟨g,o',ov,f1,f2,f3⟩:=Bh.ok.blk id l hb
   rw [hl] at f2;cases f2
   have hg:w.heap.size≤g:=by
    rcases hE.new id g o' hn f1 with h|h
    ·exact h
    ·exact absurd h (cv g)
   have hat:ρ'.at id=some (g,0):=by rw [Rho.at_some f1,uu AI]
   refine ⟨g,hg,?_,⟨f3.1,fun i v hi=>?_⟩,hE.below cv⟩
   ·rw [e1] at hu
    rw [hs ρ' g hat u hu]
   ·have:=f3.cell hi
    rw [uu AI] at this
    exact this
  ·cases h
 ·cases h
def zwN(s:SV)(id N:Nat):Bool:=match s with
 | .tup [⟨false,[.s i off len cap]⟩,⟨false,[.v (.int .i64 z)]⟩]=>(i==id)&&((off==0)&&((len==N)&&((cap==N)&&decide (z=0))))
 | _=>false
theorem zmY{s:SV}{id N:Nat}(h:zwN s id N=true):s = .tup [bT (.s id 0 N N),pp 0]:=by
 unfold zwN at h
 split at h
 ·simp only [Bool.and_eq_true,beq_iff_eq,decide_eq_true_eq] at h
  obtain ⟨rfl,rfl,rfl,rfl,rfl⟩:=h
  rfl
 ·cases h
def rE(T:CallT)(f:aaz)(args:List AV)(m:St)(hints:List (Nat×Bool))(id N:Nat):Option (Bool×List Prop×List It):=match tG T f args m hints (fun _=>[]) id with
 | some (s,ob,some l)=>some (zwN s id N,ob,l)
 | _=>none
theorem zcs{T:CallT}{f:aaz}{args:List AV}{m:St}{hints:List (Nat×Bool)}{id N:Nat}{ob:List Prop}{l:List It}(h:rE T f args m hints id N=some (true,ob,l)):tG T f args m hints (fun _=>[]) id=some (.tup [bT (.s id 0 N N),pp 0],ob,some l):=by
 unfold rE at h
 split at h
 ·rename_i s jW l' e
  simp only [aag,abq] at h
  obtain ⟨h1,rfl,rfl⟩:=h
  rw [e,zmY h1]
 ·cases h
def FB(inf big:Bool)(b:Int):Int:=match inf,big with
 | true,_=>Eng.bits .or .u8 (Eng.bits .or .u8 b 128) 64
 | false,true=>Eng.bits .or .u8 (Eng.bits .or .u8 b 128) 32
 | false,false=>Eng.bits .or .u8 b 128
def Iq:List Row:=[jb (kV Nat) (kdF .u8 48).rs 129 (fun n=>dk (fV n) 48)]
theorem QQ:∀ r∈Iq,bE Tryz.prog r:=by
 simp only [Iq,aab,aad,false_imp_iff,implies_true,and_true]
 exact cW zf6
def zzq:CallT:=jV (aA Iq) (jV ziE TSb)
theorem Wh:ag Tryz.prog zzq:=aT (ap QQ) (aT B3 EA)
def Z7(ok:Bool)(Q:P1)(big:Bool):CallT:=fz (fz (fz zzq 25 (.one (cY ok))) 87 (.one (wP Q))) 22 (.one (cY big))
theorem ot(ok:Bool)(Q:P1)(big:Bool):ag Tryz.prog (Z7 ok Q big):=b7 (b7 (b7 Wh _ _) _ _) _ _
def Z6(ok:Bool)(Q:P2)(big:Bool):CallT:=fz (fz (fz zzq 32 (.one (cY ok))) 104 (.one (wP Q))) 29 (.one (cY big))
theorem oq(ok:Bool)(Q:P2)(big:Bool):ag Tryz.prog (Z6 ok Q big):=b7 (b7 (b7 Wh _ _) _ _) _ _
def wT:AV:=⟨false,[.v (.bool true)]⟩
def qM(Q:P1)(big:Bool):List Int:=FB Q.2 big (dk (fV Q.1.1) 48 0)::(bn (dk (fV Q.1.1) 48) 1 47++bn (dk (fV Q.1.2) 48) 0 48)
def rZ(Q:P2)(big:Bool):List Int:=FB Q.2 big (dk (fV Q.1.1.2) 48 0)::(bn (dk (fV Q.1.1.2) 48) 1 47++bn (dk (fV Q.1.1.1) 48) 0 48++bn (dk (fV Q.1.2.2) 48) 0 48++bn (dk (fV Q.1.2.1) 48) 0 48)
def zfl:Nat:=cU 31457310
def zfk:Nat:=cU 39845948
def zdx(P Q:P1)(big:Bool):List Prop:=[∀ ρ,SV.val ρ (.one (cY (eV P)))=SV.val ρ (.one (cY true)),∀ ρ,SV.val ρ (.one (wP (gJ (bO P))))=SV.val ρ (.one (wP Q)),∀ ρ,SV.val ρ (.one (cY (qP Q.1.2)))=SV.val ρ (.one (cY big))]
def zdw(P Q:P2)(big:Bool):List Prop:=[∀ ρ,SV.val ρ (.one (cY (dW P)))=SV.val ρ (.one (cY true)),∀ ρ,SV.val ρ (.one (wP (cS (ιP2 P))))=SV.val ρ (.one (wP Q)),∀ ρ,SV.val ρ (.one (cY (jx Q.1.2)))=SV.val ρ (.one (cY big))]
theorem znT(P:P1)(qx qy:Nat):rE (Z7 true (((qx,qy),true):P1) true) 42 [wP P,wT] [] [] zfl 48=some (true,zdx P (((qx,qy),true):P1) true,bR (qM (((qx,qy),true):P1) true)):=by kernel_rfl
theorem znU(P:P1)(qx qy:Nat):rE (Z7 true (((qx,qy),true):P1) false) 42 [wP P,wT] [] [] zfl 48=some (true,zdx P (((qx,qy),true):P1) false,bR (qM (((qx,qy),true):P1) false)):=by kernel_rfl
theorem znW(P:P1)(qx qy:Nat):rE (Z7 true (((qx,qy),false):P1) true) 42 [wP P,wT] [] [] zfl 48=some (true,zdx P (((qx,qy),false):P1) true,bR (qM (((qx,qy),false):P1) true)):=by kernel_rfl
theorem znX(P:P1)(qx qy:Nat):rE (Z7 true (((qx,qy),false):P1) false) 42 [wP P,wT] [] [] zfl 48=some (true,zdx P (((qx,qy),false):P1) false,bR (qM (((qx,qy),false):P1) false)):=by kernel_rfl
theorem znN(P:P2)(qx GC qy GB:Nat):rE (Z6 true ((((qx,GC),(qy,GB)),true):P2) true) 86 [wP P,wT] [] [] zfk 96=some (true,zdw P ((((qx,GC),(qy,GB)),true):P2) true,bR (rZ ((((qx,GC),(qy,GB)),true):P2) true)):=by kernel_rfl
theorem znO(P:P2)(qx GC qy GB:Nat):rE (Z6 true ((((qx,GC),(qy,GB)),true):P2) false) 86 [wP P,wT] [] [] zfk 96=some (true,zdw P ((((qx,GC),(qy,GB)),true):P2) false,bR (rZ ((((qx,GC),(qy,GB)),true):P2) false)):=by kernel_rfl
theorem znQ(P:P2)(qx GC qy GB:Nat):rE (Z6 true ((((qx,GC),(qy,GB)),false):P2) true) 86 [wP P,wT] [] [] zfk 96=some (true,zdw P ((((qx,GC),(qy,GB)),false):P2) true,bR (rZ ((((qx,GC),(qy,GB)),false):P2) true)):=by kernel_rfl
theorem znR(P:P2)(qx GC qy GB:Nat):rE (Z6 true ((((qx,GC),(qy,GB)),false):P2) false) 86 [wP P,wT] [] [] zfk 96=some (true,zdw P ((((qx,GC),(qy,GB)),false):P2) false,bR (rZ ((((qx,GC),(qy,GB)),false):P2) false)):=by kernel_rfl
theorem ob3{p q r:Prop}(h1:p)(h2:q)(h3:r):∀ x∈[p,q,r],x:=aa h1 (aa h2 (aa h3 ad))
theorem ztZ{id N:Nat}(ρ:Rho)(g:Nat)(hat:ρ.at id=some (g,0))(u:Value)(hu:SV.val ρ (.tup [bT (.s id 0 N N),pp 0])=some u):u = .tuple #[.slice (some ⟨g,0,none⟩) N N,.int .i64 0]:=by
 have e1:AV.val ρ (bT (.s id 0 N N))=some (.slice (some ⟨g,0,none⟩) N N):=by
  have e:=bu (ρ:=ρ) (id:=id) (q:=(g,0)) hat 0 N N
  exact e
 rw [jh e1 (so ρ 0)] at hu
 cases hu;rfl
def xS(w:World)(N:Nat)(l:List Int)(u:Value)(w':World):Prop:=∃ g,w.heap.size≤g∧u = .tuple #[.slice (some ⟨g,0,none⟩) N N,.int .i64 0]∧Stands w' g 0 (l.map (Value.int .u8))∧Below w.heap.size w w'
theorem rY{T:CallT}(hT:ag Tryz.prog T){f:aaz}{d:Fn1}(hd:fJ f=some d){args:List AV}{vs:List Value}{id N:Nat}{ob:List Prop}{l:List Int}(AI:app id=true)(h:rE T f args [] [] id N=some (true,ob,bR l))(ax:∀ p∈ob,p)(hv:ay rho0 args=some vs)(w:World):
  Invoked Tryz.prog f vs.toArray w (xS w N l):=by
 refine .inr ⟨(aB _ d hd).enter _ _,?_⟩
 refine (SG hT (zcs h) ax (fU (w:=w)).1 (fU (w:=w)).2 hv AI rfl (us:=l.map (Value.int .u8)) (fun ρ=>g_ ρ .u8 l) (F:=fun g=>.tuple #[.slice (some ⟨g,0,none⟩) N N,.int .i64 0]) (fun ρ' g hat u hu=>ztZ ρ' g hat u hu)).mono ?_
 rintro e w' ⟨g,hg,rfl,hS,hB⟩
 exact ⟨_,rfl,g,hg,rfl,hS,hB⟩
def dE1:Fn1:=match fJ 42 with
 | some d=>d
 | none=>⟨.skip,[],0⟩
theorem J3:fJ 42=some dE1:=by kernel_rfl
theorem FH(P:P1)(hP:eV P=true)(w:World):Invoked Tryz.prog 42 #[i_ P,.bool true] w (xS w 48 (qM (gJ (bO P)) (qP (gJ (bO P)).1.2))):=by
 obtain ⟨Q,hQ⟩:∃ Q,gJ (bO P)=Q:=⟨_,rfl⟩
 obtain ⟨b,hb⟩:∃ b,qP Q.1.2=b:=⟨_,rfl⟩
 rw [hQ,hb]
 have ax:∀ p∈zdx P Q b,p:=ob3 (fun ρ=>by rw [hP]) (fun ρ=>by rw [hQ]) (fun ρ=>by rw [hb])
 have hv:ay rho0 [wP P,wT]=some [i_ P,.bool true]:=by simp only [ay,jO,show AV.val rho0 wT=some (.bool true) from jP rho0 true]
 have AI:app zfl=true:=by kernel_rfl
 obtain ⟨⟨qx,qy⟩,i⟩:=Q
 cases i<;>cases b
 ·exact rY (ot _ _ _) J3 AI (znX P qx qy) ax hv w
 ·exact rY (ot _ _ _) J3 AI (znW P qx qy) ax hv w
 ·exact rY (ot _ _ _) J3 AI (znU P qx qy) ax hv w
 ·exact rY (ot _ _ _) J3 AI (znT P qx qy) ax hv w
def dE2:Fn1:=match fJ 86 with
 | some d=>d
 | none=>⟨.skip,[],0⟩
theorem J0:fJ 86=some dE2:=by kernel_rfl
theorem FG(P:P2)(hP:dW P=true)(w:World):Invoked Tryz.prog 86 #[i_ P,.bool true] w (xS w 96 (rZ (cS (ιP2 P)) (jx (cS (ιP2 P)).1.2))):=by
 obtain ⟨Q,hQ⟩:∃ Q,cS (ιP2 P)=Q:=⟨_,rfl⟩
 obtain ⟨b,hb⟩:∃ b,jx Q.1.2=b:=⟨_,rfl⟩
 rw [hQ,hb]
 have ax:∀ p∈zdw P Q b,p:=ob3 (fun ρ=>by rw [hP]) (fun ρ=>by rw [hQ]) (fun ρ=>by rw [hb])
 have hv:ay rho0 [wP P,wT]=some [i_ P,.bool true]:=by simp only [ay,jO,show AV.val rho0 wT=some (.bool true) from jP rho0 true]
 have AI:app zfk=true:=by kernel_rfl
 obtain ⟨⟨⟨qx,GC⟩,⟨qy,GB⟩⟩,i⟩:=Q
 cases i<;>cases b
 ·exact rY (oq _ _ _) J0 AI (znR P qx GC qy GB) ax hv w
 ·exact rY (oq _ _ _) J0 AI (znQ P qx GC qy GB) ax hv w
 ·exact rY (oq _ _ _) J0 AI (znO P qx GC qy GB) ax hv w
 ·exact rY (oq _ _ _) J0 AI (znN P qx GC qy GB) ax hv w
def dRd:Fn1:=match fJ 18 with
 | some d=>d
 | none=>⟨.skip,[],0⟩
theorem zhk:FnOk Tryz.prog 18 dRd:=aB _ _ (by kernel_rfl)
def EF:Eng:={ tab:=bh,call:=kR bh T0 fJ 1000 (fun _=>[]) 6,N:=95 }
set_option maxRecDepth 100000 in
theorem ql:ag Tryz.prog EF.call:=gm an ab pk aB 1000 (fun _=>[]) 6
def zyg:Code→Code
 | .cond _ a _=>a
 | c=>c
def zyf:Code→Code
 | .cond _ _ b=>b
 | c=>c
def vM:Code→Code
 | .scope a=>a
 | c=>c
def ZH:List Code:=Dz.zbo 7 dRd.body
def zyq:Code:=bJ (Dz.Of 7 dRd.body)
def zNL:Code:=aJ (Dz.Of 7 dRd.body)
def zsD:Code:=bJ zyq
def zNM:Code:=zyf (aJ zyq)
def zoB:Code:=vM (zyg (aJ zyq))
def zFM:Code:=bJ zoB
def zsC:Code:=bJ (bJ (aJ zoB))
def ZG:Code:=gw (dh (aJ (bJ (aJ zoB))))
def zFL:Code:=aJ (aJ zoB)
theorem zhl:dRd.body=gG ZH (.seq (.seq zsD (.cond (.tmp 62) (.scope (.seq zFM (.seq (.seq zsC (.block 0 (.loop ZG))) zFL))) zNM)) zNL):=by kernel_rfl
theorem zH:dRd.ntmps=95:=by kernel_rfl
theorem Ou:dRd.results=[.tmp 6,.tmp 7,.tmp 8]:=by kernel_rfl
def qY:Nat:=cU 63
def YG(n kk:Nat)(h:Int)(f:Nat→Int):St:=aW 0 [bT (.s 1 0 n (kk+n)),bT (.v (.int .i64 h)),wT] 92++cj [(1,bR (bn f 0 n))]
def lT(n:Nat)(f:Nat→Int)(big:Bool)(B:List It):St:=[(26,Gh (.c qY 1 0 0 n)),(22,.sl (.one (cY true))),(24,.sl (.one (cY big))),(3,.bl (bR (bn f 0 n))),(2*qY+1,.bl B)]
def zbG(n:Nat)(f:Nat→Int)(big:Bool)(B:List It):St:=(124,.sl (.one (cY true)))::lT n f big B
def A0(n:Nat)(f:Nat→Int)(big:Bool)(B:List It)(i:Int):St:=(126,Gh (.c qY 1 0 0 n))::(128,Gh (.v (.int .i64 n)))::(130,Gh (.v (.int .i64 i)))::lT n f big B
def H4(n:Nat)(f:Nat→Int)(e:Int):St:=[(12,Gh (.v (.slice none 0 0))),(14,.sl (.one (cY false))),(16,Gh (.v (.int .i64 e))),(3,.bl (bR (bn f 0 n)))]
def jI(n:Nat)(f:Nat→Int):List Int:=Eng.bits .and .u8 (f 0) 31::bn f 1 (n-1)
def rB(n:Nat)(G:Nat→Int):List It:=[.w 0 0,.g .u8 n G]
def zdu(n:Nat)(h:Int)(f:Nat→Int)(big:Bool):List Prop:=[(n:Int)≠IntKind.i64.wrap (48*h)↔false=true,Eng.bits .and .u8 (f 0) 128>0↔true=true,Eng.bits .and .u8 (f 0) 64>0↔true=true,Eng.bits .and .u8 (f 0) 32>0↔big=true]
theorem Pf(kk:Nat)(f:Nat→Int):probes EF 1000 ZH (YG 48 kk 1 f) 16 [(28,false),(33,true),(38,true),(43,true)] ((lT 48 f true (bR (jI 48 f))).map (·.1))=some (0,zdu 48 1 f true,(lT 48 f true (bR (jI 48 f))).map fun p=>some p.2):=by kernel_rfl
theorem Pg(kk:Nat)(f:Nat→Int):probes EF 1000 ZH (YG 48 kk 1 f) 16 [(28,false),(33,true),(38,true),(43,false)] ((lT 48 f false (bR (jI 48 f))).map (·.1))=some (0,zdu 48 1 f false,(lT 48 f false (bR (jI 48 f))).map fun p=>some p.2):=by kernel_rfl
theorem Pd(kk:Nat)(f:Nat→Int):probes EF 1000 ZH (YG 96 kk 2 f) 16 [(28,false),(33,true),(38,true),(43,true)] ((lT 96 f true (bR (jI 96 f))).map (·.1))=some (0,zdu 96 2 f true,(lT 96 f true (bR (jI 96 f))).map fun p=>some p.2):=by kernel_rfl
theorem Pe(kk:Nat)(f:Nat→Int):probes EF 1000 ZH (YG 96 kk 2 f) 16 [(28,false),(33,true),(38,true),(43,false)] ((lT 96 f false (bR (jI 96 f))).map (·.1))=some (0,zdu 96 2 f false,(lT 96 f false (bR (jI 96 f))).map fun p=>some p.2):=by kernel_rfl
theorem zIO(n:Nat)(f:Nat→Int)(big:Bool)(B:List It):probe EF 1000 zsD (lT n f big B) 100 [] ((zbG n f big B).map (·.1))=some (0,[],(zbG n f big B).map fun p=>some p.2):=by kernel_rfl
theorem zOq(n:Nat)(f:Nat→Int)(big:Bool)(B:List It):probe EF 1000 zFM (lT n f big B) 100 [] ((lT n f big B).map (·.1))=some (0,[],(lT n f big B).map fun p=>some p.2):=by kernel_rfl
theorem zIN(n:Nat)(f:Nat→Int)(big:Bool)(B:List It):probe EF 1000 zsC (lT n f big B) 100 [] ((A0 n f big B 0).map (·.1))=some (0,[],(A0 n f big B 0).map fun p=>some p.2):=by kernel_rfl
theorem zpY(n j:Nat)(f G:Nat→Int):probe EF 1000 ZG (A0 n f false (rB n G) (j:Int)) 100 [(66,true),(67,false),(70,true)] ((A0 n f false (rB n G) (IntKind.i64.wrap ((j:Int)+1))).map (·.1)) =
 some (0,[(j:Int)<(n:Int)↔true=true,0≤(j:Int)∧(j:Int)<(n:Int),0+(j:Int).toNat*1<n,G (0+(j:Int).toNat*1)=0↔true=true],(A0 n f false (rB n G) (IntKind.i64.wrap ((j:Int)+1))).map fun p=>some p.2):=by kernel_rfl
theorem zpX(n j:Nat)(f G:Nat→Int)(big:Bool):probe EF 1000 ZG (A0 n f big (rB n G) (j:Int)) 100 [(66,true),(67,false),(70,false)] ((H4 n f 202).map (·.1)) =
 some (1,[(j:Int)<(n:Int)↔true=true,0≤(j:Int)∧(j:Int)<(n:Int),0+(j:Int).toNat*1<n,G (0+(j:Int).toNat*1)=0↔false=true],(H4 n f 202).map fun p=>some p.2):=by cases big<;>kernel_rfl
theorem zzu(n j:Nat)(f G:Nat→Int):probe EF 1000 ZG (A0 n f true (rB n G) (j:Int)) 100 [(66,true),(67,false),(70,true)] ((H4 n f 202).map (·.1)) =
 some (1,[(j:Int)<(n:Int)↔true=true,0≤(j:Int)∧(j:Int)<(n:Int),0+(j:Int).toNat*1<n,G (0+(j:Int).toNat*1)=0↔true=true],(H4 n f 202).map fun p=>some p.2):=by kernel_rfl
theorem zp0(n j:Nat)(f G:Nat→Int)(big:Bool):probe EF 1000 ZG (A0 n f big (rB n G) (j:Int)) 100 [(66,false)] ((lT n f big (rB n G)).map (·.1))=some (2,[(j:Int)<(n:Int)↔false=true],(lT n f big (rB n G)).map fun p=>some p.2):=by kernel_rfl
theorem zpW(n:Nat)(f:Nat→Int)(big:Bool)(B:List It):probe EF 1000 zFL (lT n f big B) 100 [] ((H4 n f 0).map (·.1))=some (1,[],(H4 n f 0).map fun p=>some p.2):=by kernel_rfl
theorem Xr{c c':Ct}{k0:Nat}(h:SameCt c c'):∀ (l:St) (k:Nat),match Eng.look (l++[(k0,c)]) k,Eng.look (l++[(k0,c')]) k with | some c,some c'=>SameCt c c' | none,none=>True | _,_=>False:=by
 intro l
 induction l with
 | nil=>
  intro k
  simp only [List.nil_append,Eng.look,beq_iff_eq]
  by_cases e:k0=k
  ·simp only [e,if_true];exact h
  ·simp only [e,if_false]
 | cons p l ih=>
  intro k
  obtain ⟨k1,v⟩:=p
  simp only [List.cons_append,Eng.look,beq_iff_eq]
  by_cases e:k1=k
  ·simp only [e,if_true];exact SameCt.refl _
  ·simp only [e,if_false];exact ih k
theorem PV{f g:Nat→Int}:∀ k j,(∀ i,j≤i→f i=g i)→bn f j k=bn g j k:=by
 intro k
 induction k with
 | zero=>intro j _;rfl
 | succ k ih=>
  intro j h
  simp only [bn]
  rw [h j (Nat.le_refl _),ih (j+1) fun i hi=>h i (by omega)]
def cn(f:Nat→Int)(i:Nat):Int:=if i=0 then Eng.bits .and .u8 (f 0) 31 else f i
theorem Mc{n:Nat}(hn:1≤n)(f:Nat→Int):jI n f=bn (cn f) 0 n:=by
 obtain ⟨m,rfl⟩:∃ m,n=m+1:=⟨n-1,by omega⟩
 unfold jI
 rw [bn,Nat.add_sub_cancel,PV (f:=f) (g:=cn f) m 1 (fun i hi=>by unfold cn;rw [if_neg (by omega)])]
 rfl
theorem Xq{n:Nat}(hn:1≤n)(f:Nat→Int):SameCt (.bl (bR (jI n f))) (.bl (rB n (cn f))):=by
 intro ρ vs hv
 rw [bR,g_] at hv
 cases hv
 unfold rB
 rw [aD,Mc hn,←oY rfl]
def N48(n:Nat):Prop:=n=48∨n=96
theorem Jt{n:Nat}(hn:N48 n)(f:Nat→Int)(big:Bool):aw (lT n f big (rB n (cn f))) [1,qY]=true:=by rcases hn with rfl | rfl<;>kernel_rfl
theorem zmx{n:Nat}(hn:N48 n)(f:Nat→Int)(big:Bool):aw (lT n f big (bR (jI n f))) [1,qY]=true:=by rcases hn with rfl | rfl<;>kernel_rfl
theorem zmw{n:Nat}(hn:N48 n)(f:Nat→Int)(big:Bool):aw (zbG n f big (rB n (cn f))) [1,qY]=true:=by rcases hn with rfl | rfl<;>kernel_rfl
theorem UU{n:Nat}(hn:N48 n)(f:Nat→Int)(big:Bool)(i:Int):aw (A0 n f big (rB n (cn f)) i) [1,qY]=true:=by rcases hn with rfl | rfl<;>kernel_rfl
theorem Js{n:Nat}(hn:N48 n)(f:Nat→Int)(e:Int):aw (H4 n f e) [1]=true:=by rcases hn with rfl | rfl<;>kernel_rfl
theorem Kr(n:Nat)(f:Nat→Int)(big:Bool)(B:List It):[1,qY].all (fun id=>((lT n f big B).blk id).isSome)=true:=by kernel_rfl
theorem zyE(n:Nat)(f:Nat→Int)(big:Bool)(B:List It):[1,qY].all (fun id=>((zbG n f big B).blk id).isSome)=true:=by kernel_rfl
theorem zh7(n:Nat)(f:Nat→Int)(big:Bool)(B:List It)(i:Int):[1,qY].all (fun id=>((A0 n f big B i).blk id).isSome)=true:=by kernel_rfl
theorem SR(n:Nat)(f:Nat→Int)(e:Int):[1].all (fun id=>((H4 n f e).blk id).isSome)=true:=by kernel_rfl
theorem FE{b o:Nat}{l:List Nat}(h1:1∈l):∀ id q,bV b o id=some q→id∈l:=fun id q h=>by
 unfold bV at h
 rw [fX] at h
 simp only [Eng.look,beq_iff_eq] at h
 split at h
 ·rename_i e;rw [←e];exact h1
 ·cases h
def SZ(n:Nat)(f:Nat→Int)(big:Bool):Prop:=big=false∧∀ i,i<n→cn f i=0
theorem zpZ{b o:Nat}{w0:World}{n:Nat}(hn:N48 n){f:Nat→Int}{big:Bool}{Q:Exit→Act→World→Prop}
  (hE:¬SZ n f big→∀ a w,At 95 (bV b o) w0 (H4 n f 202) a w→Q .ret a w) (hX:SZ n f big→∀ a w,At 95 (bV b o) w0 (lT n f big (rB n (cn f))) a w→Q (.exit 0) a w) {a:Act} {w:World}
  (hA:At 95 (bV b o) w0 (A0 n f big (rB n (cn f)) 0) a w):(Code.loop ZG).wp Tryz.prog Q a w:=by
 have hn1:1≤n∧n≤96:=by rcases hn with rfl | rfl<;>omega
 refine dG (w0:=w0) (dL:=bV b o) (N:=95) (ι:=Nat) (fun j=>j≤n∧(0<j→big=false)∧∀ i,i<j→cn f i=0) (fun j=>A0 n f big (rB n (cn f)) (j:Int)) (fun j=>n-j) ?_ 0 ⟨Nat.zero_le _,fun h=>absurd h (by omega),fun i h=>absurd h (by omega)⟩ a w hA
 intro j hj a w hA
 obtain ⟨hj,hb,hz⟩:j≤n∧(0<j→big=false)∧∀ i,i<j→cn f i=0:=hj
 rcases Nat.lt_or_ge j n with hlt|hge
 ·have e0:0+(j:Int).toNat*1=j:=by omega
  by_cases hG:cn f j=0
  ·cases RM:big with
   | false=>
    rw [RM] at hA
    refine At.probe (E:=EF) an ab ql (zpY n j f (cn f)) (aa (bD (by omega)) (aa ⟨by omega,by omega⟩ (aa (by omega) (aa (bD (by rw [e0];exact hG)) ad)))) hA [1,qY] (jS (zh7 _ _ _ _ _)) (UU hn _ _ _) (FE (by simp)) fun a' w' bY=>?_
    rw [bq (by omega) (by omega)] at bY
    refine ⟨j+1,⟨by omega,fun _=>rfl,fun i hi=>?_⟩,by show n-(j+1)<n-j;omega,?_⟩
    ·rcases Nat.lt_or_ge i j with h|h
     ·exact hz i h
     ·obtain rfl:i=j:=by omega
      exact hG
    ·exact bY
   | true=>
    rw [RM] at hA
    exact At.probe (E:=EF) an ab ql (zzu n j f (cn f)) (aa (bD (by omega)) (aa ⟨by omega,by omega⟩ (aa (by omega) (aa (bD (by rw [e0];exact hG)) ad)))) hA [1] (jS (SR _ _ _)) (Js hn _ _) (FE (by simp)) fun a' w' bY=>hE (fun hZ=>by rw [RM] at hZ;cases hZ.1) a' w' bY
  ·exact At.probe (E:=EF) an ab ql (zpX n j f (cn f) big) (aa (bD (by omega)) (aa ⟨by omega,by omega⟩ (aa (by omega) (aa (br (by rw [e0];exact hG)) ad)))) hA [1] (jS (SR _ _ _)) (Js hn _ _) (FE (by simp)) fun a' w' bY=>hE (fun hZ=>hG (hZ.2 j hlt)) a' w' bY
 ·obtain rfl:j=n:=by omega
  exact At.probe (E:=EF) an ab ql (zp0 j j f (cn f) big) (aa (br (by omega)) ad) hA [1,qY] (jS (Kr _ _ _ _)) (Jt hn _ _) (FE (by simp)) fun a' w' bY=>hX ⟨hb (by omega),hz⟩ a' w' bY
theorem K2{ρ:Rho}{a b c:AV}{va vb vc:Value}(h1:AV.val ρ a=some va)(h2:AV.val ρ b=some vb)(h3:AV.val ρ c=some vc):SV.val ρ (.tup [a,b,c])=some (.tuple #[va,vb,vc]):=by simp only [SV.val,ay,h1,h2,h3]
theorem ziM{n kk:Nat}{h:Int}(hn:(n=48∧h=1)∨(n=96∧h=2))(f:Nat→Int)(big:Bool):probes EF 1000 ZH (YG n kk h f) 16 [(28,false),(33,true),(38,true),(43,big)] ((lT n f big (bR (jI n f))).map (·.1))=some (0,zdu n h f big,(lT n f big (bR (jI n f))).map fun p=>some p.2):=by
 rcases hn with ⟨rfl,rfl⟩|⟨rfl,rfl⟩<;>cases big
 ·exact Pg kk f
 ·exact Pf kk f
 ·exact Pe kk f
 ·exact Pd kk f
theorem zcJ{w:World}{b o kk n:Nat}{h e:Int}{f:Nat→Int}{big:Bool}(hn:(n=48∧h=1)∨(n=96∧h=2))(hs:Stands w b o (gvals .u8 n f))(h1:Eng.bits .and .u8 (f 0) 128>0)(h2:Eng.bits .and .u8 (f 0) 64>0)(h3:Eng.bits .and .u8 (f 0) 32>0↔big=true)
  (hz:SZ n f big→e=0) (hnz:¬SZ n f big→e=202):cX Tryz.prog 18 #[.slice (some ⟨b,o,none⟩) n (kk+n),.int .i64 h,.bool true] (.tuple #[.slice none 0 0,.bool false,.int .i64 e]) w:=by
 have hN:N48 n:=by exact hn.elim (fun h=>.inl h.1) (fun h=>.inr h.1)
 have hn1:1≤n:=by rcases hN with rfl | rfl<;>omega
 have hL:(n:Int)≠IntKind.i64.wrap (48*h)↔false=true:=by
  rcases hn with ⟨rfl,rfl⟩|⟨rfl,rfl⟩<;>exact br (by decide)
 have jd:∀ x∈[((1:Nat),bR (bn f 0 n),(b,o),gvals .u8 n f)],x.1<16∧conc rho0 x.2.1=some x.2.2.2∧Stands w x.2.2.1.1 x.2.2.1.2 x.2.2.2:=
  aab.2 ⟨⟨(by show 1<16;decide),(by rw [oY rfl];exact g_ rho0 .u8 _),hs⟩,fun _ h=>by cases h⟩
 have hM:Mem (bV b o) (cj [(1,bR (bn f 0 n))]) w:=dU _ jd
 have cv:∀ c,¬Own (bV b o) c:=iD (w:=w) _ jd
 have e1:AV.val (bV b o) (bT (.s 1 0 n (kk+n)))=some (.slice (some ⟨b,o,none⟩) n (kk+n)):=by
  have e:=bu (ρ:=bV b o) (id:=1) (q:=(b,o)) (by simp [bV,aH]) 0 n (kk+n)
  simpa [iG,SV.val,bT] using e
 have e2:AV.val (bV b o) (bT (.v (.int .i64 h)))=some (.int .i64 h):=AV.val_v (ρ:=bV b o) (x:=.int .i64 h) rfl
 have e3:AV.val (bV b o) wT=some (.bool true):=jP (bV b o) true
 have hv:ay (bV b o) [bT (.s 1 0 n (kk+n)),bT (.v (.int .i64 h)),wT]=some [.slice (some ⟨b,o,none⟩) n (kk+n),.int .i64 h,.bool true]:=by
  simp only [ay,e1,e2,e3]
 have RE:(cj [(1,bR (bn f 0 n))]).all (fun p=>p.1%2==1)=true:=by simp [cj]
 refine (bX (G:=fun xs st=>xs=[bT (.v (.slice none 0 0)),cY false,bT (.v (.int .i64 e))]) ab zhk hM RE hv (by rw [zH];simp) fun a c9=>?_).mono ?_
 ·rw [zH] at c9
  have c9:At 95 (bV b o) w (YG n kk h f) a w:=c9
  rw [zH,Ou,zhl]
  refine At.probes (E:=EF) an ab ql (ziM hn f big) (aa hL (aa (bD h1) (aa (bD h2) (aa h3 ad)))) c9 [1,qY] (jS (Kr _ _ _ _)) (zmx hN _ _) (FE (by simp)) fun a1 w1 g1=>?_
  have g1:At 95 (bV b o) w (lT n f big (rB n (cn f))) a1 w1:=g1.same (Xr (Xq hn1 f) [(26,Gh (.c qY 1 0 0 n)),(22,.sl (.one (cY true))),(24,.sl (.one (cY big))),(3,.bl (bR (bn f 0 n)))])
  show aaT _ _ _ _ _
  refine wp_seq (wp_seq (At.probe (E:=EF) an ab ql (zIO n f big _) (fun p hp=>by cases hp) g1 [1,qY] (jS (zyE _ _ _ _)) (zmw hN _ _) (FE (by simp)) fun a2 w2 g2=>?_))
  show aaT _ _ _ _ _
  have hc:a2.eval (.tmp 62) = .bool true:=by
   obtain ⟨ρ',_,fD⟩:=g2
   exact lB fD (b:=true) (by kernel_rfl)
  have g2:At 95 (bV b o) w (lT n f big (rB n (cn f))) a2 w2:=g2.forget [1,qY] (fun k c hk=>?_) (jS (Kr _ _ _ _)) (Jt hN _ _) (FE (by simp))
  ·refine wp_cond_true hc (wp_scope_straight (wp_seq (At.probe (E:=EF) an ab ql (zOq n f big _) (fun p hp=>by cases hp) g2 [1,qY] (jS (Kr _ _ _ _)) (Jt hN _ _) (FE (by simp)) fun a3 w3 g3=>?_)))
   show aaT _ _ _ _ _
   refine wp_seq (wp_seq (At.probe (E:=EF) an ab ql (zIN n f big _) (fun p hp=>by cases hp) g3 [1,qY] (jS (zh7 _ _ _ _ _)) (UU hN _ _ _) (FE (by simp)) fun a4 w4 g4=>?_))
   show aaT _ _ _ _ _
   refine wp_block (zpZ hN (fun hE a5 w5 g5=>?_) (fun hX a5 w5 g5=>?_) g4)
   ·rw [hnz hE]
    exact ⟨.inr rfl,_,_,g5,by kernel_rfl,rfl⟩
   ·show aaT _ _ _ _ _
    refine At.probe (E:=EF) an ab ql (zpW n f big _) (fun p hp=>by cases hp) g5 [1] (jS (SR _ _ _)) (Js hN _ _) (FE (by simp)) fun a6 w6 g6=>?_
    rw [hz hX]
    exact ⟨.inr rfl,_,_,g6,by kernel_rfl,rfl⟩
  ·unfold zbG
   have:(124==k)=false:=by
    cases h:(124==k) with
    | false=>rfl
    | true=>
     have h:=beq_iff_eq.1 h
     subst h
     cases hk
   show (if (124==k)=true then _ else _)=_
   rw [this];exact hk
 ·rintro e' w' ⟨v,rfl,xs,st,ρ',hE,hval,Bg,rfl⟩
  refine ⟨?_,hE.below cv⟩
  have e1:AV.val ρ' (bT (.v (.slice none 0 0)))=some (.slice none 0 0):=AV.val_v (ρ:=ρ') (x:=.slice none 0 0) rfl
  have e2:AV.val ρ' (cY false)=some (.bool false):=jP ρ' false
  have e3:AV.val ρ' (bT (.v (.int .i64 e)))=some (.int .i64 e):=AV.val_v (ρ:=ρ') (x:=.int .i64 e) rfl
  have:SV.val ρ' (.tup [bT (.v (.slice none 0 0)),cY false,bT (.v (.int .i64 e))])=some v:=hval
  rw [K2 e1 e2 e3] at this
  cases this;rfl
def Ue{R:Type}(r:Rs R)(f:aaz)(g:Nat→(Nat→Int)→R)(k:Nat→(Nat→Int)→Prop):CallT:=fun f' args m _=>match f'==f with
 | true=>match args with
  | [x]=>match qp m x with
   | some (n,b,ob)=>some { val:=r.sv (g n b),wr:=[],news:=[],ob:=k n b::ob }
   | none=>none
  | _=>none
 | false=>none
theorem L9{R:Type}{r:Rs R}{f:aaz}{g:Nat→(Nat→Int)→R}{k:Nat→(Nat→Int)→Prop}(h:∀ w v n b,k n b→B6 w v n b→Wj f [v] (r.vl (g n b)) w):ag Tryz.prog (Ue r f g k):=by
 intro f' args m nid out af ax ρ w vs hv hM df
 unfold Ue at af
 split at af
 ·rename_i hf
  rw [beq_iff_eq] at hf
  subst hf
  split at af
  ·rename_i x
   split at af
   ·rename_i n b ob hb
    cases af
    obtain ⟨v1,us,h1,h2,rfl⟩:=aj hv
    cases h2
    refine (h w v1 n b (ax _ aac) (ny hM hb (fun p hp=>ax p (aaa _ hp)) h1)).mono fun u w' hu=>?_
    obtain ⟨rfl,hB⟩:=hu
    exact ⟨ρ,Ext.of_below hB,r.val ρ _,hM.of_below hB⟩
   ·cases af
  ·cases af
 ·cases af
def fpT:CallT:=Ue (tI (kV Nat) tj) 45 Vu (fun n b=>1≤n∧bOk 48 b)
theorem zf7:ag Tryz.prog fpT:=L9 fun w v n b hk hb=>znv (fun _=>hk.2) hb hk.1
def uZ(b:Bool):aaz→List (Nat×Bool):=fun f=>match f==18 with
 | true=>[(28,false),(33,true),(38,false),(43,b)]
 | false=>[]
def gg:Rs (P1×Int):=tI (dV A1) tj
def S6(x e y:Nat)(i bg on nG:Bool):CallT:=fz (fz (fz (fz (fz (jV fpT (jV ziE TSb)) 45 ((tI (kV Nat) tj).sv (x,(e:Int)))) 19 (rsQ.sv (y,i))) 22 (.one (cY bg))) 25 (.one (cY nG))) 24 (.one (cY on))
def gD(b:Bool)(y:Nat):Nat:=match b with
 | true=>du y
 | false=>y
def iI(n:Nat)(f:Nat→Int):St:=cj [(1,bR (bn f 0 n))]
def KI(big:Bool)(f:Nat→Int):List Prop:=[((48:Nat):Int)≠IntKind.i64.wrap (48*1)↔false=true,Eng.bits .and .u8 (f 0) 128>0↔true=true,Eng.bits .and .u8 (f 0) 64>0↔false=true,Eng.bits .and .u8 (f 0) 32>0↔big=true]
def qW(f:Nat→Int)(x e:Nat):List Prop:=[∀ ρ,SV.val ρ ((tI (kV Nat) tj).sv (Vu 48 (fun i=>(jI 48 f).getD i 0)))=SV.val ρ ((tI (kV Nat) tj).sv (x,(e:Int))),1≤48∧bOk 48 (fun i=>(jI 48 f).getD i 0)]
def wE(bg on:Bool)(x y:Nat)(i:Bool)(Y:Nat):List Prop:=[∀ ρ,SV.val ρ (rsQ.sv (Aj (bZ (ao (ao x x) x) 4)))=SV.val ρ (rsQ.sv (y,i)),∀ ρ,SV.val ρ (.one (cY (qP y)))=SV.val ρ (.one (cY bg)),∀ ρ,SV.val ρ (.one (cY (E9 (((x,Y),false):P1))))=SV.val ρ (.one (cY on))]
def I0(nG:Bool)(x Y:Nat):List Prop:=[∀ ρ,SV.val ρ (.one (cY (eV (((x,Y),false):P1))))=SV.val ρ (.one (cY nG))]
theorem zg4(kk x y:Nat)(i:Bool)(f:Nat→Int):cV (S6 x 41 y i true true true) 7 [bT (.s 1 0 48 (kk+48)),wT] (iI 48 f) [] (uZ true)=some (gg.sv ((((0,0),false):P1),203),KI true f++qW f x 41):=by kernel_rfl
theorem zod(kk x y:Nat)(i:Bool)(f:Nat→Int):cV (S6 x 0 y i true true true) 7 [bT (.s 1 0 48 (kk+48)),wT] (iI 48 f) [(49,false)] (uZ true)=some (gg.sv ((((x,gD false y),false):P1),0),KI true f++qW f x 0++wE true true x y i (gD false y)++I0 true x (gD false y)):=by kernel_rfl
theorem Zo(kk x y:Nat)(i:Bool)(f:Nat→Int):cV (S6 x 0 y i true true false) 7 [bT (.s 1 0 48 (kk+48)),wT] (iI 48 f) [(49,false)] (uZ true)=some (gg.sv ((((0,0),false):P1),205),KI true f++qW f x 0++wE true true x y i (gD false y)++I0 false x (gD false y)):=by kernel_rfl
theorem Zs(kk x y:Nat)(i:Bool)(f:Nat→Int):cV (S6 x 0 y i true false false) 7 [bT (.s 1 0 48 (kk+48)),wT] (iI 48 f) [(49,false)] (uZ true)=some (gg.sv ((((0,0),false):P1),204),KI true f++qW f x 0++wE true false x y i (gD false y)):=by kernel_rfl
theorem zoe(kk x y:Nat)(i:Bool)(f:Nat→Int):cV (S6 x 0 y i false true true) 7 [bT (.s 1 0 48 (kk+48)),wT] (iI 48 f) [(49,true)] (uZ true)=some (gg.sv ((((x,gD true y),false):P1),0),KI true f++qW f x 0++wE false true x y i (gD true y)++I0 true x (gD true y)):=by kernel_rfl
theorem Zp(kk x y:Nat)(i:Bool)(f:Nat→Int):cV (S6 x 0 y i false true false) 7 [bT (.s 1 0 48 (kk+48)),wT] (iI 48 f) [(49,true)] (uZ true)=some (gg.sv ((((0,0),false):P1),205),KI true f++qW f x 0++wE false true x y i (gD true y)++I0 false x (gD true y)):=by kernel_rfl
theorem Zt(kk x y:Nat)(i:Bool)(f:Nat→Int):cV (S6 x 0 y i false false false) 7 [bT (.s 1 0 48 (kk+48)),wT] (iI 48 f) [(49,true)] (uZ true)=some (gg.sv ((((0,0),false):P1),204),KI true f++qW f x 0++wE false false x y i (gD true y)):=by kernel_rfl
theorem zg5(kk x y:Nat)(i:Bool)(f:Nat→Int):cV (S6 x 41 y i true true true) 7 [bT (.s 1 0 48 (kk+48)),wT] (iI 48 f) [] (uZ false)=some (gg.sv ((((0,0),false):P1),203),KI false f++qW f x 41):=by kernel_rfl
theorem zof(kk x y:Nat)(i:Bool)(f:Nat→Int):cV (S6 x 0 y i true true true) 7 [bT (.s 1 0 48 (kk+48)),wT] (iI 48 f) [(49,true)] (uZ false)=some (gg.sv ((((x,gD true y),false):P1),0),KI false f++qW f x 0++wE true true x y i (gD true y)++I0 true x (gD true y)):=by kernel_rfl
theorem Zq(kk x y:Nat)(i:Bool)(f:Nat→Int):cV (S6 x 0 y i true true false) 7 [bT (.s 1 0 48 (kk+48)),wT] (iI 48 f) [(49,true)] (uZ false)=some (gg.sv ((((0,0),false):P1),205),KI false f++qW f x 0++wE true true x y i (gD true y)++I0 false x (gD true y)):=by kernel_rfl
theorem Zu(kk x y:Nat)(i:Bool)(f:Nat→Int):cV (S6 x 0 y i true false false) 7 [bT (.s 1 0 48 (kk+48)),wT] (iI 48 f) [(49,true)] (uZ false)=some (gg.sv ((((0,0),false):P1),204),KI false f++qW f x 0++wE true false x y i (gD true y)):=by kernel_rfl
theorem zog(kk x y:Nat)(i:Bool)(f:Nat→Int):cV (S6 x 0 y i false true true) 7 [bT (.s 1 0 48 (kk+48)),wT] (iI 48 f) [(49,false)] (uZ false)=some (gg.sv ((((x,gD false y),false):P1),0),KI false f++qW f x 0++wE false true x y i (gD false y)++I0 true x (gD false y)):=by kernel_rfl
theorem Zr(kk x y:Nat)(i:Bool)(f:Nat→Int):cV (S6 x 0 y i false true false) 7 [bT (.s 1 0 48 (kk+48)),wT] (iI 48 f) [(49,false)] (uZ false)=some (gg.sv ((((0,0),false):P1),205),KI false f++qW f x 0++wE false true x y i (gD false y)++I0 false x (gD false y)):=by kernel_rfl
theorem Zv(kk x y:Nat)(i:Bool)(f:Nat→Int):cV (S6 x 0 y i false false false) 7 [bT (.s 1 0 48 (kk+48)),wT] (iI 48 f) [(49,false)] (uZ false)=some (gg.sv ((((0,0),false):P1),204),KI false f++qW f x 0++wE false false x y i (gD false y)):=by kernel_rfl
def hfX(l:List (Nat×Bool)):aaz→List (Nat×Bool):=fun f=>match f==18 with
 | true=>l
 | false=>[]
def fr:Rs (P2×Int):=tI (dV A2) tj
theorem zg6(n c:Nat)(f:Nat→Int):cV T0 7 [gn false 1 n c,wT] (cj [(1,gM n f)]) [] (hfX [(28,true)])=some (gg.sv ((((0,0),false):P1),200),[((n:Nat):Int)≠IntKind.i64.wrap (48*1)↔true=true]):=by kernel_rfl
theorem zoc(kk:Nat)(f:Nat→Int):cV T0 7 [bT (.s 1 0 48 (kk+48)),wT] (iI 48 f) [] (hfX [(28,false),(33,false)])=some (gg.sv ((((0,0),false):P1),201),[((48:Nat):Int)≠IntKind.i64.wrap (48*1)↔false=true,Eng.bits .and .u8 (f 0) 128>0↔false=true]):=by kernel_rfl
theorem zg1(n c:Nat)(f:Nat→Int):cV T0 8 [gn false 1 n c,wT] (cj [(1,gM n f)]) [] (hfX [(28,true)])=some (fr.sv (((((0,0),(0,0)),false):P2),200),[((n:Nat):Int)≠IntKind.i64.wrap (48*2)↔true=true]):=by kernel_rfl
theorem zn5(kk:Nat)(f:Nat→Int):cV T0 8 [bT (.s 1 0 96 (kk+96)),wT] (iI 96 f) [] (hfX [(28,false),(33,false)])=some (fr.sv (((((0,0),(0,0)),false):P2),201),[((96:Nat):Int)≠IntKind.i64.wrap (48*2)↔false=true,Eng.bits .and .u8 (f 0) 128>0↔false=true]):=by kernel_rfl
def jT(f:Nat→Int):Bool:=decide (Eng.bits .and .u8 (f 0) 32>0)
def HA(n c:Nat)(h e:Int)(g:Nat→Int):Prop:=((n=48∧h=1)∨(n=96∧h=2))∧n≤c∧Eng.bits .and .u8 (g 0) 128>0∧Eng.bits .and .u8 (g 0) 64>0∧(SZ n g (jT g)→e=0)∧(¬SZ n g (jT g)→e=202)
def YF(e:Int):CallT:=fun f args m _=>match f==18 with
 | true=>match args with
  | [⟨false,[.s id off n c]⟩,⟨false,[.v (.int .i64 h)]⟩,⟨false,[.v (.bool true)]⟩]=>match iJ m id off n with
   | some (_,g,ob)=>some { val:=.tup [bT (.v (.slice none 0 0)),cY false,bT (.v (.int .i64 e))],wr:=[],news:=[],ob:=HA n c h e g::ob }
   | none=>none
  | _=>none
 | false=>none
theorem BL(e:Int):ag Tryz.prog (YF e):=by
 intro f args m nid out af ax ρ w vs hv hM df
 unfold YF at af
 split at af
 ·rename_i hf
  rw [beq_iff_eq] at hf
  subst hf
  split at af
  ·rename_i id off n c h
   split at af
   ·rename_i k g ob hb
    cases af
    obtain ⟨v1,us,h1,h2,rfl⟩:=aj hv
    obtain ⟨v2,ov,h3,h4,rfl⟩:=aj h2
    obtain ⟨v3,ov,h5,h6,rfl⟩:=aj h4
    cases h6
    have e3:AV.val ρ ⟨false,[.v (.int .i64 h)]⟩=some (.int .i64 h):=AV.val_v (ρ:=ρ) (x:=.int .i64 h) rfl
    have e5:AV.val ρ ⟨false,[.v (.bool true)]⟩=some (.bool true):=jP ρ true
    rw [e3] at h3;cases h3
    rw [e5] at h5;cases h5
    obtain ⟨hn,hc,k1,k2,k3,k4⟩:HA n c h e g:=ax _ aac
    obtain ⟨q,hq,rfl⟩:=aY h1
    obtain ⟨rfl,hs⟩:=eW hM hb (fun p hp=>ax p (aaa _ hp)) hq
    obtain ⟨kk,rfl⟩:∃ kk,c=kk+k:=⟨c-k,by omega⟩
    refine .inr ⟨zhk.enter _ _,(zcJ hn hs k1 k2 (by unfold jT;exact decide_eq_true_iff.symm) k3 k4).mono ?_⟩
    rintro e' w' ⟨rfl,hB⟩
    refine ⟨_,rfl,ρ,Ext.of_below hB,?_,hM.of_below hB⟩
    exact K2 (AV.val_v (ρ:=ρ) (x:=.slice none 0 0) rfl) (jP ρ false) (AV.val_v (ρ:=ρ) (x:=.int .i64 e) rfl)
   ·cases af
  ·cases af
 ·cases af
theorem zg3(n c:Nat)(f:Nat→Int):cV (YF 0) 7 [gn false 1 n c,wT] (cj [(1,gM n f)]) [] (fun _=>[])=some (gg.sv ((((0,0),true):P1),0),[HA n c 1 0 (fun i=>f (0+i)),0+n*1≤n]):=by kernel_rfl
theorem zg2(n c:Nat)(f:Nat→Int):cV (YF 202) 7 [gn false 1 n c,wT] (cj [(1,gM n f)]) [] (fun _=>[])=some (gg.sv ((((0,0),false):P1),202),[HA n c 1 202 (fun i=>f (0+i)),0+n*1≤n]):=by kernel_rfl
theorem zgY(n c:Nat)(f:Nat→Int):cV (YF 0) 8 [gn false 1 n c,wT] (cj [(1,gM n f)]) [] (fun _=>[])=some (fr.sv ((((0,0),(0,0)),true) ,0),[HA n c 2 0 (fun i=>f (0+i)),0+n*1≤n]):=by kernel_rfl
theorem zgX(n c:Nat)(f:Nat→Int):cV (YF 202) 8 [gn false 1 n c,wT] (cj [(1,gM n f)]) [] (fun _=>[])=some (fr.sv ((((0,0),(0,0)),false),202),[HA n c 2 202 (fun i=>f (0+i)),0+n*1≤n]):=by kernel_rfl
theorem kT(x e y:Nat)(i bg on nG:Bool):ag Tryz.prog (S6 x e y i bg on nG):=b7 (b7 (b7 (b7 (b7 (aT zf7 (aT B3 EA)) _ _) _ _) _ _) _ _) _ _
def EJ:P1:=((0,0),false)
theorem j1{g:Nat→Int}:∀ k j i,i<k→(bn g j k).getD i 0=g (j+i):=by
 intro k
 induction k with
 | zero=>intro j i h;omega
 | succ k ih=>
  intro j i h
  cases i with
  | zero=>rfl
  | succ i=>
   show (bn g (j+1) k).getD i 0=_
   rw [ih (j+1) i (by omega)]
   congr 1;omega
theorem C5{n:Nat}(hn:1≤n)(f:Nat→Int){i:Nat}(hi:i<n):(jI n f).getD i 0=cn f i:=by
 rw [Mc hn,j1 n 0 i hi,Nat.zero_add]
theorem uL(f:Nat→Int)(h:bOk 48 f):bOk 48 (cn f):=fun i hi=>by
 unfold cn
 by_cases h0:i=0
 ·rw [if_pos h0]
  exact ⟨by unfold Eng.bits;exact (re _).1,by unfold Eng.bits;exact (re _).2⟩
 ·rw [if_neg h0];exact h i hi
theorem bL{R:Type}(r:Rs R)(x:R):∀ ρ u,SV.val ρ (r.sv x)=some u→u=r.vl x:=fun ρ u h=>by
 rw [r.val ρ x] at h;cases h;rfl
theorem Ka{w:World}{b o n:Nat}{f:Nat→Int}{its:List It}(hc:conc rho0 its=some (gvals .u8 n f))(hs:Stands w b o (gvals .u8 n f))(c:Nat):
  Mem (bV b o) (cj [(1,its)]) w∧(∀ c,¬Own (bV b o) c)∧ay (bV b o) [bT (.s 1 0 n c),wT]=some [.slice (some ⟨b,o,none⟩) n c,.bool true]:=by
 obtain ⟨h1,h2,h3⟩:=sN hc hs c
 refine ⟨h1,h2,?_⟩
 have e1:AV.val (bV b o) (bT (.s 1 0 n c))=some (.slice (some ⟨b,o,none⟩) n c):=by
  have e:=bu (ρ:=bV b o) (id:=1) (q:=(b,o)) (by simp [bV,aH]) 0 n c
  simpa [iG,SV.val,bT] using e
 have e3:AV.val (bV b o) wT=some (.bool true):=jP (bV b o) true
 simp only [ay,e1,e3]
theorem OK(n:Nat)(f:Nat→Int):conc rho0 (bR (bn f 0 n))=some (gvals .u8 n f):=by
 rw [oY rfl];exact g_ rho0 .u8 _
theorem zvH{f:Nat→Int}(h1:Eng.bits .and .u8 (f 0) 128>0)(h2:¬Eng.bits .and .u8 (f 0) 64>0):∀ p∈KI (jT f) f,p:=
 aa (br (by decide)) (aa (bD h1) (aa (br h2) (aa (by unfold jT;exact decide_eq_true_iff.symm) ad)))
theorem NQ(f:Nat→Int):Vu 48 (fun i=>(jI 48 f).getD i 0)=if eo (cn f) 48<pN then (eo (cn f) 48,0) else (0,41):=by
 unfold Vu
 rw [if_pos rfl,lG (g:=cn f) 48 fun i hi=>C5 (by omega) f hi]
theorem UB{f:Nat→Int}{x e:Nat}(hb:bOk 48 f)(h:Vu 48 (fun i=>(jI 48 f).getD i 0)=(x,(e:Int))):∀ p∈qW f x e,p:=
 aa (fun ρ=>by rw [h]) (aa ⟨by omega,fun i hi=>by show 0≤(jI 48 f).getD i 0∧(jI 48 f).getD i 0<256;rw [C5 (by omega) f hi];exact uL f hb i hi⟩ ad)
theorem zlI{bg on i:Bool}{x y Y:Nat}(h1:Aj (bZ (ao (ao x x) x) 4)=(y,i))(h2:qP y=bg)(h3:E9 (((x,Y),false):P1)=on):∀ p∈wE bg on x y i Y,p:=
 aa (fun ρ=>by rw [h1]) (aa (fun ρ=>by rw [h2]) (aa (fun ρ=>by rw [h3]) ad))
theorem al{a b:List Prop}(h1:∀ p∈a,p)(h2:∀ p∈b,p):∀ p∈a++b,p:=fun p hp=>(aaw.1 hp).elim (h1 p) (h2 p)
def ptA(x Y:Nat)(on nG:Bool):P1×Int:=match on,nG with
 | false,_=>(EJ,204)
 | true,false=>(EJ,205)
 | true,true=>(((x,Y),false),0)
def crv(x:Nat):Nat:=bZ (ao (ao x x) x) 4
def dcY(x:Nat)(big:Bool):Nat:=gD (qP (cg (crv x)) != big) (cg (crv x))
def pt1(x:Nat)(big:Bool):P1×Int:=ptA x (dcY x big) (E9 (((x,dcY x big),false):P1)) (eV (((x,dcY x big),false):P1))
open Classical in
def J_(n:Nat)(f:Nat→Int):P1×Int:=if n≠48 then (EJ,200) else if ¬Eng.bits .and .u8 (f 0) 128>0 then (EJ,201) else
 if Eng.bits .and .u8 (f 0) 64>0 then (if SZ 48 f (jT f) then (((0,0),true),0) else (EJ,202)) else
 if eo (cn f) 48<pN then pt1 (eo (cn f) 48) (jT f) else (EJ,203)
theorem zx8{w:World}{b o kk x y:Nat}{f:Nat→Int}{i big bg on nG:Bool}(hM:Mem (bV b o) (iI 48 f) w)(cv:∀ c,¬Own (bV b o) c)(hv:ay (bV b o) [bT (.s 1 0 48 (kk+48)),wT]=some [.slice (some ⟨b,o,none⟩) 48 (kk+48),.bool true])
  (hD:∀ p∈KI big f,p) (hF:∀ p∈qW f x 0,p) (hO:∀ p∈wE bg on x y i (gD (bg != big) y),p) (hI:∀ p∈I0 nG x (gD (bg != big) y),p) :
  cX Tryz.prog 7 #[.slice (some ⟨b,o,none⟩) 48 (kk+48),.bool true] (gg.vl (ptA x (gD (bg != big) y) on nG)) w:=by
 cases big<;>cases bg<;>cases on
 ·exact ae (kT _ _ _ _ _ _ _) (Zv kk x y i f) (al (al hD hF) hO) hM cv hv (bL gg _)
 ·cases nG
  ·exact ae (kT _ _ _ _ _ _ _) (Zr kk x y i f) (al (al (al hD hF) hO) hI) hM cv hv (bL gg _)
  ·exact ae (kT _ _ _ _ _ _ _) (zog kk x y i f) (al (al (al hD hF) hO) hI) hM cv hv (bL gg _)
 ·exact ae (kT _ _ _ _ _ _ _) (Zu kk x y i f) (al (al hD hF) hO) hM cv hv (bL gg _)
 ·cases nG
  ·exact ae (kT _ _ _ _ _ _ _) (Zq kk x y i f) (al (al (al hD hF) hO) hI) hM cv hv (bL gg _)
  ·exact ae (kT _ _ _ _ _ _ _) (zof kk x y i f) (al (al (al hD hF) hO) hI) hM cv hv (bL gg _)
 ·exact ae (kT _ _ _ _ _ _ _) (Zt kk x y i f) (al (al hD hF) hO) hM cv hv (bL gg _)
 ·cases nG
  ·exact ae (kT _ _ _ _ _ _ _) (Zp kk x y i f) (al (al (al hD hF) hO) hI) hM cv hv (bL gg _)
  ·exact ae (kT _ _ _ _ _ _ _) (zoe kk x y i f) (al (al (al hD hF) hO) hI) hM cv hv (bL gg _)
 ·exact ae (kT _ _ _ _ _ _ _) (Zs kk x y i f) (al (al hD hF) hO) hM cv hv (bL gg _)
 ·cases nG
  ·exact ae (kT _ _ _ _ _ _ _) (Zo kk x y i f) (al (al (al hD hF) hO) hI) hM cv hv (bL gg _)
  ·exact ae (kT _ _ _ _ _ _ _) (zod kk x y i f) (al (al (al hD hF) hO) hI) hM cv hv (bL gg _)
theorem zx9{w:World}{b o kk x:Nat}{f:Nat→Int}{big:Bool}(hM:Mem (bV b o) (iI 48 f) w)(cv:∀ c,¬Own (bV b o) c)(hv:ay (bV b o) [bT (.s 1 0 48 (kk+48)),wT]=some [.slice (some ⟨b,o,none⟩) 48 (kk+48),.bool true])
  (hD:∀ p∈KI big f,p) (hF:∀ p∈qW f x 0,p):cX Tryz.prog 7 #[.slice (some ⟨b,o,none⟩) 48 (kk+48),.bool true] (gg.vl (pt1 x big)) w:=
 zx8 (y:=cg (crv x)) (i:=Fg (crv x)) (bg:=qP (cg (crv x))) hM cv hv hD hF (zlI rfl rfl rfl) (aa (fun _=>rfl) ad)
theorem zob{w:World}{b o kk:Nat}{f:Nat→Int}{big:Bool}(hM:Mem (bV b o) (iI 48 f) w)(cv:∀ c,¬Own (bV b o) c)(hv:ay (bV b o) [bT (.s 1 0 48 (kk+48)),wT]=some [.slice (some ⟨b,o,none⟩) 48 (kk+48),.bool true])
  (hD:∀ p∈KI big f,p) (hF:∀ p∈qW f 0 41,p):cX Tryz.prog 7 #[.slice (some ⟨b,o,none⟩) 48 (kk+48),.bool true] (gg.vl (EJ,203)) w:=by
 cases big
 ·exact ae (kT _ _ _ _ _ _ _) (zg5 kk 0 0 true f) (al hD hF) hM cv hv (bL gg _)
 ·exact ae (kT _ _ _ _ _ _ _) (zg4 kk 0 0 true f) (al hD hF) hM cv hv (bL gg _)
theorem FJ{w:World}{b o c n:Nat}{f:Nat→Int}(hc:n≤c)(hb:bOk n f)(hs:Stands w b o (gvals .u8 n f)):cX Tryz.prog 7 #[.slice (some ⟨b,o,none⟩) n c,.bool true] (gg.vl (J_ n f)) w:=by
 obtain ⟨hM,cv,hv⟩:=Ka (aD (z:=0)) hs c
 unfold J_
 by_cases hn:n=48
 ·subst hn
  rw [if_neg (by omega)]
  obtain ⟨kk,rfl⟩:∃ kk,c=kk+48:=⟨c-48,by omega⟩
  obtain ⟨Bh,M5,G6⟩:=Ka (OK 48 f) hs (kk+48)
  by_cases h1:Eng.bits .and .u8 (f 0) 128>0
  ·rw [if_neg (by omega)]
   by_cases h2:Eng.bits .and .u8 (f 0) 64>0
   ·rw [if_pos h2]
    have e0:(fun i=>f (0+i))=f:=nI f
    by_cases hz:SZ 48 f (jT f)
    ·rw [if_pos hz]
     exact ae (BL 0) (zg3 48 (kk+48) f) (aa (by rw [e0];exact ⟨.inl ⟨rfl,rfl⟩,by omega,h1,h2,fun _=>rfl,fun h=>absurd hz h⟩) (aa (by omega) ad)) hM cv hv (bL gg _)
    ·rw [if_neg hz]
     exact ae (BL 202) (zg2 48 (kk+48) f) (aa (by rw [e0];exact ⟨.inl ⟨rfl,rfl⟩,by omega,h1,h2,fun h=>absurd h hz,fun _=>rfl⟩) (aa (by omega) ad)) hM cv hv (bL gg _)
   ·rw [if_neg h2]
    have hD:=zvH h1 h2
    have hG:=NQ f
    by_cases hx:eo (cn f) 48<pN
    ·rw [if_pos hx] at hG ⊢
     exact zx9 Bh M5 G6 hD (UB (x:=eo (cn f) 48) (e:=0) hb hG)
    ·rw [if_neg hx] at hG ⊢
     exact zob Bh M5 G6 hD (UB (x:=0) (e:=41) hb hG)
  ·rw [if_pos h1]
   exact ae pk (zoc kk f) (aa (br (by decide)) (aa (br h1) ad)) Bh M5 G6 (bL gg _)
 ·rw [if_pos hn]
  exact ae pk (zg6 n c f) (aa (bD (by rw [show IntKind.i64.wrap (48*1)=48 from by decide];omega)) ad) hM cv hv (bL gg _)
end Sh
end Go.Proofs.YtcafpgpahbplaaaGreat
