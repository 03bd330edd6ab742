/-
 The proof, part 14 of 25.
-/
import Derived.Test.YtcafpgpahbplaaaGreatZ13
import Derived.Test.YtcafpgpahbplaaaGreatZ12
open Bool renaming and_eq_true->aaf
open Go renaming FuncId->aaz,IntKind->aaR
open Go.Code renaming wp->aaT
open Int renaming toNat_natCast->aam
open List renaming all_eq_true->aaF,forall_mem_cons->aab,getD_eq_getElem?_getD->aaU,mem_append_left->aau,mem_append_right->aaq,mem_cons->aae,mem_cons_of_mem->aaa,mem_cons_self->aac,mem_map->aaY,not_mem_nil->aad,range->aan
open Nat renaming beq->aaK,div_eq_of_lt->abf,eq_of_beq_eq_true->aas,le_of_ble_eq_true->aaL,mod_lt->aaH,mul_one->abK,zero_add->aay
open Option renaming isSome_iff_exists->aa5
open Option.some renaming injEq->aag
noncomputable section
set_option linter.unusedVariables false
set_option linter.unusedSimpArgs false
namespace Go.Proofs.YtcafpgpahbplaaaGreat
open Go Go.Eng Go.RowKit Go.Wd Go.Alg Go.Pr
theorem zd(nid:Nat)(l:List It)(id:Nat):fC ([]++[(nid,l)]) id=if nid=id then some l else none:=by
 simp [fC]
theorem Je{ρ:Rho}{m:St}{w w':World}(hM:Mem ρ m w)(hb:Below w.heap.size w w'){nid g:Nat}(hn:m.blk nid=none)(ho:own nid=true)(hg:w.heap.size≤g){l:List It}{vs:List Value}(hl:∀ ρ,conc ρ l=some vs)(hH:mb w' g vs):
  Ext ρ w (ρ.set nid g) w'∧Mem (ρ.set nid g) (aX m (ia ([]++[(nid,l)]))) w':=by
 have YI:ρ nid=none:=by
  cases h:ρ nid with
  | none=>rfl
  | some q=>obtain ⟨l',l6⟩:=hM.dom nid q h;rw [hn] at l6;cases l6
 have hlt:∀ j c o,ρ j=some (c,o)→c<w.heap.size:=fun j c o h=>by
  obtain ⟨l',l6⟩:=hM.dom j _ h
  obtain ⟨b,o',vs',e1,e2,e3⟩:=hM.ok.blk j l' l6
  rw [h] at e1;cases e1
  exact e3.1
 have oe:∀ id,St.blk (aX m (ia ([]++[(nid,l)]))) id=if nid=id then some l else m.blk id:=fun id=>by
  rw [eJ,zd]
  by_cases e:nid=id
  ·simp [e]
  ·simp [e]
 refine ⟨⟨Rho.le_set YI,fun id b o h h'=>?_,hb.os,hb.tape,hb.output,hb.size,fun k hk _=>hb.block k hk⟩,⟨⟨fun id l' l6=>?_⟩,?_,fun id q hq=>?_⟩⟩
 ·unfold Rho.set at h'
  by_cases e:id=nid
  ·rw [if_pos e] at h';cases h';exact .inl hg
  ·rw [if_neg e,h] at h';cases h'
 ·rw [oe] at l6
  by_cases e:nid=id
  ·subst e
   rw [if_pos rfl] at l6;cases l6
   exact ⟨g,0,vs,by simp [Rho.set],hl _,l5 hH,fun _=>⟨rfl,hH⟩,fun hf=>(by rw [ho] at hf;cases hf),fun hf=>(by rw [lO ho] at hf;cases hf)⟩
  ·rw [if_neg e] at l6
   obtain ⟨b,o,us,h1,h2,h3⟩:=hM.ok.blk id l' l6
   exact ⟨b,o,us,Rho.le_set YI _ _ h1,eR (Rho.le_set YI) _ _ h2,h3.of_kept hb.size (hb.block b h3.1)⟩
 ·exact (hM.inj.set (id:=nid) (l:=l) fun j c o hq=>Nat.lt_of_lt_of_le (hlt j c o hq) hg).congr oe
 ·rw [oe]
  by_cases e:nid=id
  ·exact ⟨l,if_pos e⟩
  ·unfold Rho.set at hq
   rw [if_neg fun h=>e h.symm] at hq
   obtain ⟨l',l6⟩:=hM.dom id q hq
   exact ⟨l',by rw [if_neg e];exact l6⟩
theorem zdc{P:Program}{f:aaz}{ρ:Rho}{m:St}{w:World}(hM:Mem ρ m w){a:Nat}(ha:own a=true){A A':List It}(hmA:m.blk a=some A){ZV:List Value}(bY:∀ ρ,conc ρ A'=some ZV){b1:Nat}(hb:ρ a=some (b1,0)){vs:List Value}{r:Value}
  (h:Invoked P f vs.toArray w fun v w'=>v=r∧mb w' b1 ZV∧Keep (fun b=>b=b1) w w') {s:SV} (hs:s.val rho0=some r) :
  Invoked P f vs.toArray w fun v w'=>∃ ρ',Ext ρ w ρ' w'∧s.val ρ'=some v∧Mem ρ' (aX m (ia ([(a,A')]++[]))) w':=by
 refine h.mono ?_
 rintro v w' ⟨rfl,hH,hK⟩
 have oe:∀ id,St.blk (aX m (ia ([(a,A')]++[]))) id=if a=id then some A' else m.blk id:=fun id=>by
  rw [eJ]
  simp only [List.append_nil,fC]
  by_cases e:a=id
  ·simp [e]
  ·simp [e]
 refine ⟨ρ,⟨.refl ρ,fun id b o h h'=>(by rw [h] at h';cases h'),hK.os,hK.tape,hK.output,hK.size,fun k hk hD=>hK.block k hk fun e=>hD ⟨a,0,.inl ha,e ▸ hb⟩⟩,SV.val_le (ky ρ) _ _ hs,⟨⟨fun id l hl=>?_⟩,⟨fun i i' c o o' l l' ho m1 m2 l1 l2 h1 h2=>?_⟩,fun id q hq=>?_⟩⟩
 ·rw [oe] at hl
  by_cases e:a=id
  ·subst e
   rw [if_pos rfl] at hl;cases hl
   exact ⟨b1,0,ZV,hb,bY ρ,l5 hH,fun _=>⟨rfl,hH⟩,fun hf=>(by rw [ha] at hf;cases hf),fun hf=>(by rw [lO ha] at hf;cases hf)⟩
  ·rw [if_neg e] at hl
   obtain ⟨c,o,us,f1,f2,f3⟩:=hM.ok.blk id l hl
   by_cases kh:Live id l
   ·refine ⟨c,o,us,f1,f2,f3.of_kept hK.size (hK.block c f3.1 ?_)⟩
    rintro rfl
    exact e (hM.inj.inj a id c 0 o A l (.inl ha) hmA hl (.inl ha) kh hb f1)
   ·exact ⟨c,o,us,f1,f2,lF kh f2 f3 hK.size⟩
 ·have live:∀ id k,St.blk (aX m (ia ([(a,A')]++[]))) id=some k→Live id k→∃ k0,m.blk id=some k0∧Live id k0:=by
   intro id k hk kh
   rw [oe] at hk
   by_cases e:a=id
   ·subst e;exact ⟨A,hmA,.inl ha⟩
   ·rw [if_neg e] at hk
    exact ⟨k,hk,kh⟩
  obtain ⟨k0,a1,a2⟩:=live i l m1 l1
  obtain ⟨k0',a3,a4⟩:=live i' l' m2 l2
  exact hM.inj.inj i i' c o o' k0 k0' ho a1 a3 a2 a4 h1 h2
 ·obtain ⟨l,hl⟩:=hM.dom id q hq
  rw [oe]
  by_cases e:a=id
  ·exact ⟨A',if_pos e⟩
  ·exact ⟨l,by rw [if_neg e];exact hl⟩
def zBK:AV→Option Nat
 | ⟨false,[.s id _ _ _]⟩=>some id
 | _=>none
def zbn(z:Bool):CallT:=fun f args m _=>match f==134 with
 | true=>match args with
  | [⟨false,[.s a 0 l _]⟩,y,⟨false,[.v (.int .i64 (.ofNat k))]⟩]=>match own a,m.blk a,zBK y,ui y m with
   | true,some A,some b,some (l',q,ob)=>match m.blk b,uB A,aaK (gd A) (iW z)&&(!(aaK a b)&&(aaK l (iW z)&&(aaK k (nw z)&&aaK l' (nw z)))) with
    | some B,some (L,jW),true=>match own b || !(aaK (gd B) 0) with
     | true=>some { val:=.tup [],wr:=[(a,[.w (iW z) (L%(mN z))])],news:=[],ob:=(q=(mN z))::(L<pw (iW z))::ob++jW }
     | false=>none
    | _,_,_=>none
   | _,_,_,_=>none
  | _=>none
 | false=>none
theorem zbm(z:Bool):ag Tryz.prog (zbn z):=by
 intro f args m nid out af ax ρ w vs hv hM df
 unfold zbn at af
 split at af
 ·rename_i hf
  rw [beq_iff_eq] at hf
  subst hf
  split at af
  ·rename_i a l cap y k
   split at af
   ·rename_i A b l' q ob ha hmA cl hs
    split at af
    ·rename_i B L jW hmB zMD q9
     split at af
     ·rename_i Vm
      cases af
      simp only [aaf] at q9
      obtain ⟨hz1,hz2,hz3,hz4,hz5⟩:=q9
      have zMn:=aas hz1
      have e3:=aas hz3
      have e4:=aas hz4
      have e5:=aas hz5
      subst e3 e4 e5
      have Nl:a≠b:=fun e=>by
       subst e
       rw [Nat.beq_refl] at hz2;cases hz2
      have hq:q=(mN z):=ax _ aac
      subst hq
      have hL:L<pw (iW z):=ax _ (aaa _ aac)
      have zMC:∀ p∈ob,p:=fun p hp=>ax p (aaa _ (aaa _ (aau _ hp)))
      have zMB:∀ p∈jW,p:=fun p hp=>ax p (aaa _ (aaa _ (aaq _ hp)))
      obtain ⟨v1,us,h1,h2,rfl⟩:=aj hv
      obtain ⟨v2,ov,h3,h4,rfl⟩:=aj h2
      obtain ⟨v3,ov,h5,h6,rfl⟩:=aj h4
      cases h6
      rw [show AV.val ρ ⟨false,[.v (.int .i64 (.ofNat (nw z)))]⟩=some (.int .i64 (iw z)) from (pA ρ _).trans (by cases z<;>rfl)] at h5
      cases h5
      obtain ⟨b1,o1,us1,e1,e2,e3,e4,_⟩:=hM.ok.blk a A hmA
      obtain ⟨rfl,t1,ht⟩:=e4 ha
      have hu:=GN _ _ _ zMD zMB e2
      rw [c7 _ _ e2,zMn] at hu
      rw [show AV.val ρ ⟨false,[.s a 0 (iW z) cap]⟩=some (.slice (some ⟨b1,0,none⟩) (iW z) cap) from lH e1 (iW z) cap (lO ha)] at h1
      cases h1
      obtain ⟨b2,o2,c2,rfl,JD,DN⟩:=oH hs zMC hM h3
      have kN:b1≠b2:=by
       unfold zBK at cl
       split at cl
       ·rename_i id off len zNJ
        cases cl
        have h3:=AV.val_one h3
        simp only [It.cs] at h3
        split at h3
        ·rename_i q hq
         cases h3
         intro e
         obtain ⟨q',EH,rfl⟩:=Rho.of_at hq
         rw [zuX] at e
         have kh:Live b B:=by
          rw [Bool.or_eq_true] at Vm
          rcases Vm with h|h
          ·exact .inl h
          ·refine .inr fun e=>?_
           rw [e] at h;cases h
         exact Nl (hM.inj.inj a b b1 0 q'.2 A B (.inl ha) hmA hmB (.inl ha) kh e1 (by rw [e];exact EH))
        ·cases h3
       ·cases cl
      exact zdc hM ha hmA (A':=[.w (iW z) (L%(mN z))]) (fun ρ=>by simp [conc,It.cs]) e1 (Yr kN hL w ⟨t1,by rw [←hu];exact ht⟩ DN) (s:=.tup []) rfl
     ·cases af
    ·cases af
   ·cases af
  ·cases af
 ·cases af
def TMd(z:Bool):CallT:=jV (zbn z) (TTk z)
theorem zzn(z:Bool):ag Tryz.prog (TMd z):=aT (zbm z) (ziD z)
def dMd:Fn1:=match fJ 109 with
 | some d=>d
 | none=>⟨.skip,[],0⟩
theorem zhn:FnOk Tryz.prog 109 dMd:=aB _ _ (by kernel_rfl)
def EMd(z:Bool):Eng:={ tab:=bh,call:=jw bh (TMd z) fJ 1000 6,N:=56 }
theorem Et(z:Bool):ag Tryz.prog (EMd z).call:=dd an ab (zzn z) aB 1000 6
def zFP:List Code:=Dz.zbo 5 dMd.body
def zyt:Code:=Dz.Of 5 dMd.body
def zFO:Code:=bJ (bJ zyt)
def zoD:Code:=gw (dh (aJ (bJ zyt)))
def zFN:Code:=aJ zyt
theorem zho:dMd.body=gG zFP (.seq (.seq zFO (.block 2 (.loop zoD))) zFN):=by kernel_rfl
theorem zI:dMd.ntmps=56:=by kernel_rfl
theorem Ov:dMd.results=[.tmp 4,.tmp 5]:=by kernel_rfl
def zDy(z:Bool)(len c1 n q:Nat):St:=aW 0 [eD 1 len c1,eD 2 (nw z) (nw z)] (56 - [eD 1 len c1,eD 2 (nw z) (nw z)].length)++[(3,.bl (iZ len n)),(5,.bl [.w (nw z) q])]
def Py(z:Bool):List It:=List.replicate (iW z) (.v (.int .u64 0))
def qH(z:Bool)(A:List It)(len c1 n q:Nat):St:=[(0,sS 1 len c1),(2,sS 2 (nw z) (nw z)),(12,sI (iw z)),(14,sS 36 (iW z) (iW z)),(3,.bl (iZ len n)),(5,.bl [.w (nw z) q]),(73,.bl A)]
def vC(z:Bool)(X len c1 n q:Nat)(i:Int):St:=(16,sI i)::qH z [.w (iW z) X] len c1 n q
def Lo(z:Bool)(X len n q:Nat):St:=[(8,.sl (iG (.s 36 0 (nw z) (iW z)))),(10,sI 0),(3,.bl (iZ len n)),(5,.bl [.w (nw z) q]),(73,.bl [.w (iW z) X])]
theorem ziN(z:Bool)(len c1 n q:Nat):probes (EMd z) 100 zFP (zDy z len c1 n q) 16 [(12,true),(19,false),(24,false)] ((qH z (Py z) len c1 n q).map (·.1)) =
 some (0,[(nw z:Int)>0↔true=true,wK q (nh z)=0↔false=true,(nw z:Int)=0↔false=true],(qH z (Py z) len c1 n q).map fun p=>some p.2):=by cases z<;>kernel_rfl
theorem zp5(z:Bool)(X len c1 n q:Nat):probe (EMd z) 100 zFO (qH z [.w (iW z) X] len c1 n q) 40 [] ((vC z X len c1 n q (IntKind.i64.wrap ((len:Int)-1))).map (·.1))=some (0,[],(vC z X len c1 n q (IntKind.i64.wrap ((len:Int)-1))).map fun p=>some p.2):=by cases z<;>kernel_rfl
theorem zp6(z:Bool)(X len c1 n q:Nat)(i:Int):probe (EMd z) 100 zoD (vC z X len c1 n q i) 40 [(33,false)] ((vC z X len c1 n q i).map (·.1))=some (4,[i≥0↔false=true],(vC z X len c1 n q i).map fun p=>some p.2):=by cases z<;>kernel_rfl
def wS(X:Nat):Nat→Nat→Nat
 | 0,_=>0
 | k+1,i=>(wK X i).toNat+wS X k (i+1)*18446744073709551616
def LMd(z:Bool)(X n:Nat)(i:Int):Nat:=(wK n (0+i.toNat*1)).toNat+wS X (nw z) 0*18446744073709551616
def wOk(x:Int):Prop:=0≤x∧x<18446744073709551616
def wOs(X:Nat):Nat→Nat→List Prop
 | 0,_=>[]
 | k+1,i=>wOk (wK X i)::wOs X k (i+1)
def zLd(z:Bool)(X n len q:Nat)(i:Int):List Prop:=[i≥0↔true=true,0≤i∧i<(len:Int),0+i.toNat*1<len,q=(mN z),LMd z X n i<pw (iW z),nw z<4294967296,wOk (wK n (0+i.toNat*1))]++wOs X (nw z) 0
theorem zp3(z:Bool)(X len c1 n q:Nat)(i:Int):probe (EMd z) 100 zoD (vC z X len c1 n q i) 40 [(33,true),(43,false)] ((vC z (LMd z X n i%(mN z)) len c1 n q (IntKind.i64.wrap (i-1))).map (·.1)) =
 some (0,zLd z X n len q i,(vC z (LMd z X n i%(mN z)) len c1 n q (IntKind.i64.wrap (i-1))).map fun p=>some p.2):=by cases z<;>kernel_rfl
theorem zp2(z:Bool)(X len c1 n q:Nat)(i:Int):probe (EMd z) 100 zFN (vC z X len c1 n q i) 40 [] ((Lo z X len n q).map (·.1))=some (1,[],(Lo z X len n q).map fun p=>some p.2):=by cases z<;>kernel_rfl
theorem Ju(z:Bool)(X len c1 n q:Nat)(i:Int):aw (vC z X len c1 n q i) [1,2,36]=true:=by cases z<;>kernel_rfl
theorem zeu(z:Bool)(len c1 n q:Nat):aw (qH z (Py z) len c1 n q) [1,2,36]=true:=by cases z<;>kernel_rfl
theorem zet(z:Bool)(X len n q:Nat):aw (Lo z X len n q) [1,2,36]=true:=by cases z<;>kernel_rfl
theorem zyF(st:St)(h1:(st.blk 1).isSome=true)(h2:(st.blk 2).isSome=true)(h3:(st.blk 36).isSome=true):∀ id∈[1,2,36],∃ l,st.blk id=some l:=by
 intro id cl
 simp only [aae,aad,or_false] at cl
 rcases cl with rfl|rfl|rfl
 ·exact aa5.1 h1
 ·exact aa5.1 h2
 ·exact aa5.1 h3
theorem SS(z:Bool)(X len c1 n q:Nat)(i:Int):∀ id∈[1,2,36],∃ l,(vC z X len c1 n q i).blk id=some l:=zyF _ rfl rfl rfl
theorem zoU(z:Bool)(A:List It)(len c1 n q:Nat):∀ id∈[1,2,36],∃ l,(qH z A len c1 n q).blk id=some l:=zyF _ rfl rfl rfl
theorem zoT(z:Bool)(X len n q:Nat):∀ id∈[1,2,36],∃ l,(Lo z X len n q).blk id=some l:=zyF _ rfl rfl rfl
theorem oS{b1 o1 b2 o2:Nat}:∀ id q,jH b1 o1 b2 o2 id=some q→id∈[1,2,36]:=fun id q h=>by
 have:=kF id q h
 simp only [aae,aad,or_false] at this ⊢
 rcases this with h|h
 ·exact .inl h
 ·exact .inr (.inl h)
theorem zkR(z:Bool)(len c1 n q:Nat):∀ k,match Eng.look (qH z (Py z) len c1 n q) k,Eng.look (qH z [.w (iW z) 0] len c1 n q) k with | some c,some c'=>SameCt c c' | none,none=>True | _,_=>False:=by
 intro k
 by_cases e1:k=73
 ·subst e1
  show SameCt (.bl (Py z)) (.bl [.w (iW z) 0])
  intro ρ vs hv
  have e:conc ρ (Py z)=some (au (iW z) 0):=by cases z<;>kernel_rfl
  rw [e] at hv;cases hv
  simp [conc,It.cs]
 ·have f1:(73==k)=false:=by simp;omega
  have:Eng.look (qH z (Py z) len c1 n q) k=Eng.look (qH z [.w (iW z) 0] len c1 n q) k:=by
   simp only [qH,Eng.look,f1]
   rfl
  rw [this]
  split
  ·rename_i a b e3 e4;rw [e3] at e4;cases e4;exact SameCt.refl _
  ·trivial
  ·rename_i h3 h4;cases h5:Eng.look (qH z [.w (iW z) 0] len c1 n q) k with
   | none=>exact h4 h5 h5
   | some c=>exact h3 c c h5 h5
theorem zA1(X:Nat):∀ k i,wS X k i*pw i+X%pw i=X%pw (i+k):=by
 intro k
 induction k with
 | zero=>intro i;rw [show wS X 0 i=0 from rfl,Nat.zero_mul,aay,Nat.add_zero]
 | succ k ih=>
  intro i
  have h:=ih (i+1)
  have l1:X%pw (i+1)=X%pw i+dg X i*pw i:=by rw [←iB X (i+1),←iB X i];rfl
  rw [show i+(k+1)=i+1+k by omega,←h,l1,dA]
  show ((wK X i).toNat+wS X k (i+1)*18446744073709551616)*pw i+_=_
  rw [oz,aam,Nat.add_mul,Nat.mul_comm (pw i),Nat.mul_assoc]
  omega
theorem zzE{z:Bool}{X n:Nat}{i:Nat}(hX:X<pw (nw z)):LMd z X n (i:Int)=dg n i+X*18446744073709551616:=by
 unfold LMd
 have h:=zA1 X (nw z) 0
 rw [aay,Nat.mod_eq_of_lt hX,gL,Nat.mod_one,abK,Nat.add_zero] at h
 rw [h,oz,aam,aam,abK,aay]
theorem zat(n k:Nat):wOk (wK n k):=by
 rw [oz]
 have:=eQ n k
 exact ⟨by omega,by omega⟩
theorem zte(X:Nat):∀ k i,∀ p∈wOs X k i,p:=by
 intro k
 induction k with
 | zero=>intro i p hp;cases hp
 | succ k ih=>intro i;exact aa (zat _ _) (ih _)
theorem zdU{r N d:Nat}:(N*18446744073709551616+d)%r=(d+N%r*18446744073709551616)%r:=by
 have h:=Nat.div_add_mod N r
 have e:N*18446744073709551616+d=r*(N/r*18446744073709551616)+(d+N%r*18446744073709551616):=by
  rw [←Nat.mul_assoc]
  generalize r*(N/r)=y at *
  generalize N%r=x at *
  omega
 rw [e,Nat.mul_add_mod]
theorem zCG{z:Bool}{r x d:Nat}(h:x<r)(h4:r≤pw (nw z))(hd:d<18446744073709551616):d+x*18446744073709551616<pw (iW z):=by
 have h1:(x+1)*18446744073709551616≤pw (nw z)*18446744073709551616:=Nat.mul_le_mul_right _ (Nat.le_trans h h4)
 rw [yP,dA]
 omega
theorem zp4{z:Bool}{b1 o1 b2 o2:Nat}{w0:World}{len c1 n:Nat}(hlen:len<4294967296){Q:Exit→Act→World→Prop}
  (hX:∀ i a w,At 56 (jH b1 o1 b2 o2) w0 (vC z (n%pw len%(mN z)) len c1 n (mN z) i) a w→Q (.exit 2) a w) {a:Act} {w:World}
  (hA:At 56 (jH b1 o1 b2 o2) w0 (vC z 0 len c1 n (mN z) (IntKind.i64.wrap ((len:Int)-1))) a w):(Code.loop zoD).wp Tryz.prog Q a w:=by
 rw [bq (by omega) (by omega)] at hA
 refine dG (w0:=w0) (dL:=jH b1 o1 b2 o2) (N:=56) (ι:=Nat) (fun j=>j≤len) (fun j=>vC z (n%pw len/pw j%(mN z)) len c1 n (mN z) ((j:Int)-1)) (fun j=>j) ?_ len (Nat.le_refl _) a w ?_
 ·intro j hj a w hA
  have hj:j≤len:=hj
  rcases Nat.eq_zero_or_pos j with hj0|hj0
  ·subst hj0
   refine At.probe (E:=(EMd z)) an ab (Et z) (zp6 z _ len c1 n (mN z) _) (aa (br (by omega)) ad) hA [1,2,36] (SS z _ _ _ _ _ _) (Ju z _ _ _ _ _ _) oS fun a' w' bY=>hX ((0:Nat)-1:Int) a' w' ?_
   rw [gL,Nat.div_one] at bY
   exact bY
  ·obtain ⟨j,rfl⟩:∃ k,j=k+1:=⟨j-1,by omega⟩
   have e1:(((j+1:Nat):Int)-1)=(j:Int):=by omega
   rw [e1] at hA
   have zEs:n%pw len/pw (j+1)%(mN z)<(mN z):=aaH _ (Rl (z:=z))
   have hX4:=Nat.lt_trans zEs (Jg (z:=z))
   have hd:=eQ n j
   have w1:=Mm (z:=z)
   have eL:=zzE (n:=n) (i:=j) hX4
   have hL:LMd z (n%pw len/pw (j+1)%(mN z)) n (j:Int)<pw (iW z):=by rw [eL];exact zCG zEs (Nat.le_of_lt (Jg (z:=z))) hd
   refine At.probe (E:=(EMd z)) an ab (Et z) (zp3 z _ len c1 n (mN z) _) ?_ hA [1,2,36] (SS z _ _ _ _ _ _) (Ju z _ _ _ _ _ _) oS fun a' w' bY=>⟨j,by omega,Nat.lt_succ_self j,?_⟩
   ·refine fQ (aa (bD (by omega)) (aa ⟨by omega,by omega⟩ (aa (by omega) (aa rfl (aa hL (aa (by omega) (aa (zat _ _) ad))))))) (zte _ _ _)
   ·rw [bq (by omega) (by omega),eL] at bY
    have e2:n%pw len/pw j=n%pw len/pw (j+1)*18446744073709551616+dg n j:=by
     rw [r7 (n%pw len) j,zu,if_pos (by omega)]
    have e3:n%pw len/pw j%(mN z)=(dg n j+n%pw len/pw (j+1)%(mN z)*18446744073709551616)%(mN z):=by
     rw [e2];exact zdU
    rw [e3]
    exact bY
 ·have hz:n%pw len/pw len=0:=abf (aaH _ (yK len))
  rw [hz,Nat.zero_mod]
  exact hA
theorem zA2(z:Bool):wK (mN z) (nh z)≠0:=by cases z<;>decide +kernel
def zLl(z:Bool)(g:Nat):Value:=.tuple #[.slice (some ⟨g,0,none⟩) (nw z) (iW z),.int .i64 0]
theorem zei{z:Bool}{b1 o1 len c1 n b2 o2:Nat}(hlen:len<4294967296)(w:World)(h1:qQ w b1 o1 len n)(h2:qQ w b2 o2 (nw z) (mN z)):
  Invoked Tryz.prog 109 [.slice (some ⟨b1,o1,none⟩) len c1,.slice (some ⟨b2,o2,none⟩) (nw z) (nw z)].toArray w fun u w'=>∃ g,w.heap.size≤g∧u=zLl z g∧mb w' g (au (iW z) (n%pw len%(mN z)))∧Below w.heap.size w w':=by
 refine .inr ⟨zhn.enter _ _,?_⟩
 have jd:∀ e∈[ent 1 b1 o1 len n,(2,[.w (nw z) (mN z)],(b2,o2),au (nw z) (mN z))],e.1<16∧conc rho0 e.2.1=some e.2.2.2∧Stands w e.2.2.1.1 e.2.2.1.2 e.2.2.2:=
  aab.2 ⟨⟨(by show 1<16;decide),zP _ _ _,oF h1⟩,aab.2 ⟨⟨(by show 2<16;decide),(by simp [conc,It.cs]),oF h2⟩,fun _ h=>by cases h⟩⟩
 have hM:Mem (jH b1 o1 b2 o2) (cj [(1,iZ len n),(2,[.w (nw z) (mN z)])]) w:=dU _ jd
 have cv:∀ c,¬Own (jH b1 o1 b2 o2) c:=iD (w:=w) _ jd
 have hv:ay (jH b1 o1 b2 o2) [eD 1 len c1,eD 2 (nw z) (nw z)]=some [.slice (some ⟨b1,o1,none⟩) len c1,.slice (some ⟨b2,o2,none⟩) (nw z) (nw z)]:=by
  simp only [ay,lH (ρ:=jH b1 o1 b2 o2) (id:=1) (b:=b1) (o:=o1) rfl,lH (ρ:=jH b1 o1 b2 o2) (id:=2) (b:=b2) (o:=o2) rfl]
 have w1:=zrs (z:=z)
 refine (bX (G:=fun xs st=>xs=[⟨false,[.s 36 0 (nw z) (iW z)]⟩,iA 0]∧st=Lo z (n%pw len%(mN z)) len n (mN z)) ab zhn hM (by cases z<;>kernel_rfl) hv (by rw [zI];simp) fun a c9=>?_).mono ?_
 ·rw [zI] at c9
  have c9:At 56 (jH b1 o1 b2 o2) w (zDy z len c1 n (mN z)) a w:=c9
  rw [zI,Ov,zho]
  refine At.probes (E:=(EMd z)) an ab (Et z) (ziN z len c1 n (mN z)) (aa (bD (by omega)) (aa (br (zA2 z)) (aa (br (by omega)) ad))) c9 [1,2,36] (zoU z _ _ _ _ _) (zeu z _ _ _ _) oS fun a1 w1 g1=>?_
  have g1:=g1.same (zkR z len c1 n (mN z))
  show aaT _ _ _ _ _
  refine wp_seq (wp_seq (At.probe (E:=(EMd z)) an ab (Et z) (zp5 z 0 len c1 n (mN z)) (fun p hp=>by cases hp) g1 [1,2,36] (SS z _ _ _ _ _ _) (Ju z _ _ _ _ _ _) oS fun a2 w2 g2=>?_))
  show aaT _ _ _ _ _
  refine wp_block (zp4 hlen (fun i a3 w3 g3=>?_) g2)
  show aaT _ _ _ _ _
  refine At.probe (E:=(EMd z)) an ab (Et z) (zp2 z _ len c1 n (mN z) i) (fun p hp=>by cases hp) g3 [1,2,36] (zoT z _ _ _ _) (zet z _ _ _ _) oS fun a4 w4 g4=>?_
  exact ⟨.inr rfl,_,[⟨false,[.s 36 0 (nw z) (iW z)]⟩,iA 0],g4,by cases z<;>kernel_rfl,rfl,rfl⟩
 ·rintro e w' ⟨v,rfl,xs,st,ρ',hE,hval,Bg,rfl,rfl⟩
  refine ⟨v,rfl,?_⟩
  obtain ⟨g,o',us,f1,f2,f3,f4,_⟩:=Bg.blk 36 [.w (iW z) (n%pw len%(mN z))] rfl
  obtain ⟨rfl,t,ht⟩:=f4 rfl
  have hu:us=au (iW z) (n%pw len%(mN z)):=by simpa [conc,It.cs] using f2.symm
  have hg:w.heap.size≤g:=by
   rcases hE.new 36 g 0 rfl f1 with h|h
   ·exact h
   ·exact absurd h (cv g)
  refine ⟨g,hg,?_,⟨t,by rw [←hu];exact ht⟩,hE.below cv⟩
  have e1:AV.val ρ' ⟨false,[.s 36 0 (nw z) (iW z)]⟩=some (.slice (some ⟨g,0,none⟩) (nw z) (iW z)):=lH (id:=36) f1 (nw z) (iW z)
  have:SV.val ρ' (.tup [⟨false,[.s 36 0 (nw z) (iW z)]⟩,iA 0])=some v:=hval
  simp only [SV.val,ay,e1,pA,aag] at this
  exact this.symm
theorem zas{X n:Nat}(h:X<pw n):au (n+1) X=au n X++[.int .u64 0]:=by
 unfold au
 rw [List.range_succ,List.map_append]
 congr 1
 have:dg X n=0:=by unfold dg;rw [abf h,Nat.zero_mod]
 show [pv X n]=_
 rw [my,this];rfl
def zl7(z:Bool):CallT:=fun f args m nid=>match f==109 with
 | true=>match args with
  | [y,⟨false,[.s b off l c]⟩]=>match ui y m,ui ⟨false,[.s b off l c]⟩ m,own nid with
   | some (len,n,ob),some (l',q,jW),true=>match aaK l' (nw z)&&aaK c (nw z) with
    | true=>some { val:=.tup [⟨false,[.s nid 0 (nw z) (iW z)]⟩,iA 0],wr:=[],news:=[(nid,[.w (nw z) (n%pw len%(mN z)),.v (.int .u64 0)])],ob:=(q=(mN z))::ob++jW }
    | false=>none
   | _,_,_=>none
  | _=>none
 | false=>none
theorem UL(z:Bool):ag Tryz.prog (zl7 z):=by
 intro f args m nid out af ax ρ w vs hv hM df
 unfold zl7 at af
 split at af
 ·rename_i hf
  rw [beq_iff_eq] at hf
  subst hf
  split at af
  ·rename_i y b off l c
   split at af
   ·rename_i len n ob l' q jW hs fD ho
    split at af
    rotate_left
    ·cases af
    rename_i hz
    cases af
    rw [aaf] at hz
    have ez:=aas hz.1
    have ez':=aas hz.2
    subst ez ez'
    have hq:q=(mN z):=ax _ aac
    subst hq
    obtain ⟨v1,us,h1,h2,rfl⟩:=aj hv
    obtain ⟨v2,ov,h3,h4,rfl⟩:=aj h2
    cases h4
    obtain ⟨b1,o1,c1,rfl,KJ,hs1⟩:=oH hs (fun p hp=>ax p (aaa _ (aau _ hp))) hM h1
    obtain ⟨b2,o2,c2,rfl,JD,DN⟩:=oH fD (fun p hp=>ax p (aaa _ (aaq _ hp))) hM h3
    have hc:c2=nw z:=by
     have h3:=AV.val_one h3
     simp only [It.cs] at h3
     split at h3
     ·cases h3;rfl
     ·cases h3
    subst hc
    refine (zei KJ w hs1 DN).mono ?_
    rintro u w' ⟨g,hg,rfl,hH,hb⟩
    have hn:m.blk nid=none:=df _ aac
    have hX:n%pw len%(mN z)<pw (nw z):=Nat.lt_trans (aaH _ (Rl (z:=z))) (Jg (z:=z))
    rw [yP,zas hX] at hH
    obtain ⟨hE,Bh⟩:=Je hM hb hn ho hg (l:=[.w (nw z) (n%pw len%(mN z)),.v (.int .u64 0)]) (fun ρ=>by simp [conc,It.cs,Value.oneCell']) hH
    refine ⟨_,hE,?_,Bh⟩
    have e1:AV.val (ρ.set nid g) ⟨false,[.s nid 0 (nw z) (iW z)]⟩=some (.slice (some ⟨g,0,none⟩) (nw z) (iW z)):=lH (by simp [Rho.set]) (nw z) (iW z) (lO ho)
    simp only [SV.val,ay,e1,pA]
    rfl
   ·cases af
  ·cases af
 ·cases af
namespace Sh
def qX(k:aaR)(n:Nat)(f:Nat→Int):List It:=(aan n).map fun i=>.v (.int k (f i))
def tq(k:aaR)(n:Nat)(f:Nat→Int):List Value:=(aan n).map fun i=>.int k (f i)
theorem Hp(ρ:Rho)(k:aaR)(n:Nat)(f:Nat→Int):conc ρ (qX k n f)=some (tq k n f):=by
 have e:qX k n f=(tq k n f).map It.v:=by unfold qX tq;rw [List.map_map];rfl
 rw [e]
 exact iU ρ _ fun v hv=>by obtain ⟨i,_,rfl⟩:=aaY.1 hv;rfl
def uM(k:aaR)(n:Nat)(f:Nat→Int):AV:=⟨true,qX k n f⟩
def rf(k:aaR)(n:Nat)(f:Nat→Int):Value:=.agg (tq k n f).toArray
theorem nJ(ρ:Rho)(k:aaR)(n:Nat)(f:Nat→Int):(uM k n f).val ρ=some (rf k n f):=by
 simp only [uM,rf,AV.val,Hp]
def jE(l:List Int):Nat→Int:=fun i=>l.getD i 0
theorem PD{k:aaR}(l:List Int):tq k l.length (jE l)=l.map fun x=>Value.int k x:=by
 unfold tq jE
 apply List.ext_getElem
 ·simp
 ·intro i h1 h2
  simp only [List.length_map,List.length_range] at h1
  simp [aaU,List.getElem?_eq_getElem h1]
def rdF(k:aaR)(n:Nat)(x:AV):Option (Nat→Int):=match x.agg with
 | true=>match asG k x.its with
  | some (m,f)=>match aaK m n with
   | true=>some f
   | false=>none
  | none=>none
 | false=>none
theorem zuO{k:aaR}{n:Nat}{x:AV}{f:Nat→Int}(h:rdF k n x=some f){ρ:Rho}{v:Value}(hv:x.val ρ=some v):v=rf k n f:=by
 unfold rdF at h
 split at h
 ·rename_i hx
  split at h
  ·rename_i m f' hr
   split at h
   ·rename_i hl
    cases h
    have hl:=aas hl
    subst hl
    obtain ⟨vs,h1,h2⟩:=AV.cells hv
    rw [xI hr h1] at h2
    rcases h2 with ⟨_,rfl⟩|⟨h5,_⟩
    ·rfl
    ·rw [hx] at h5;cases h5
   ·cases h
  ·cases h
 ·cases h
def kdF(k:aaR)(n:Nat):Cd (Nat→Int):=⟨uM k n,rf k n,rdF k n,fun ρ f=>nJ ρ k n f,fun h=>fun hv=>zuO h hv⟩
theorem FR{k:aaR}{n:Nat}{f g:Nat→Int}(h:∀ i,i<n→f i=g i):rf k n f=rf k n g:=by
 unfold rf tq
 rw [List.map_congr_left fun i hi=>by rw [h i (by simpa using hi)]]
def zcF(x k:Int):Int:=Eng.bits .or .u32 (IntKind.u32.wrap (x*2^(min (Eng.bits .and .u64 (IntKind.u64.wrap k) 31).toNat IntKind.u32.bits))) (x.fdiv (2^(min (IntKind.u64.wrap (32-Eng.bits .and .u64 (IntKind.u64.wrap k) 31)).toNat IntKind.u32.bits)))
def zl8(x a b c:Int):Int:=Eng.bits .xor .u32 (Eng.bits .xor .u32 (zcF x (IntKind.i64.wrap (0-a))) (zcF x (IntKind.i64.wrap (0-b)))) (x.fdiv (2^(min c.toNat IntKind.u32.bits)))
def zpb(x a b c:Int):Int:=Eng.bits .xor .u32 (Eng.bits .xor .u32 (zcF x (IntKind.i64.wrap (0-a))) (zcF x (IntKind.i64.wrap (0-b)))) (zcF x (IntKind.i64.wrap (0-c)))
def nz(a b:Int):Int:=IntKind.u32.wrap (a+b)
def byI(x y:Int):Int:=Eng.bits .or .u32 (IntKind.u32.wrap (x*2^(min (8:Int).toNat IntKind.u32.bits))) (IntKind.u32.wrap y)
def wdI(m:Nat→Int)(t:Nat):Int:=byI (byI (byI (byI 0 (m (4*t))) (m (4*t+1))) (m (4*t+2))) (m (4*t+3))
def upd(f:Nat→Int)(t:Nat)(v:Int):Nat→Int:=fun i=>if i=t then v else f i
def nxI(f:Nat→Int)(t:Nat):Int:=nz (nz (nz (zl8 (f (t-2)) 17 19 10) (f (t-7))) (zl8 (f (t-15)) 7 18 3)) (f (t-16))
def pK(m:Nat→Int):Nat→Nat→Int
 | 0=>fun i=>if i<16 then wdI m i else 0
 | n+1=>upd (pK m n) (16+n) (nxI (pK m n) (16+n))
def Dv:List Int:=[
 0x428a2f98,0x71374491,0xb5c0fbcf,0xe9b5dba5,0x3956c25b,0x59f111f1,0x923f82a4,0xab1c5ed5,
 0xd807aa98,0x12835b01,0x243185be,0x550c7dc3,0x72be5d74,0x80deb1fe,0x9bdc06a7,0xc19bf174,
 0xe49b69c1,0xefbe4786,0x0fc19dc6,0x240ca1cc,0x2de92c6f,0x4a7484aa,0x5cb0a9dc,0x76f988da,
 0x983e5152,0xa831c66d,0xb00327c8,0xbf597fc7,0xc6e00bf3,0xd5a79147,0x06ca6351,0x14292967,
 0x27b70a85,0x2e1b2138,0x4d2c6dfc,0x53380d13,0x650a7354,0x766a0abb,0x81c2c92e,0x92722c85,
 0xa2bfe8a1,0xa81a664b,0xc24b8b70,0xc76c51a3,0xd192e819,0xd6990624,0xf40e3585,0x106aa070,
 0x19a4c116,0x1e376c08,0x2748774c,0x34b0bcb5,0x391c0cb3,0x4ed8aa4a,0x5b9cca4f,0x682e6ff3,
 0x748f82ee,0x78a5636f,0x84c87814,0x8cc70208,0x90befffa,0xa4506ceb,0xbef9a3f7,0xc67178f2]
def t1I(k w:Int)(s:Nat→Int):Int:=nz (nz (nz (nz (s 7) (zpb (s 4) 6 11 25)) (Eng.bits .xor .u32 (s 6) (Eng.bits .and .u32 (s 4) (Eng.bits .xor .u32 (s 5) (s 6))))) k) w
def t2I(s:Nat→Int):Int:=nz (zpb (s 0) 2 13 22) (Eng.bits .or .u32 (Eng.bits .and .u32 (s 0) (s 1)) (Eng.bits .and .u32 (s 2) (Eng.bits .or .u32 (s 0) (s 1))))
def rnI(k w:Int)(s:Nat→Int):Nat→Int:=fun i=>match i with
 | 0=>nz (t1I k w s) (t2I s)
 | 4=>nz (s 3) (t1I k w s)
 | i+1=>s i
def Iz(w:Nat→Int)(s:Nat→Int):Nat→Nat→Int
 | 0=>s
 | n+1=>rnI (jE Dv n) (w n) (Iz w s n)
def Cr(h m:Nat→Int):Nat→Int:=fun i=>nz (Iz (pK m 48) h 64 i) (h i)
def dSc:Fn1:=match fJ 161 with
 | some d=>d
 | none=>⟨.skip,[],0⟩
theorem zhi:FnOk Tryz.prog 161 dSc:=aB _ _ (by kernel_rfl)
def zhP:CallT:=jw bh ni fJ 1000 6
theorem ZE:ag Tryz.prog zhP:=dd an ab iM aB 1000 6
def Z9:Eng:={ tab:=bh,call:=zhP,N:=65 }
theorem Es:ag Tryz.prog Z9.call:=by
 unfold Z9
 with_reducible exact ZE
def zFK:List Code:=Dz.zbo 3 dSc.body
def zyp:Code:=Dz.Of 3 dSc.body
def zFJ:Code:=bJ (bJ zyp)
def zoA:Code:=gw (dh (aJ (bJ zyp)))
def zFI:Code:=aJ zyp
theorem zhj:dSc.body=gG zFK (.seq (.seq zFJ (.block 4 (.loop zoA))) zFI):=by kernel_rfl
theorem zG:dSc.ntmps=65:=by kernel_rfl
theorem Ot:dSc.results=[.cell 2 193]:=by kernel_rfl
def pS(id:Nat):Ct:=.sl (.one ⟨false,[.p id 0]⟩)
def iS(i:Int):Ct:=.sl (.one ⟨false,[.v (.int .i64 i)]⟩)
def fS(f:aaz):Ct:=.sl (.one ⟨false,[.f f []]⟩)
def zDx(m:Nat→Int):St:=aW 0 [⟨false,[.p 1 0]⟩] (65 - [(⟨false,[.p 1 0]⟩:AV)].length)++cj [(1,qX .u8 64 m)]
def Ag(m f:Nat→Int):St:=[(4,pS 16),(12,fS 166),(3,.bl (qX .u8 64 m)),(33,.bl (qX .u32 64 f))]
def vA(m f:Nat→Int)(t:Int):St:=(14,iS t)::Ag m f
theorem ziL(m:Nat→Int):probes Z9 1000 zFK (zDx m) 16 [] ((Ag m (pK m 0)).map (·.1))=some (0,[],(Ag m (pK m 0)).map fun p=>some p.2):=by kernel_rfl
theorem zpU(m f:Nat→Int):probe Z9 1000 zFJ (Ag m f) 40 [] ((vA m f 16).map (·.1))=some (0,[],(vA m f 16).map fun p=>some p.2):=by kernel_rfl
def fA(t:Nat):Prop:=∀ m f:Nat→Int,probe Z9 1000 zoA (vA m f (t:Nat)) 40 [] ((vA m (upd f t (nxI f t)) ((t+1:Nat):Int)).map (·.1))=some (0,[],(vA m (upd f t (nxI f t)) ((t+1:Nat):Int)).map fun p=>some p.2)
theorem zpV(m f:Nat→Int):probe Z9 1000 zoA (vA m f ((64:Nat):Int)) 40 [] ((vA m f ((64:Nat):Int)).map (·.1))=some (6,[],(vA m f ((64:Nat):Int)).map fun p=>some p.2):=by kernel_rfl
end Sh
def cV(T:CallT)(f:aaz)(args:List AV)(m:St)(hints:List (Nat×Bool))(hf:aaz→List (Nat×Bool)):Option (SV×List Prop):=match fJ f with
 | some d=>match rF bh (kR bh T fJ 1000 hf 6) 1000 d args m 16 hints with
  | some o=>some (o.val,o.ob)
  | none=>none
 | none=>none
theorem ae{T:CallT}(hT:ag Tryz.prog T){f:aaz}{args:List AV}{m:St}{hints:List (Nat×Bool)}{hf:aaz→List (Nat×Bool)}{s:SV}{ob:List Prop}(h:cV T f args m hints hf=some (s,ob))(ax:∀ p∈ob,p){ρ:Rho}{w:World}(hM:Mem ρ m w)
  (cv:∀ c,¬Own ρ c) {vs:List Value} (hv:ay ρ args=some vs) {v:Value} (hval:∀ ρ u,s.val ρ=some u→u=v):cX Tryz.prog f vs.toArray v w:=by
 unfold cV at h
 split at h
 ·rename_i d hd
  split at h
  ·rename_i o ho
   cases h
   refine (fB an ab (gm an ab hT aB 1000 hf 6) (aB _ _ hd) ho ax hv hM).mono ?_
   rintro e w' ⟨u,rfl,ρ',hE,hu,_⟩
   exact ⟨by rw [hval ρ' u hu],hE.below cv⟩
  ·cases h
 ·cases h
def tG(T:CallT)(f:aaz)(args:List AV)(m:St)(hints:List (Nat×Bool))(hf:aaz→List (Nat×Bool))(id:Nat):Option (SV×List Prop×Option (List It)):=match fJ f with
 | some d=>match rF bh (kR bh T fJ 1000 hf 6) 1000 d args m 16 hints with
  | some o=>some (o.val,o.ob,fC (o.wr++o.news) id)
  | none=>none
 | none=>none
theorem ta{T:CallT}(hT:ag Tryz.prog T){f:aaz}{args:List AV}{m:St}{hints:List (Nat×Bool)}{hf:aaz→List (Nat×Bool)}{id N N':Nat}{ob:List Prop}{l:List It}(h:tG T f args m hints hf id=some (iG (.s id 0 N N'),ob,some l))(ax:∀ p∈ob,p){ρ:Rho}{w:World}(hM:Mem ρ m w)
  (cv:∀ c,¬Own ρ c) {vs us:List Value} (hv:ay ρ args=some vs) (qZ:own id=true) (hn:ρ id=none) (hl:∀ ρ,conc ρ l=some us) :
  Calls Tryz.prog f vs.toArray w fun e w'=>∃ g,w.heap.size≤g∧e = .returned (.slice (some ⟨g,0,none⟩) N N')∧mb w' g us∧Below w.heap.size w w':=by
 unfold tG at h
 split at h
 ·rename_i d hd
  split at h
  ·rename_i o ho
   simp only [aag,Prod.mk.injEq] at h
   obtain ⟨e1,e2,e3⟩:=h
   subst e2
   refine (fB an ab (gm an ab hT aB 1000 hf 6) (aB _ _ hd) ho ax hv hM).mono ?_
   rintro e w' ⟨u,rfl,ρ',hE,hu,Bh⟩
   have hb:St.blk (aX m (ia (o.wr++o.news))) id=some l:=by rw [eJ,e3]
   obtain ⟨g,o',ov,f1,f2,f3,f4,_⟩:=Bh.ok.blk id l hb
   rw [hl] at f2;cases f2
   obtain ⟨rfl,t,ht⟩:=f4 qZ
   have hg:w.heap.size≤g:=by
    rcases hE.new id g 0 hn f1 with h|h
    ·exact h
    ·exact absurd h (cv g)
   refine ⟨g,hg,?_,⟨t,ht⟩,hE.below cv⟩
   rw [e1,bu (by rw [Rho.at_own qZ];exact f1)] at hu
   cases hu
   simp
  ·cases h
 ·cases h
def B6(w:World)(v:Value)(n:Nat)(f:Nat→Int):Prop:=(v = .slice none 0 0∧n=0)∨∃ b o cap,v = .slice (some ⟨b,o,none⟩) n cap∧Stands w b o (gvals .u8 n f)
def gM(n:Nat)(f:Nat→Int):List It:=[.w 0 0,.g .u8 n f]
def iJ(m:St)(id off len:Nat):Option (Nat×(Nat→Int)×List Prop):=match m.blk id with
 | some l=>match Kb l off (len*1) with
  | some (r,ob)=>match asG .u8 r with
   | some (_,f)=>some (len,f,ob)
   | none=>none
  | none=>none
 | none=>none
def qp(m:St)(x:AV):Option (Nat×(Nat→Int)×List Prop):=match x with
 | ⟨false,[.v (.slice none 0 0)]⟩=>some (0,fun _=>0,[])
 | ⟨false,[.s id off len _]⟩=>iJ m id off len
 | ⟨false,[.c id 1 _ off len]⟩=>match app id&&XQ len with
  | true=>iJ m id off len
  | false=>none
 | _=>none
theorem eW{ρ:Rho}{m:St}{w:World}(hM:Mem ρ m w){id off len n:Nat}{f:Nat→Int}{ob:List Prop}(h:iJ m id off len=some (n,f,ob))(ax:∀ p∈ob,p){q:Nat×Nat}(hq:ρ.at id=some q):n=len∧Stands w q.1 (q.2+off) (gvals .u8 len f):=by
 unfold iJ at h
 split at h
 ·rename_i l hl
  split at h
  ·rename_i r jW hc
   split at h
   ·rename_i k f' hg
    cases h
    obtain ⟨us,e2,e3,e4⟩:=lC hM hl hq
    obtain ⟨h1,h2⟩:=s7 hc ax e2
    have e:=xI hg h2
    have hlen:=congrArg List.length e
    rw [cD,List.length_take,List.length_drop] at hlen
    rw [abK] at h1 hlen e
    have hk:k=len:=by omega
    subst hk
    refine ⟨rfl,e3,fun i v hi=>?_⟩
    rw [←e,List.getElem?_take] at hi
    split at hi
    ·rw [List.getElem?_drop] at hi
     rw [Nat.add_assoc]
     exact e4 _ _ hi
    ·cases hi
   ·cases h
  ·cases h
 ·cases h
theorem ny{ρ:Rho}{m:St}{w:World}(hM:Mem ρ m w){x:AV}{n:Nat}{f:Nat→Int}{ob:List Prop}(h:qp m x=some (n,f,ob))(ax:∀ p∈ob,p){v:Value}(hv:x.val ρ=some v):B6 w v n f:=by
 unfold qp at h
 split at h
 ·cases h
  exact .inl ⟨iE hv,rfl⟩
 ·rename_i id off len cap
  obtain ⟨q,hq,rfl⟩:=aY hv
  obtain ⟨rfl,h2⟩:=eW hM h ax hq
  exact .inr ⟨_,_,_,rfl,h2⟩
 ·rename_i id adr off len
  split at h
  ·rename_i hb
   rw [aaf] at hb
   obtain ⟨q,cap,hq,rfl⟩:=j3 hv hb.1 (rK hb.2)
   obtain ⟨rfl,h2⟩:=eW hM h ax hq
   exact .inr ⟨_,_,_,rfl,h2⟩
  ·cases h
 ·cases h
def gn(z:Bool)(id n c:Nat):AV:=match z with
 | true=>⟨false,[.v (.slice none 0 0)]⟩
 | false=>⟨false,[.s id 0 n c]⟩
theorem fX:∀ (L:List (Nat×(Nat×Nat))) (id:Nat),aH L id=Eng.look L id:=by
 intro L id
 induction L with
 | nil=>rfl
 | cons p L ih=>
  obtain ⟨k,q⟩:=p
  simp only [aH,Eng.look,beq_iff_eq]
  split
  ·rfl
  ·exact ih
theorem GQ{α β:Type}:∀ (l:List (Nat×α)) (L:List (Nat×β)),l.map (·.1)=L.map (·.1)→∀ id,(Eng.look l id).isSome=(Eng.look L id).isSome:=by
 intro l
 induction l with
 | nil=>intro L h id;cases L with
  | nil=>rfl
  | cons _ _=>cases h
 | cons p l ih=>
  intro L h id
  cases L with
  | nil=>cases h
  | cons q L=>
   simp only [List.map_cons,List.cons.injEq] at h
   obtain ⟨k,v⟩:=p
   obtain ⟨k',v'⟩:=q
   obtain ⟨e,h⟩:=h
   have e:k=k':=e
   subst e
   simp only [Eng.look,beq_iff_eq]
   by_cases hk:k=id
   ·simp [hk]
   ·simp only [hk,if_false];exact ih L h id
theorem lq{α:Type}:∀ (l:List (Nat×α)) (id:Nat) (x:α),Eng.look l id=some x→(id,x)∈l:=by
 intro l
 induction l with
 | nil=>intro id x h;cases h
 | cons p l ih=>
  intro id x h
  obtain ⟨k,v⟩:=p
  simp only [Eng.look,beq_iff_eq] at h
  split at h
  ·rename_i e;cases h;subst e;exact aac
  ·exact aaa _ (ih id x h)
theorem oU{w:World}{L:List (Nat×(Nat×Nat))}{l:List (Nat×List It)}(hs:l.map (·.1)=L.map (·.1))(h16:(l.map (·.1)).all (fun id=>Nat.blt id 16)=true)
  (h:∀ id its q,Eng.look l id=some its→Eng.look L id=some q→∃ vs,conc (aH L) its=some vs∧Stands w q.1 q.2 vs):Mem (aH L) (cj l) w:=by
 have lt:∀ id q,aH L id=some q→id<16:=fun id q hq=>by
  rw [fX] at hq
  rw [aaF] at h16
  refine aaL (h16 id ?_)
  rw [hs]
  exact aaY.2 ⟨_,lq _ _ _ hq,rfl⟩
 refine ⟨⟨fun id its hl=>?_⟩,⟨fun id id' b' o1 o2 _ _ ho _ _ _ _ e1 _=>?_⟩,fun id q hq=>?_⟩
 ·rw [xC] at hl
  have DM:=GQ l L hs id
  rw [hl] at DM
  obtain ⟨q,hq⟩:=aa5.1 DM.symm
  obtain ⟨vs,hc,jd⟩:=h id its q hl hq
  have hlt:=lt id q (by rw [fX];exact hq)
  refine ⟨q.1,q.2,vs,by rw [fX];exact hq,hc,jd.1,fun ho=>?_,fun _ _=>jd.2,fun ho=>?_⟩
  ·simp only [own,aaf,decide_eq_true_eq] at ho;omega
  ·simp only [app,aaf,decide_eq_true_eq] at ho;omega
 ·have:=lt _ _ e1
  simp only [own,app,aaf,decide_eq_true_eq] at ho;omega
 ·rw [xC]
  rw [fX] at hq
  have DM:=GQ l L hs id
  rw [hq] at DM
  exact aa5.1 DM
theorem I7{L:List (Nat×(Nat×Nat))}(h16:(L.map (·.1)).all (fun id=>Nat.blt id 16)=true):∀ c,¬Own (aH L) c:=by
 rintro c ⟨id,o,ho,hq⟩
 rw [fX] at hq
 rw [aaF] at h16
 have:=aaL (h16 id (aaY.2 ⟨_,lq _ _ _ hq,rfl⟩))
 simp only [own,app,aaf,decide_eq_true_eq] at ho
 omega
namespace Sh
theorem zIM:fA 16:=fun m f=>by kernel_rfl
theorem zIL:fA 17:=fun m f=>by kernel_rfl
theorem zIK:fA 18:=fun m f=>by kernel_rfl
theorem zIJ:fA 19:=fun m f=>by kernel_rfl
theorem zII:fA 20:=fun m f=>by kernel_rfl
theorem zIH:fA 21:=fun m f=>by kernel_rfl
theorem zIG:fA 22:=fun m f=>by kernel_rfl
theorem zIF:fA 23:=fun m f=>by kernel_rfl
theorem zIE:fA 24:=fun m f=>by kernel_rfl
theorem zID:fA 25:=fun m f=>by kernel_rfl
theorem zIC:fA 26:=fun m f=>by kernel_rfl
theorem zIB:fA 27:=fun m f=>by kernel_rfl
theorem zIA:fA 28:=fun m f=>by kernel_rfl
theorem zIz:fA 29:=fun m f=>by kernel_rfl
theorem zIy:fA 30:=fun m f=>by kernel_rfl
theorem zIx:fA 31:=fun m f=>by kernel_rfl
theorem zIw:fA 32:=fun m f=>by kernel_rfl
theorem zIv:fA 33:=fun m f=>by kernel_rfl
theorem zIu:fA 34:=fun m f=>by kernel_rfl
theorem zIt:fA 35:=fun m f=>by kernel_rfl
theorem zIs:fA 36:=fun m f=>by kernel_rfl
theorem zIr:fA 37:=fun m f=>by kernel_rfl
theorem zIq:fA 38:=fun m f=>by kernel_rfl
theorem zIp:fA 39:=fun m f=>by kernel_rfl
theorem zIo:fA 40:=fun m f=>by kernel_rfl
theorem zIn:fA 41:=fun m f=>by kernel_rfl
theorem zIm:fA 42:=fun m f=>by kernel_rfl
theorem zIl:fA 43:=fun m f=>by kernel_rfl
theorem zIk:fA 44:=fun m f=>by kernel_rfl
theorem zIj:fA 45:=fun m f=>by kernel_rfl
theorem zIi:fA 46:=fun m f=>by kernel_rfl
theorem zIh:fA 47:=fun m f=>by kernel_rfl
theorem zIg:fA 48:=fun m f=>by kernel_rfl
theorem zIf:fA 49:=fun m f=>by kernel_rfl
theorem zIe:fA 50:=fun m f=>by kernel_rfl
theorem zId:fA 51:=fun m f=>by kernel_rfl
theorem zIc:fA 52:=fun m f=>by kernel_rfl
theorem zIb:fA 53:=fun m f=>by kernel_rfl
theorem zIa:fA 54:=fun m f=>by kernel_rfl
theorem zH9:fA 55:=fun m f=>by kernel_rfl
theorem zH8:fA 56:=fun m f=>by kernel_rfl
theorem zH7:fA 57:=fun m f=>by kernel_rfl
theorem zH6:fA 58:=fun m f=>by kernel_rfl
theorem zH5:fA 59:=fun m f=>by kernel_rfl
theorem zH4:fA 60:=fun m f=>by kernel_rfl
theorem zH3:fA 61:=fun m f=>by kernel_rfl
theorem zH2:fA 62:=fun m f=>by kernel_rfl
theorem zH1:fA 63:=fun m f=>by kernel_rfl
theorem zKF{t:Nat}(h1:16≤t)(h2:t<64):fA t:=by
 have h:t=16∨t=17∨t=18∨t=19∨t=20∨t=21∨t=22∨t=23∨t=24∨t=25∨t=26∨t=27∨t=28∨t=29∨t=30∨t=31∨t=32∨t=33∨t=34∨t=35∨t=36∨t=37∨t=38∨t=39∨t=40∨t=41∨t=42∨t=43∨t=44∨t=45∨t=46∨t=47∨t=48∨t=49∨t=50∨t=51∨t=52∨t=53∨t=54∨t=55∨t=56∨t=57∨t=58∨t=59∨t=60∨t=61∨t=62∨t=63:=by omega
 rcases h with rfl|rfl|rfl|rfl|rfl|rfl|rfl|rfl|rfl|rfl|rfl|rfl|rfl|rfl|rfl|rfl|rfl|rfl|rfl|rfl|rfl|rfl|rfl|rfl|rfl|rfl|rfl|rfl|rfl|rfl|rfl|rfl|rfl|rfl|rfl|rfl|rfl|rfl|rfl|rfl|rfl|rfl|rfl|rfl|rfl|rfl|rfl|rfl
 ·exact zIM
 ·exact zIL
 ·exact zIK
 ·exact zIJ
 ·exact zII
 ·exact zIH
 ·exact zIG
 ·exact zIF
 ·exact zIE
 ·exact zID
 ·exact zIC
 ·exact zIB
 ·exact zIA
 ·exact zIz
 ·exact zIy
 ·exact zIx
 ·exact zIw
 ·exact zIv
 ·exact zIu
 ·exact zIt
 ·exact zIs
 ·exact zIr
 ·exact zIq
 ·exact zIp
 ·exact zIo
 ·exact zIn
 ·exact zIm
 ·exact zIl
 ·exact zIk
 ·exact zIj
 ·exact zIi
 ·exact zIh
 ·exact zIg
 ·exact zIf
 ·exact zIe
 ·exact zId
 ·exact zIc
 ·exact zIb
 ·exact zIa
 ·exact zH9
 ·exact zH8
 ·exact zH7
 ·exact zH6
 ·exact zH5
 ·exact zH4
 ·exact zH3
 ·exact zH2
 ·exact zH1
theorem Jr(m f:Nat→Int)(t:Int):aw (vA m f t) [1,16]=true:=by kernel_rfl
theorem MK(m f:Nat→Int):aw (Ag m f) [1,16]=true:=by kernel_rfl
theorem VT{st:St}{A B:List It}(h1:st.blk 1=some A)(h2:st.blk 16=some B):∀ id∈[1,16],∃ l,st.blk id=some l:=fun id cl=>by
 simp only [aae,aad,or_false] at cl
 rcases cl with rfl|rfl
 ·exact ⟨A,h1⟩
 ·exact ⟨B,h2⟩
theorem SQ(m f:Nat→Int)(t:Int):∀ id∈[1,16],∃ l,(vA m f t).blk id=some l:=VT rfl rfl
theorem VV(m f:Nat→Int):∀ id∈[1,16],∃ l,(Ag m f).blk id=some l:=VT rfl rfl
def bV(b o:Nat):Rho:=aH [(1,(b,o))]
theorem r6{b o:Nat}:∀ id q,bV b o id=some q→id∈[1,16]:=fun id q h=>by
 unfold bV aH aH at h
 split at h
 ·rename_i e;simp [←e]
 ·cases h
theorem zpT{b o:Nat}{w0:World}{m:Nat→Int}{Q:Exit→Act→World→Prop}(hX:∀ a w,At 65 (bV b o) w0 (vA m (pK m 48) ((64:Nat):Int)) a w→Q (.exit 4) a w){a:Act}{w:World}
  (hA:At 65 (bV b o) w0 (vA m (pK m 0) 16) a w):(Code.loop zoA).wp Tryz.prog Q a w:=by
 refine dG (w0:=w0) (dL:=bV b o) (N:=65) (ι:=Nat) (fun n=>n≤48) (fun n=>vA m (pK m n) ((16+n:Nat):Int)) (fun n=>48-n) ?_ 0 (Nat.zero_le _) a w hA
 intro n hn a w hA
 have hn:n≤48:=hn
 rcases Nat.lt_or_ge n 48 with h|h
 ·exact At.probe (E:=Z9) an ab Es (zKF (t:=16+n) (by omega) (by omega) m (pK m n)) (fun q hq=>by cases hq) hA [1,16] (SQ _ _ _) (Jr _ _ _) r6 fun a' w' bY=>⟨n+1,by omega,by show 48-(n+1)<48-n;omega,bY⟩
 ·obtain rfl:n=48:=by omega
  exact At.probe (E:=Z9) an ab Es (zpV m (pK m 48)) (fun q hq=>by cases hq) hA [1,16] (SQ _ _ _) (Jr _ _ _) r6 fun a' w' bY=>hX a' w' bY
theorem zpS(m f:Nat→Int)(t:Int):probe Z9 1000 zFI (vA m f t) 40 [] ((Ag m f).map (·.1))=some (1,[],(Ag m f).map fun p=>some p.2):=by kernel_rfl
theorem H_{b o:Nat}{m:Nat→Int}(w:World)(h:Stands w b o (tq .u8 64 m)):Invoked Tryz.prog 161 [.pointer (some ⟨b,o,none⟩)].toArray w fun u w'=>u=rf .u32 64 (pK m 48)∧Below w.heap.size w w':=by
 refine .inr ⟨zhi.enter _ _,?_⟩
 have jd:∀ e∈[((1:Nat),qX .u8 64 m,(b,o),tq .u8 64 m)],e.1<16∧conc rho0 e.2.1=some e.2.2.2∧Stands w e.2.2.1.1 e.2.2.1.2 e.2.2.2:=
  aab.2 ⟨⟨(by show 1<16;decide),Hp _ _ _ _,h⟩,fun _ h=>by cases h⟩
 have hM:Mem (bV b o) (cj [(1,qX .u8 64 m)]) w:=dU _ jd
 have cv:∀ c,¬Own (bV b o) c:=iD (w:=w) _ jd
 have hv:ay (bV b o) [⟨false,[.p 1 0]⟩]=some [.pointer (some ⟨b,o,none⟩)]:=by
  have e:AV.val (bV b o) ⟨false,[.p 1 0]⟩=some (mo (b,o) 0):=AV.val_mk (by simp [It.cs,bV,aH])
  simp only [ay,e]
  rfl
 refine (bX (G:=fun xs st=>xs=[uM .u32 64 (pK m 48)]) ab zhi hM (by kernel_rfl) hv (by rw [zG];simp) fun a c9=>?_).mono ?_
 ·rw [zG] at c9
  have c9:At 65 (bV b o) w (zDx m) a w:=c9
  rw [zG,Ot,zhj]
  refine At.probes (E:=Z9) an ab Es (ziL m) (fun q hq=>by cases hq) c9 [1,16] (VV _ _) (MK _ _) r6 fun a1 w1 g1=>?_
  show aaT _ _ _ _ _
  refine wp_seq (wp_seq (At.probe (E:=Z9) an ab Es (zpU m (pK m 0)) (fun p hp=>by cases hp) g1 [1,16] (SQ _ _ _) (Jr _ _ _) r6 fun a2 w2 g2=>?_))
  show aaT _ _ _ _ _
  refine wp_block (zpT (fun a3 w3 g3=>?_) g2)
  show aaT _ _ _ _ _
  refine At.probe (E:=Z9) an ab Es (zpS m _ _) (fun p hp=>by cases hp) g3 [1,16] (VV _ _) (MK _ _) r6 fun a4 w4 g4=>?_
  exact ⟨.inr rfl,_,[uM .u32 64 (pK m 48)],g4,by kernel_rfl,rfl⟩
 ·rintro e w' ⟨v,rfl,xs,st,ρ',hE,hval,Bg,rfl⟩
  refine ⟨v,rfl,?_,hE.below cv⟩
  simp only [pT,SV.val,nJ,aag] at hval
  exact hval.symm
theorem lR(ρ:Rho)(k:aaR)(n:Nat)(f:Nat→Int):SV.val ρ (.one (uM k n f))=some (rf k n f):=by
 rw [show SV.val ρ (.one (uM k n f))=AV.val ρ (uM k n f) from rfl]
 exact nJ ρ k n f
def zuv:CallT:=fun f args m _=>match f==161 with
 | true=>match args with
  | [⟨false,[.p a 0]⟩]=>match m.blk a with
   | some A=>match DI .u8 A with
    | some r=>match aaK r.length 64 with
     | true=>some { val:=.one (uM .u32 64 (pK (jE r) 48)),wr:=[],news:=[],ob:=[] }
     | false=>none
    | none=>none
   | none=>none
  | _=>none
 | false=>none
theorem zkM:ag Tryz.prog zuv:=by
 intro f args m nid out af ax ρ w vs hv hM df
 unfold zuv at af
 split at af
 ·rename_i hf
  rw [beq_iff_eq] at hf
  subst hf
  split at af
  ·rename_i a
   split at af
   ·rename_i A hA
    split at af
    ·rename_i r hr
     split at af
     ·rename_i hl
      cases af
      have hl:=aas hl
      obtain ⟨v1,us,h1,h2,rfl⟩:=aj hv
      cases h2
      obtain ⟨q,hq,qL⟩:=dY (id:=a) (off:=0) rfl h1
      obtain ⟨us,e2,e3,e4⟩:=lC hM hA hq
      have c1:v1 = .pointer (some ⟨q.1,q.2,none⟩):=qL
      subst c1
      have hu:=rU _ _ _ hr e2
      have hs:Stands w q.1 q.2 (tq .u8 64 (jE r)):=by
       rw [←hl,PD,←hu]
       exact ⟨e3,e4⟩
      refine (H_ w hs).mono fun u w' hu'=>?_
      obtain ⟨rfl,hb⟩:=hu'
      exact ⟨ρ,Ext.of_below hb,lR ρ .u32 64 (pK (jE r) 48),hM.of_below hb⟩
     ·cases af
    ·cases af
   ·cases af
  ·cases af
 ·cases af
def dSt:Fn1:=match fJ 151 with
 | some d=>d
 | none=>⟨.skip,[],0⟩
theorem zhf:FnOk Tryz.prog 151 dSt:=aB _ _ (by kernel_rfl)
def zhO:CallT:=jw bh zuv fJ 1000 6
theorem ZD:ag Tryz.prog zhO:=dd an ab zkM aB 1000 6
def Z8:Eng:={ tab:=bh,call:=zhO,N:=95 }
theorem Er:ag Tryz.prog Z8.call:=by
 unfold Z8
 with_reducible exact ZD
def zFC:List Code:=Dz.zbo 5 dSt.body
def zyn:Code:=Dz.Of 5 dSt.body
def zFB:Code:=bJ (bJ zyn)
def zow:Code:=gw (dh (aJ (bJ zyn)))
def zFA:Code:=aJ zyn
theorem zhg:dSt.body=gG zFC (.seq (.seq zFB (.block 0 (.loop zow))) zFA):=by kernel_rfl
theorem zE:dSt.ntmps=95:=by kernel_rfl
theorem Oo:dSt.results=[.cell 4 181]:=by kernel_rfl
def zDv(h m:Nat→Int):St:=aW 0 [uM .u32 8 h,uM .u8 64 m] (95 - [uM .u32 8 h,uM .u8 64 m].length)++cj []
def F9(h w s:Nat→Int):St:=[(4,pS 16),(8,pS 18),(10,pS 20),(12,pS 23),(14,fS 162),(16,pS 27),(33,.bl (qX .u32 8 h)),(37,.bl (qX .u32 8 fun _=>0)),(41,.bl (qX .u32 64 (jE Dv))),(47,.bl (qX .u32 64 w)),(55,.bl (qX .u32 8 s))]
def vz(h w s:Nat→Int)(t:Int):St:=(40,iS t)::F9 h w s
def TQ(h s:Nat→Int):St:=[(8,pS 18),(37,.bl (qX .u32 8 fun i=>nz (s i) (h i)))]
theorem ziJ(h m:Nat→Int):probes Z8 1000 zFC (zDv h m) 16 [] ((F9 h (pK (jE ((aan 64).map m)) 48) h).map (·.1))=some (0,[],(F9 h (pK (jE ((aan 64).map m)) 48) h).map fun p=>some p.2):=by kernel_rfl
theorem zpL(h w s:Nat→Int):probe Z8 1000 zFB (F9 h w s) 40 [] ((vz h w s 0).map (·.1))=some (0,[],(vz h w s 0).map fun p=>some p.2):=by kernel_rfl
def de(t:Nat):Prop:=∀ h w s:Nat→Int,probe Z8 1000 zow (vz h w s (t:Nat)) 40 [] ((vz h w (rnI (jE Dv t) (w t) s) ((t+1:Nat):Int)).map (·.1))=some (0,[],(vz h w (rnI (jE Dv t) (w t) s) ((t+1:Nat):Int)).map fun p=>some p.2)
theorem zpM(h w s:Nat→Int):probe Z8 1000 zow (vz h w s ((64:Nat):Int)) 40 [] ((vz h w s ((64:Nat):Int)).map (·.1))=some (2,[],(vz h w s ((64:Nat):Int)).map fun p=>some p.2):=by kernel_rfl
theorem zpJ(h w s:Nat→Int)(t:Int):probe Z8 1000 zFA (vz h w s t) 40 [] ((TQ h s).map (·.1))=some (1,[],(TQ h s).map fun p=>some p.2):=by kernel_rfl
theorem zOp:de 0:=fun h w s=>by kernel_rfl
theorem zOo:de 1:=fun h w s=>by kernel_rfl
theorem zOn:de 2:=fun h w s=>by kernel_rfl
theorem zOm:de 3:=fun h w s=>by kernel_rfl
theorem zOl:de 4:=fun h w s=>by kernel_rfl
theorem zOk:de 5:=fun h w s=>by kernel_rfl
theorem zOj:de 6:=fun h w s=>by kernel_rfl
theorem zOi:de 7:=fun h w s=>by kernel_rfl
theorem zOh:de 8:=fun h w s=>by kernel_rfl
theorem zOg:de 9:=fun h w s=>by kernel_rfl
theorem zH0:de 10:=fun h w s=>by kernel_rfl
theorem zHZ:de 11:=fun h w s=>by kernel_rfl
theorem zHY:de 12:=fun h w s=>by kernel_rfl
theorem zHX:de 13:=fun h w s=>by kernel_rfl
theorem zHW:de 14:=fun h w s=>by kernel_rfl
theorem zHV:de 15:=fun h w s=>by kernel_rfl
theorem zHU:de 16:=fun h w s=>by kernel_rfl
theorem zHT:de 17:=fun h w s=>by kernel_rfl
theorem zHS:de 18:=fun h w s=>by kernel_rfl
theorem zHR:de 19:=fun h w s=>by kernel_rfl
theorem zHQ:de 20:=fun h w s=>by kernel_rfl
theorem zHP:de 21:=fun h w s=>by kernel_rfl
theorem zHO:de 22:=fun h w s=>by kernel_rfl
theorem zHN:de 23:=fun h w s=>by kernel_rfl
theorem zHM:de 24:=fun h w s=>by kernel_rfl
theorem zHL:de 25:=fun h w s=>by kernel_rfl
theorem zHK:de 26:=fun h w s=>by kernel_rfl
theorem zHJ:de 27:=fun h w s=>by kernel_rfl
theorem zHI:de 28:=fun h w s=>by kernel_rfl
theorem zHH:de 29:=fun h w s=>by kernel_rfl
theorem zHG:de 30:=fun h w s=>by kernel_rfl
theorem zHF:de 31:=fun h w s=>by kernel_rfl
theorem zHE:de 32:=fun h w s=>by kernel_rfl
theorem zHD:de 33:=fun h w s=>by kernel_rfl
theorem zHC:de 34:=fun h w s=>by kernel_rfl
theorem zHB:de 35:=fun h w s=>by kernel_rfl
theorem zHA:de 36:=fun h w s=>by kernel_rfl
theorem zHz:de 37:=fun h w s=>by kernel_rfl
theorem zHy:de 38:=fun h w s=>by kernel_rfl
theorem zHx:de 39:=fun h w s=>by kernel_rfl
theorem zHw:de 40:=fun h w s=>by kernel_rfl
theorem zHv:de 41:=fun h w s=>by kernel_rfl
theorem zHu:de 42:=fun h w s=>by kernel_rfl
theorem zHt:de 43:=fun h w s=>by kernel_rfl
theorem zHs:de 44:=fun h w s=>by kernel_rfl
theorem zHr:de 45:=fun h w s=>by kernel_rfl
theorem zHq:de 46:=fun h w s=>by kernel_rfl
theorem zHp:de 47:=fun h w s=>by kernel_rfl
theorem zHo:de 48:=fun h w s=>by kernel_rfl
theorem zHn:de 49:=fun h w s=>by kernel_rfl
theorem zHm:de 50:=fun h w s=>by kernel_rfl
theorem zHl:de 51:=fun h w s=>by kernel_rfl
theorem zHk:de 52:=fun h w s=>by kernel_rfl
theorem zHj:de 53:=fun h w s=>by kernel_rfl
theorem zHi:de 54:=fun h w s=>by kernel_rfl
theorem zHh:de 55:=fun h w s=>by kernel_rfl
theorem zHg:de 56:=fun h w s=>by kernel_rfl
theorem zHf:de 57:=fun h w s=>by kernel_rfl
theorem zHe:de 58:=fun h w s=>by kernel_rfl
theorem zHd:de 59:=fun h w s=>by kernel_rfl
theorem zHc:de 60:=fun h w s=>by kernel_rfl
theorem zHb:de 61:=fun h w s=>by kernel_rfl
theorem zHa:de 62:=fun h w s=>by kernel_rfl
theorem zG9:de 63:=fun h w s=>by kernel_rfl
theorem zKy{t:Nat}(h2:t<64):de t:=by
 have h:t=0∨t=1∨t=2∨t=3∨t=4∨t=5∨t=6∨t=7∨t=8∨t=9∨t=10∨t=11∨t=12∨t=13∨t=14∨t=15∨t=16∨t=17∨t=18∨t=19∨t=20∨t=21∨t=22∨t=23∨t=24∨t=25∨t=26∨t=27∨t=28∨t=29∨t=30∨t=31∨t=32∨t=33∨t=34∨t=35∨t=36∨t=37∨t=38∨t=39∨t=40∨t=41∨t=42∨t=43∨t=44∨t=45∨t=46∨t=47∨t=48∨t=49∨t=50∨t=51∨t=52∨t=53∨t=54∨t=55∨t=56∨t=57∨t=58∨t=59∨t=60∨t=61∨t=62∨t=63:=by omega
 rcases h with rfl|rfl|rfl|rfl|rfl|rfl|rfl|rfl|rfl|rfl|rfl|rfl|rfl|rfl|rfl|rfl|rfl|rfl|rfl|rfl|rfl|rfl|rfl|rfl|rfl|rfl|rfl|rfl|rfl|rfl|rfl|rfl|rfl|rfl|rfl|rfl|rfl|rfl|rfl|rfl|rfl|rfl|rfl|rfl|rfl|rfl|rfl|rfl|rfl|rfl|rfl|rfl|rfl|rfl|rfl|rfl|rfl|rfl|rfl|rfl|rfl|rfl|rfl|rfl
 ·exact zOp
 ·exact zOo
 ·exact zOn
 ·exact zOm
 ·exact zOl
 ·exact zOk
 ·exact zOj
 ·exact zOi
 ·exact zOh
 ·exact zOg
 ·exact zH0
 ·exact zHZ
 ·exact zHY
 ·exact zHX
 ·exact zHW
 ·exact zHV
 ·exact zHU
 ·exact zHT
 ·exact zHS
 ·exact zHR
 ·exact zHQ
 ·exact zHP
 ·exact zHO
 ·exact zHN
 ·exact zHM
 ·exact zHL
 ·exact zHK
 ·exact zHJ
 ·exact zHI
 ·exact zHH
 ·exact zHG
 ·exact zHF
 ·exact zHE
 ·exact zHD
 ·exact zHC
 ·exact zHB
 ·exact zHA
 ·exact zHz
 ·exact zHy
 ·exact zHx
 ·exact zHw
 ·exact zHv
 ·exact zHu
 ·exact zHt
 ·exact zHs
 ·exact zHr
 ·exact zHq
 ·exact zHp
 ·exact zHo
 ·exact zHn
 ·exact zHm
 ·exact zHl
 ·exact zHk
 ·exact zHj
 ·exact zHi
 ·exact zHh
 ·exact zHg
 ·exact zHf
 ·exact zHe
 ·exact zHd
 ·exact zHc
 ·exact zHb
 ·exact zHa
 ·exact zG9
def kS:List Nat:=[16,18,20,23,27]
def kE:List Nat:=[18]
theorem Jq(h w s:Nat→Int)(t:Int):aw (vz h w s t) kS=true:=by kernel_rfl
theorem zes(h w s:Nat→Int):aw (F9 h w s) kS=true:=by kernel_rfl
theorem zer(h s:Nat→Int):aw (TQ h s) kE=true:=by kernel_rfl
theorem zh5{st:St}{A B C D E:List It}(h1:st.blk 16=some A)(h2:st.blk 18=some B)(h3:st.blk 20=some C)(h4:st.blk 23=some D)(h5:st.blk 27=some E):∀ id∈kS,∃ l,st.blk id=some l:=fun id cl=>by
 simp only [kS,aae,aad,or_false] at cl
 rcases cl with rfl|rfl|rfl|rfl|rfl
 ·exact ⟨A,h1⟩
 ·exact ⟨B,h2⟩
 ·exact ⟨C,h3⟩
 ·exact ⟨D,h4⟩
 ·exact ⟨E,h5⟩
theorem SP(h w s:Nat→Int)(t:Int):∀ id∈kS,∃ l,(vz h w s t).blk id=some l:=zh5 rfl rfl rfl rfl rfl
theorem zoS(h w s:Nat→Int):∀ id∈kS,∃ l,(F9 h w s).blk id=some l:=zh5 rfl rfl rfl rfl rfl
theorem zoR(h s:Nat→Int):∀ id∈kE,∃ l,(TQ h s).blk id=some l:=fun id cl=>by
 simp only [kE,aae,aad,or_false] at cl
 subst cl;exact ⟨_,rfl⟩
theorem zgJ{l:List Nat}:∀ id q,rho0 id=some q→id∈l:=fun id q h=>by cases h
theorem zpK{w0:World}{h W:Nat→Int}{Q:Exit→Act→World→Prop}(hX:∀ a w,At 95 rho0 w0 (vz h W (Iz W h 64) ((64:Nat):Int)) a w→Q (.exit 0) a w){a:Act}{w:World}
  (hA:At 95 rho0 w0 (vz h W h 0) a w):(Code.loop zow).wp Tryz.prog Q a w:=by
 refine dG (w0:=w0) (dL:=rho0) (N:=95) (ι:=Nat) (fun n=>n≤64) (fun n=>vz h W (Iz W h n) ((n:Nat):Int)) (fun n=>64-n) ?_ 0 (Nat.zero_le _) a w hA
 intro n hn a w hA
 have hn:n≤64:=hn
 rcases Nat.lt_or_ge n 64 with hlt|hge
 ·exact At.probe (E:=Z8) an ab Er (zKy hlt h W (Iz W h n)) (fun q hq=>by cases hq) hA kS (SP _ _ _ _) (Jq _ _ _ _) zgJ fun a' w' bY=>⟨n+1,by omega,by show 64-(n+1)<64-n;omega,bY⟩
 ·obtain rfl:n=64:=by omega
  exact At.probe (E:=Z8) an ab Er (zpM h W (Iz W h 64)) (fun q hq=>by cases hq) hA kS (SP _ _ _ _) (Jq _ _ _ _) zgJ fun a' w' bY=>hX a' w' bY
theorem Xo{m m':Nat→Int}(h:∀ i,i<64→m i=m' i):∀ n,pK m n=pK m' n:=by
 intro n
 induction n with
 | zero=>
  funext i
  simp only [pK]
  split
  ·unfold wdI
   rw [h _ (by omega),h _ (by omega),h _ (by omega),h _ (by omega)]
  ·rfl
 | succ n ih=>simp only [pK,ih]
theorem zfV(m:Nat→Int)(n i:Nat)(h:i<n):jE ((aan n).map m) i=m i:=by
 unfold jE
 rw [aaU,List.getElem?_map,List.getElem?_range h]
 rfl
theorem zb2(h m:Nat→Int):bj Tryz.prog 151 [rf .u32 8 h,rf .u8 64 m] (rf .u32 8 (Cr h m)):=by
 intro w
 refine .inr ⟨zhf.enter _ _,?_⟩
 have hM:Mem rho0 (cj []) w:=dU (w:=w) [] (fun x hx=>by cases hx)
 have cv:∀ c,¬Own rho0 c:=fun c ⟨_,_,_,h⟩=>by cases h
 have hv:ay rho0 [uM .u32 8 h,uM .u8 64 m]=some [rf .u32 8 h,rf .u8 64 m]:=by simp only [ay,nJ]
 refine (bX (G:=fun xs st=>xs=[uM .u32 8 (Cr h (jE ((aan 64).map m)))]) ab zhf hM (by kernel_rfl) hv (by rw [zE];simp) fun a c9=>?_).mono ?_
 ·rw [zE] at c9
  have c9:At 95 rho0 w (zDv h m) a w:=c9
  rw [zE,Oo,zhg]
  refine At.probes (E:=Z8) an ab Er (ziJ h m) (fun q hq=>by cases hq) c9 kS (zoS _ _ _) (zes _ _ _) zgJ fun a1 w1 g1=>?_
  show aaT _ _ _ _ _
  refine wp_seq (wp_seq (At.probe (E:=Z8) an ab Er (zpL h _ h) (fun p hp=>by cases hp) g1 kS (SP _ _ _ _) (Jq _ _ _ _) zgJ fun a2 w2 g2=>?_))
  show aaT _ _ _ _ _
  refine wp_block (zpK (fun a3 w3 g3=>?_) g2)
  show aaT _ _ _ _ _
  refine At.probe (E:=Z8) an ab Er (zpJ h _ _ _) (fun p hp=>by cases hp) g3 kE (zoR _ _) (zer _ _) zgJ fun a4 w4 g4=>?_
  exact ⟨.inr rfl,_,[uM .u32 8 (Cr h (jE ((aan 64).map m)))],g4,by kernel_rfl,rfl⟩
 ·rintro e w' ⟨v,rfl,xs,st,ρ',hE,hval,Bg,rfl⟩
  refine ⟨v,rfl,?_,hE.below cv⟩
  simp only [pT,SV.val,nJ,aag] at hval
  rw [←hval]
  exact FR fun i _=>by
   unfold Cr
   rw [Xo fun j hj=>zfV m 64 j hj]
def TN:Row:=C1 (kdF .u32 8) (kdF .u8 64) (kdF .u32 8).rs 151 Cr
theorem Qa:bE Tryz.prog TN:=rG fun h m=>zb2 h m
end Sh
end Go.Proofs.YtcafpgpahbplaaaGreat
