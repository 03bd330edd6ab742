/-
 The proof, part 2 of 25.
-/
import Derived.Laws.MakeOwn
import Derived.Laws.Append
import Derived.Laws.Cover3
import Derived.Deep.Upon
import Derived.Laws.AppendOwn
import Derived.Orders
import Derived.WalkKit
import Derived.ChangeKeysEq
open Array renaming ext'->ac8,length_toList->abx,range->aei,toList_extract->ads
open Bool renaming and_eq_false_iff->acN,and_eq_true->aaf,eq_iff_iff->aek,false_eq_true->aaS,true_and->acL
open Eq renaming symm->adV
open Go renaming FuncId->aaz,IntKind->aaR,Operand->aav,Program->aaE,TypeDesc->acu,TypeId->aax,TypeInfo->adE
open Go.Builtin renaming append_->adX,firstCells->adF,nextslicecap->adt,zeroCells->aa6
open Go.Instr renaming slice->ad0,sliceAt->adq,sliceBound->aef,sliceBounds->abY,sureAddr->adg
open Go.Result renaming andThen_ok->aaj
open Go.Sem renaming run_bind->aal,run_ite->aeh,run_pure->aat
open Go.Value renaming oneCell'->abp
open Int renaming toNat_natCast->aam,toNat_of_nonneg->aa2
open List renaming all_eq_true->aaF,append_assoc->acs,append_nil->aaP,cons_append->abe,drop_drop->acU,drop_eq_getElem_cons->ack,ext_getElem->adm,ext_getElem?->acS,extract_eq_take_drop->acZ,filter_append->acF,filter_congr->acR,filter_cons->acz,filter_filter->adD,flatten_cons->ab5,getElem?_append->acr,getElem?_cons_succ->abW,getElem?_cons_zero->abo,getElem?_drop->abC,getElem?_eq_none->abz,getElem?_map->abA,getElem?_range->ab6,getElem?_take->aa7,getElem?_toArray->aba,headD_cons->adW,length_append->aaX,length_cons->acA,length_drop->aa1,length_eq_zero_iff->ab4,length_take->abd,map_cons->aaB,map_nil->acw,map_toArray->acd,mem_append->aaw,mem_cons->aae,mem_cons_self->aac,mem_filter->adz,mem_map->aaY,mem_range'_1->aed,mem_singleton->aao,nil_append->abO,range'->aaQ,range'_succ->adl,range->aan,range_eq_range'->acq,replicate->aap,replicate_succ->aby,size_toArray->abL,take_append_drop->aci,take_succ_cons->ac0
open List.cons renaming injEq->aaM
open Nat renaming add_assoc->aa4,add_mul->aaD,add_zero->aaN,beq->aaK,ble->ach,ble_eq_true_of_le->acO,eq_of_beq_eq_true->aas,le_add_right->acW,le_div_iff_mul_le->abM,le_of_ble_eq_true->aaL,le_refl->aaV,le_trans->abt,lt_of_lt_of_le->abk,min->ado,mul_le_mul->acf,mul_le_mul_right->aaI,succ_mul->abP,zero_add->aay,zero_le->abV
open Option renaming isSome_iff_exists->aa5,map_none->ac4,map_some->ac3
open Option.some renaming inj->abn,injEq->aag
set_option linter.unusedVariables false
set_option linter.unusedSimpArgs false
namespace Go.Eng
open Go
section
variable {α:Type}
def look:List (Nat×α)→Nat→Option α
 | [],_=>none
 | (k,v)::l,x=>if k==x then some v else look l x
def upd:List (Nat×α)→Nat→α→List (Nat×α)
 | [],k,v=>[(k,v)]
 | (k',v')::l,k,v=>if k'==k then (k,v)::l else (k',v')::upd l k v
theorem oV(l:List (Nat×α))(k:Nat)(v:α)(x:Nat):look (upd l k v) x=if k=x then some v else look l x:=by
 induction l with
 | nil=>simp [upd,look]
 | cons p l ih=>
  obtain ⟨k',v'⟩:=p
  by_cases h:k'=k
  ·subst h
   by_cases hx:k'=x
   ·simp [upd,look,hx]
   ·simp [upd,look,hx]
  ·by_cases hx:k'=x
   ·subst hx
    have:¬k=k':=fun e=>h e.symm
    simp [upd,look,h,this]
   ·simp only [upd,beq_iff_eq,h,if_false,look,hx,ih]
def aX(l:List (Nat×α)):List (Nat×α)→List (Nat×α)
 | []=>l
 | (k,v)::e=>aX (upd l k v) e
def ze:List (Nat×α)→Nat→Option α
 | [],_=>none
 | (k,v)::e,x=>match ze e x with
  | some u=>some u
  | none=>if k=x then some v else none
theorem lp(e:List (Nat×α)):∀ (l:List (Nat×α)) (x:Nat),look (aX l e) x=match ze e x with | some u=>some u | none=>look l x:=by
 induction e with
 | nil=>intro l x;rfl
 | cons p e ih=>
  intro l x
  obtain ⟨k,v⟩:=p
  simp only [aX,ih,ze]
  cases h:ze e x with
  | some u=>rfl
  | none=>
   simp only [oV]
   by_cases hk:k=x<;>simp [hk]
def keys(e:List (Nat×α)):List Nat:=e.map (·.1)
theorem zc{e:List (Nat×α)}{x:Nat}(h:x∉keys e):ze e x=none:=by
 induction e with
 | nil=>rfl
 | cons p e ih=>
  obtain ⟨k,v⟩:=p
  simp only [keys,aaB,aae,not_or] at h
  have h1:¬k=x:=fun e=>h.1 e.symm
  simp only [ze,ih h.2,h1,if_false]
theorem GW{e:List (Nat×α)}{x:Nat}(h:x∈keys e):∃ u,ze e x=some u:=by
 induction e with
 | nil=>cases h
 | cons p e ih=>
  obtain ⟨k,v⟩:=p
  simp only [keys,aaB,aae] at h
  simp only [ze]
  cases hl:ze e x with
  | some u=>exact ⟨u,rfl⟩
  | none=>
   rcases h with h|h
   ·exact ⟨v,by simp [h]⟩
   ·obtain ⟨u,hu⟩:=ih h
    rw [hl] at hu;cases hu
end
section
variable {α:Type}
def rT(W:Nat→List (Nat×α))(σ:List (Nat×α)):List Nat→List (Nat×α)
 | []=>σ
 | i::l=>rT W (aX σ (W i)) l
theorem AE(W:Nat→List (Nat×α))(l m:List Nat):∀ σ,rT W σ (l++m)=rT W (rT W σ l) m:=by
 induction l with
 | nil=>intro σ;rfl
 | cons i l ih=>intro σ;simp [rT,ih]
theorem gV(W:Nat→List (Nat×α))(x:Nat)(l:List Nat):∀ σ σ',look σ x=look σ' x →
  look (rT W σ l) x=look (rT W σ' (l.filter fun i=>(keys (W i)).contains x)) x:=by
 induction l with
 | nil=>intro σ σ' h;exact h
 | cons i l ih=>
  intro σ σ' h
  by_cases hi:x∈keys (W i)
  ·have hc:(keys (W i)).contains x=true:=by simpa using hi
   simp only [acz,hc,if_true,rT]
   exact ih _ _ (by rw [lp,lp,h])
  ·have hc:(keys (W i)).contains x=false:=by simpa using hi
   simp only [acz,hc,rT]
   exact ih _ _ (by rw [lp,zc hi];exact h)
theorem Ds(W:Nat→List (Nat×α))(x i:Nat)(hx:x∈keys (W i))(l m:List Nat)(hm:∀ j∈m,x∉keys (W j))(σ:List (Nat×α)):
  look (rT W σ (l++i::m)) x=ze (W i) x:=by
 rw [AE]
 have h0:=gV W x (i::m) (rT W σ l) (rT W σ l) rfl
 rw [h0]
 have hf:(i::m).filter (fun i=>(keys (W i)).contains x)=[i]:=by
  rw [acz,if_pos (by simpa using hx)]
  congr 1
  rw [List.filter_eq_nil_iff]
  intro j hj
  simpa using hm j hj
 rw [hf]
 simp only [rT,lp]
 obtain ⟨u,hu⟩:=GW hx
 rw [hu]
end
def vE(o:Oper):List Nat:=(o.after.toList.filter fun e=>Region.binds .any e).map (·.on)
theorem MB{o:Oper}{m:Nat}:m∈vE o↔∃ e∈o.after,Region.binds .any e=true∧e.on=m:=by
 simp only [vE,aaY,adz,Array.mem_toList_iff]
 constructor
 ·rintro ⟨e,⟨h1,h2⟩,h3⟩;exact ⟨e,h1,h2,h3⟩
 ·rintro ⟨e,h1,h2,h3⟩;exact ⟨e,⟨h1,h2⟩,h3⟩
def indep(R W:Nat→List Nat)(i j:Nat):Prop:=(∀ k∈W i,k∉R j∧k∉W j)∧(∀ k∈W j,k∉R i)
section order
variable {α:Type}{n:Nat}{anc:Nat→Nat→Bool}{R:Nat→List Nat}{W:Nat→List (Nat×α)}
structure Sorted(n:Nat)(src:Nat→List Nat)(anc:Nat→Nat→Bool)(R:Nat→List Nat)(W:Nat→List (Nat×α)):Prop where
 below:∀ i<n,∀ m∈src i,m<i
 step:∀ i<n,∀ j,anc i j=true→∃ m∈src i,m=j∨anc m j=true
 apart:∀ i<n,∀ j<i,anc i j=true∨indep R (fun i=>keys (W i)) j i
def Closed(n:Nat)(anc:Nat→Nat→Bool)(L:Nat→Bool):Prop:=∀ j<n,L j=true→∀ m,anc j m=true→L m=true
variable {src:Nat→List Nat}(S:Sorted n src anc R W)
include S
theorem Closed.add{L:Nat→Bool}(hL:Closed n anc L){i:Nat}(hi:i<n)(hs:∀ m∈src i,L m=true):Closed n anc (fun j=>j==i || L j):=by
 intro j hj hl m hm
 have key:∀ k<n,L k=true→anc k m=true→L m=true:=fun k hk h1 h2=>hL k hk h1 m h2
 simp only [Bool.or_eq_true,beq_iff_eq] at hl ⊢
 rcases hl with rfl|hl
 ·obtain ⟨s,h1,h2⟩:=S.step j hj m hm
  rcases h2 with rfl|h2
  ·exact .inr (hs _ h1)
  ·exact .inr (key s (Nat.lt_trans (S.below j hj s h1) hj) (hs _ h1) h2)
 ·exact .inr (key j hj hl hm)
theorem Sorted.anc_listed{L:Nat→Bool}(hL:Closed n anc L){i:Nat}(hi:i<n)(hs:∀ m∈src i,L m=true){m:Nat}(hm:anc i m=true):L m=true:=by
 obtain ⟨s,h1,h2⟩:=S.step i hi m hm
 rcases h2 with rfl|h2
 ·exact hs _ h1
 ·exact hL s (Nat.lt_trans (S.below i hi s h1) hi) (hs _ h1) m h2
def at_(W:Nat→List (Nat×α))(σ:List (Nat×α))(n:Nat)(L:Nat→Bool):List (Nat×α):=rT W σ ((aan n).filter L)
omit S in
theorem A8(i n:Nat)(h:i≤n):(aan n).filter (fun j=>decide (j<i))=aan i:=by
 obtain ⟨d,rfl⟩:=Nat.exists_eq_add_of_le h
 induction d with
 | zero=>simp [List.filter_eq_self]
 | succ d ih=>
  rw [show i+(d+1)=(i+d)+1 by omega,List.range_succ,acF,ih (by omega)]
  simp
theorem Sorted.reads{L:Nat→Bool}(hL:Closed n anc L){i:Nat}(hi:i<n)(hun:L i=false)(hs:∀ m∈src i,L m=true)(σ:List (Nat×α)){k:Nat}(hk:k∈R i):
  look (at_ W σ n L) k=look (rT W σ (aan i)) k:=by
 unfold at_
 rw [gV W k _ σ σ rfl,gV W k (aan i) σ σ rfl]
 congr 2
 rw [←A8 i n (Nat.le_of_lt hi),adD,adD]
 apply acR
 intro j hj
 have Vn:j<n:=by simpa using hj
 by_cases hw:k∈keys (W j)
 ·have hc:(keys (W j)).contains k=true:=by simpa using hw
  rw [hc,acL,acL]
  by_cases hlt:j<i
  ·have:L j=true:=by
    rcases S.apart i hi j hlt with h|h
    ·exact S.anc_listed hL hi hs h
    ·exact absurd hk (h.1 k hw).1
   simp [this,hlt]
  ·by_cases he:j=i
   ·subst he;simp [hun]
   ·have hgt:i<j:=by omega
    have:L j=false:=by
     cases hl:L j with
     | false=>rfl
     | true=>
      rcases S.apart j Vn i hgt with h|h
      ·have:=hL j Vn hl i h
       rw [hun] at this;cases this
      ·exact absurd hk (h.2 k hw)
    simp [this,hlt]
 ·have hc:(keys (W j)).contains k=false:=by simpa using hw
  rw [hc,Bool.false_and,Bool.false_and]
omit S in
theorem Ap(i n:Nat)(h:i<n):aan n=aan i++i::(aaQ (i+1) (n-i-1)):=by
 rw [acq,acq]
 have:=List.range'_append (s:=0) (m:=i) (n:=n-i) (step:=1)
 rw [show i+(n-i)=n by omega] at this
 rw [←this]
 congr 1
 rw [show n-i=(n-i-1)+1 by omega,adl]
 simp
theorem Sorted.more{L:Nat→Bool}(hL:Closed n anc L){i:Nat}(hi:i<n)(hun:L i=false)(_:∀ m∈src i,L m=true)(σ:List (Nat×α))(k:Nat):
  look (at_ W σ n (fun j=>j==i || L j)) k=look (aX (at_ W σ n L) (W i)) k:=by
 have later:∀ j,i<j→j<n→L j=true→k∈keys (W i)→k∉keys (W j):=by
  intro j hj hjn hl hki hkj
  rcases S.apart j hjn i hj with h|h
  ·have:=hL j hjn hl i h
   rw [hun] at this;cases this
  ·exact (h.1 k hki).2 hkj
 have e1:(aan n).filter (fun j=>j==i || L j)=(aan i).filter L++i::(aaQ (i+1) (n-i-1)).filter L:=by
  rw [Ap i n hi,acF,acz,if_pos (by simp)]
  congr 1
  ·apply acR
   intro j hj
   have:j<i:=by simpa using hj
   have:¬j=i:=by omega
   simp [this]
  ·congr 1
   apply acR
   intro j hj
   have:i+1≤j:=by rw [aed] at hj;exact hj.1
   have:¬j=i:=by omega
   simp [this]
 have e2:(aan n).filter L=(aan i).filter L++(aaQ (i+1) (n-i-1)).filter L:=by
  rw [Ap i n hi,acF,acz,if_neg (by simp [hun])]
 unfold at_
 rw [e1,e2]
 have zw1:k∈keys (W i)→∀ j∈(aaQ (i+1) (n-i-1)).filter L,k∉keys (W j):=by
  intro hk j hj
  rw [adz,aed] at hj
  exact later j (by omega) (by omega) hj.2 hk
 by_cases hk:k∈keys (W i)
 ·rw [Ds W k i hk _ _ (zw1 hk),lp]
  obtain ⟨u,hu⟩:=GW hk
  rw [hu]
 ·rw [lp,zc hk]
  rw [gV W k _ σ σ rfl,gV W k (_++_) σ σ rfl]
  congr 2
  rw [acF,acF,acz,if_neg (by simpa using hk)]
end order
end Go.Eng
namespace Go.Eng
open Go Go.RowKit
abbrev Rho:=Nat→Option (Nat×Nat)
def own(id:Nat):Bool:=decide (16≤id)&&decide (id<1000000000000000000000000000000000000000000000000000000000000000000000000000000000000)
def app(id:Nat):Bool:=decide (1000000000000000000000000000000000000000000000000000000000000000000000000000000000000≤id)&&decide (id<2000000000000000000000000000000000000000000000000000000000000000000000000000000000000)
theorem sJ{id:Nat}(h:app id=true):own id=false:=by
 unfold app at h
 unfold own
 simp only [aaf,decide_eq_true_eq] at h
 simp only [acN,decide_eq_false_iff_not]
 omega
theorem lO{id:Nat}(h:own id=true):app id=false:=by
 cases ha:app id with
 | false=>rfl
 | true=>rw [sJ ha] at h;cases h
def qo(id:Nat)(q:Nat×Nat):Nat×Nat:=match app id with
 | true=>(q.1,0)
 | false=>q
def Rho.at(ρ:Rho)(id:Nat):Option (Nat×Nat):=match ρ id with
 | some q=>some (qo id q)
 | none=>none
theorem Q4{id:Nat}{q:Nat×Nat}(h:app id=false):qo id q=q:=by unfold qo;rw [h]
theorem uu{id:Nat}{q:Nat×Nat}(h:app id=true):qo id q=(q.1,0):=by unfold qo;rw [h]
theorem Rho.at_some{ρ:Rho}{id:Nat}{q:Nat×Nat}(h:ρ id=some q):ρ.at id=some (qo id q):=by unfold Rho.at;rw [h]
theorem Rho.of_at{ρ:Rho}{id:Nat}{q:Nat×Nat}(h:ρ.at id=some q):∃ q',ρ id=some q'∧q=qo id q':=by
 unfold Rho.at at h
 split at h
 ·rename_i q' hq;cases h;exact ⟨q',hq,rfl⟩
 ·cases h
theorem Rho.at_not{ρ:Rho}{id:Nat}(h:app id=false):ρ.at id=ρ id:=by
 unfold Rho.at
 split
 ·rename_i q hq;rw [hq,Q4 h]
 ·rename_i hq;rw [hq]
theorem ZO{id:Nat}(h:id<1000000000000000000000000000000000000000000000000000000000000000000000000000000000000):app id=false:=by
 unfold app
 simp only [acN,decide_eq_false_iff_not]
 omega
@[simp] theorem Rho.at_small(ρ:Rho){id:Nat}(h:id<1000000000000000000000000000000000000000000000000000000000000000000000000000000000000):ρ.at id=ρ id:=Rho.at_not (ZO h)
theorem Rho.at_own{ρ:Rho}{id:Nat}(h:own id=true):ρ.at id=ρ id:=Rho.at_not (lO h)
inductive It where
 | v (x:Value)
 | w (k n:Nat)
 | p (id off:Nat)
 | s (id off len cap:Nat)
 | f (fn:aaz) (caps:List (Nat×Nat))
 | c (id s adr off len:Nat)
 | g (ik:aaR) (k:Nat) (m:Nat→Int)
def pv(n i:Nat):Value:=.int .u64 ((n/2^(64*i)%2^64:Nat):Int)
def au(k n:Nat):List Value:=(aan k).map (pv n)
theorem kJ(k n:Nat):(au k n).length=k:=by simp [au]
def gvals(ik:aaR)(k:Nat)(m:Nat→Int):List Value:=(aan k).map fun i=>.int ik (m i)
theorem cD(ik:aaR)(k:Nat)(m:Nat→Int):(gvals ik k m).length=k:=by simp [gvals]
theorem fY(ik:aaR){k:Nat}(m:Nat→Int){i:Nat}(h:i<k):(gvals ik k m)[i]? = some (.int ik (m i)):=by
 unfold gvals
 rw [abA,ab6 h];rfl
theorem AK{ik:aaR}{k:Nat}{m m':Nat→Int}(h:∀ i,i<k→m i=m' i):gvals ik k m=gvals ik k m':=by
 unfold gvals
 apply List.map_congr_left
 intro i hi
 rw [h i (List.mem_range.1 hi)]
theorem JH(ik:aaR)(a b:Nat)(f h:Nat→Int):gvals ik a f++gvals ik b h=gvals ik (a+b) (fun i=>if i<a then f i else h (i-a)):=by
 apply acS
 intro i
 rw [acr,cD]
 by_cases h1:i<a
 ·rw [if_pos h1,fY _ _ h1,fY _ _ (by omega),if_pos h1]
 ·rw [if_neg h1]
  by_cases h2:i-a<b
  ·rw [fY _ _ h2,fY _ _ (by omega),if_neg h1]
  ·rw [abz (by rw [cD];omega),abz (by rw [cD];omega)]
theorem zk(ik:aaR){k off len:Nat}(f:Nat→Int)(h:off+len≤k):((gvals ik k f).drop off).take len=gvals ik len (fun i=>f (off+i)):=by
 apply acS
 intro i
 rw [aa7]
 by_cases h1:i<len
 ·rw [if_pos h1,abC,fY _ _ (by omega),fY _ _ h1]
 ·rw [if_neg h1,abz (by rw [cD];omega)]
def Fb(off n:Nat)(h f:Nat→Int):Nat→Int:=fun i=>if off≤i∧i<off+n then h (i-off) else f i
theorem YN(ik:aaR){k off n:Nat}(f h:Nat→Int)(hle:off+n≤k):(gvals ik k f).take off++(gvals ik n h++(gvals ik k f).drop (off+n))=gvals ik k (Fb off n h f):=by
 apply acS
 intro i
 have ht:((gvals ik k f).take off).length=off:=by rw [abd,cD];omega
 rw [acr,ht]
 by_cases h1:i<off
 ·rw [if_pos h1,aa7,if_pos h1,fY _ _ (by omega),fY _ _ (by omega)]
  unfold Fb
  rw [if_neg (by omega)]
 ·rw [if_neg h1,acr,cD]
  by_cases h2:i-off<n
  ·rw [if_pos h2,fY _ _ h2,fY _ _ (by omega)]
   unfold Fb
   rw [if_pos (by omega)]
  ·rw [if_neg h2,abC]
   by_cases h3:i<k
   ·rw [fY _ _ (by omega),fY _ _ h3]
    unfold Fb
    rw [if_neg (by omega)]
    congr 3
    omega
   ·rw [abz (by rw [cD];omega),abz (by rw [cD];omega)]
def mo(q:Nat×Nat)(off:Nat):Value:=.pointer (some ⟨q.1,q.2+off,none⟩)
def gP(ρ:Rho):List (Nat×Nat)→Option (List Value)
 | []=>some []
 | c::l=>match ρ.at c.1,gP ρ l with
  | some q,some vs=>some (mo q c.2::vs)
  | _,_=>none
def pf(q:Nat×Nat)(s adr off len:Nat):Value:=.slice (some ⟨q.1,if (q.2-off)/s=0 then adr else off,none⟩) len ((q.2-off)/s)
def cCs(q:Nat×Nat)(s adr off len:Nat):Option (List Value):=match ach 1 s&&ach (off+len*s) q.2 with
 | true=>some [pf q s adr off len]
 | false=>none
def It.cs(ρ:Rho):It→Option (List Value)
 | .v x=>match x.oneCell' with
  | true=>some [x]
  | false=>none
 | .w k n=>some (au k n)
 | .p id off=>match ρ.at id with
  | some q=>some [mo q off]
  | none=>none
 | .s id off len cap=>match ρ.at id with
  | some q=>some [.slice (some ⟨q.1,q.2+off,none⟩) len cap]
  | none=>none
 | .f fn caps=>match gP ρ caps with
  | some vs=>some [.func (.func fn) #[] vs.toArray]
  | none=>none
 | .c id sz adr off len=>match ρ id with
  | some q=>cCs q sz adr off len
  | none=>none
 | .g ik k m=>some (gvals ik k m)
theorem Eu{q:Nat×Nat}{s adr off len:Nat}{vs:List Value}(h:cCs q s adr off len=some vs):1≤s∧off+len*s≤q.2∧vs=[pf q s adr off len]:=by
 unfold cCs at h
 split at h
 ·rename_i hb
  rw [aaf] at hb
  cases h
  exact ⟨aaL hb.1,aaL hb.2,rfl⟩
 ·cases h
theorem zyz{q:Nat×Nat}{s adr off len:Nat}(h1:1≤s)(h2:off+len*s≤q.2):cCs q s adr off len=some [pf q s adr off len]:=by
 unfold cCs
 rw [acO h1,acO h2]
 rfl
def It.size:It→Nat
 | .w k _=>k
 | .g _ k _=>k
 | _=>1
def conc(ρ:Rho):List It→Option (List Value)
 | []=>some []
 | i::l=>match i.cs ρ,conc ρ l with
  | some a,some b=>some (a++b)
  | _,_=>none
def gd:List It→Nat
 | []=>0
 | i::l=>i.size+gd l
def Rho.le(ρ ρ':Rho):Prop:=∀ id q,ρ id=some q→ρ' id=some q
theorem Rho.at_le{ρ ρ':Rho}(h:ρ.le ρ'){id:Nat}{q:Nat×Nat}(hq:ρ.at id=some q):ρ'.at id=some q:=by
 obtain ⟨q',h1,rfl⟩:=Rho.of_at hq
 exact Rho.at_some (h _ _ h1)
theorem Rho.le.refl(ρ:Rho):ρ.le ρ:=fun _ _ h=>h
theorem Rho.le.trans{a b c:Rho}(h:a.le b)(k:b.le c):a.le c:=fun id q hq=>k id q (h id q hq)
theorem SE{ρ ρ':Rho}(h:ρ.le ρ'):∀ (l:List (Nat×Nat)) (vs:List Value),gP ρ l=some vs→gP ρ' l=some vs:=by
 intro l
 induction l with
 | nil=>intro vs hv;exact hv
 | cons c l ih=>
  intro vs hv
  simp only [gP] at hv ⊢
  cases hc:ρ.at c.1 with
  | none=>simp [hc] at hv
  | some q=>
   cases hl:gP ρ l with
   | none=>simp [hc,hl] at hv
   | some us=>
    simp only [hc,hl] at hv
    rw [Rho.at_le h hc,ih _ hl];exact hv
theorem It.cs_le{ρ ρ':Rho}(h:ρ.le ρ')(i:It)(vs:List Value)(hv:i.cs ρ=some vs):i.cs ρ'=some vs:=by
 cases i with
 | v x=>exact hv
 | w k n=>exact hv
 | g ik k m=>exact hv
 | p id off=>
  simp only [It.cs] at hv ⊢
  cases hc:ρ.at id with
  | none=>simp [hc] at hv
  | some q=>rw [Rho.at_le h hc];simpa [hc] using hv
 | s id off len cap=>
  simp only [It.cs] at hv ⊢
  cases hc:ρ.at id with
  | none=>simp [hc] at hv
  | some q=>rw [Rho.at_le h hc];simpa [hc] using hv
 | f fn caps=>
  simp only [It.cs] at hv ⊢
  cases hc:gP ρ caps with
  | none=>simp [hc] at hv
  | some q=>rw [SE h _ _ hc];simpa [hc] using hv
 | c id s adr off len=>
  simp only [It.cs] at hv ⊢
  cases hc:ρ id with
  | none=>simp [hc] at hv
  | some q=>rw [h _ _ hc];simpa [hc] using hv
theorem eR{ρ ρ':Rho}(h:ρ.le ρ'):∀ (l:List It) (vs:List Value),conc ρ l=some vs→conc ρ' l=some vs:=by
 intro l
 induction l with
 | nil=>intro vs hv;exact hv
 | cons i l ih=>
  intro vs hv
  simp only [conc] at hv ⊢
  cases hc:i.cs ρ with
  | none=>simp [hc] at hv
  | some a=>
   cases hl:conc ρ l with
   | none=>simp [hc,hl] at hv
   | some b=>
    simp only [hc,hl] at hv
    rw [It.cs_le h _ _ hc,ih _ hl];exact hv
theorem cz{ρ:Rho}{i:It}{l:List It}{vs:List Value}(h:conc ρ (i::l)=some vs):∃ a b,i.cs ρ=some a∧conc ρ l=some b∧vs=a++b:=by
 simp only [conc] at h
 cases hc:i.cs ρ with
 | none=>simp [hc] at h
 | some a=>
  cases hl:conc ρ l with
  | none=>simp [hc,hl] at h
  | some b=>
   simp only [hc,hl,aag] at h
   exact ⟨a,b,rfl,rfl,h.symm⟩
theorem en{ρ:Rho}{i:It}{l:List It}{a b:List Value}(hi:i.cs ρ=some a)(hl:conc ρ l=some b):conc ρ (i::l)=some (a++b):=by
 simp only [conc,hi,hl]
theorem It.length_cs{ρ:Rho}{i:It}{vs:List Value}(h:i.cs ρ=some vs):vs.length=i.size:=by
 cases i<;>simp only [It.cs,It.size] at h ⊢
 case w=>cases h;exact kJ _ _
 case g=>cases h;exact cD _ _ _
 case c=>
  split at h
  ·obtain ⟨_,_,rfl⟩:=Eu h;rfl
  ·cases h
 all_goals (split at h<;>first | (cases h;rfl) | cases h)
theorem c7{ρ:Rho}:∀ (l:List It) (vs:List Value),conc ρ l=some vs→vs.length=gd l:=by
 intro l
 induction l with
 | nil=>intro vs h;cases h;rfl
 | cons i l ih=>
  intro vs h
  obtain ⟨a,b,ha,hb,rfl⟩:=cz h
  rw [aaX,It.length_cs ha,ih _ hb];rfl
theorem It.one_cs{ρ:Rho}{i:It}{vs:List Value}(h:i.cs ρ=some vs):∀ v∈vs,v.oneCell'=true:=by
 cases i<;>simp only [It.cs] at h
 case v x=>
  split at h
  ·rename_i hx;cases h;intro v hv;rw [aao] at hv;subst hv;exact hx
  ·cases h
 case w k n=>cases h;intro v hv;unfold au at hv;rw [aaY] at hv;obtain ⟨i,_,rfl⟩:=hv;rfl
 case g ik k m=>cases h;intro v hv;unfold gvals at hv;rw [aaY] at hv;obtain ⟨i,_,rfl⟩:=hv;rfl
 case c=>
  split at h
  ·obtain ⟨_,_,rfl⟩:=Eu h
   intro v hv;rw [aao] at hv;subst hv;rfl
  ·cases h
 all_goals (split at h<;>first | (cases h;intro v hv;rw [aao] at hv;subst hv;rfl) | cases h)
theorem gZ{ρ:Rho}:∀ (l:List It) (vs:List Value),conc ρ l=some vs→∀ v∈vs,v.oneCell'=true:=by
 intro l
 induction l with
 | nil=>intro vs h;cases h;intro v hv;cases hv
 | cons i l ih=>
  intro vs h
  obtain ⟨a,b,ha,hb,rfl⟩:=cz h
  intro v hv
  rcases aaw.1 hv with h1|h1
  ·exact It.one_cs ha v h1
  ·exact ih b hb v h1
theorem ij{ρ:Rho}:∀ (l m:List It) (a b:List Value),conc ρ l=some a→conc ρ m=some b→conc ρ (l++m)=some (a++b):=by
 intro l
 induction l with
 | nil=>intro m a b ha hb;cases ha;exact hb
 | cons i l ih=>
  intro m a b ha hb
  obtain ⟨x,y,hx,hy,rfl⟩:=cz ha
  rw [abe,acs]
  exact en hx (ih m y b hy hb)
def qf:List It→Nat→Option (List It)
 | l,0=>some l
 | [],_+1=>none
 | i::l,n+1=>if i.size≤n+1 then qf l (n+1-i.size) else none
def pC:List It→Nat→Option (List It)
 | _,0=>some []
 | [],_+1=>none
 | i::l,n+1=>if i.size≤n+1 then (match pC l (n+1-i.size) with | some r=>some (i::r) | none=>none) else none
theorem AR{ρ:Rho}:∀ (l:List It) (n:Nat) (r:List It) (vs:List Value),qf l n=some r→conc ρ l=some vs→n≤vs.length∧conc ρ r=some (vs.drop n):=by
 intro l
 induction l with
 | nil=>
  intro n r vs h hv
  cases n with
  | zero=>simp only [qf] at h;cases h;exact ⟨abV _,by simpa using hv⟩
  | succ n=>cases h
 | cons i l ih=>
  intro n r vs h hv
  cases n with
  | zero=>simp only [qf] at h;cases h;exact ⟨abV _,by simpa using hv⟩
  | succ n=>
   simp only [qf] at h
   split at h
   ·rename_i hs
    obtain ⟨a,b,ha,hb,rfl⟩:=cz hv
    obtain ⟨h1,h2⟩:=ih _ _ _ h hb
    have hl:=It.length_cs ha
    refine ⟨by rw [aaX];omega,?_⟩
    have hd:(a++b).drop (n+1)=b.drop (n+1-i.size):=by
     rw [List.drop_append,List.drop_of_length_le (by omega),hl,abO]
    rw [h2,hd]
   ·cases h
theorem Af{ρ:Rho}:∀ (l:List It) (n:Nat) (r:List It) (vs:List Value),pC l n=some r→conc ρ l=some vs→n≤vs.length∧conc ρ r=some (vs.take n):=by
 intro l
 induction l with
 | nil=>
  intro n r vs h hv
  cases n with
  | zero=>simp only [pC] at h;cases h;exact ⟨abV _,by simp [conc]⟩
  | succ n=>cases h
 | cons i l ih=>
  intro n r vs h hv
  cases n with
  | zero=>simp only [pC] at h;cases h;exact ⟨abV _,by simp [conc]⟩
  | succ n=>
   simp only [pC] at h
   split at h
   ·rename_i hs
    cases ht:pC l (n+1-i.size) with
    | none=>simp [ht] at h
    | some r'=>
     simp only [ht,aag] at h
     subst h
     obtain ⟨a,b,ha,hb,rfl⟩:=cz hv
     obtain ⟨h1,h2⟩:=ih _ _ _ ht hb
     have hl:=It.length_cs ha
     refine ⟨by rw [aaX];omega,?_⟩
     rw [List.take_append,List.take_of_length_le (by omega),hl]
     exact en ha h2
   ·cases h
def HK(n:Nat)(k:Nat):List It:=(aan k).map fun i=>.v (pv n i)
def YP(ik:aaR)(k:Nat)(m:Nat→Int):List It:=(aan k).map fun i=>.v (.int ik (m i))
theorem Hq(ρ:Rho)(ik:aaR)(k:Nat)(m:Nat→Int):conc ρ (YP ik k m)=some (gvals ik k m):=by
 unfold YP gvals
 generalize aan k=l
 induction l with
 | nil=>rfl
 | cons i l ih=>exact en (i:=.v (.int ik (m i))) (a:=[.int ik (m i)]) rfl ih
def sU:List It→List It
 | []=>[]
 | .w k n::l=>HK n k++sU l
 | .g ik k m::l=>YP ik k m++sU l
 | i::l=>i::sU l
theorem Kd(ρ:Rho)(n:Nat):∀ k,conc ρ (HK n k)=some (au k n):=by
 intro k
 unfold HK au
 generalize aan k=l
 induction l with
 | nil=>rfl
 | cons i l ih=>exact en (i:=.v (pv n i)) (a:=[pv n i]) rfl ih
theorem xz{ρ:Rho}:∀ (l:List It) (vs:List Value),conc ρ l=some vs→conc ρ (sU l)=some vs:=by
 intro l
 induction l with
 | nil=>intro vs h;exact h
 | cons i l ih=>
  intro vs h
  obtain ⟨a,b,ha,hb,rfl⟩:=cz h
  cases i with
  | w k n=>simp only [It.cs,aag] at ha;subst ha;exact ij _ _ _ _ (Kd ρ n k) (ih _ hb)
  | g ik k m=>simp only [It.cs,aag] at ha;subst ha;exact ij _ _ _ _ (Hq ρ ik k m) (ih _ hb)
  | v x=>exact en ha (ih _ hb)
  | p id off=>exact en ha (ih _ hb)
  | s id off len cap=>exact en ha (ih _ hb)
  | f fn caps=>exact en ha (ih _ hb)
  | c id s adr off len=>exact en ha (ih _ hb)
def zhF(l:List It)(off len:Nat):Option (List It):=match qf l off with
 | some r=>pC r len
 | none=>none
def cut(l:List It)(off len:Nat):Option (List It):=match zhF l off len with
 | some r=>some r
 | none=>zhF (sU l) off len
theorem Hi{ρ:Rho}{l r:List It}{off len:Nat}{vs:List Value}(h:zhF l off len=some r)(hv:conc ρ l=some vs):
  off+len≤vs.length∧conc ρ r=some ((vs.drop off).take len):=by
 unfold zhF at h
 cases hd:qf l off with
 | none=>simp [hd] at h
 | some m=>
  simp only [hd] at h
  obtain ⟨h1,h2⟩:=AR _ _ _ _ hd hv
  obtain ⟨h3,h4⟩:=Af _ _ _ _ h h2
  rw [aa1] at h3
  exact ⟨by omega,h4⟩
theorem o_{ρ:Rho}{l r:List It}{off len:Nat}{vs:List Value}(h:cut l off len=some r)(hv:conc ρ l=some vs):
  off+len≤vs.length∧conc ρ r=some ((vs.drop off).take len):=by
 unfold cut at h
 cases hc:zhF l off len with
 | some x=>simp only [hc,aag] at h;subst h;exact Hi hc hv
 | none=>simp only [hc] at h;exact Hi h (xz _ _ hv)
def zem(l:List It)(off:Nat)(new:List It):Option (List It):=match pC l off,qf l (off+gd new) with
 | some a,some b=>some (a++(new++b))
 | _,_=>none
def lay(l:List It)(off:Nat)(new:List It):Option (List It):=match zem l off new with
 | some r=>some r
 | none=>zem (sU l) off new
theorem GV{ρ:Rho}{l new r:List It}{off:Nat}{vs us:List Value}(h:zem l off new=some r)(hv:conc ρ l=some vs)(hu:conc ρ new=some us):
  off+us.length≤vs.length∧conc ρ r=some (vs.take off++(us++vs.drop (off+us.length))):=by
 unfold zem at h
 cases ht:pC l off with
 | none=>simp [ht] at h
 | some a=>
  cases hd:qf l (off+gd new) with
  | none=>simp [ht,hd] at h
  | some b=>
   simp only [ht,hd,aag] at h
   subst h
   obtain ⟨_,h2⟩:=Af _ _ _ _ ht hv
   obtain ⟨h3,h4⟩:=AR _ _ _ _ hd hv
   have hl:=c7 _ _ hu
   rw [←hl] at h3 h4
   exact ⟨h3,ij _ _ _ _ h2 (ij _ _ _ _ hu h4)⟩
theorem Du{ρ:Rho}{l new r:List It}{off:Nat}{vs us:List Value}(h:lay l off new=some r)(hv:conc ρ l=some vs)(hu:conc ρ new=some us):
  off+us.length≤vs.length∧conc ρ r=some (vs.take off++(us++vs.drop (off+us.length))):=by
 unfold lay at h
 cases hc:zem l off new with
 | some x=>simp only [hc,aag] at h;subst h;exact GV hc hv hu
 | none=>simp only [hc] at h;exact GV h (xz _ _ hv) hu
def DI(ik:aaR):List It→Option (List Int)
 | []=>some []
 | .v (.int k x)::l=>match decide (k=ik),DI ik l with
  | true,some r=>some (x::r)
  | _,_=>none
 | _=>none
def asG(ik:aaR)(l:List It):Option (Nat×(Nat→Int)):=match l with
 | [.g k n f]=>match decide (k=ik) with
  | true=>some (n,f)
  | false=>none
 | l=>match DI ik l with
  | some xs=>some (xs.length,fun i=>xs.getD i 0)
  | none=>none
theorem rU{ρ:Rho}{ik:aaR}:∀ (l:List It) (xs:List Int) (vs:List Value),DI ik l=some xs→conc ρ l=some vs→vs=xs.map (Value.int ik):=by
 intro l
 induction l with
 | nil=>intro xs vs h hv;cases h;cases hv;rfl
 | cons i l ih=>
  intro xs vs h hv
  obtain ⟨a,b,ha,hb,rfl⟩:=cz hv
  unfold DI at h
  split at h
  ·cases ‹_::_=[]›
  ·rename_i k x l' he
   cases he
   split at h
   ·rename_i r hk hr
    cases h
    have hk:=of_decide_eq_true hk
    subst hk
    simp only [It.cs] at ha
    cases ha
    rw [ih _ _ hr hb];rfl
   ·cases h
  ·cases h
theorem xI{ρ:Rho}{ik:aaR}{l:List It}{n:Nat}{f:Nat→Int}{vs:List Value}(h:asG ik l=some (n,f))(hv:conc ρ l=some vs):vs=gvals ik n f:=by
 unfold asG at h
 split at h
 ·split at h
  ·rename_i hk
   cases h
   have hk:=of_decide_eq_true hk
   subst hk
   simp only [conc,It.cs,aaP,aag] at hv
   exact hv.symm
  ·cases h
 ·split at h
  ·rename_i xs hx
   cases h
   rw [rU _ _ _ hx hv]
   unfold gvals
   apply acS
   intro i
   rw [abA,abA]
   by_cases hi:i<xs.length
   ·rw [ab6 hi,List.getElem?_eq_getElem hi]
    simp [hi]
   ·rw [abz (by omega),abz (by simp;omega)];rfl
  ·cases h
theorem aD{ρ:Rho}{z k:Nat}{ik:aaR}{f:Nat→Int}:conc ρ [.w 0 z,.g ik k f]=some (gvals ik k f):=by
 simp [conc,It.cs,au]
def Kb(l:List It)(off len:Nat):Option (List It×List Prop):=match l with
 | [.w 0 _,.g ik k f]=>some ([.g ik len (fun i=>f (off+i))],[off+len≤k])
 | l=>match cut l off len with
  | some r=>some (r,[])
  | none=>none
theorem s7{ρ:Rho}{l r:List It}{off len:Nat}{ob:List Prop}{vs:List Value}(h:Kb l off len=some (r,ob))(ax:∀ p∈ob,p)(hv:conc ρ l=some vs):
  off+len≤vs.length∧conc ρ r=some ((vs.drop off).take len):=by
 unfold Kb at h
 split at h
 ·rename_i z ik k f
  cases h
  have hle:off+len≤k:=ax _ (aao.2 rfl)
  rw [aD] at hv
  cases hv
  refine ⟨by rw [cD];exact hle,?_⟩
  rw [zk _ _ hle]
  simp [conc,It.cs]
 ·split at h
  ·rename_i r' hr
   cases h
   exact o_ hr hv
  ·cases h
def Yv(l:List It)(off:Nat)(new:List It):Option (List It×List Prop):=match l with
 | [.w 0 z,.g ik k f]=>match asG ik new with
  | some (n,h)=>some ([.w 0 z,.g ik k (Fb off n h f)],[off+n≤k])
  | none=>none
 | l=>match lay l off new with
  | some r=>some (r,[])
  | none=>none
theorem GU{ρ:Rho}{l new r:List It}{off:Nat}{ob:List Prop}{vs us:List Value}(h:Yv l off new=some (r,ob))(ax:∀ p∈ob,p)(hv:conc ρ l=some vs)(hu:conc ρ new=some us):
  off+us.length≤vs.length∧conc ρ r=some (vs.take off++(us++vs.drop (off+us.length))):=by
 unfold Yv at h
 split at h
 ·rename_i z ik k f
  split at h
  ·rename_i n g hg
   cases h
   have hle:off+n≤k:=ax _ (aao.2 rfl)
   rw [aD] at hv
   cases hv
   have:=xI hg hu
   subst this
   rw [cD,cD]
   refine ⟨hle,?_⟩
   rw [aD,YN _ _ _ hle]
  ·cases h
 ·split at h
  ·rename_i r' hr
   cases h
   exact Du hr hv hu
  ·cases h
def G2(l1 l2:List It):List It×List Prop:=match l1 with
 | [.g ik a f]=>match asG ik l2 with
  | some (b,h)=>([.w 0 0,.g ik (a+b-1+1) (fun i=>if i<a then f i else h (i-a))],[1≤a+b])
  | none=>(l1++l2,[])
 | _=>(l1++l2,[])
theorem Ru{ρ:Rho}{l1 l2:List It}{vs us:List Value}(ax:∀ p∈(G2 l1 l2).2,p)(hv:conc ρ l1=some vs)(hu:conc ρ l2=some us):conc ρ (G2 l1 l2).1=some (vs++us):=by
 unfold G2 at ax ⊢
 split
 ·rename_i ik a f
  split
  ·rename_i b h hg
   simp only [hg] at ax
   have h1:1≤a+b:=ax _ (aao.2 rfl)
   have:=xI hg hu
   subst this
   simp only [conc,It.cs,aaP,aag] at hv
   subst hv
   rw [aD,JH,show a+b-1+1=a+b by omega]
  ·exact ij _ _ _ _ hv hu
 ·exact ij _ _ _ _ hv hu
def qE:List It→Bool
 | []=>true
 | .w 0 _::l=>qE l
 | .g _ 0 _::l=>qE l
 | _=>false
theorem rb:∀ l:List It,qE l=true↔gd l=0:=by
 intro l
 induction l with
 | nil=>exact ⟨fun _=>rfl,fun _=>rfl⟩
 | cons i l ih=>
  cases i with
  | w k n=>cases k with
   | zero=>simp only [qE,gd,It.size,aay];exact ih
   | succ k=>simp only [qE,gd,It.size];exact ⟨fun h=>(by cases h),fun h=>(by omega)⟩
  | g ik k m=>cases k with
   | zero=>simp only [qE,gd,It.size,aay];exact ih
   | succ k=>simp only [qE,gd,It.size];exact ⟨fun h=>(by cases h),fun h=>(by omega)⟩
  | _=>simp only [qE,gd,It.size];exact ⟨fun h=>(by cases h),fun h=>(by omega)⟩
def XQ:Nat→Bool
 | 0=>false
 | _+1=>true
theorem rK{n:Nat}(h:XQ n=true):1≤n:=by
 cases n with
 | zero=>cases h
 | succ n=>omega
structure AV where
 agg:Bool
 its:List It
def AV.val(ρ:Rho)(x:AV):Option Value:=match x.agg,conc ρ x.its with
 | true,some vs=>some (.agg vs.toArray)
 | false,some [v]=>some v
 | _,_=>none
inductive SV where
 | one (x:AV)
 | tup (l:List AV)
def ay(ρ:Rho):List AV→Option (List Value)
 | []=>some []
 | x::l=>match x.val ρ,ay ρ l with
  | some v,some vs=>some (v::vs)
  | _,_=>none
def SV.val(ρ:Rho):SV→Option Value
 | .one x=>x.val ρ
 | .tup l=>match ay ρ l with
  | some vs=>some (.tuple vs.toArray)
  | none=>none
theorem AV.val_le{ρ ρ':Rho}(h:ρ.le ρ')(x:AV)(v:Value)(hv:x.val ρ=some v):x.val ρ'=some v:=by
 unfold AV.val at hv ⊢
 cases hc:conc ρ x.its with
 | none=>simp [hc] at hv
 | some vs=>rw [hc] at hv;rw [eR h _ _ hc];exact hv
theorem zjE{ρ ρ':Rho}(h:ρ.le ρ'):∀ (l:List AV) (vs:List Value),ay ρ l=some vs→ay ρ' l=some vs:=by
 intro l
 induction l with
 | nil=>intro vs hv;exact hv
 | cons x l ih=>
  intro vs hv
  simp only [ay] at hv ⊢
  cases hx:x.val ρ with
  | none=>simp [hx] at hv
  | some v=>
   cases hl:ay ρ l with
   | none=>simp [hx,hl] at hv
   | some us=>simp only [hx,hl] at hv;rw [AV.val_le h _ _ hx,ih _ hl];exact hv
theorem SV.val_le{ρ ρ':Rho}(h:ρ.le ρ')(x:SV)(v:Value)(hv:x.val ρ=some v):x.val ρ'=some v:=by
 cases x with
 | one x=>exact AV.val_le h x v hv
 | tup l=>
  simp only [SV.val] at hv ⊢
  cases hl:ay ρ l with
  | none=>simp [hl] at hv
  | some us=>simp only [hl] at hv;rw [zjE h _ _ hl];exact hv
theorem AV.cells{ρ:Rho}{x:AV}{v:Value}(h:x.val ρ=some v):(∃ vs,conc ρ x.its=some vs∧((x.agg=true∧v = .agg vs.toArray)∨(x.agg=false∧vs=[v]))):=by
 unfold AV.val at h
 split at h
 ·rename_i vs h1 h2;cases h;exact ⟨vs,h2,.inl ⟨h1,rfl⟩⟩
 ·rename_i u h1 h2;cases h;exact ⟨_,h2,.inr ⟨h1,rfl⟩⟩
 ·cases h
inductive Ct where
 | sl (x:SV)
 | bl (l:List It)
abbrev St:=List (Nat×Ct)
def St.slot(st:St)(t:Nat):Option SV:=match look st (2*t) with
 | some (.sl x)=>some x
 | _=>none
def St.blk(st:St)(id:Nat):Option (List It):=match look st (2*id+1) with
 | some (.bl l)=>some l
 | _=>none
def Live(id:Nat)(l:List It):Prop:=own id=true∨gd l≠0
def BlkOk(w:World)(id b o:Nat)(vs:List Value):Prop:=
 b<w.heap.size∧(own id=true→o=0∧∃ t,w.heap[b]? = some (.cells vs.toArray t (0,0))) ∧
 (own id=false→app id=false→∀ i v,vs[i]? = some v→w.cell? ⟨b,o+i,none⟩=some v) ∧
 (app id=true→vs≠[]→∃ (jY:Array Value) (t:aax),w.heap[b]? = some (.cells jY t (0,0))∧jY.size=o∧∀ (i:Nat) (v:Value),vs[i]? = some v→jY[i]? = some v)
structure MemOk(ρ:Rho)(m:Nat→Option (List It))(w:World):Prop where
 blk:∀ id l,m id=some l→∃ b o vs,ρ id=some (b,o)∧conc ρ l=some vs∧BlkOk w id b o vs
structure Inj(ρ:Rho)(m:Nat→Option (List It)):Prop where
 inj:∀ id id' b o o' l l',(own id=true∨app id=true)→m id=some l→m id'=some l'→Live id l→Live id' l'→ρ id=some (b,o)→ρ id'=some (b,o')→id=id'
theorem Inj.congr{ρ:Rho}{m m':Nat→Option (List It)}(h:Inj ρ m)(hm:∀ id,m' id=m id):Inj ρ m':=
 ⟨fun id id' b o o' l l' ho h1 h2=>h.inj id id' b o o' l l' ho (by rw [←hm];exact h1) (by rw [←hm];exact h2)⟩
theorem lF{ρ:Rho}{id b o:Nat}{l:List It}{vs:List Value}{w w':World}(hl:¬Live id l)(hc:conc ρ l=some vs)(h:BlkOk w id b o vs)(hs:w.heap.size≤w'.heap.size):BlkOk w' id b o vs:=by
 have h1:own id=false:=by
  cases ho:own id with
  | true=>exact absurd (.inl ho) hl
  | false=>rfl
 have h2:gd l=0:=Classical.byContradiction fun h=>hl (.inr h)
 have h3:vs=[]:=ab4.1 (by rw [c7 _ _ hc,h2])
 subst h3
 exact ⟨abk h.1 hs,fun ho=>(by rw [h1] at ho;cases ho),fun _ _ i v hv=>(by cases hv),fun _ he=>absurd rfl he⟩
structure Sim(ρ:Rho)(N:Nat)(st:St)(a:Act)(w:World):Prop where
 slots:∀ t x,st.slot t=some x→x.val ρ=some (a.tmps.getD t undef)
 size:a.tmps.size=N
 mem:MemOk ρ st.blk w
 inj:Inj ρ st.blk
 dom:∀ id q,ρ id=some q→∃ l,st.blk id=some l
 calm:a.defers=[]
theorem Sim.congr{ρ:Rho}{N:Nat}{st kb:St}{a:Act}{w:World}(h:Sim ρ N st a w)(hs:∀ k,look kb k=look st k):Sim ρ N kb a w:=by
 have h1:∀ t,kb.slot t=st.slot t:=fun t=>by unfold St.slot;rw [hs]
 have h2:kb.blk=st.blk:=funext fun t=>by unfold St.blk;rw [hs]
 exact ⟨fun t x hx=>h.slots t x (by rw [←h1];exact hx),h.size,by rw [h2];exact h.mem,by rw [h2];exact h.inj,fun id q hq=>by rw [h2];exact h.dom id q hq,h.calm⟩
structure Keep(D:Nat→Prop)(w w':World):Prop where
 os:w'.os=w.os
 tape:w'.tape=w.tape
 output:w'.output=w.output
 size:w.heap.size≤w'.heap.size
 block:∀ k,k<w.heap.size→¬D k→w'.heap[k]? = w.heap[k]?
def Own(ρ:Rho)(b:Nat):Prop:=∃ id o,(own id=true∨app id=true)∧ρ id=some (b,o)
structure Ext(ρ:Rho)(w:World)(ρ':Rho)(w':World):Prop where
 le:ρ.le ρ'
 new:∀ id b o,ρ id=none→ρ' id=some (b,o)→w.heap.size≤b∨Own ρ b
 keep:Keep (Own ρ) w w'
theorem Ext.refl(ρ:Rho)(w:World):Ext ρ w ρ w:=⟨.refl ρ,fun id b o h h'=>(by rw [h] at h';cases h'),rfl,rfl,rfl,aaV _,fun _ _ _=>rfl⟩
theorem Ext.trans{ρ ρ' qS:Rho}{w w' uV:World}(h:Ext ρ w ρ' w')(k:Ext ρ' w' qS uV):Ext ρ w qS uV where
 le:=h.le.trans k.le
 new id b o h0 h2:=by
  cases h1:ρ' id with
  | none=>
   rcases k.new id b o h1 h2 with h3|⟨id2,o2,ho2,hq2⟩
   ·exact .inl (abt h.keep.size h3)
   ·cases h4:ρ id2 with
    | none=>exact h.new id2 b o2 h4 hq2
    | some q=>
     have:=h.le id2 q h4
     rw [hq2] at this;cases this
     exact .inr ⟨id2,o2,ho2,h4⟩
  | some q=>
   have:=k.le id q h1
   rw [h2] at this;cases this
   exact h.new id b o h0 h1
 keep:={
  os:=k.keep.os.trans h.keep.os
  tape:=k.keep.tape.trans h.keep.tape
  output:=k.keep.output.trans h.keep.output
  size:=abt h.keep.size k.keep.size
  block:=fun j hj hD=>by
   rw [k.keep.block j (abk hj h.keep.size) ?_,h.keep.block j hj hD]
   rintro ⟨id,o,ho,hq⟩
   cases h0:ρ id with
   | none=>
    rcases h.new id j o h0 hq with h3|h3
    ·omega
    ·exact hD h3
   | some q=>
    have:=h.le id q h0
    rw [hq] at this;cases this
    exact hD ⟨id,o,ho,h0⟩ }
theorem Ext.drew(ρ:Rho)(w:World):Ext ρ w ρ w.drew:=⟨.refl ρ,fun id b o h h'=>(by rw [h] at h';cases h'),rfl,rfl,rfl,aaV _,fun _ _ _=>rfl⟩
theorem Ext.below{ρ ρ':Rho}{w w':World}(h:Ext ρ w ρ' w')(YI:∀ b,¬Own ρ b):Below w.heap.size w w':=
 ⟨h.keep.os,h.keep.tape,h.keep.output,h.keep.size,fun k hk=>h.keep.block k hk (YI k)⟩
theorem Sim.drew{ρ:Rho}{N:Nat}{st:St}{a:Act}{w:World}(h:Sim ρ N st a w):Sim ρ N st a w.drew:=
 ⟨h.slots,h.size,⟨fun id l hl=>h.mem.blk id l hl⟩,h.inj,h.dom,h.calm⟩
theorem tF(st:St)(t:Nat)(x:SV)(u:Nat):St.slot (aX st [(2*t,.sl x)]) u=if t=u then some x else st.slot u:=by
 unfold St.slot
 simp only [aX,oV]
 by_cases h:t=u
 ·simp [h]
 ·have:¬2*t=2*u:=by omega
  simp [h,this]
theorem qq(st:St)(t:Nat)(x:SV)(id:Nat):St.blk (aX st [(2*t,.sl x)]) id=st.blk id:=by
 unfold St.blk
 simp only [aX,oV]
 have:¬2*t=2*id+1:=by omega
 simp [this]
theorem jB(st:St)(id:Nat)(l:List It)(u:Nat):St.slot (aX st [(2*id+1,.bl l)]) u=st.slot u:=by
 unfold St.slot
 simp only [aX,oV]
 have:¬2*id+1=2*u:=by omega
 simp [this]
theorem cf(st:St)(id:Nat)(l:List It)(j:Nat):St.blk (aX st [(2*id+1,.bl l)]) j=if id=j then some l else st.blk j:=by
 unfold St.blk
 simp only [aX,oV]
 by_cases h:id=j
 ·simp [h]
 ·have:¬2*id=2*j:=by omega
  simp [h,this]
theorem Sim.put{ρ:Rho}{N:Nat}{st:St}{a:Act}{w:World}(h:Sim ρ N st a w){t:Nat}(ht:t<N){x:SV}{v:Value}(hv:x.val ρ=some v):
  Sim ρ N (aX st [(2*t,.sl x)]) (a.put (some t) v) w where
 slots u y hy:=by
  rw [tF] at hy
  by_cases hu:t=u
  ·subst hu
   simp only [if_true,aag] at hy
   subst hy
   have:t<a.tmps.size:=by rw [h.size];exact ht
   simp [Act.put,this,hv]
  ·simp only [hu,if_false] at hy
   have:=h.slots u y hy
   simp only [Act.put,Array.getD_eq_getD_getElem?] at this ⊢
   rw [Array.getElem?_setIfInBounds_ne hu];exact this
 size:=by simp [Act.put,h.size]
 mem:=⟨fun id l hl=>h.mem.blk id l (by rw [←qq st t x];exact hl)⟩
 inj:=h.inj.congr fun id=>qq st t x id
 dom id q hq:=by rw [qq];exact h.dom id q hq
 calm:=h.calm
def Rho.set(ρ:Rho)(id b:Nat):Rho:=fun j=>if j=id then some (b,0) else ρ j
theorem Rho.le_set{ρ:Rho}{id b:Nat}(h:ρ id=none):ρ.le (ρ.set id b):=fun j q hq=>by
 unfold Rho.set
 by_cases hj:j=id
 ·subst hj;rw [h] at hq;cases hq
 ·rw [if_neg hj];exact hq
theorem Inj.set{ρ:Rho}{m:Nat→Option (List It)}(h:Inj ρ m){id b:Nat}{l:List It}(hb:∀ j c o,ρ j=some (c,o)→c<b):Inj (ρ.set id b) (fun j=>if id=j then some l else m j):=⟨fun j j' c o o' k k' ho m1 m2 l1 l2 h1 h2=>by
 unfold Rho.set at h1 h2
 by_cases e1:j=id
 ·by_cases e2:j'=id
  ·rw [e1,e2]
  ·rw [if_pos e1] at h1;rw [if_neg e2] at h2;cases h1
   exact absurd (hb _ _ _ h2) (by omega)
 ·by_cases e2:j'=id
  ·rw [if_neg e1] at h1;rw [if_pos e2] at h2;cases h2
   exact absurd (hb _ _ _ h1) (by omega)
  ·rw [if_neg e1] at h1;rw [if_neg e2] at h2
   simp only [if_neg (fun e=>e1 (adV e):¬id=j)] at m1
   simp only [if_neg (fun e=>e2 (adV e):¬id=j')] at m2
   exact h.inj j j' c o o' k k' ho m1 m2 l1 l2 h1 h2⟩
theorem BlkOk.of_kept{w w':World}{id b o:Nat}{vs:List Value}(h:BlkOk w id b o vs)(hs:w.heap.size≤w'.heap.size)(hb:w'.heap[b]? = w.heap[b]?):BlkOk w' id b o vs:=by
 obtain ⟨h1,h2,h3,h4⟩:=h
 refine ⟨by omega,fun ho=>?_,fun ho ha i v hv=>?_,fun ha he=>?_⟩
 ·obtain ⟨h4,t,h5⟩:=h2 ho
  exact ⟨h4,t,by rw [hb];exact h5⟩
 ·rw [←h3 ho ha i v hv]
  exact World.cell?_of_block (a:=⟨b,o+i,none⟩) hb
 ·rw [hb];exact h4 ha he
theorem Sim.lt{ρ:Rho}{N:Nat}{st:St}{a:Act}{w:World}(h:Sim ρ N st a w){id b o:Nat}(hq:ρ id=some (b,o)):b<w.heap.size:=by
 obtain ⟨l,hl⟩:=h.dom id _ hq
 obtain ⟨b',o',vs,h1,_,h2,_⟩:=h.mem.blk id l hl
 rw [hq] at h1;cases h1;exact h2
theorem Sim.unknown{ρ:Rho}{N:Nat}{st:St}{a:Act}{w:World}(h:Sim ρ N st a w){id:Nat}(hn:st.blk id=Option.none):ρ id=none:=by
 cases hq:ρ id with
 | none=>rfl
 | some q=>obtain ⟨l,hl⟩:=h.dom id q hq;rw [hn] at hl;cases hl
theorem nn(w:World)(o:Obj)(k:Nat)(h:k<w.heap.size):(w.alloc o).heap[k]? = w.heap[k]?:=Below.heap_alloc w o k h
theorem Ext.alloc{ρ:Rho}{w:World}{id:Nat}(hn:ρ id=none)(o:Obj):Ext ρ w (ρ.set id w.heap.size) (w.alloc o) where
 le:=Rho.le_set hn
 new j b o h0 h1:=by
  unfold Rho.set at h1
  by_cases e:j=id
  ·rw [if_pos e] at h1;cases h1;exact .inl (aaV _)
  ·rw [if_neg e,h0] at h1;cases h1
 keep:=⟨rfl,rfl,rfl,by simp,fun k hk _=>nn _ _ _ hk⟩
theorem Sim.alloc{ρ:Rho}{N:Nat}{st:St}{a:Act}{w:World}(h:Sim ρ N st a w){id:Nat}(hn:st.blk id=Option.none)(ha:app id=false){l:List It}{vs:List Value}(hv:conc ρ l=some vs)(t:aax):
    Sim (ρ.set id w.heap.size) N (aX st [(2*id+1,.bl l)]) a (w.alloc (.cells vs.toArray t)) where
  slots u x hx:=SV.val_le (Rho.le_set (h.unknown hn)) _ _ (h.slots u x (by rw [←jB st id l];exact hx))
  size:=h.size
  mem:=⟨fun j m hm=>by
    rw [cf] at hm
    by_cases e:id=j
    · subst e
      simp only [if_true,aag] at hm
      subst hm
      refine ⟨w.heap.size,0,vs,by simp [Rho.set],eR (Rho.le_set (h.unknown hn)) _ _ hv,by simp,fun _=>⟨rfl,t,?_⟩,fun _ _ i v hi=>?_,fun h' _=>by rw [ha] at h';cases h'⟩
      · exact heap_alloc_new w _
      · rw [World.cell?_alloc_new];simpa using hi
    · simp only [e,if_false] at hm
      obtain ⟨b,o,us,h1,h2,h3⟩:=h.mem.blk j m hm
      refine ⟨b,o,us,Rho.le_set (h.unknown hn) _ _ h1,eR (Rho.le_set (h.unknown hn)) _ _ h2,h3.of_kept (by simp) (nn _ _ _ h3.1)⟩⟩
  inj:=(h.inj.set (l:=l) fun j c o hq=>h.lt hq).congr fun j=>cf st id l j
  dom j q hq:=by
    rw [cf]
    by_cases e:id=j
    · exact ⟨l,by simp [e]⟩
    · simp only [e,if_false]
      have:¬j=id:=fun h=>e h.symm
      unfold Rho.set at hq
      rw [if_neg this] at hq
      exact h.dom j q hq
  calm:=h.calm
theorem Ext.store{ρ:Rho}{w w':World}{id b:Nat}(ho:own id=true)(hq:ρ id=some (b,0))(h1:w'.os=w.os)(h2:w'.tape=w.tape)(h3:w'.output=w.output)(hs:w'.heap.size=w.heap.size)
  (hb:∀ k,k≠b→w'.heap[k]? = w.heap[k]?):Ext ρ w ρ w':=
 ⟨.refl ρ,fun id b o h h'=>(by rw [h] at h';cases h'),h1,h2,h3,by omega,fun k _ hD=>hb k fun e=>hD ⟨id,0,.inl ho,e ▸ hq⟩⟩
theorem Sim.store{ρ:Rho}{N:Nat}{st:St}{a:Act}{w w':World}(h:Sim ρ N st a w){id b:Nat}(ho:own id=true)(hq:ρ id=some (b,0))(hs:w'.heap.size=w.heap.size)
    (hb:∀ k,k≠b→w'.heap[k]? = w.heap[k]?) {l:List It} {vs:List Value} (hv:conc ρ l=some vs) {t:aax} (hw:w'.heap[b]? = some (.cells vs.toArray t (0,0))) :
    Sim ρ N (aX st [(2*id+1,.bl l)]) a w' where
  slots u x hx:=h.slots u x (by rw [←jB st id l];exact hx)
  size:=h.size
  mem:=⟨fun j m hm=>by
    rw [cf] at hm
    by_cases e:id=j
    · subst e
      simp only [if_true,aag] at hm
      subst hm
      refine ⟨b,0,vs,hq,hv,by have:=h.lt hq;omega,fun _=>⟨rfl,t,hw⟩,fun hf=>(by rw [ho] at hf;cases hf),fun hf=>(by rw [lO ho] at hf;cases hf)⟩
    · simp only [e,if_false] at hm
      obtain ⟨c,o,us,h1,h2,h3⟩:=h.mem.blk j m hm
      by_cases kh:Live j m
      · refine ⟨c,o,us,h1,h2,h3.of_kept (by omega) (hb c fun ec=>e ?_)⟩
        obtain ⟨l0,hl0⟩:=h.dom id _ hq
        exact h.inj.inj id j b 0 o l0 m (.inl ho) hl0 hm (.inl ho) kh hq (ec ▸ h1)
      · exact ⟨c,o,us,h1,h2,lF kh h2 h3 (by omega)⟩⟩
  inj:=⟨fun i i' c o o' k k' hi m1 m2 l1 l2 h1 h2=>by
    have old:∀ j kj,St.blk (aX st [(2*id+1,.bl l)]) j=some kj→Live j kj→∃ k0,st.blk j=some k0∧Live j k0:=by
      intro j kj hj kh
      rw [cf] at hj
      by_cases e:id=j
      · subst e
        obtain ⟨l0,hl0⟩:=h.dom id _ hq
        exact ⟨l0,hl0,.inl ho⟩
      · rw [if_neg e] at hj;exact ⟨kj,hj,kh⟩
    obtain ⟨k0,e1,e2⟩:=old i k m1 l1
    obtain ⟨k0',e3,e4⟩:=old i' k' m2 l2
    exact h.inj.inj i i' c o o' k0 k0' hi e1 e3 e2 e4 h1 h2⟩
  dom j q hj:=by
    rw [cf]
    by_cases e:id=j
    · exact ⟨l,by simp [e]⟩
    · simp only [e,if_false];exact h.dom j q hj
  calm:=h.calm
def Rho.setq(ρ:Rho)(id:Nat)(q:Nat×Nat):Rho:=fun j=>if j=id then some q else ρ j
theorem Rho.le_setq{ρ:Rho}{id:Nat}{q:Nat×Nat}(h:ρ id=none):ρ.le (ρ.setq id q):=fun j q hq=>by
 unfold Rho.setq
 by_cases hj:j=id
 ·subst hj;rw [h] at hq;cases hq
 ·rw [if_neg hj];exact hq
theorem Sim.kill{ρ:Rho}{N:Nat}{st:St}{a:Act}{w:World}(h:Sim ρ N st a w){id:Nat}(ha:app id=true){l0:List It}(hl0:st.blk id=some l0):Sim ρ N (aX st [(2*id+1,.bl [])]) a w where
  slots u x hx:=h.slots u x (by rw [←jB st id []];exact hx)
  size:=h.size
  mem:=⟨fun j m hm=>by
    rw [cf] at hm
    by_cases e:id=j
    · subst e
      simp only [if_true,aag] at hm
      subst hm
      obtain ⟨b,o,vs,h1,h2,h3⟩:=h.mem.blk id l0 hl0
      exact ⟨b,o,[],h1,rfl,h3.1,fun ho=>(by rw [sJ ha] at ho;cases ho),fun _ hf=>(by rw [ha] at hf;cases hf),fun _ he=>absurd rfl he⟩
    · simp only [e,if_false] at hm
      exact h.mem.blk j m hm⟩
  inj:=⟨fun i i' c o o' k k' hi m1 m2 l1 l2 h1 h2=>by
    have old:∀ j kj,St.blk (aX st [(2*id+1,.bl [])]) j=some kj→Live j kj→st.blk j=some kj:=by
      intro j kj hj kh
      rw [cf] at hj
      by_cases e:id=j
      · subst e
        simp only [if_true,aag] at hj
        subst hj
        rcases kh with kh|kh
        · rw [sJ ha] at kh;cases kh
        · exact absurd rfl kh
      · rw [if_neg e] at hj;exact hj
    exact h.inj.inj i i' c o o' k k' hi (old _ _ m1 l1) (old _ _ m2 l2) l1 l2 h1 h2⟩
  dom j q hj:=by
    rw [cf]
    by_cases e:id=j
    · exact ⟨[],by simp [e]⟩
    · simp only [e,if_false];exact h.dom j q hj
  calm:=h.calm
theorem Sim.appAt{ρ:Rho}{N:Nat}{st:St}{a:Act}{w w':World}(h:Sim ρ N st a w){id b:Nat}(ha:app id=true)(hn:st.blk id=Option.none)(cv:∀ j m o,st.blk j=some m→Live j m→ρ j=some (b,o)→False)
    (hs:w.heap.size≤w'.heap.size) (hb:∀ j,j<w.heap.size→j≠b→w'.heap[j]? = w.heap[j]?) {l:List It} {vs:List Value} {jY:Array Value} {t:aax} (hv:conc ρ l=some vs) (hw:w'.heap[b]? = some (.cells jY t (0,0)))
    (hp:∀ (i:Nat) (v:Value),vs[i]? = some v→jY[i]? = some v):Sim (ρ.setq id (b,jY.size)) N (aX st [(2*id+1,.bl l)]) a w' where
  slots u x hx:=SV.val_le (Rho.le_setq (h.unknown hn)) _ _ (h.slots u x (by rw [←jB st id l];exact hx))
  size:=h.size
  mem:=⟨fun j m hm=>by
    rw [cf] at hm
    by_cases e:id=j
    · subst e
      simp only [if_true,aag] at hm
      subst hm
      have hlt:b<w'.heap.size:=(Array.getElem?_eq_some_iff.1 hw).1
      exact ⟨b,jY.size,vs,by simp [Rho.setq],eR (Rho.le_setq (h.unknown hn)) _ _ hv,hlt,fun ho=>(by rw [sJ ha] at ho;cases ho),fun _ hf=>(by rw [ha] at hf;cases hf),fun _ _=>⟨jY,t,hw,rfl,hp⟩⟩
    · simp only [e,if_false] at hm
      obtain ⟨c,o,us,h1,h2,h3⟩:=h.mem.blk j m hm
      refine ⟨c,o,us,Rho.le_setq (h.unknown hn) _ _ h1,eR (Rho.le_setq (h.unknown hn)) _ _ h2,?_⟩
      by_cases kh:Live j m
      · exact h3.of_kept hs (hb c h3.1 fun ec=>cv j m o hm kh (ec ▸ h1))
      · exact lF kh h2 h3 hs⟩
  inj:=⟨fun i i' c o o' k k' hi m1 m2 l1 l2 h1 h2=>by
    rw [cf] at m1 m2
    unfold Rho.setq at h1 h2
    by_cases e1:i=id
    · by_cases e2:i'=id
      · rw [e1,e2]
      · rw [if_pos e1] at h1;rw [if_neg e2] at h2;cases h1
        rw [if_neg (fun e=>e2 (adV e))] at m2
        exact (cv i' k' o' m2 l2 h2).elim
    · by_cases e2:i'=id
      · rw [if_neg e1] at h1;rw [if_pos e2] at h2;cases h2
        rw [if_neg (fun e=>e1 (adV e))] at m1
        exact (cv i k o m1 l1 h1).elim
      · rw [if_neg e1] at h1;rw [if_neg e2] at h2
        rw [if_neg (fun e=>e1 (adV e))] at m1
        rw [if_neg (fun e=>e2 (adV e))] at m2
        exact h.inj.inj i i' c o o' k k' hi m1 m2 l1 l2 h1 h2⟩
  dom j q hq:=by
    rw [cf]
    by_cases e:id=j
    · exact ⟨l,by simp [e]⟩
    · simp only [e,if_false]
      unfold Rho.setq at hq
      rw [if_neg (fun h=>e h.symm)] at hq
      exact h.dom j q hq
  calm:=h.calm
theorem Ext.appAt{ρ:Rho}{w w':World}{id:Nat}{q:Nat×Nat}(hn:ρ id=none)(hq:w.heap.size≤q.1∨Own ρ q.1)(h1:w'.os=w.os)(h2:w'.tape=w.tape)(h3:w'.output=w.output)(hs:w.heap.size≤w'.heap.size)
  (hb:∀ j,j<w.heap.size→j≠q.1→w'.heap[j]? = w.heap[j]?):Ext ρ w (ρ.setq id q) w' where
 le:=Rho.le_setq hn
 new j b o h0 h1:=by
  unfold Rho.setq at h1
  by_cases e:j=id
  ·rw [if_pos e] at h1;cases h1;exact hq
  ·rw [if_neg e,h0] at h1;cases h1
 keep:=⟨h1,h2,h3,hs,fun k hk hD=>hb k hk fun e=>by
  subst e
  rcases hq with hq|hq
  ·omega
  ·exact hD hq⟩
def kX:acu→Bool
 | .struct _ | .array _ _=>true
 | _=>false
abbrev K:=Option aaR
def kOk:Value→K→Bool
 | .int k _,some k'=>decide (k=k')
 | .bool _,none=>true
 | _,_=>false
def mI:List Value→List K→Bool
 | [],[]=>true
 | v::vs,k::ks=>kOk v k&&mI vs ks
 | _,_=>false
def mh(P:aaE)(g:aax→Option (List K)):Nat→List Field→Option (List K)
 | _,[]=>some []
 | off, f :: fs => if f.name ≠ "_" ∧ f.offset = off then
   (match g f.type with
   | some ks=>if P.cellsOf f.type=ks.length then (match mh P g (off+ks.length) fs with | some r=>some (ks++r) | none=>none) else none
   | none=>none) else none
def flat(P:aaE):Nat→aax→Option (List K)
 | 0,_=>none
 | d+1,t=>match P.underlying t with
  | some .bool=>some [none]
  | some (.int k)=>some [some k]
  | some (.array n e)=>match flat P d e with
   | some ks=>if P.cellsOf e=ks.length∧(P.info? e).isSome=true then some (aap n ks).flatten else none
   | none=>none
  | some (.struct fs)=>if P.stoodInHeld t=true then none else mh P (flat P d) 0 fs.toList
  | _=>none
theorem AN:∀ (vs:List Value) (ks:List K),mI vs ks=true→vs.length=ks.length:=by
 intro vs
 induction vs with
 | nil=>intro ks h;cases ks with
  | nil=>rfl
  | cons k ks=>cases h
 | cons v vs ih=>intro ks h;cases ks with
  | nil=>cases h
  | cons k ks=>simp only [mI,aaf] at h;simp [ih ks h.2]
theorem lA:∀ (ks ls:List K) (vs:List Value),mI vs (ks++ls)=true→mI (vs.take ks.length) ks=true∧mI (vs.drop ks.length) ls=true:=by
 intro ks
 induction ks with
 | nil=>intro ls vs h;exact ⟨rfl,by simpa using h⟩
 | cons k ks ih=>
  intro ls vs h
  cases vs with
  | nil=>cases h
  | cons v vs=>
   simp only [abe,mI,aaf] at h
   obtain ⟨h1,h2⟩:=ih ls vs h.2
   simp only [acA,ac0,List.drop_succ_cons,mI,aaf]
   exact ⟨⟨h.1,h1⟩,h2⟩
section
variable {P:aaE}
def Bj(P:aaE)(t:aax)(vs:List Value):Value:=match P.underlying t with
 | some u=>if kX u then .agg vs.toArray else vs.headD undef
 | none=>undef
theorem mR{t:aax}{u:acu}(h:P.underlying t=some u)(w:World):(isAgg t).run P w = .ok (kX u) w:=by
 unfold isAgg
 rw [aal,run_underlying h w]
 cases u<;>rfl
theorem zcp{t:aax}{u:acu}{i:adE}(h:P.underlying t=some u)(hi:P.info? t=some i){cs:Array Value}{off:Nat}(hl:off+P.cellsOf t≤cs.size)(h1:kX u=false→P.cellsOf t=1)(w:World):
  (part t cs off).run P w = .ok (Bj P t ((cs.toList.drop off).take (P.cellsOf t))) w:=by
 unfold part Bj
 rw [aal,mR h]
 simp only [aaj,h]
 cases hu:kX u with
 | true=>
  simp only [if_true,aal,run_sizeOf w hi,aaj,aat]
  congr 2
  apply ac8
  rw [ads]
  simp [acZ]
 | false=>
  have h2:=h1 hu
  rw [h2] at hl
  have hlt:off<cs.size:=by omega
  have e:(cs.toList.drop off).take 1=[cs[off]]:=by
   rw [ack (by simpa using hlt)]
   simp
  simp only [aaS,if_false,h2,e,adW]
  simp [hlt]
theorem Hd:∀ (d:Nat) (t:aax) (ks:List K),flat P d t=some ks→∃ u i,P.underlying t=some u∧P.info? t=some i∧(kX u=false→ks.length=1):=by
 intro d t ks h
 cases d with
 | zero=>cases h
 | succ d=>
  simp only [flat] at h
  cases hu:P.underlying t with
  | none=>simp [hu] at h
  | some u=>
   obtain ⟨i,hi⟩:=info_of_underlying hu
   refine ⟨u,i,rfl,hi,fun ha=>?_⟩
   cases u<;>simp [hu,kX] at h ha
   all_goals (subst h;rfl)
def KG(P:aaE)(D:Nat)(t:aax)(ks:List K):Prop:=∀ (w:World) (vs us:List Value),mI vs ks=true→mI us ks=true →
 ∃ r:Bool,(Op.equalIn D t (Bj P t vs) (Bj P t us)).run P w = .ok r w∧(r=true↔vs=us)
theorem vn{α:Type}(n:Nat)(xs ys:List α):(xs.take n=ys.take n∧xs.drop n=ys.drop n)↔xs=ys:=by
 constructor
 ·rintro ⟨h1,h2⟩;rw [←aci n xs,←aci n ys,h1,h2]
 ·rintro rfl;exact ⟨rfl,rfl⟩
theorem Vz{D:Nat}{t:aax}{ks:List K}{u:acu}{i:adE}(hu:P.underlying t=some u)(hi:P.info? t=some i)(h1:kX u=false→ks.length=1)(hc:P.cellsOf t=ks.length)
  (IH:KG P D t ks) (w:World) {xs ys:Array Value} {off:Nat} {vs us:List Value} (hx:xs.toList.drop off=vs) (hy:ys.toList.drop off=us) (ls:List K)
  (fv:mI vs (ks++ls)=true) (fu:mI us (ks++ls)=true) :
  ∃ a b r,(part t xs off).run P w = .ok a w∧(part t ys off).run P w = .ok b w∧(Op.equalIn D t a b).run P w = .ok r w∧(r=true↔vs.take ks.length=us.take ks.length):=by
 have lv:=AN _ _ fv
 have lu:=AN _ _ fu
 rw [aaX] at lv lu
 have zGv:∀ {cs:Array Value} {zs:List Value},cs.toList.drop off=zs→zs.length=ks.length+ls.length→(ks.length=0∨off+P.cellsOf t≤cs.size):=by
  intro cs zs hz hl
  rw [←hz,aa1,abx] at hl
  by_cases h0:ks.length=0
  ·exact .inl h0
  ·right;omega
 have wo:∀ {cs:Array Value} {zs:List Value},cs.toList.drop off=zs→zs.length=ks.length+ls.length→(part t cs off).run P w = .ok (Bj P t (zs.take ks.length)) w:=by
  intro cs zs hz hl
  rcases zGv hz hl with h0|hb
  ·
   have ha:kX u=true:=by
    cases hh:kX u with
    | true=>rfl
    | false=>have:=h1 hh;omega
   unfold part Bj
   rw [aal,mR hu]
   simp only [aaj,hu,ha,if_true,aal,run_sizeOf w hi,aat,hc,h0,aaN,List.take_zero]
   congr 2
   apply ac8
   rw [ads]
   simp [acZ]
  ·have:=zcp hu hi hb (fun h=>by rw [hc];exact h1 h) w
   rw [hz,hc] at this
   exact this
 obtain ⟨r,hr,uE⟩:=IH w _ _ (lA ks ls vs fv).1 (lA ks ls us fu).1
 exact ⟨_,_,r,wo hx lv,wo hy lu,hr,uE⟩
theorem FC{D:Nat}{g:aax→Option (List K)}(IH:∀ t ks,g t=some ks→KG P D t ks∧∃ u i,P.underlying t=some u∧P.info? t=some i∧(kX u=false→ks.length=1))(xs ys:Array Value)(w:World):
  ∀ (fs:List Field) (off:Nat) (ks:List K) (vs us:List Value),mh P g off fs=some ks→xs.toList.drop off=vs→ys.toList.drop off=us→mI vs ks=true→mI us ks=true →
   ∃ r:Bool,(Op.eqFields D xs ys fs).run P w = .ok r w∧(r=true↔vs=us):=by
 intro fs
 induction fs with
 | nil=>
  intro off ks vs us h _ _ fv fu
  simp only [mh,aag] at h
  subst h
  have e1:vs=[]:=by cases vs with | nil=>rfl | cons _ _=>cases fv
  have e2:us=[]:=by cases us with | nil=>rfl | cons _ _=>cases fu
  exact ⟨true,rfl,by simp [e1,e2]⟩
 | cons f fs ih=>
  intro off ks vs us h hx hy fv fu
  simp only [mh] at h
  split at h
  ·rename_i hf
   obtain ⟨hn,ho⟩:=hf
   cases hg:g f.type with
   | none=>simp [hg] at h
   | some kf=>
    simp only [hg] at h
    split at h
    ·rename_i hc
     cases hr:mh P g (off+kf.length) fs with
     | none=>simp [hr] at h
     | some kr=>
      simp only [hr,aag] at h
      subst h
      obtain ⟨E,u,i,hu,hi,h1⟩:=IH _ _ hg
      obtain ⟨a,b,r,p1,p2,p3,uE⟩:=Vz hu hi h1 hc E w hx hy kr fv fu
      obtain ⟨r',q,zfI⟩:=ih (off+kf.length) kr (vs.drop kf.length) (us.drop kf.length) hr (by rw [←hx,acU]) (by rw [←hy,acU])
       (lA kf kr vs fv).2 (lA kf kr us fu).2
      simp only [Op.eqFields,hn,ne_eq,not_false_eq_true,if_true,ho,aal,p1,p2,p3,aaj]
      cases r with
      | false=>exact ⟨false,by simp,by simp only [aaS,false_iff];intro e;exact absurd (uE.2 (by rw [e])) (by simp)⟩
      | true=>
       refine ⟨r',by simpa using q,?_⟩
       rw [zfI,←vn kf.length vs us]
       exact ⟨fun h=>⟨uE.1 rfl,h⟩,fun h=>h.2⟩
    ·cases h
  ·cases h
theorem J8{D:Nat}{e:aax}{ke:List K}{u:acu}{i:adE}(hu:P.underlying e=some u)(hi:P.info? e=some i)(h1:kX u=false→ke.length=1)(hc:P.cellsOf e=ke.length)
  (IH:KG P D e ke) (xs ys:Array Value) (w:World) :
  ∀ (m k:Nat) (vs us:List Value),xs.toList.drop (k*ke.length)=vs→ys.toList.drop (k*ke.length)=us→mI vs (aap m ke).flatten=true→mI us (aap m ke).flatten=true →
   ∃ r:Bool,(Op.eqItems D e (P.cellsOf e) xs ys (aaQ k m)).run P w = .ok r w∧(r=true↔vs=us):=by
 intro m
 induction m with
 | zero=>
  intro k vs us _ _ fv fu
  have e1:vs=[]:=by cases vs with | nil=>rfl | cons _ _=>cases fv
  have e2:us=[]:=by cases us with | nil=>rfl | cons _ _=>cases fu
  exact ⟨true,rfl,by simp [e1,e2]⟩
 | succ m ih=>
  intro k vs us hx hy fv fu
  rw [aby,ab5] at fv fu
  obtain ⟨a,b,r,p1,p2,p3,uE⟩:=Vz hu hi h1 hc IH w hx hy _ fv fu
  obtain ⟨r',q,zfI⟩:=ih (k+1) (vs.drop ke.length) (us.drop ke.length) (by rw [←hx,acU,abP]) (by rw [←hy,acU,abP])
   (lA ke _ vs fv).2 (lA ke _ us fu).2
  rw [←hc] at p1 p2
  simp only [adl,Op.eqItems,aal,p1,p2,p3,aaj]
  cases r with
  | false=>exact ⟨false,by simp,by simp only [aaS,false_iff];intro e;exact absurd (uE.2 (by rw [e])) (by simp)⟩
  | true=>
   refine ⟨r',by simpa using q,?_⟩
   rw [zfI,←vn ke.length vs us]
   exact ⟨fun h=>⟨uE.1 rfl,h⟩,fun h=>h.2⟩
theorem U3{v:Value}{k:aaR}(h:kOk v (some k)=true):∃ n,v = .int k n:=by
 cases v<;>simp [kOk] at h
 subst h;exact ⟨_,rfl⟩
theorem MO{v:Value}(h:kOk v none=true):∃ n,v = .bool n:=by
 cases v<;>simp [kOk] at h
 exact ⟨_,rfl⟩
theorem xo{vs:List Value}{k:K}(h:mI vs [k]=true):∃ v,vs=[v]∧kOk v k=true:=by
 cases vs with
 | nil=>cases h
 | cons v vs=>
  simp only [mI,aaf] at h
  cases vs with
  | nil=>exact ⟨v,rfl,h.1⟩
  | cons _ _=>exact absurd h.2 (by simp [mI])
theorem zcr(D:Nat):∀ (d:Nat) (t:aax) (ks:List K),flat P d t=some ks→KG P (D+d) t ks:=by
 intro d
 induction d with
 | zero=>intro t ks h;cases h
 | succ d ih=>
  intro t ks h w vs us fv fu
  have h0:=h
  simp only [flat] at h
  cases hu:P.underlying t with
  | none=>simp [hu] at h
  | some u=>
   cases u<;>simp only [hu] at h<;>try (cases h;done)
   case bool=>
    cases h
    obtain ⟨a,rfl,ha⟩:=xo fv
    obtain ⟨b,rfl,hb⟩:=xo fu
    obtain ⟨a,rfl⟩:=MO ha
    obtain ⟨b,rfl⟩:=MO hb
    exact ⟨a==b,by rw [show D+(d+1)=(D+d)+1 from rfl];simpa [Bj,hu,kX] using run_equalIn_bool w (D+d) t a b hu,by simp⟩
   case int k=>
    cases h
    obtain ⟨a,rfl,ha⟩:=xo fv
    obtain ⟨b,rfl,hb⟩:=xo fu
    obtain ⟨a,rfl⟩:=U3 ha
    obtain ⟨b,rfl⟩:=U3 hb
    exact ⟨a==b,by rw [show D+(d+1)=(D+d)+1 from rfl];simpa [Bj,hu,kX] using run_equalIn_int w (D+d) t k k a b hu,by simp⟩
   case array n e=>
    cases he:flat P d e with
    | none=>simp [he] at h
    | some ke=>
     simp only [he] at h
     split at h
     ·rename_i hc
      simp only [aag] at h
      subst h
      obtain ⟨ue,ie,hue,kZ,h1⟩:=Hd d e ke he
      obtain ⟨r,hr,uE⟩:=J8 hue kZ h1 hc.1 (ih e ke he) vs.toArray us.toArray w n 0 vs us (by simp) (by simp) fv fu
      refine ⟨r,?_,uE⟩
      simp only [Bj,hu,kX,if_true]
      rw [show D+(d+1)=(D+d)+1 from rfl,run_equalIn_array w (D+d) _ _ hu kZ,acq]
      exact hr
     ·cases h
   case struct fs=>
    split at h
    ·cases h
    ·rename_i hp
     have hfs:P.fieldsOf t=fs:=by simp [Program.fieldsOf,hu]
     obtain ⟨r,hr,uE⟩:=FC (D:=D+d) (g:=flat P d) (fun t ks hg=>⟨ih t ks hg,Hd d t ks hg⟩) vs.toArray us.toArray w fs.toList 0 ks vs us h (by simp) (by simp) fv fu
     refine ⟨r,?_,uE⟩
     simp only [Bj,hu,kX,if_true]
     rw [show D+(d+1)=(D+d)+1 from rfl,run_equalIn_struct w (D+d) t _ _ (by rw [hfs];exact hu) (by simpa using hp),hfs]
     exact hr
end
def rho0:Rho:=fun _=>none
theorem ky(ρ:Rho):rho0.le ρ:=fun _ _ h=>by cases h
structure Ty where
 size:Nat
 agg:Bool
 zero:Option (List It)
 ik:Option aaR
 fields:List (Nat×Nat×Bool)
 arr:Option (Nat×Nat×Bool)
 sl:Option Nat
 kinds:List K
 slz:Option It:=none
 ez:Option (List It):=none
 str:Bool:=false
 mk8:Bool:=false
def D_(P:aaE)(e:aax):Option (Nat×Bool):=match P.info? e,P.underlying e with
 | some i,some u=>some (i.size,kX u)
 | _,_=>none
def BR(P:aaE)(f:Field):Option (Nat×Nat×Bool):=match D_ P f.type with
 | some (s,g)=>some (f.offset,s,g)
 | none=>none
def ikD:acu→Option aaR
 | .int k=>some k
 | _=>none
def BQ(P:aaE):acu→List (Option (Nat×Nat×Bool))
 | .struct fs=>fs.toList.map (BR P)
 | _=>[]
def zin(P:aaE):acu→Option (Nat×Nat×Bool)
 | .array n e=>match D_ P e with
  | some (s,g)=>some (n,s,g)
  | none=>none
 | _=>none
def slD(P:aaE):acu→Option Nat
 | .slice e=>match D_ P e with
  | some (s,_)=>some s
  | none=>none
 | _=>none
def core(P:aaE)(t:aax):Option (Nat×Bool×Option aaR×List (Option (Nat×Nat×Bool))×Option (Nat×Nat×Bool)×Option Nat):=
 match P.info? t,P.underlying t with
 | some i,some u=>some (i.size,kX u,ikD u,BQ P u,zin P u,slD P u)
 | _,_=>none
def zeroP(P:aaE)(t:aax):Option (List Value):=match P.info? t with
 | some i=>match i.zero with
  | some v=>some v.cells.toList
  | none=>none
 | none=>none
structure TyOk(P:aaE)(t:aax)(d:Ty):Prop where
 core:core P t=some (d.size,d.agg,d.ik,d.fields.map some,d.arr,d.sl)
 zero:∀ l,d.zero=some l→∃ vs,conc rho0 l=some vs∧zeroP P t=some vs
 kinds:d.kinds=[]∨(flat P 8 t=some d.kinds∧P.eqGuardType P.depth t=false)
 slz:∀ i,d.slz=some i→∃ e v,P.underlying t=some (.slice e)∧i.cs rho0=some [v]∧zeroP P e=some [v]
 ez:∀ l,d.ez=some l→∃ e vs,P.underlying t=some (.slice e)∧conc rho0 l=some vs∧zeroP P e=some vs
 str:d.str=true→P.underlying t=some .string
 mk8:d.mk8=true→∃ e i,P.underlying t=some (.slice e)∧P.info? e=some i∧i.bytes≤1024
inductive Plan where
 | val (x:SV) (ob:List Prop)
 | load (id off len:Nat) (agg:Bool)
 | new (l:List It) (sl:Option Nat)
 | store (id off:Nat) (l:List It)
 | call (f:aaz) (args:List AV)
 | copy (did doff sid soff cells cnt:Nat)
 | clear (id off:Nat) (l:List It)
 | app (c:Bool) (s xid xoff xlen yid yoff m:Nat)
 | appz (s n:Nat) (l:List It)
 | owe (ob:List Prop) (p:Plan)
def lc:AV→Option (aaR×Int)
 | ⟨false,[.v (.int k a)]⟩=>some (k,a)
 | _=>none
def Kw:AV→Option Bool
 | ⟨false,[.v (.bool b)]⟩=>some b
 | _=>none
def xH:AV→Option (Nat×Nat)
 | ⟨false,[.p id off]⟩=>some (id,off)
 | _=>none
def iG(i:It):SV:=.one ⟨false,[i]⟩
def vI(k:aaR)(a:Int):SV:=iG (.v (.int k a))
def vB(b:Bool):SV:=iG (.v (.bool b))
def FK(c:Prop)(d:Bool):Option Bool→SV×List Prop
 | some h=>(vB h,[c↔h=true])
 | none=>(vB d,[])
def bits(op:BinOp)(k:aaR)(x y:Int):Int:=
 let a:=BitVec.ofInt k.bits x
 let b:=BitVec.ofInt k.bits y
 match op with
 | .and=>k.wrap (a &&& b).toNat
 | .or=>k.wrap (a ||| b).toNat
 | .xor=>k.wrap (a ^^^ b).toNat
 | _=>k.wrap (a &&& ~~~b).toNat
def zc7(c:Prop)(d:Bool):Option Bool→Option (List Prop)
 | some _=>some [c]
 | none=>match d with
  | true=>some []
  | false=>none
def Rz(op:BinOp)(k:aaR)(a:Int)(k':aaR)(b:Int)(hint:Option Bool):Option (SV×List Prop):=
 match op with
 | .shl=>match zc7 (0≤b) (decide (0≤b)) hint with
  | some ob=>some (vI k (k.wrap (a*2^(min b.toNat k.bits))),ob)
  | none=>none
 | .shr=>match zc7 (0≤b) (decide (0≤b)) hint with
  | some ob=>some (vI k (a.fdiv (2^(min b.toNat k.bits))),ob)
  | none=>none
 | op=>if k=k' then (match op with
  | .add=>some (vI k (k.wrap (a+b)),[])
  | .sub=>some (vI k (k.wrap (a-b)),[])
  | .mul=>some (vI k (k.wrap (a*b)),[])
  | .quo=>match zc7 (b≠0) (decide (b≠0)) hint with
   | some ob=>some (vI k (k.wrap (a.tdiv b)),ob)
   | none=>none
  | .rem=>match zc7 (b≠0) (decide (b≠0)) hint with
   | some ob=>some (vI k (a.tmod b),ob)
   | none=>none
  | .and=>some (vI k (bits .and k a b),[])
  | .or=>some (vI k (bits .or k a b),[])
  | .xor=>some (vI k (bits .xor k a b),[])
  | .andNot=>some (vI k (bits .andNot k a b),[])
  | .eql=>some (FK (a=b) (a==b) hint)
  | .neq=>some (FK (a≠b) (a != b) hint)
  | .lss=>some (FK (a<b) (decide (a<b)) hint)
  | .leq=>some (FK (a≤b) (decide (a≤b)) hint)
  | .gtr=>some (FK (a>b) (decide (a>b)) hint)
  | .geq=>some (FK (a≥b) (decide (a≥b)) hint)
  | _=>none) else none
def aV:List It→List Value
 | []=>[]
 | .v x::l=>x::aV l
 | .w k n::l=>au k n++aV l
 | _::l=>aV l
def mF:List It→Option (List K)
 | []=>some []
 | .v (.int k _)::l=>match mF l with | some r=>some (some k::r) | none=>none
 | .v (.bool _)::l=>match mF l with | some r=>some (none::r) | none=>none
 | .w k _::l=>match mF l with | some r=>some (aap k (some IntKind.u64)++r) | none=>none
 | _=>none
def V7(neg:Bool)(d:Ty)(x y:List It):Option Bool→Option (SV×List Prop)
 | some h=>match d.kinds with
  | []=>none
  | ks=>if d.agg=true∧mF x=some ks∧mF y=some ks then some (vB (neg ^^ h),[aV x=aV y↔h=true]) else none
 | none=>none
def Km(op:BinOp)(a b:Bool):Option SV:=match op with
 | .eql=>some (vB (a==b))
 | .neq=>some (vB (!(a==b)))
 | _=>none
def av(ev:aav→Option SV)(x:aav):Option AV:=match ev x with
 | some (.one y)=>some y
 | _=>none
def vZ(d:Ty)(i:Nat):Option (Nat×Nat):=match d.arr with
 | some (_,s,_)=>some (i*s,s)
 | none=>match d.fields[i]? with
  | some (off,s,_)=>some (off,s)
  | none=>none
def uG(d:Ty)(ev:aav→Option SV):List It→List (Nat×aav)→Option (List It)
 | z,[]=>some z
 | z,(i,x)::ps=>match vZ d i,av ev x with
  | some (off,s),some y=>if gd y.its=s then (match lay z off y.its with | some r=>uG d ev r ps | none=>none) else none
  | _,_=>none
def avs(ev:aav→Option SV):List aav→Option (List AV)
 | []=>some []
 | x::l=>match av ev x,avs ev l with
  | some y,some ys=>some (y::ys)
  | _,_=>none
def zcT(ev:aav→Option SV):List aav→Option (List (Nat×Nat))
 | []=>some []
 | x::l=>match av ev x,zcT ev l with
  | some y,some ys=>match xH y with
   | some q=>some (q::ys)
   | none=>none
  | _,_=>none
def yM(cs:List It)(off size:Nat)(agg:Bool):Option SV:=match cut cs off (if agg then size else 1) with
 | some r=>some (.one ⟨agg,r⟩)
 | none=>none
def eT(ev:aav→Option SV)(zw:Nat):Option aav→Option Nat
 | none=>some zw
 | some x=>match av ev x with
  | some y=>match lc y with
   | some (_,i)=>if 0≤i then some i.toNat else none
   | none=>none
  | none=>none
def oj(ev:aav→Option SV)(zw:Nat):Option aav→Option (Nat×List Prop)
 | none=>some (zw,[])
 | some x=>match av ev x with
  | some y=>match lc y with
   | some (_,i)=>some (i.toNat,[0≤i])
   | none=>none
  | none=>none
def zbw:Option Bool→Bool
 | some false=>true
 | _=>false
def sO(n:Nat)(y:AV):Option Nat:=match lc y with
 | some (_,i)=>if 0≤i∧i<n then some i.toNat else none
 | none=>none
def Mp(op:BinOp)(d:Option Ty)(b:Bool):Option (SV×List Prop):=match op,d with
 | .eql,some d=>match d.sl with
  | some _=>some (vB b,[])
  | none=>none
 | .neq,some d=>match d.sl with
  | some _=>some (vB (!b),[])
  | none=>none
 | _,_=>none
def VZ(tab:aax→Option Ty)(hint:Option Bool)(op:BinOp)(t:aax)(x y:AV):Option (SV×List Prop):=
 match x,y with
 | ⟨false,[.v (.int k a)]⟩,⟨false,[.v (.int k' b)]⟩=>Rz op k a k' b hint
 | ⟨false,[.v (.bool a)]⟩,⟨false,[.v (.bool b)]⟩=>match Km op a b,tab t with
  | some s,some d=>if d.kinds=[none]∧d.agg=false then some (s,[]) else none
  | _,_=>none
 | ⟨true,l⟩,⟨true,m⟩=>match op,tab t with
  | .eql,some d=>V7 false d l m hint
  | .neq,some d=>V7 true d l m hint
  | _,_=>none
 | ⟨false,[.s _ _ _ _]⟩,⟨false,[.v (.slice none 0 0)]⟩=>Mp op (tab t) false
 | ⟨false,[.c _ _ _ _ _]⟩,⟨false,[.v (.slice none 0 0)]⟩=>Mp op (tab t) false
 | ⟨false,[.v (.slice none 0 0)]⟩,⟨false,[.v (.slice none 0 0)]⟩=>Mp op (tab t) true
 | _,_=>none
def sd(d:Ty):Option Nat:=match d.sl,d.ez with
 | some s,some l=>match d.mk8&&(aaK (gd l) s&&ach 1 s) with
  | true=>some s
  | false=>none
 | _,_=>none
def zbQ(s:Nat)(y:AV):Option (Nat×Nat×Nat):=match y with
 | ⟨false,[.s yid yoff m _]⟩=>some (yid,yoff,m)
 | ⟨false,[.c yid s' _ yoff m]⟩=>match app yid&&(aaK s' s&&ach 1 m) with
  | true=>some (yid,yoff,m)
  | false=>none
 | _=>none
def zdE(y:AV):Bool:=match y with
 | ⟨false,[.s _ _ 0 _]⟩=>true
 | ⟨false,[.c _ _ _ _ 0]⟩=>true
 | ⟨false,[.v (.slice none 0 0)]⟩=>true
 | _=>false
def Kx(d:Ty)(x y:AV):Option Plan:=match sd d,zdE y with
 | some _,true=>match x with
  | ⟨false,[.s _ _ xlen xX]⟩=>match ach xlen xX with
   | true=>some (.val (.one x) [])
   | false=>none
  | ⟨false,[.c _ _ _ _ _]⟩=>some (.val (.one x) [])
  | ⟨false,[.v (.slice none 0 0)]⟩=>some (.val (.one x) [])
  | _=>none
 | some s,false=>match zbQ s y with
  | some (yid,yoff,m)=>match x with
   | ⟨false,[.s xid xoff xlen xX]⟩=>match ach (xX+1) (xlen+m)&&ach (xlen+m) 100000 with
    | true=>some (.app false s xid xoff xlen yid yoff m)
    | false=>none
   | ⟨false,[.c xid s' 0 0 xlen]⟩=>match aaK s' s&&ach (xlen+m) 100000 with
    | true=>some (.app true s xid 0 xlen yid yoff m)
    | false=>none
   | ⟨false,[.v (.slice none 0 0)]⟩=>match ach 1 m&&ach m 100000 with
    | true=>some (.app false s yid 0 0 yid yoff m)
    | false=>none
   | _=>none
  | none=>none
 | none,_=>none
def HG(d:Ty)(x y:AV):Option Plan:=match sd d,d.ez,x,lc y with
 | some s,some l,⟨false,[.v (.slice none 0 0)]⟩,some (_,.ofNat n)=>match ach 1 n&&ach n 100000 with
  | true=>some (.appz s n (aap n l).flatten)
  | false=>none
 | _,_,_,_=>none
def P0(s:Nat)(y:AV):Option (Nat×Nat×Nat):=match y with
 | ⟨false,[.s yid yoff m _]⟩=>some (yid,yoff,m)
 | ⟨false,[.c yid s' _ yoff m]⟩=>match app yid&&(aaK s' s&&XQ m) with
  | true=>some (yid,yoff,m)
  | false=>none
 | _=>none
def P4(d:Ty)(x y:AV):Option Plan:=match sd d,y with
 | some _,⟨false,[.v (.slice none 0 0)]⟩=>match x with
  | ⟨false,[.c _ _ _ _ _]⟩=>some (.val (.one x) [])
  | _=>none
 | some s,y=>match P0 s y with
  | some (yid,yoff,m)=>match x with
   | ⟨false,[.s xid xoff xlen xX]⟩=>some (.owe [xX+1≤xlen+m,xlen+m≤100000] (.app false s xid xoff xlen yid yoff m))
   | ⟨false,[.c xid s' 0 0 xlen]⟩=>match aaK s' s with
    | true=>some (.owe [xlen+m≤100000] (.app true s xid 0 xlen yid yoff m))
    | false=>none
   | ⟨false,[.v (.slice none 0 0)]⟩=>some (.owe [1≤m,m≤100000] (.app false s yid 0 0 yid yoff m))
   | _=>none
  | none=>none
 | none,_=>none
def PZ(d:Ty)(x y:AV):Option Plan:=match sd d,d.ez,x,lc y with
 | some s,some [.v (.int ik z)],⟨false,[.v (.slice none 0 0)]⟩,some (_,a)=>some (.owe [1≤a,a≤100000] (.appz s a.toNat [.w 0 0,.g ik (a.toNat-1+1) (fun _=>z)]))
 | _,_,_,_=>none
def TI(ev:aav→Option SV)(c:Call)(tab:aax→Option Ty):Option Plan:=match c.callee with
 | .builtin .append=>match c.args.toList,c.argTypes.toList with
  | [x,y],[t,t']=>match av ev x,av ev y,tab t,tab t' with
   | some x,some y,some d,some d'=>match aaK t t' with
    | true=>P4 d x y
    | false=>match d'.ik with
     | some _=>PZ d x y
     | none=>none
   | _,_,_,_=>none
  | _,_=>none
 | _=>none
def HW(d:Ty)(x y:AV):Option Plan:=match lc x,lc y,d.sl,d.ez,d.mk8 with
 | some (_,a),some (_,b),some s,some [.v (.int ik z)],true=>match aaK s 1 with
  | true=>some (.owe [b=a,1≤a,a≤1000000] (.new [.w 0 0,.g ik (a.toNat-1+1) (fun _=>z)] (some a.toNat)))
  | false=>none
 | _,_,_,_,_=>none
def Cm(ev:aav→Option SV)(d:Ty)(y:AV)(lo hi:Option aav):Option Plan:=match y,d.arr,d.sl with
 | ⟨false,[.s id off len cap]⟩,none,some s=>match oj ev 0 lo,oj ev len hi with
  | some (l,o1),some (h,o2)=>some (.owe ([l≤h,h≤cap]++(o1++o2)) (.val (iG (.s id (if cap=l then off else off+l*s) (h-l) (cap-l))) []))
  | _,_=>none
 | ⟨false,[.c id s' adr off len]⟩,none,some s=>match aaK s' s,oj ev 0 lo,oj ev len hi with
  | true,some (l,o1),some (h,o2)=>some (.owe ([l≤h,h≤len]++(o1++o2)) (.val (iG (.c id s (if l=0 then adr else off) (off+l*s) (h-l))) []))
  | _,_,_=>none
 | _,_,_=>none
def yf(ev:aav→Option SV)(d:Ty)(y:AV)(lo:Option aav)(hi mx:aav):Option Plan:=match y,d.arr,d.sl with
 | ⟨false,[.s id off len cap]⟩,none,some s=>match oj ev 0 lo,oj ev len (some hi),oj ev len (some mx) with
  | some (l,o1),some (h,o2),some (m,o3)=>some (.owe ([l≤h,h≤m,m≤cap]++(o1++(o2++o3))) (.val (iG (.s id (if m=l then off else off+l*s) (h-l) (m-l))) []))
  | _,_,_=>none
 | _,_,_=>none
def OR(ev:aav→Option SV)(c:Call)(tab:aax→Option Ty):Option Plan:=match c.callee with
 | .value f=>match av ev f,avs ev c.args.toList with
  | some ⟨false,[.f fn caps]⟩,some args=>some (.call fn (args++caps.map fun q=>⟨false,[.p q.1 q.2]⟩))
  | _,_=>none
 | .builtin .len=>match c.args.toList,c.argTypes.toList with
  | [x],[t]=>match av ev x,tab t with
   | some ⟨false,[.s _ _ len _]⟩,some d=>match d.sl with
    | some _=>some (.val (vI .i64 (len:Int)) [])
    | none=>none
   | some ⟨false,[.v (.slice _ len _)]⟩,some d=>match d.sl with
    | some _=>some (.val (vI .i64 (len:Int)) [])
    | none=>none
   | some ⟨false,[.c _ _ _ _ len]⟩,some d=>match d.sl with
    | some _=>some (.val (vI .i64 (len:Int)) [])
    | none=>none
   | _,_=>none
  | _,_=>none
 | .builtin .cap=>match c.args.toList,c.argTypes.toList with
  | [x],[t]=>match av ev x,tab t with
   | some ⟨false,[.s _ _ _ cap]⟩,some d=>match d.sl with
    | some _=>some (.val (vI .i64 (cap:Int)) [])
    | none=>none
   | some ⟨false,[.v (.slice _ _ cap)]⟩,some d=>match d.sl with
    | some _=>some (.val (vI .i64 (cap:Int)) [])
    | none=>none
   | _,_=>none
  | _,_=>none
 | .builtin .max=>match c.args.toList with
  | [x,y]=>match av ev x,av ev y with
   | some x,some y=>match lc x,lc y with
    | some (k,a),some (_,b)=>some (.val (vI k (if b>a then b else a)) [])
    | _,_=>none
   | _,_=>none
  | _=>none
 | .builtin .copy=>match c.args.toList,c.argTypes.toList with
  | [x,y],t::_=>match av ev x,av ev y,tab t with
   | some ⟨false,[.s did doff Eb _]⟩,some ⟨false,[.s sid soff A5 _]⟩,some d=>match d.sl with
    | some s=>some (.copy did doff sid soff (ado A5 Eb*s) (ado A5 Eb))
    | none=>none
   | some ⟨false,[.s did doff Eb _]⟩,some ⟨false,[.c sid _ _ soff A5]⟩,some d=>match d.sl,app sid&&XQ A5 with
    | some s,true=>some (.copy did doff sid soff (ado A5 Eb*s) (ado A5 Eb))
    | _,_=>none
   | _,_,_=>none
  | _,_=>none
 | .builtin .clear=>match c.args.toList,c.argTypes.toList with
  | [x],t::_=>match av ev x,tab t with
   | some ⟨false,[.s id off len _]⟩,some d=>match d.slz with
    | some i=>some (.clear id off (aap len i))
    | none=>none
   | _,_=>none
  | _,_=>none
 | .builtin .append=>match c.args.toList,c.argTypes.toList with
  | [x,y],[t,t']=>match av ev x,av ev y,tab t,tab t' with
   | some x,some y,some d,some d'=>match aaK t t' with
    | true=>Kx d x y
    | false=>match d'.ik with
     | some _=>HG d x y
     | none=>none
   | _,_,_,_=>none
  | _,_=>none
 | _=>none
def IV(tab:aax→Option Ty)(hint:Option Bool)(ev:aav→Option SV)(op:Op):Option Plan:=
 match op with
 | .move x | .assign x=>match ev x with
  | some s=>some (.val s [])
  | none=>none
 | .pick c a b=>match av ev c with
  | some c=>match Kw c with
   | some true=>match ev a with
    | some s=>some (.val s [])
    | none=>none
   | some false=>match ev b with
    | some s=>some (.val s [])
    | none=>none
   | none=>none
  | none=>none
 | .alloc t=>match tab t with
  | some d=>match d.zero with
   | some l=>some (.new l none)
   | none=>none
  | none=>none
 | .box _ x=>match av ev x with
  | some y=>some (.new y.its none)
  | none=>none
 | .build t ps=>match tab t with
  | some d=>match d.zero with
   | some z=>if d.agg&&(d.arr.isSome || !d.fields.isEmpty) then (match uG d ev z ps.toList with
    | some r=>some (.val (.one ⟨true,r⟩) [])
    | none=>none) else none
   | none=>none
  | none=>none
 | .buildSlice t n ps=>match tab t with
  | some d=>match d.sl,d.ez with
   | some s,some l=>if gd l=s∧n*s≤16777216 then (match uG { d with arr:=some (n,s,true) } ev ((aap n l).flatten) ps.toList with
    | some r=>some (.new r (some n))
    | none=>none) else none
   | _,_=>none
  | none=>none
 | .makeSlice t x y=>match av ev x,av ev y,tab t with
  | some x,some y,some d=>match zbw hint with
   | true=>HW d x y
   | false=>match lc x,lc y,d.sl,d.ez,d.mk8 with
    | some (_,a),some (_,b),some s,some l,true=>match a with
     | .ofNat n=>if b=a∧gd l=s∧n≤1000000 then some (.new ((aap n l).flatten) (some n)) else none
     | _=>none
    | _,_,_,_,_=>none
  | _,_,_=>none
 | .load t x=>match av ev x,tab t with
  | some y,some d=>match xH y with
   | some (id,off)=>some (.load id off (if d.agg then d.size else 1) d.agg)
   | none=>none
  | _,_=>none
 | .store t x y=>match av ev x,av ev y,tab t with
  | some p,some z,some d=>match xH p with
   | some (id,off)=>if gd z.its=d.size then some (.store id off z.its) else none
   | none=>none
  | _,_,_=>none
 | .nilCheck x=>match av ev x with
  | some y=>match xH y with
   | some _=>some (.val (.one y) [])
   | none=>none
  | none=>none
 | .binOp op t x y _=>match av ev x,av ev y with
  | some x,some y=>match VZ tab hint op t x y with
   | some (s,ob)=>some (.val s ob)
   | none=>none
  | _,_=>none
 | .unOp op _ x=>match av ev x with
  | some y=>match op with
   | .not=>match Kw y with
    | some b=>some (.val (vB (!b)) [])
    | none=>none
   | .neg=>match lc y with
    | some (k,a)=>some (.val (vI k (k.wrap (0-a))) [])
    | none=>none
   | _=>none
  | none=>none
 | .convert src dst x=>match av ev x,tab src,tab dst with
  | some y,some _,some d=>match lc y,d.ik with
   | some (_,a),some k=>some (.val (vI k (k.wrap a)) [])
   | _,_=>none
  | _,_,_=>none
 | .sliceToArrayPointer t x=>match av ev x,tab t with
  | some ⟨false,[.s id off len _]⟩,some d=>match d.arr with
   | some (n,_,_)=>if n≤len then some (.val (iG (.p id off)) []) else none
   | none=>none
  | _,_=>none
 | .makeFunc (.func f) first caps=>if first.size=0 then (match zcT ev caps.toList with
  | some qs=>some (.val (iG (.f f qs)) [])
  | none=>none) else none
 | .slice t x lo hi none=>match av ev x,tab t with
  | some y,some d=>match zbw hint with
   | true=>Cm ev d y lo hi
   | false=>match y,d.arr,d.sl with
    | ⟨false,[.p id off]⟩,some (n,s,_),_=>match eT ev 0 lo,eT ev n hi with
     | some l,some h=>if l≤h∧h≤n then some (.val (iG (.s id (if n=l then off else off+l*s) (h-l) (n-l))) []) else none
     | _,_=>none
    | ⟨false,[.s id off len cap]⟩,none,some s=>match eT ev 0 lo,eT ev len hi with
     | some l,some h=>if l≤h∧h≤cap then some (.val (iG (.s id (if cap=l then off else off+l*s) (h-l) (cap-l))) []) else none
     | _,_=>none
    | ⟨false,[.c id s' adr off len]⟩,none,some s=>match eT ev 0 lo,eT ev len hi with
     | some l,some h=>if s'=s∧l≤h∧h≤len then some (.val (iG (.c id s (if l=0 then adr else off) (off+l*s) (h-l))) []) else none
     | _,_=>none
    | ⟨false,[.v (.slice none 0 0)]⟩,none,some _=>match eT ev 0 lo,eT ev 0 hi with
     | some 0,some 0=>some (.val (.one y) [])
     | _,_=>none
    | _,_,_=>none
  | _,_=>none
 | .slice t x lo (some hi) (some mx)=>match av ev x,tab t with
  | some y,some d=>match zbw hint with
   | true=>yf ev d y lo hi mx
   | false=>match y,d.arr,d.sl with
    | ⟨false,[.s id off len cap]⟩,none,some s=>match eT ev 0 lo,eT ev len (some hi),eT ev len (some mx) with
     | some l,some h,some m=>if l≤h∧h≤m∧m≤cap then some (.val (iG (.s id (if m=l then off else off+l*s) (h-l) (m-l))) []) else none
     | _,_,_=>none
    | ⟨false,[.c id s' _ off len]⟩,none,some s=>match eT ev 0 lo,eT ev len (some hi),eT ev len (some mx) with
     | some l,some h,some m=>if (s'=s∧1≤len∧app id=true)∧l≤h∧h≤m∧m≤len then some (.val (iG (.s id (if m=l then off else off+l*s) (h-l) (m-l))) []) else none
     | _,_,_=>none
    | _,_,_=>none
  | _,_=>none
 | .fieldAddr t x i=>match av ev x,tab t with
  | some y,some d=>match xH y,d.fields[i]? with
   | some (id,off),some (o,s,_)=>if s≠0 then some (.val (iG (.p id (off+o))) []) else none
   | _,_=>none
  | _,_=>none
 | .field t x i=>match av ev x,tab t with
  | some ⟨true,l⟩,some d=>match d.fields[i]? with
   | some (o,s,g)=>match yM l o s g with
    | some r=>some (.val r [])
    | none=>none
   | none=>none
  | _,_=>none
 | .indexAddr t x i=>match av ev x,av ev i,tab t with
  | some y,some j,some d=>match y,d.arr,d.sl with
   | ⟨false,[.p id off]⟩,some (n,s,_),_=>match sO n j with
    | some q=>some (.val (iG (.p id (off+q*s))) [])
    | none=>none
   | ⟨false,[.s id off len _]⟩,none,some s=>match hint with
    | some false=>match lc j with
     | some (_,a)=>some (.val (iG (.p id (off+a.toNat*s))) [0≤a∧a<(len:Int)])
     | none=>none
    | _=>match sO len j with
     | some q=>some (.val (iG (.p id (off+q*s))) [])
     | none=>none
   | ⟨false,[.c id s' _ off len]⟩,none,some s=>match zbw hint with
    | true=>match lc j,aaK s' s&&app id with
     | some (_,a),true=>some (.val (iG (.p id (off+a.toNat*s))) [0≤a∧a<(len:Int)])
     | _,_=>none
    | false=>match sO len j,aaK s' s&&app id with
     | some q,true=>some (.val (iG (.p id (off+q*s))) [])
     | _,_=>none
   | _,_,_=>none
  | _,_,_=>none
 | .index t x i=>match av ev x,av ev i,tab t with
  | some ⟨false,[.v (.string z)]⟩,some j,some d=>match d.str,lc j with
   | true,some (_,a)=>match (if 0≤a then z[a.toNat]? else none) with
    | some b=>some (.val (vI .u8 b.toNat) [])
    | none=>none
   | _,_=>none
  | some ⟨true,l⟩,some j,some d=>match d.arr with
   | some (n,s,g)=>match sO n j with
    | some q=>match yM l (q*s) s g with
     | some r=>some (.val r [])
     | none=>none
    | none=>none
   | none=>none
  | _,_,_=>none
 | .extract x i=>match ev x with
  | some (.tup l)=>match l[i]? with
   | some y=>some (.val (.one y) [])
   | none=>none
  | _=>none
 | .call c=>match zbw hint with
  | true=>TI ev c tab
  | false=>OR ev c tab
 | _=>none
def Wm(P:aaE)(val:aav→Value)(o:Oper)(w:World)(s n:Nat)(vs:List Value):Prop:=
 ∃ k zs t,vs.length+List.length zs=k*s∧n≤k∧(execOp val o).run P w = .ok (.value (.slice (some ⟨w.heap.size,0,none⟩) n k)) (w.drew.alloc (.cells (vs++zs).toArray t))
def zzJ(P:aaE)(val:aav→Value)(o:Oper)(s:Nat)(qx:Nat×Nat)(xoff xlen m:Nat)(w:World)(us:List Value):Bool→Prop
 | false=>∀ vs:List Value,vs.length=xlen*s→(∀ i v,vs[i]? = some v→w.cell? ⟨qx.1,qx.2+(xoff+i),none⟩=some v)→Wm P val o w s (xlen+m) (vs++us)
 | true=>∀ (jY:Array Value) (t:aax),w.heap[qx.1]? = some (.cells jY t (0,0))→jY.size=qx.2→xlen*s≤jY.size →
   Wm P val o w s (xlen+m) (jY.toList.take (xlen*s)++us) ∨
   ((xlen+m)*s≤jY.size∧(execOp val o).run P w = .ok (.value (.slice (some ⟨qx.1,0,none⟩) (xlen+m) (qx.2/s))) (w.setRow qx.1 (jY.toList.take (xlen*s)++us++jY.toList.drop ((xlen+m)*s)).toArray))
def bc(P:aaE)(ρ:Rho)(val:aav→Value)(o:Oper):Plan→Prop
 | .val x ob=>(∀ p∈ob,p)→∃ v,x.val ρ=some v∧∀ w,(execOp val o).run P w = .ok (.value v) w
 | .load id off len agg=>∃ q,ρ.at id=some q∧(agg=false→len=1)∧∀ (w:World) (vs:List Value),vs.length=len→(∀ i v,vs[i]? = some v→w.cell? ⟨q.1,q.2+(off+i),none⟩=some v) →
   (execOp val o).run P w = .ok (.value (match agg with | true=>.agg vs.toArray | false=>vs.headD undef)) w
 | .new l sl=>∃ vs t,conc ρ l=some vs∧∀ w:World,(execOp val o).run P w = .ok (.value (match sl with | some n=>.slice (some ⟨w.heap.size,0,none⟩) n n | none=>.pointer (some ⟨w.heap.size,0,none⟩))) (w.alloc (.cells vs.toArray t))
 | .store id off l=>∃ q vs,ρ.at id=some q∧conc ρ l=some vs∧∀ w:World,(execOp val o).run P w=((storeCells ⟨q.1,q.2+off,none⟩ vs).run P w).andThen fun _ w'=>.ok .skip w'
 | .call f args=>∃ vs,ay ρ args=some vs∧∀ w,(execOp val o).run P w=(callFunc f vs.toArray).run P w
 | .copy did doff sid soff cells cnt=>∃ qd qs,ρ.at did=some qd∧ρ.at sid=some qs∧∀ (w:World) (vs:List Value),vs.length=cells→(∀ i v,vs[i]? = some v→w.cell? ⟨qs.1,qs.2+(soff+i),none⟩=some v) →
   (execOp val o).run P w=((storeCells ⟨qd.1,qd.2+doff,none⟩ vs).run P w).andThen fun _ w'=>.ok (.value (.int .i64 (cnt:Int))) w'
 | .clear id off l=>∃ q vs,ρ.at id=some q∧conc ρ l=some vs∧∀ w:World,(execOp val o).run P w=((storeCells ⟨q.1,q.2+off,none⟩ vs).run P w).andThen fun _ w'=>.ok (.value (.tuple #[])) w'
 | .app c s xid xoff xlen yid yoff m=>∃ qx qy,(match c with | true=>ρ xid=some qx | false=>ρ.at xid=some qx)∧ρ.at yid=some qy∧1≤s∧∀ (w:World) (us:List Value),us.length=m*s→(∀ i v,us[i]? = some v→w.cell? ⟨qy.1,qy.2+(yoff+i),none⟩=some v) →
   (∀ u∈us,u.oneCell'=true)→zzJ P val o s qx xoff xlen m w us c
 | .appz s n l=>1≤s∧∃ vs,conc ρ l=some vs∧vs.length=n*s∧∀ w:World,Wm P val o w s n vs
 | .owe ob p=>(∀ q∈ob,q)→bc P ρ val o p
theorem AV.val_one{ρ:Rho}{i:It}{v:Value}(h:AV.val ρ ⟨false,[i]⟩=some v):i.cs ρ=some [v]:=by
 unfold AV.val at h
 cases hc:conc ρ [i] with
 | none=>simp [hc] at h
 | some vs=>
  obtain ⟨a,b,ha,hb,rfl⟩:=cz hc
  cases hb
  simp only [aaP] at hc
  simp only [hc] at h
  split at h
  ·rename_i h1 _;cases h1
  ·rename_i v' _ h2
   cases h
   rw [ha,←h2]
  ·cases h
theorem AV.val_mk{ρ:Rho}{i:It}{v:Value}(h:i.cs ρ=some [v]):AV.val ρ ⟨false,[i]⟩=some v:=by
 unfold AV.val
 have:conc ρ [i]=some [v]:=en h rfl
 simp only [this]
theorem dH{ρ:Rho}{y:AV}{k:aaR}{a:Int}{v:Value}(h:lc y=some (k,a))(hv:y.val ρ=some v):v = .int k a:=by
 unfold lc at h
 split at h
 ·cases h;have:=AV.val_one hv;simp only [It.cs] at this;cases this;rfl
 ·cases h
theorem uN{ρ:Rho}{y:AV}{b:Bool}{v:Value}(h:Kw y=some b)(hv:y.val ρ=some v):v = .bool b:=by
 unfold Kw at h
 split at h
 ·cases h;have:=AV.val_one hv;simp only [It.cs] at this;cases this;rfl
 ·cases h
theorem dY{ρ:Rho}{y:AV}{id off:Nat}{v:Value}(h:xH y=some (id,off))(hv:y.val ρ=some v):∃ q,ρ.at id=some q∧v=mo q off:=by
 unfold xH at h
 split at h
 ·cases h
  have:=AV.val_one hv
  simp only [It.cs] at this
  split at this
  ·rename_i q hq;cases this;exact ⟨q,hq,rfl⟩
  ·cases this
 ·cases h
theorem aY{ρ:Rho}{id off len cap:Nat}{v:Value}(hv:AV.val ρ ⟨false,[.s id off len cap]⟩=some v):∃ q,ρ.at id=some q∧v = .slice (some ⟨q.1,q.2+off,none⟩) len cap:=by
 have:=AV.val_one hv
 simp only [It.cs] at this
 split at this
 ·rename_i q hq;cases this;exact ⟨q,hq,rfl⟩
 ·cases this
theorem C7{ρ:Rho}{id:Nat}{q:Nat×Nat}(h:ρ.at id=some q)(off:Nat):(iG (.p id off)).val ρ=some (mo q off):=
 AV.val_mk (by simp only [It.cs,h])
theorem dB{ρ:Rho}{id s adr off len:Nat}{v:Value}(hv:AV.val ρ ⟨false,[.c id s adr off len]⟩=some v):∃ q,ρ id=some q∧1≤s∧off+len*s≤q.2∧v=pf q s adr off len:=by
 have:=AV.val_one hv
 simp only [It.cs] at this
 split at this
 ·rename_i q hq
  obtain ⟨h1,h2,h3⟩:=Eu this
  cases h3
  exact ⟨q,hq,h1,h2,rfl⟩
 ·cases this
theorem Hl{ρ:Rho}{id:Nat}{q:Nat×Nat}(h:ρ id=some q){s adr off len:Nat}(h1:1≤s)(h2:off+len*s≤q.2):(iG (.c id s adr off len)).val ρ=some (pf q s adr off len):=
 AV.val_mk (by simp only [It.cs,h,zyz h1 h2])
theorem Hu{q:Nat×Nat}{s adr off len:Nat}(h1:1≤s)(h2:off+len*s≤q.2)(hl:1≤len):pf q s adr off len = .slice (some ⟨q.1,off,none⟩) len ((q.2-off)/s):=by
 unfold pf
 have:s≤len*s:=Nat.le_mul_of_pos_left s hl
 have h3:0<(q.2-off)/s:=Nat.div_pos (by omega) (by omega)
 rw [if_neg (by omega)]
theorem j3{ρ:Rho}{id s adr off len:Nat}{v:Value}(hv:AV.val ρ ⟨false,[.c id s adr off len]⟩=some v)(ha:app id=true)(hl:1≤len):∃ q cap,ρ.at id=some q∧v = .slice (some ⟨q.1,q.2+off,none⟩) len cap:=by
 obtain ⟨q,hq,h1,h2,rfl⟩:=dB hv
 exact ⟨(q.1,0),(q.2-off)/s,by rw [Rho.at_some hq,uu ha],by rw [Hu h1 h2 hl,aay]⟩
theorem bu{ρ:Rho}{id:Nat}{q:Nat×Nat}(h:ρ.at id=some q)(off len cap:Nat):(iG (.s id off len cap)).val ρ=some (.slice (some ⟨q.1,q.2+off,none⟩) len cap):=
 AV.val_mk (by simp only [It.cs,h])
theorem AV.val_v{ρ:Rho}{x:Value}(h:x.oneCell'=true):AV.val ρ ⟨false,[.v x]⟩=some x:=AV.val_mk (by simp only [It.cs,h])
theorem jg(ρ:Rho)(k:aaR)(a:Int):(vI k a).val ρ=some (.int k a):=AV.val_v (ρ:=ρ) (x:=.int k a) rfl
theorem jP(ρ:Rho)(b:Bool):(vB b).val ρ=some (.bool b):=AV.val_v (ρ:=ρ) (x:=.bool b) rfl
theorem zNx{ρ:Rho}{x:Value}(h:x.oneCell'=true):(It.v x).cs ρ=some [x]:=by simp only [It.cs,h]
theorem iU(ρ:Rho)(vs:List Value)(h:∀ v∈vs,v.oneCell'=true):conc ρ (vs.map .v)=some vs:=by
 induction vs with
 | nil=>rfl
 | cons v vs ih=>exact en (i:=.v v) (a:=[v]) (zNx (h v (by simp))) (ih fun u hu=>h u (by simp [hu]))
theorem zQ{v:Value}(h:v.oneCell'=true):v.cells = #[v]:=by
 cases v<;>first | rfl | cases h
section
variable {P:aaE}{ρ:Rho}{tab:aax→Option Ty}{ev:aav→Option SV}{val:aav→Value}
theorem qu(jL:∀ x s,ev x=some s→s.val ρ=some (val x)){x:aav}{y:AV}(h:av ev x=some y):y.val ρ=some (val x):=by
 unfold av at h
 split at h
 ·rename_i z hz;cases h;exact jL x _ hz
 ·cases h
theorem TyOk.facts{t:aax}{d:Ty}(h:TyOk P t d):∃ i u,P.info? t=some i∧P.underlying t=some u∧i.size=d.size∧kX u=d.agg∧ikD u=d.ik∧BQ P u=d.fields.map some∧zin P u=d.arr∧slD P u=d.sl:=by
 have hc:=h.core
 unfold Eng.core at hc
 cases hi:P.info? t with
 | none=>simp [hi] at hc
 | some i=>
  cases hu:P.underlying t with
  | none=>simp [hi,hu] at hc
  | some u=>
   simp only [hi,hu,aag,Prod.mk.injEq] at hc
   exact ⟨i,u,rfl,rfl,hc.1,hc.2.1,hc.2.2.1,hc.2.2.2.1,hc.2.2.2.2.1,hc.2.2.2.2.2⟩
theorem cu{t:aax}{i:adE}(h:P.info? t=some i)(w:World):(sizeOf t).run P w = .ok i.size w:=by
 simp [sizeOf,run_typeInfo w h]
theorem l_{e:aax}{s:Nat}{g:Bool}(h:D_ P e=some (s,g)):∃ i u,P.info? e=some i∧P.underlying e=some u∧i.size=s∧kX u=g:=by
 unfold D_ at h
 split at h
 ·rename_i i u hi hu
  cases h
  exact ⟨i,u,hi,hu,rfl,rfl⟩
 ·cases h
theorem xJ{u:acu}{n s:Nat}{g:Bool}(h:zin P u=some (n,s,g)):∃ e i ue,u = .array n e∧P.info? e=some i∧P.underlying e=some ue∧i.size=s∧kX ue=g:=by
 unfold zin at h
 split at h
 ·split at h
  ·rename_i hs;cases h
   obtain ⟨i,ue,h1,h2,h3,h4⟩:=l_ hs
   exact ⟨_,i,ue,rfl,h1,h2,h3,h4⟩
  ·cases h
 ·cases h
theorem jC{u:acu}{s:Nat}(h:slD P u=some s):∃ e i,u = .slice e∧P.info? e=some i∧i.size=s:=by
 unfold slD at h
 split at h
 ·split at h
  ·rename_i hs;cases h
   obtain ⟨i,ue,h1,h2,h3,h4⟩:=l_ hs
   exact ⟨_,i,rfl,h1,h3⟩
  ·cases h
 ·cases h
theorem D6{u:acu}{fs:List (Nat×Nat×Bool)}(h:BQ P u=fs.map some){i:Nat}{o s:Nat}{g:Bool}(hi:fs[i]? = some (o,s,g)):
  ∃ (Fs:Array Field) (f:Field) (n:adE) (uf:acu),u = .struct Fs∧Fs[i]? = some f∧P.info? f.type=some n∧P.underlying f.type=some uf∧f.offset=o∧n.size=s∧kX uf=g:=by
 unfold BQ at h
 split at h
 ·rename_i Fs
  have h1:=congrArg (fun l=>l[i]?) h
  simp only [abA,hi,ac3] at h1
  cases hf:Fs.toList[i]? with
  | none=>simp [hf] at h1
  | some f=>
   simp only [hf,ac3,aag] at h1
   unfold BR at h1
   split at h1
   ·rename_i s' g' hs
    cases h1
    obtain ⟨n,uf,h2,h3,h4,h5⟩:=l_ hs
    exact ⟨Fs,f,n,uf,rfl,by simpa using hf,h2,h3,rfl,h4,h5⟩
   ·cases h1
 ·have h1:=congrArg (fun l=>l[i]?) h
  simp [hi] at h1
theorem cG{o:Oper}{x:SV}{v:Value}{ob:List Prop}(hx:x.val ρ=some v)(hr:∀ w,(execOp val o).run P w = .ok (.value v) w):bc P ρ val o (.val x ob):=
 fun _=>⟨v,hx,hr⟩
theorem LF(az:∀ t d,tab t=some d→TyOk P t d){o:Oper}{t:aax}(ho:o.op = .alloc t){d:Ty}(ht:tab t=some d){l:List It}(hz:d.zero=some l):bc P ρ val o (.new l none):=by
 obtain ⟨vs,h1,h2⟩:=(az t d ht).zero l hz
 obtain ⟨i,u,hi,hu,_⟩:=(az t d ht).facts
 unfold zeroP at h2
 simp only [hi] at h2
 cases DL:i.zero with
 | none=>simp [DL] at h2
 | some zv=>
  simp only [DL,aag] at h2
  refine ⟨vs,t,eR (ky ρ) _ _ h1,fun w=>?_⟩
  simp only [execOp,ho,Instr.alloc,aal,zeroValue,run_typeInfo w hi,aaj,DL,aat,newVar,newRow,run_newObj]
  subst h2
  rfl
theorem Xc{o:Oper}{t:aax}{x:aav}(ho:o.op = .box t x){y:AV}(hy:y.val ρ=some (val x)):bc P ρ val o (.new y.its none):=by
 obtain ⟨vs,hc,hv⟩:=AV.cells hy
 have e:(val x).cells=vs.toArray:=by
  rcases hv with ⟨_,h⟩|⟨_,h⟩
  ·rw [h];rfl
  ·subst h
   rw [zQ (gZ _ _ hc _ (by simp))]
 refine ⟨vs,t,hc,fun w=>?_⟩
 simp only [execOp,ho,Instr.box,aal,newVar,newRow,run_newObj,aaj,aat,e]
 rfl
theorem Ql(az:∀ t d,tab t=some d→TyOk P t d){o:Oper}{t:aax}{x:aav}(ho:o.op = .load t x){d:Ty}(ht:tab t=some d){q:Nat×Nat}{id off:Nat}(hq:ρ.at id=some q)(hx:val x=mo q off):
  bc P ρ val o (.load id off (if d.agg then d.size else 1) d.agg):=by
 obtain ⟨i,u,hi,hu,hs,ha,_⟩:=(az t d ht).facts
 refine ⟨q,hq,fun h=>by simp [h],fun w vs hl hc=>?_⟩
 have zMW:∀ j,(⟨q.1,q.2+off,none⟩:Addr).add j=⟨q.1,q.2+(off+j),none⟩:=fun j=>by unfold Addr.add;split<;>simp_all [aa4]
 simp only [execOp,ho,hx,mo,Instr.loadAt,adg,aal,aat,aaj,loadVar,mR hu,ha]
 cases hg:d.agg with
 | true=>
  simp only [hg,if_true] at hl
  simp only [if_true,aal,cu hi,aaj,hs,←hl]
  rw [run_loadCells_list (P:=P) w ⟨q.1,q.2+off,none⟩ vs (fun j v hv=>by rw [zMW];exact hc j v hv)]
  rfl
 | false=>
  simp only [hg,aaS,if_false] at hl
  obtain ⟨v,rfl⟩:∃ v,vs=[v]:=by
   cases vs with
   | nil=>cases hl
   | cons v vs=>cases vs with
    | nil=>exact ⟨v,rfl⟩
    | cons _ _=>simp at hl
  have h0:=hc 0 v rfl
  simp only [aaN] at h0
  simp only [aaS,if_false,run_load,h0,aaj,adW]
theorem Lz(az:∀ t d,tab t=some d→TyOk P t d){o:Oper}{t:aax}{x y:aav}(ho:o.op = .store t x y){d:Ty}(ht:tab t=some d){q:Nat×Nat}{id off:Nat}(hq:ρ.at id=some q)(hx:val x=mo q off)
  {z:AV} (hz:z.val ρ=some (val y)) (q9:gd z.its=d.size):bc P ρ val o (.store id off z.its):=by
 obtain ⟨i,u,hi,hu,hs,_⟩:=(az t d ht).facts
 obtain ⟨vs,hc,hv⟩:=AV.cells hz
 have e:(val y).cells=vs.toArray:=by
  rcases hv with ⟨_,h⟩|⟨_,h⟩
  ·rw [h];rfl
  ·subst h
   rw [zQ (gZ _ _ hc _ (by simp))]
 have hl:vs.length=i.size:=by rw [c7 _ _ hc,q9,hs]
 refine ⟨q,vs,hq,hc,fun w=>?_⟩
 simp only [execOp,ho,hx,mo,Instr.storeAt,adg,aal,aat,aaj,storeVar,cu hi,e,abL,hl,ne_eq,not_true_eq_false,if_false,aeh]
theorem CD{o:Oper}{x:aav}(ho:o.op = .nilCheck x){y:AV}(hy:y.val ρ=some (val x)){id off:Nat}(hp:xH y=some (id,off)):bc P ρ val o (.val (.one y) []):=by
 obtain ⟨q,hq,hx⟩:=dY hp hy
 refine cG (v:=val x) hy fun w=>?_
 simp only [execOp,ho,hx,mo,aat]
theorem H9{o:Oper}{op:BinOp}{t u:aax}{x y:aav}(ho:o.op = .binOp op t x y u){k k':aaR}{a b:Int}(hx:val x = .int k a)(hy:val y = .int k' b){hint:Option Bool}{s:SV}{ob:List Prop}
    (h:Rz op k a k' b hint=some (s,ob)):bc P ρ val o (.val s ob):=by
  intro ax
  have hg:∀ w,(eqGuard op t x y (val x) (val y)).run P w = .ok () w:=fun w=>by
    rw [hx,hy];cases op<;>simp [eqGuard]
  have zvi:∀ {c:Prop} {d:Bool} {l:List Prop},zc7 c d hint=some l→(d=true→c)→(∀ p∈l,p)→c:=by
    intro c d l h1 h2 h3
    cases hint with
    | none=>cases d with
      | true=>exact h2 rfl
      | false=>cases h1
    | some b=>cases h1;exact h3 c (by simp)
  have zNy:∀ {c:Prop} {d:Bool},(d=true↔c)→FK c d hint=(s,ob)→s.val ρ=some (.bool d):=by
    intro c d hd he
    cases hint with
    | none=>cases he;exact jP ρ d
    | some b=>
      cases he
      have:=ax _ (aao.2 rfl)
      have e:b=d:=by rw [aek];exact this.symm.trans hd.symm
      rw [e];exact jP ρ d
  have fin:∀ v:Value,s.val ρ=some v→(∀ w,(binOp op t (val x) (val y)).run P w = .ok v w)→∃ v,s.val ρ=some v∧∀ w,(execOp val o).run P w = .ok (.value v) w:=by
    intro v h1 h2
    refine ⟨v,h1,fun w=>?_⟩
    simp only [execOp,ho,aal,hg,aaj,h2,aat]
  rw [hx,hy] at fin
  cases op<;>simp only [Rz] at h
  case shl=>
    split at h
    · rename_i l hl
      cases h
      have hb:=zvi hl (by simp) ax
      refine fin _ (jg ρ _ _) fun w=>?_
      have:¬b<0:=by omega
      simp [binOp,Op.shift,this]
    · cases h
  case shr=>
    split at h
    · rename_i l hl
      cases h
      have hb:=zvi hl (by simp) ax
      refine fin _ (jg ρ _ _) fun w=>?_
      have:¬b<0:=by omega
      simp [binOp,Op.shift,this]
    · cases h
  all_goals
    split at h
    · rename_i hk
      subst hk
      first
        | (cases h;done)
        | (cases h;exact fin _ (jg ρ _ _) fun w=>by simp [binOp,Op.intArith,Op.intBits,bits])
        | (split at h
           · rename_i l hl
             cases h
             have hb:=zvi hl (by simp) ax
             exact fin _ (jg ρ _ _) fun w=>by simp [binOp,Op.intDiv,hb]
           · cases h)
        | exact fin _ (zNy (by simp) (abn h)) fun w=>by simp [binOp,Op.intCmp]
    · cases h
theorem wW:∀ (l:List It) (ks:List K),mF l=some ks→∀ (vs:List Value),conc ρ l=some vs→vs=aV l∧mI vs ks=true:=by
 intro l
 induction l with
 | nil=>intro ks h vs hv;cases h;cases hv;exact ⟨rfl,rfl⟩
 | cons i l ih=>
  intro ks h vs hv
  obtain ⟨a,b,ha,hb,rfl⟩:=cz hv
  cases i with
  | v x=>
   cases x with
   | int k n=>
    simp only [mF] at h
    split at h
    ·rename_i r hr
     cases h
     simp only [It.cs] at ha
     cases ha
     obtain ⟨h1,h2⟩:=ih r hr b hb
     exact ⟨by simp [aV,←h1],by simp [mI,kOk,h2]⟩
    ·cases h
   | bool n=>
    simp only [mF] at h
    split at h
    ·rename_i r hr
     cases h
     simp only [It.cs] at ha
     cases ha
     obtain ⟨h1,h2⟩:=ih r hr b hb
     exact ⟨by simp [aV,←h1],by simp [mI,kOk,h2]⟩
    ·cases h
   | _=>cases h
  | w k n=>
   simp only [mF] at h
   split at h
   ·rename_i r hr
    cases h
    simp only [It.cs,aag] at ha
    subst ha
    obtain ⟨h1,h2⟩:=ih r hr b hb
    refine ⟨by simp [aV,←h1],?_⟩
    unfold au
    have:∀ (m:List Nat),mI (m.map (pv n)++b) (aap m.length (some IntKind.u64)++r)=true:=by
     intro m
     induction m with
     | nil=>exact h2
     | cons j m ih2=>simpa [mI,kOk,pv,aby] using ih2
    simpa using this (aan k)
   ·cases h
  | p id off=>cases h
  | s id off len cap=>cases h
  | f fn caps=>cases h
  | c id len=>cases h
  | g ik k m=>cases h
theorem Am(az:∀ t d,tab t=some d→TyOk P t d){o:Oper}{op:BinOp}{neg:Bool}(hop:(neg=false∧op = .eql)∨(neg=true∧op = .neq)){t u:aax}{x y:aav}(ho:o.op = .binOp op t x y u){d:Ty}(ht:tab t=some d)
  {l m:List It} (hx:AV.val ρ ⟨true,l⟩=some (val x)) (hy:AV.val ρ ⟨true,m⟩=some (val y)) {hint:Option Bool} {s:SV} {ob:List Prop} (h:V7 neg d l m hint=some (s,ob)):bc P ρ val o (.val s ob):=by
 intro ax
 cases hint with
 | none=>cases h
 | some b=>
  simp only [V7] at h
  split at h
  ·cases h
  ·rename_i hks
   split at h
   ·rename_i hk
    cases h
    have uE:=ax _ (aao.2 rfl)
    obtain ⟨vs,hv,G6⟩:=AV.cells hx
    obtain ⟨us,hu,hu'⟩:=AV.cells hy
    rcases G6 with ⟨_,ex⟩|⟨h0,_⟩
    case inr=>cases h0
    rcases hu' with ⟨_,ey⟩|⟨h0,_⟩
    case inr=>cases h0
    obtain ⟨e1,f1⟩:=wW _ _ hk.2.1 _ hv
    obtain ⟨e2,f2⟩:=wW _ _ hk.2.2 _ hu
    have zw2:=(az t d ht).kinds
    rcases zw2 with h0|⟨zEa,zw4⟩
    ·exact absurd h0 (by intro h0;exact hks h0)
    obtain ⟨i,ut,hi,hut,hs,ha,_⟩:=(az t d ht).facts
    refine ⟨_,jP ρ _,fun w=>?_⟩
    obtain ⟨r,hr,hr'⟩:=zcr (P:=P) 9992 8 t _ zEa w vs us f1 f2
    have zr4:∀ zs,Bj P t zs = .agg zs.toArray:=fun zs=>by simp only [Bj,hut,ha,hk.1,if_true]
    rw [zr4,zr4] at hr
    have hg:∀ w,(eqGuard op t x y (val x) (val y)).run P w = .ok () w:=fun w=>by
     rw [ex,ey];exact run_eqGuard_agg w op t x y _ _ zw4
    have er:r=b:=by
     rw [aek,hr',e1,e2];exact uE
    simp only [execOp,ho,aal,hg,aaj]
    rw [ex,ey]
    rcases hop with ⟨rfl,rfl⟩|⟨rfl,rfl⟩
    ·rw [run_eql_struct w t,show (10000:Nat)=9992+8 from rfl,hr,er]
     simp
    ·rw [run_neq_struct w t,show (10000:Nat)=9992+8 from rfl,hr,er]
     simp
   ·cases h
theorem EW(az:∀ t d,tab t=some d→TyOk P t d){o:Oper}{op:BinOp}{t u:aax}{x y:aav}(ho:o.op = .binOp op t x y u){d:Ty}(ht:tab t=some d)(hk:d.kinds=[none]∧d.agg=false)
  {a b:Bool} (hx:val x = .bool a) (hy:val y = .bool b) {s:SV} (h:Km op a b=some s):bc P ρ val o (.val s []):=by
 obtain ⟨i,ut,hi,hut,hs,ha,_⟩:=(az t d ht).facts
 have hu:P.underlying t=some .bool:=by
  rcases (az t d ht).kinds with h0|⟨hf,_⟩
  ·rw [hk.1] at h0;cases h0
  ·rw [hk.1] at hf
   rw [hk.2] at ha
   simp only [flat,hut] at hf
   cases ut<;>simp only [kX] at ha<;>first | exact hut | (cases hf;done) | (cases ha;done)
 have hg:∀ w,(eqGuard op t x y (val x) (val y)).run P w = .ok () w:=fun w=>by
  rw [hx,hy];cases op<;>simp [eqGuard]
 cases op<;>simp only [Km] at h<;>try (cases h;done)
 case eql=>
  cases h
  refine cG (jP ρ _) fun w=>?_
  simp only [execOp,ho,aal,hg,aaj]
  simp only [hx,hy,binOp,aal,run_equal_bool w t a b hu,aaj,aat]
 case neq=>
  cases h
  refine cG (jP ρ _) fun w=>?_
  simp only [execOp,ho,aal,hg,aaj]
  simp only [hx,hy,binOp,aal,run_equal_bool w t a b hu,aaj,aat]
theorem Y0(off:Nat):∀ (vs:List Value) (k:Nat) (cs:Array Value),off+k+vs.length≤cs.size →
  (vs.zipIdx k).foldl (fun (cs:Array Value) (p:Value×Nat)=>cs.setIfInBounds (off+p.2) p.1) cs=(cs.toList.take (off+k)++(vs++cs.toList.drop (off+k+vs.length))).toArray:=by
 intro vs
 induction vs with
 | nil=>intro k cs _;simp
 | cons v vs ih=>
  intro k cs h
  simp only [acA] at h
  simp only [List.zipIdx_cons,List.foldl_cons]
  rw [ih (k+1) _ (by simp;omega)]
  apply ac8
  simp only [Array.toList_setIfInBounds,acA]
  have hl:off+k<cs.toList.length:=by simp;omega
  rw [show off+(k+1)=(off+k)+1 by omega,List.take_succ_eq_append_getElem (by simpa using hl)]
  rw [List.getElem_set_self]
  rw [List.take_set_of_le (aaV _)]
  rw [List.drop_set_of_lt (by omega)]
  simp only [acs,abe,abO]
  rw [show off+k+1+vs.length=off+k+(vs.length+1) by omega]
theorem J5{d:Ty}{place:Nat→Option (Nat×Nat)}(hp:∀ i q,vZ d i=some q→place i=some q)(jL:∀ x s,ev x=some s→s.val ρ=some (val x)):
  ∀ (ps:List (Nat×aav)) (z r:List It) (zs:List Value),uG d ev z ps=some r→conc ρ z=some zs →
   ∃ rs,conc ρ r=some rs∧Instr.fill place zs.toArray (ps.map fun q=>(q.1,val q.2))=some rs.toArray:=by
 intro ps
 induction ps with
 | nil=>intro z r zs h hz;cases h;exact ⟨zs,hz,rfl⟩
 | cons q ps ih=>
  intro z r zs h hz
  obtain ⟨i,x⟩:=q
  simp only [uG] at h
  split at h
  ·rename_i off s y hpl hy
   split at h
   ·rename_i hs
    split at h
    ·rename_i r' hr'
     obtain ⟨us,hu,hv⟩:=AV.cells (qu jL hy)
     have e:(val x).cells=us.toArray:=by
      rcases hv with ⟨_,h⟩|⟨_,h⟩
      ·rw [h];rfl
      ·subst h
       rw [zQ (gZ _ _ hu _ (by simp))]
     obtain ⟨h1,h2⟩:=Du hr' hz hu
     have hl:us.length=s:=by rw [c7 _ _ hu,hs]
     obtain ⟨rs,h3,h4⟩:=ih r' r _ h h2
     refine ⟨rs,h3,?_⟩
     simp only [aaB,Instr.fill,hp _ _ hpl,e,abL,hl,ne_eq,not_true_eq_false,decide_false,Bool.false_or]
     rw [if_neg (by simp;omega)]
     rw [←h4]
     congr 1
     have:=Y0 off us 0 zs.toArray (by simp;omega)
     simp only [aaN] at this
     rw [←this,←Array.foldl_toList,Array.toList_zipIdx]
    ·cases h
   ·cases h
  ·cases h
theorem Qw(w:World):∀ (fs:List Field) (l:List (Nat×Nat×Bool)),fs.map (BR P)=l.map some →
  (fs.mapM fun f=>do pure (f.offset,←sizeOf f.type):Sem (List (Nat×Nat))).run P w = .ok (l.map fun q=>(q.1,q.2.1)) w:=by
 intro fs
 induction fs with
 | nil=>intro l h;cases l with
  | nil=>rfl
  | cons _ _=>cases h
 | cons f fs ih=>
  intro l h
  cases l with
  | nil=>cases h
  | cons q l=>
   simp only [aaB,aaM] at h
   obtain ⟨h1,h2⟩:=h
   unfold BR at h1
   split at h1
   ·rename_i s g hs
    cases h1
    obtain ⟨i,u,hi,hu,q9,_⟩:=l_ hs
    simp only [List.mapM_cons,aal,cu hi,aaj,aat,ih l h2,aaB,q9]
   ·cases h1
theorem LD(az:∀ t d,tab t=some d→TyOk P t d)(jL:∀ x s,ev x=some s→s.val ρ=some (val x)){o:Oper}{t:aax}{ps:Array (Nat×aav)}(ho:o.op = .build t ps){d:Ty}(ht:tab t=some d)
  {z r:List It} (hz:d.zero=some z) (hg:(d.agg&&(d.arr.isSome || !d.fields.isEmpty))=true) (hr:uG d ev z ps.toList=some r):bc P ρ val o (.val (.one ⟨true,r⟩) []):=by
 obtain ⟨i,u,hi,hu,hs,ha,YJ,hf,og,jX⟩:=(az t d ht).facts
 obtain ⟨zs,h1,h2⟩:=(az t d ht).zero z hz
 unfold zeroP at h2
 simp only [hi] at h2
 cases DL:i.zero with
 | none=>simp [DL] at h2
 | some zv=>
  simp only [DL,aag] at h2
  have hzr:∀ w,(zeroValue t).run P w = .ok zv w:=fun w=>by simp only [zeroValue,aal,run_typeInfo w hi,aaj,DL,aat]
  have Fh:zv.cells=zs.toArray:=by rw [←h2]
  have hps:(ps.map fun (x:Nat×aav)=>(x.1,val x.2)).toList=ps.toList.map fun q=>(q.1,val q.2):=by simp
  rw [aaf] at hg
  rw [hg.1] at ha
  cases u<;>simp only [kX] at ha<;>try (cases ha;done)
  case array n e=>
   have hfl:d.fields=[]:=by
    cases hfd:d.fields with
    | nil=>rfl
    | cons _ _=>rw [hfd] at hf;cases hf
   simp only [zin] at og
   split at og
   ·rename_i s g fD
    obtain ⟨ie,ue,kZ,hue,uY,_⟩:=l_ fD
    obtain ⟨rs,h3,h4⟩:=J5 (place:=fun i=>some (i*s,s)) (fun i q hq=>by
     unfold vZ at hq;rw [←og] at hq;exact hq) jL ps.toList z r zs hr (eR (ky ρ) _ _ h1)
    refine cG (v:=.agg rs.toArray) (by simp only [SV.val,AV.val,h3]) fun w=>?_
    simp only [execOp,ho,Instr.build,aal,hzr,aaj,run_underlying hu,cu kZ,uY,Fh]
    rw [show ((fun (x:Nat×aav)=>match x with | (i,x)=>(i,val x))=fun (x:Nat×aav)=>(x.1,val x.2)) from rfl,hps,h4]
    rfl
   ·have:=hg.2
    rw [←og,hfl] at this
    cases this
  case struct fs=>
   have zEp:d.arr=none:=og.symm
   obtain ⟨rs,h3,h4⟩:=J5 (place:=fun i=>(d.fields.map fun q=>(q.1,q.2.1)).toArray[i]?) (fun i q hq=>by
     unfold vZ at hq;rw [zEp] at hq
     simp only at hq
     split at hq
     ·rename_i off s g hi'
      cases hq
      simp [hi']
     ·cases hq) jL ps.toList z r zs hr (eR (ky ρ) _ _ h1)
   refine cG (v:=.agg rs.toArray) (by simp only [SV.val,AV.val,h3]) fun w=>?_
   have hm:(fs.mapM fun f=>do pure (f.offset,←sizeOf f.type):Sem (Array (Nat×Nat))).run P w = .ok (d.fields.map fun q=>(q.1,q.2.1)).toArray w:=by
    rw [Array.mapM_eq_mapM_toList,Sem.run_map,Qw w fs.toList d.fields hf]
    rfl
   simp only [execOp,ho,Instr.build,aal,hzr,aaj,run_underlying hu,hm,Fh]
   rw [show ((fun (x:Nat×aav)=>match x with | (i,x)=>(i,val x))=fun (x:Nat×aav)=>(x.1,val x.2)) from rfl,hps,h4]
   rfl
end
section
variable {P:aaE}{ρ:Rho}{tab:aax→Option Ty}{ev:aav→Option SV}{val:aav→Value}
theorem fo(b o:Nat)(j:Nat):(⟨b,o,none⟩:Addr).add j=⟨b,o+j,none⟩:=by unfold Addr.add;split<;>simp_all
theorem zlc(jL:∀ x s,ev x=some s→s.val ρ=some (val x)):∀ (l:List aav) (qs:List (Nat×Nat)),zcT ev l=some qs→gP ρ qs=some (l.map val):=by
 intro l
 induction l with
 | nil=>intro qs h;cases h;rfl
 | cons x l ih=>
  intro qs h
  simp only [zcT] at h
  split at h
  ·rename_i y ys hy hys
   split at h
   ·rename_i q hq
    cases h
    obtain ⟨id,off⟩:=q
    obtain ⟨r,hr,hx⟩:=dY hq (qu jL hy)
    simp only [gP,hr,ih _ hys,aaB,hx]
   ·cases h
  ·cases h
theorem zyQ(jL:∀ x s,ev x=some s→s.val ρ=some (val x)):∀ (l:List aav) (ys:List AV),avs ev l=some ys→ay ρ ys=some (l.map val):=by
 intro l
 induction l with
 | nil=>intro ys h;cases h;rfl
 | cons x l ih=>
  intro ys h
  simp only [avs] at h
  split at h
  ·rename_i y ys' hy hys
   cases h
   simp only [ay,qu jL hy,ih _ hys,aaB]
  ·cases h
theorem KY{a b:List AV}{x y:List Value}(ha:ay ρ a=some x)(hb:ay ρ b=some y):ay ρ (a++b)=some (x++y):=by
 induction a generalizing x with
 | nil=>cases ha;exact hb
 | cons v a ih=>
  simp only [ay] at ha
  split at ha
  ·rename_i u us hu BM
   cases ha
   simp only [abe,ay,hu,ih BM]
  ·cases ha
theorem WG:∀ (caps:List (Nat×Nat)) (vs:List Value),gP ρ caps=some vs→ay ρ (caps.map fun q=>(⟨false,[.p q.1 q.2]⟩:AV))=some vs:=by
 intro caps
 induction caps with
 | nil=>intro vs h;cases h;rfl
 | cons c caps ih=>
  intro vs h
  simp only [gP] at h
  split at h
  ·rename_i q us hq BM
   cases h
   have:AV.val ρ ⟨false,[.p c.1 c.2]⟩=some (mo q c.2):=AV.val_mk (by simp only [It.cs,hq])
   simp only [aaB,ay,this,ih _ BM]
  ·cases h
theorem zf2{fn:aaz}{caps:List (Nat×Nat)}{v:Value}(hv:AV.val ρ ⟨false,[.f fn caps]⟩=some v):∃ vs,gP ρ caps=some vs∧v = .func (.func fn) #[] vs.toArray:=by
 have:=AV.val_one hv
 simp only [It.cs] at this
 split at this
 ·rename_i q hq;cases this;exact ⟨q,hq,rfl⟩
 ·cases this
theorem Qm(jL:∀ x s,ev x=some s→s.val ρ=some (val x)){o:Oper}{c:Call}(ho:o.op = .call c){f:aav}(hc:c.callee = .value f){fn:aaz}{caps:List (Nat×Nat)}(hf:av ev f=some ⟨false,[.f fn caps]⟩)
  {args:List AV} (ha:avs ev c.args.toList=some args):bc P ρ val o (.call fn (args++caps.map fun q=>⟨false,[.p q.1 q.2]⟩)):=by
 obtain ⟨vs,h1,h2⟩:=zf2 (qu jL hf)
 refine ⟨_,KY (zyQ jL _ _ ha) (WG _ _ h1),fun w=>?_⟩
 simp only [execOp,ho,resolve,hc,h2,Deferred.ofValue,aal,aat,aaj,invoke]
 congr 2
 apply ac8
 simp
theorem yn(az:∀ t d,tab t=some d→TyOk P t d){o:Oper}{c:Call}(ho:o.op = .call c)(hc:c.callee = .builtin .len){x:aav}{t:aax}(h1:c.args.toList=[x])(h2:c.argTypes.toList=[t])
  {d:Ty} (ht:tab t=some d) {s:Nat} (hs:d.sl=some s) {a:Option Addr} {n m:Nat} (hx:val x = .slice a n m):bc P ρ val o (.val (vI .i64 (n:Int)) []):=by
 obtain ⟨i,u,hi,hu,_,_,_,_,_,jX⟩:=(az t d ht).facts
 rw [hs] at jX
 obtain ⟨e,ie,rfl,_⟩:=jC jX
 have e1:c.args = #[x]:=by rw [←h1]
 have e2:c.argTypes = #[t]:=by rw [←h2]
 refine cG (jg ρ _ _) fun w=>?_
 simp only [execOp,ho,resolve,hc,e1,e2,aal,aat,aaj,invoke,builtin,Builtin.len_,hx,acd,aaB,acw,
  aba,abo,run_underlying hu,goInt]
theorem Gb(az:∀ t d,tab t=some d→TyOk P t d){o:Oper}{c:Call}(ho:o.op = .call c)(hc:c.callee = .builtin .cap){x:aav}{t:aax}(h1:c.args.toList=[x])(h2:c.argTypes.toList=[t])
  {d:Ty} (ht:tab t=some d) {s:Nat} (hs:d.sl=some s) {a:Option Addr} {n m:Nat} (hx:val x = .slice a n m):bc P ρ val o (.val (vI .i64 (m:Int)) []):=by
 obtain ⟨i,u,hi,hu,_,_,_,_,_,jX⟩:=(az t d ht).facts
 rw [hs] at jX
 obtain ⟨e,ie,rfl,_⟩:=jC jX
 have e1:c.args = #[x]:=by rw [←h1]
 have e2:c.argTypes = #[t]:=by rw [←h2]
 refine cG (jg ρ _ _) fun w=>?_
 simp only [execOp,ho,resolve,hc,e1,e2,aal,aat,aaj,invoke,builtin,Builtin.cap_,hx,acd,aaB,acw,
  aba,abo,run_underlying hu,goInt]
theorem Xb{o:Oper}{c:Call}(ho:o.op = .call c)(hc:c.callee = .builtin .max){x y:aav}(h1:c.args.toList=[x,y]){k k':aaR}{a b:Int}(hx:val x = .int k a)(hy:val y = .int k' b):
  bc P ρ val o (.val (vI k (if b>a then b else a)) []):=by
 have e1:c.args = #[x,y]:=by rw [←h1]
 refine cG (jg ρ _ _) fun w=>?_
 simp [execOp,ho,resolve,hc,e1,invoke,builtin,Builtin.max_,hx,hy,Builtin.max2]
theorem CG(az:∀ t d,tab t=some d→TyOk P t d){o:Oper}{c:Call}(ho:o.op = .call c)(hc:c.callee = .builtin .copy){x y:aav}{t:aax}{ts:List aax}(h1:c.args.toList=[x,y])(h2:c.argTypes.toList=t::ts)
  {d:Ty} (ht:tab t=some d) {s:Nat} (hs:d.sl=some s) {did sid:Nat} {qd qs:Nat×Nat} {doff Eb zya soff A5 zBM:Nat} (hqd:ρ.at did=some qd) (hqs:ρ.at sid=some qs)
  (hx:val x = .slice (some ⟨qd.1,qd.2+doff,none⟩) Eb zya) (hy:val y = .slice (some ⟨qs.1,qs.2+soff,none⟩) A5 zBM) :
  bc P ρ val o (.copy did doff sid soff (ado A5 Eb*s) (ado A5 Eb)):=by
 obtain ⟨i,u,hi,hu,_,_,_,_,_,jX⟩:=(az t d ht).facts
 rw [hs] at jX
 obtain ⟨e,ie,rfl,kZ,uY⟩:=jC jX
 have e1:c.args = #[x,y]:=by rw [←h1]
 have e2:c.argTypes=(t::ts).toArray:=by rw [←h2]
 refine ⟨qd,qs,hqd,hqs,fun w vs hl hv=>?_⟩
 have zr0:=run_loadCells_list (P:=P) w ⟨qs.1,qs.2+soff,none⟩ vs (fun j v hj=>by
  rw [fo,aa4];exact hv j v hj)
 rw [hl] at zr0
 simp only [execOp,ho,resolve,hc,e1,e2,aal,aat,aaj,invoke,builtin,Builtin.copy_,hx,hy,acd,aaB,acw,
  aba,abo,abW,run_underlying hu,Builtin.lenOf,cu kZ,uY,adF,zr0,goInt]
 cases (storeCells ⟨qd.1,qd.2+doff,none⟩ vs).run P w<;>rfl
theorem yA(w:World)(t ty e:aax)(i:adE)(ht:P.underlying t=some (.slice e))(hi:P.info? e=some i)(g Qu zuA:Nat)(t':aax)(jY:Array Value)(hg:w.heap[g]? = some (.cells jY t' (0,0)))
  (a:Addr) (m c:Nat) (news:List Value) (hl:news.length=m*i.size) (Vl:∀ j u,news[j]? = some u→w.cell? (a.add j)=some u) (h1:∀ u∈news,u.oneCell'=true) (zDY:Qu+m≤zuA) (Nb:Qu*i.size+news.length≤jY.size) :
  (adX #[t,t] ty #[.slice (some ⟨g,0,none⟩) Qu zuA,.slice (some a) m c]).run P w =
   .ok (.slice (some ⟨g,0,none⟩) (Qu+m) zuA) (w.setRow g (jY.toList.take (Qu*i.size)++news++jY.toList.drop (Qu*i.size+news.length)).toArray):=by
 have hf:=run_firstCells_some (P:=P) w i.size m a m c news hl Vl
 have jd:=run_storeCells_at P g (Qu*i.size) t' news 0 jY w hg (by simpa using Nb) h1
 simp only [aaN] at jd
 simp [adX,run_underlying ht,sizeOf,typeInfo,hi,Builtin.lenOf,zDY,hf,Addr.add_lit,jd]
theorem rc(z:Array Value)(n:Nat):(aa6 z n).toList.length=n*z.size:=by
 unfold aa6
 simp
theorem DR{o:Oper}{c:Call}(ho:o.op = .call c)(hc:c.callee = .builtin .append){x y:aav}{t tx e:aax}{ie:adE}{z:Value}(e1:c.args = #[x,y])(e2:c.argTypes = #[t,tx])
  (hu:P.underlying t=some (.slice e)) (kZ:P.info? e=some ie) (hz:ie.zero=some z) (Fh:z.cells.size=ie.size) (RK:ie.bytes≤1024) (w:World) {base:Option Addr} {len cap m:Nat} {vs us:List Value} (kh:vs.length=len*ie.size)
  (hold:(adF ie.size len (.slice base len cap)).run P w.drew = .ok vs.toArray w.drew) (hx:val x = .slice base len cap) (hs:Src P ie.size tx (val y) m us w) (hg:cap<len+m) (hsm:len+m≤100000) :
  Wm P val o w ie.size (len+m) (vs++us):=by
 have Nb:adt (len+m) cap*ie.bytes≤281474976710656:=growslice_fits hg (abt (acf hsm RK) (by omega))
 have eN:=fun ty=>run_append_grow_src (P:=P) w t tx ty e ie z hu kZ hz base len cap vs hold (val y) m us hs hg (by omega) Nb
 have hk:len+m≤grownCap w (len+m) cap e:=by unfold grownCap Question.cut;exact acW _ _
 refine ⟨grownCap w (len+m) cap e,(aa6 z.cells (grownCap w (len+m) cap e-(len+m))).toList,e,?_,hk,?_⟩
 ·rw [rc,Fh,aaX,kh,hs.newsLen,←aaD,←aaD]
  congr 1
  omega
 have og:((vs++us).toArray++aa6 z.cells (grownCap w (len+m) cap e-(len+m)))=(vs++us++(aa6 z.cells (grownCap w (len+m) cap e-(len+m))).toList).toArray:=by
  apply ac8
  simp
 simp only [execOp,ho,resolve,hc,e1,e2,aal,aat,aaj,invoke,builtin,acd,aaB,acw,hx,eN,og]
theorem sc(az:∀ t d,tab t=some d→TyOk P t d){t:aax}{d:Ty}(ht:tab t=some d){s:Nat}(h:sd d=some s):1≤s∧∃ e ie z,P.underlying t=some (.slice e)∧P.info? e=some ie∧ie.zero=some z∧z.cells.size=ie.size∧ie.size=s∧ie.bytes≤1024 ∧
  ∃ l,d.ez=some l∧conc rho0 l=some z.cells.toList:=by
 unfold sd at h
 split at h
 ·rename_i s' l hs hz
  split at h
  ·rename_i hb
   cases h
   rw [aaf,aaf] at hb
   obtain ⟨i,u,hi,hu,_,_,_,_,_,jX⟩:=(az t d ht).facts
   rw [hs] at jX
   obtain ⟨e,ie,rfl,kZ,uY⟩:=jC jX
   obtain ⟨e1,vs,hu1,Z2,hz1⟩:=(az t d ht).ez l hz
   rw [hu] at hu1;cases hu1
   obtain ⟨e2,i2,hu2,Vo,tP⟩:=(az t d ht).mk8 hb.1
   rw [hu] at hu2;cases hu2
   rw [kZ] at Vo;cases Vo
   unfold zeroP at hz1
   rw [kZ] at hz1
   simp only at hz1
   cases DL:ie.zero with
   | none=>rw [DL] at hz1;cases hz1
   | some zv=>
    rw [DL] at hz1
    simp only [aag] at hz1
    have hl:=c7 _ _ Z2
    have e3:=aas hb.2.1
    refine ⟨aaL hb.2.2,e,ie,zv,hu,kZ,DL,?_,uY,tP,l,hz,by rw [hz1];exact Z2⟩
    rw [←abx,hz1,hl,e3,uY]
  ·cases h
 ·cases h
theorem zbP{s:Nat}{y:AV}{yid yoff m:Nat}(h:zbQ s y=some (yid,yoff,m)){v:Value}(hv:y.val ρ=some v):∃ q cap,ρ.at yid=some q∧v = .slice (some ⟨q.1,q.2+yoff,none⟩) m cap:=by
 unfold zbQ at h
 split at h
 ·cases h
  obtain ⟨q,hq,rfl⟩:=aY hv
  exact ⟨q,_,hq,rfl⟩
 ·split at h
  ·rename_i hb
   cases h
   rw [aaf,aaf] at hb
   exact j3 hv hb.1 (aaL hb.2.2)
  ·cases h
 ·cases h
theorem yl{s m:Nat}{t e:aax}(hu:P.underlying t=some (.slice e)){y:aav}{q:Nat×Nat}{yoff cap:Nat}(hy:val y = .slice (some ⟨q.1,q.2+yoff,none⟩) m cap)(w:World)(us:List Value)(hlu:us.length=m*s)
  (hcu:∀ i v,us[i]? = some v→w.cell? ⟨q.1,q.2+(yoff+i),none⟩=some v) (uD:∀ u∈us,u.oneCell'=true):Src P s t (val y) m us w:=by
 rw [hy]
 exact Src.ofSlice w hu _ m cap us hlu (fun j v hj=>by rw [fo,aa4];exact hcu j v hj) uD
theorem CK(az:∀ t d,tab t=some d→TyOk P t d){o:Oper}{c:Call}(ho:o.op = .call c)(hc:c.callee = .builtin .append){x y:aav}{t:aax}(e1:c.args = #[x,y])(e2:c.argTypes = #[t,t])
  {d:Ty} (ht:tab t=some d) {s:Nat} (zh:sd d=some s) {xid yid:Nat} {qx qy:Nat×Nat} {xoff xlen xX yoff m KP:Nat} (G7:ρ.at xid=some qx) (M3:ρ.at yid=some qy)
  (hx:val x = .slice (some ⟨qx.1,qx.2+xoff,none⟩) xlen xX) (hy:val y = .slice (some ⟨qy.1,qy.2+yoff,none⟩) m KP) (hg:xX<xlen+m) (hsm:xlen+m≤100000) :
  bc P ρ val o (.app false s xid xoff xlen yid yoff m):=by
 obtain ⟨AJ,e,ie,z,hu,kZ,hz,Fh,rfl,RK,_⟩:=sc az ht zh
 refine ⟨qx,qy,G7,M3,AJ,fun w us hlu hcu uD=>?_⟩
 intro vs kh hcv
 exact DR ho hc e1 e2 hu kZ hz Fh RK w kh (run_firstCells_some w.drew ie.size xlen _ xlen xX vs kh (fun j v hj=>by rw [fo,aa4];exact hcv j v hj)) hx (yl hu hy w us hlu hcu uD) hg hsm
theorem CI(az:∀ t d,tab t=some d→TyOk P t d){o:Oper}{c:Call}(ho:o.op = .call c)(hc:c.callee = .builtin .append){x y:aav}{t:aax}(e1:c.args = #[x,y])(e2:c.argTypes = #[t,t])
  {d:Ty} (ht:tab t=some d) {s:Nat} (zh:sd d=some s) {yid:Nat} {qy:Nat×Nat} {yoff m KP:Nat} (M3:ρ.at yid=some qy)
  (hx:val x = .slice none 0 0) (hy:val y = .slice (some ⟨qy.1,qy.2+yoff,none⟩) m KP) (hm:1≤m) (hsm:m≤100000) :
  bc P ρ val o (.app false s yid 0 0 yid yoff m):=by
 obtain ⟨AJ,e,ie,z,hu,kZ,hz,Fh,rfl,RK,_⟩:=sc az ht zh
 refine ⟨qy,qy,M3,M3,AJ,fun w us hlu hcu uD=>?_⟩
 intro vs kh _
 have hv0:vs=[]:=ab4.1 (by rw [kh,Nat.zero_mul])
 subst hv0
 exact DR ho hc e1 e2 hu kZ hz Fh RK w (by simp) (run_firstCells_none w.drew ie.size 0 0 0) hx (yl hu hy w us hlu hcu uD) (by omega) (by omega)
theorem CJ(az:∀ t d,tab t=some d→TyOk P t d){o:Oper}{c:Call}(ho:o.op = .call c)(hc:c.callee = .builtin .append){x y:aav}{t:aax}(e1:c.args = #[x,y])(e2:c.argTypes = #[t,t])
  {d:Ty} (ht:tab t=some d) {s:Nat} (zh:sd d=some s) {xid yid:Nat} {qx qy:Nat×Nat} {xlen yoff m KP:Nat} (G7:ρ xid=some qx) (M3:ρ.at yid=some qy)
  (hx:val x = .slice (some ⟨qx.1,0,none⟩) xlen (qx.2/s)) (hy:val y = .slice (some ⟨qy.1,qy.2+yoff,none⟩) m KP) (hsm:xlen+m≤100000) :
  bc P ρ val o (.app true s xid 0 xlen yid yoff m):=by
 obtain ⟨AJ,e,ie,z,hu,kZ,hz,Fh,rfl,RK,_⟩:=sc az ht zh
 refine ⟨qx,qy,G7,M3,AJ,fun w us hlu hcu uD=>?_⟩
 intro jY tt Na xh hle
 have hu':∀ j v,us[j]? = some v→w.cell? ((⟨qy.1,qy.2+yoff,none⟩:Addr).add j)=some v:=fun j v hj=>by rw [fo,aa4];exact hcu j v hj
 by_cases hr:xlen+m≤qx.2/ie.size
 ·have Nb:(xlen+m)*ie.size≤qx.2:=by
   have:=aaI ie.size hr
   exact abt this (Nat.div_mul_le_self _ _)
  refine .inr ⟨by omega,?_⟩
  have eN:=fun ty=>yA (P:=P) w t ty e ie hu kZ qx.1 xlen (qx.2/ie.size) tt jY Na _ m KP us hlu hu' uD hr (by rw [hlu,←aaD];omega)
  rw [hlu,←aaD] at eN
  simp only [execOp,ho,resolve,hc,e1,e2,aal,aat,aaj,invoke,builtin,acd,aaB,acw,hx,hy,eN]
 ·refine .inl ?_
  have hlt:(jY.toList.take (xlen*ie.size)).length=xlen*ie.size:=by rw [abd,abx];omega
  refine DR ho hc e1 e2 hu kZ hz Fh RK w hlt (run_firstCells_some w.drew ie.size xlen _ xlen _ _ hlt fun j v hj=>?_) hx (yl hu hy w us hlu hcu uD) (by omega) hsm
  show w.cell? _=_
  rw [fo,cell_of_row w qx.1 _ _ tt _ Na,aay]
  rw [aa7] at hj
  split at hj
  ·simpa using hj
  ·cases hj
theorem zdD{y:AV}(h:zdE y=true){v:Value}(hv:y.val ρ=some v):(∃ a cap,v = .slice (some a) 0 cap)∨v = .slice none 0 0:=by
 unfold zdE at h
 split at h
 ·obtain ⟨q,hq,rfl⟩:=aY hv
  exact .inl ⟨_,_,rfl⟩
 ·obtain ⟨q,hq,_,_,rfl⟩:=dB hv
  exact .inl ⟨_,_,rfl⟩
 ·have:=AV.val_one hv
  simp only [It.cs,abp,aag,aaM,and_true] at this
  exact .inr this.symm
 ·cases h
theorem ja(az:∀ t d,tab t=some d→TyOk P t d){o:Oper}{c:Call}(ho:o.op = .call c)(hc:c.callee = .builtin .append){x y:aav}{t:aax}(e1:c.args = #[x,y])(e2:c.argTypes = #[t,t])
  {d:Ty} (ht:tab t=some d) {s:Nat} (zh:sd d=some s) {base:Option Addr} {xlen xX:Nat} {X:AV} (hX:X.val ρ=some (val x)) (hx:val x = .slice base xlen xX) (hle:xlen≤xX) (hy:(∃ a cap,val y = .slice (some a) 0 cap)∨val y = .slice none 0 0) :
  bc P ρ val o (.val (.one X) []):=by
 obtain ⟨AJ,e,ie,z,hu,kZ,hz,Fh,rfl,RK,_⟩:=sc az ht zh
 refine cG (v:=val x) hX fun w=>?_
 have hs:Src P ie.size t (val y) 0 [] w:=by
  rcases hy with ⟨a,cap,hy⟩|hy
  ·rw [hy];exact Src.ofSlice w hu a 0 cap [] (by simp) (fun j u hj=>by cases hj) (fun u hu=>by cases hu)
  ·rw [hy];exact Src.ofNil w hu 0
 have eN:=fun ty=>run_append_nothing (P:=P) w t t ty e ie hu kZ base xlen xX hle (val y) hs
 simp only [execOp,ho,resolve,hc,e1,e2,aal,aat,aaj,invoke,builtin,acd,aaB,acw,hx,eN]
theorem iE{v:Value}(h:AV.val ρ ⟨false,[.v (.slice none 0 0)]⟩=some v):v = .slice none 0 0:=by
 have:=AV.val_one h
 simp only [It.cs,abp,aag,aaM,and_true] at this
 exact this.symm
theorem EX(az:∀ t d,tab t=some d→TyOk P t d){o:Oper}{c:Call}(ho:o.op = .call c)(hc:c.callee = .builtin .append){x y:aav}{t:aax}(e1:c.args = #[x,y])(e2:c.argTypes = #[t,t])
  {d:Ty} (ht:tab t=some d) {X Y:AV} (hX:X.val ρ=some (val x)) (hY:Y.val ρ=some (val y)) {p:Plan} (h:Kx d X Y=some p):bc P ρ val o p:=by
 unfold Kx at h
 split at h
 ·rename_i s zh hn
  have hy:=zdD hn hY
  split at h
  ·split at h
   ·rename_i hle
    cases h
    obtain ⟨q,hq,hv⟩:=aY hX
    exact ja az ho hc e1 e2 ht zh hX hv (aaL hle) hy
   ·cases h
  ·cases h
   obtain ⟨q,hq,h1,h2,hv⟩:=dB hX
   unfold pf at hv
   exact ja az ho hc e1 e2 ht zh hX hv ((abM (by omega)).2 (by omega)) hy
  ·cases h
   exact ja az ho hc e1 e2 ht zh hX (iE hX) (aaV 0) hy
  ·cases h
 ·rename_i s zh hn
  split at h
  ·rename_i yid yoff m hs
   obtain ⟨qy,KP,M3,hvy⟩:=zbP hs hY
   split at h
   ·split at h
    ·rename_i hb
     cases h
     rw [aaf] at hb
     obtain ⟨qx,G7,Z1⟩:=aY hX
     exact CK az ho hc e1 e2 ht zh G7 M3 Z1 hvy (aaL hb.1) (aaL hb.2)
    ·cases h
   ·split at h
    ·rename_i hb
     cases h
     rw [aaf] at hb
     have es:=aas hb.1
     subst es
     obtain ⟨qx,G7,h1,h2,Z1⟩:=dB hX
     refine CJ az ho hc e1 e2 ht zh G7 M3 ?_ hvy (aaL hb.2)
     rw [Z1]
     unfold pf
     simp
    ·cases h
   ·split at h
    ·rename_i hb
     cases h
     rw [aaf] at hb
     exact CI az ho hc e1 e2 ht zh M3 (iE hX) hvy (aaL hb.1) (aaL hb.2)
    ·cases h
   ·cases h
  ·cases h
 ·cases h
theorem LC(az:∀ t d,tab t=some d→TyOk P t d){o:Oper}{c:Call}(ho:o.op = .call c)(hc:c.callee = .builtin .clear){x:aav}{t:aax}{ts:List aax}(h1:c.args.toList=[x])(h2:c.argTypes.toList=t::ts)
  {d:Ty} (ht:tab t=some d) {i:It} (hs:d.slz=some i) {id:Nat} {q:Nat×Nat} {off len cap:Nat} (hq:ρ.at id=some q)
  (hx:val x = .slice (some ⟨q.1,q.2+off,none⟩) len cap):bc P ρ val o (.clear id off (aap len i)):=by
 obtain ⟨e,v,hu,Z2,hz⟩:=(az t d ht).slz i hs
 unfold zeroP at hz
 have e1:c.args = #[x]:=by rw [←h1]
 have e2:c.argTypes=(t::ts).toArray:=by rw [←h2]
 cases kZ:P.info? e with
 | none=>simp [kZ] at hz
 | some ie=>
  cases DL:ie.zero with
  | none=>simp [kZ,DL] at hz
  | some zv=>
   simp only [kZ,DL,aag] at hz
   have Fh:zv.cells = #[v]:=by rw [←hz]
   have zEl:conc ρ (aap len i)=some (aap len v):=by
    clear hx
    induction len with
    | zero=>rfl
    | succ n ih=>exact en (It.cs_le (ky ρ) _ _ Z2) ih
   refine ⟨q,_,hq,zEl,fun w=>?_⟩
   have hzr:(zeroValue e).run P w = .ok zv w:=by simp only [zeroValue,aal,run_typeInfo w kZ,aaj,DL,aat]
   have RI:(aa6 #[v] len).toList=aap len v:=by
    unfold aa6
    apply adm
    ·simp
    ·intro j h1 h2;simp [Nat.mod_one]
   cases len with
   | zero=>simp [execOp,ho,resolve,hc,e1,e2,invoke,builtin,Builtin.clear_,hx,run_underlying hu,storeCells]
   | succ n=>
    simp only [execOp,ho,resolve,hc,e1,e2,aal,aat,aaj,invoke,builtin,Builtin.clear_,hx,acd,aaB,acw,
     aba,abo,run_underlying hu,hzr,Fh,RI]
    cases (storeCells ⟨q.1,q.2+off,none⟩ (aap (n+1) v)).run P w<;>rfl
theorem CE(jL:∀ x s,ev x=some s→s.val ρ=some (val x)){o:Oper}{f:aaz}{first caps:Array aav}(ho:o.op = .makeFunc (.func f) first caps)(h0:first.size=0){qs:List (Nat×Nat)}(hq:zcT ev caps.toList=some qs):
  bc P ρ val o (.val (iG (.f f qs)) []):=by
 have e:first = #[]:=by simpa using h0
 refine cG (v:=.func (.func f) #[] (caps.map val)) ?_ fun w=>?_
 ·refine AV.val_mk ?_
  simp only [It.cs,zlc jL _ _ hq]
  congr 3
  apply ac8
  simp
 ·simp only [execOp,ho,e,Instr.makeFunc,aal,aat,aaj,Array.map_empty]
theorem zh4(jL:∀ x s,ev x=some s→s.val ρ=some (val x)){x:aav}{zw l:Nat}(h:eT ev zw (some x)=some l):∃ k,val x = .int k (l:Int):=by
 simp only [eT] at h
 split at h
 ·rename_i y hy
  split at h
  ·rename_i k i hi
   split at h
   ·rename_i h0
    cases h
    refine ⟨k,?_⟩
    rw [dH hi (qu jL hy),aa2 h0]
   ·cases h
  ·cases h
 ·cases h
def gQ(val:aav→Value)(zw:Nat)(x:Option aav)(l:Nat):Prop:=match x with
 | none=>l=zw
 | some x=>∃ k,val x = .int k (l:Int)
theorem gp(jL:∀ x s,ev x=some s→s.val ρ=some (val x)){x:Option aav}{zw l:Nat}(h:eT ev zw x=some l):gQ val zw x l:=by
 cases x with
 | none=>simp only [eT,aag] at h;exact h.symm
 | some x=>exact zh4 jL h
theorem lE(jL:∀ x s,ev x=some s→s.val ρ=some (val x)){x:Option aav}{zw l:Nat}{ob:List Prop}(h:oj ev zw x=some (l,ob))(ax:∀ p∈ob,p):gQ val zw x l:=by
 cases x with
 | none=>simp only [oj] at h;cases h;rfl
 | some x=>
  simp only [oj] at h
  split at h
  ·rename_i y hy
   split at h
   ·rename_i k i hi
    cases h
    have h0:0≤i:=ax _ (aao.2 rfl)
    refine ⟨k,?_⟩
    rw [dH hi (qu jL hy),aa2 h0]
   ·cases h
  ·cases h
theorem dz{x:Value}{k:aaR}{l y:Nat}(hx:x = .int k (l:Int))(h:l≤y)(code:BoundsCode)(w:World):(aef x y code).run P w = .ok l w:=by
 subst hx
 have:(0:Int)≤l∧(l:Int)≤y:=⟨by omega,by omega⟩
 simp [aef,asIntOf,this]
theorem j7{isSlice:Bool}{len cap:Nat}{lo hi:Option aav}{l h:Nat}(hl:gQ val 0 lo l)(hh:gQ val len hi h)(h1:l≤h)(h2:h≤cap)(w:World):
  (abY isSlice len cap (lo.map val) (hi.map val) none).run P w = .ok (l,h,cap) w:=by
 cases hi with
 | none=>
  have hh:h=len:=hh
  subst hh
  cases lo with
  | none=>have hl:l=0:=hl;subst hl;simp [abY]
  | some x=>
   obtain ⟨k,hx⟩:=hl
   simp [abY,dz hx h1]
 | some y=>
  obtain ⟨k',hy⟩:=hh
  cases lo with
  | none=>have hl:l=0:=hl;subst hl;simp [abY,dz hy h2]
  | some x=>
   obtain ⟨k,hx⟩:=hl
   simp [abY,dz hx h1,dz hy h2]
theorem CC(az:∀ t d,tab t=some d→TyOk P t d){o:Oper}{t:aax}{x:aav}{lo hi:Option aav}(ho:o.op = .slice t x lo hi none){d:Ty}(ht:tab t=some d)
  {n s:Nat} {g:Bool} (ha:d.arr=some (n,s,g)) {q:Nat×Nat} {id off:Nat} (hq:ρ.at id=some q) (hx:val x=mo q off) {l h:Nat} (hl:gQ val 0 lo l) (hh:gQ val n hi h) (h1:l≤h) (h2:h≤n) :
  bc P ρ val o (.val (iG (.s id (if n=l then off else off+l*s) (h-l) (n-l))) []):=by
 obtain ⟨i,u,hi',hu,_,_,_,_,og,_⟩:=(az t d ht).facts
 rw [ha] at og
 obtain ⟨e,ie,ue,rfl,kZ,_,uY,_⟩:=xJ og
 refine cG (bu hq _ _ _) fun w=>?_
 simp only [execOp,ho,adq,aal,run_underlying hu,aaj,hx,mo,adg,aat,ac4,j7 hl hh h1 h2,cu kZ,uY]
 by_cases hc:n=l
 ·simp [hc]
 ·simp [hc,fo,aa4]
theorem tC(az:∀ t d,tab t=some d→TyOk P t d){o:Oper}{t:aax}{x:aav}{lo hi:Option aav}(ho:o.op = .slice t x lo hi none){d:Ty}(ht:tab t=some d)
  {s:Nat} (ha:d.sl=some s) {q:Nat×Nat} {id off len cap:Nat} (hq:ρ.at id=some q) (hx:val x = .slice (some ⟨q.1,q.2+off,none⟩) len cap) {l h:Nat} (hl:gQ val 0 lo l) (hh:gQ val len hi h) (h1:l≤h) (h2:h≤cap) :
  bc P ρ val o (.val (iG (.s id (if cap=l then off else off+l*s) (h-l) (cap-l))) []):=by
 obtain ⟨i,u,hi',hu,_,_,_,_,_,jX⟩:=(az t d ht).facts
 rw [ha] at jX
 obtain ⟨e,ie,rfl,kZ,uY⟩:=jC jX
 refine cG (bu hq _ _ _) fun w=>?_
 simp only [execOp,ho,adq,ad0,aal,run_underlying hu,aaj,hx,ac4,j7 hl hh h1 h2,cu kZ,uY,aat]
 by_cases hc:cap=l
 ·simp [hc]
 ·simp [hc,fo,aa4]
theorem SH{q:Nat×Nat}{s adr off len l h:Nat}(AJ:1≤s)(hb:off+len*s≤q.2)(h1:l≤h)(h2:h≤len):
  Value.slice (if (q.2-off)/s=l then some ⟨q.1,if (q.2-off)/s=0 then adr else off,none⟩ else some (Addr.add ⟨q.1,if (q.2-off)/s=0 then adr else off,none⟩ (l*s))) (h-l) ((q.2-off)/s-l)=pf q s (if l=0 then adr else off) (off+l*s) (h-l):=by
 have e:(q.2-(off+l*s))/s=(q.2-off)/s-l:=by
  rw [Nat.sub_add_eq,Nat.mul_comm l s,Nat.sub_mul_div]
 have hlc:len≤(q.2-off)/s:=(abM (by omega)).2 (by omega)
 unfold pf
 rw [e]
 generalize (q.2-off)/s=c at *
 by_cases hl:l=0
 ·subst hl
  by_cases hc:c=0
  ·simp [hc]
  ·simp [hc,fo]
 ·have hc0:¬c=0:=by omega
  by_cases hc:c=l
  ·subst hc
   simp [hc0]
  ·have:¬c-l=0:=by omega
   simp [hc0,hc,hl,this,fo]
theorem vF(az:∀ t d,tab t=some d→TyOk P t d){o:Oper}{t:aax}{x:aav}{lo hi:Option aav}(ho:o.op = .slice t x lo hi none){d:Ty}(ht:tab t=some d)
  {s:Nat} (ha:d.sl=some s) {q:Nat×Nat} {id adr off len:Nat} (hq:ρ id=some q) (AJ:1≤s) (hb:off+len*s≤q.2) (hx:val x=pf q s adr off len) {l h:Nat} (hl:gQ val 0 lo l) (hh:gQ val len hi h) (h1:l≤h) (h2:h≤len) :
  bc P ρ val o (.val (iG (.c id s (if l=0 then adr else off) (off+l*s) (h-l))) []):=by
 obtain ⟨i,u,hi',hu,_,_,_,_,_,jX⟩:=(az t d ht).facts
 rw [ha] at jX
 obtain ⟨e,ie,rfl,kZ,uY⟩:=jC jX
 have hlc:len≤(q.2-off)/s:=(abM (by omega)).2 (by omega)
 have hw:off+l*s+(h-l)*s≤q.2:=by
  have:l*s+(h-l)*s=h*s:=by rw [←aaD];congr 1;omega
  have h3:h*s≤len*s:=aaI s h2
  omega
 refine cG (Hl hq AJ hw) fun w=>?_
 rw [←SH AJ hb h1 h2]
 unfold pf at hx
 simp only [execOp,ho,adq,ad0,aal,run_underlying hu,aaj,hx,ac4,j7 hl hh h1 (abt h2 hlc),cu kZ,uY,aat]
 rfl
theorem yz{len cap d1 d2:Nat}{lo:Option aav}{hi mx:aav}{l h m:Nat}(hl:gQ val 0 lo l)(hh:gQ val d1 (some hi) h)(hm:gQ val d2 (some mx) m)(h1:l≤h)(h2:h≤m)(h3:m≤cap)(w:World):
  (abY true len cap (lo.map val) (some (val hi)) (some (val mx))).run P w = .ok (l,h,m) w:=by
 obtain ⟨k',hy⟩:=hh
 obtain ⟨k'',hz⟩:=hm
 cases lo with
 | none=>have hl:l=0:=hl;subst hl;simp [abY,dz hy h2,dz hz h3]
 | some x=>
  obtain ⟨k,hx⟩:=hl
  simp [abY,dz hx h1,dz hy h2,dz hz h3]
theorem pH(az:∀ t d,tab t=some d→TyOk P t d){o:Oper}{t:aax}{x hi mx:aav}{lo:Option aav}(ho:o.op = .slice t x lo (some hi) (some mx)){d:Ty}(ht:tab t=some d)
  {s:Nat} (ha:d.sl=some s) {q:Nat×Nat} {id off len cap d1 d2:Nat} (hq:ρ.at id=some q) (hx:val x = .slice (some ⟨q.1,q.2+off,none⟩) len cap) {l h m:Nat} (hl:gQ val 0 lo l) (hh:gQ val d1 (some hi) h) (hm:gQ val d2 (some mx) m) (h1:l≤h) (h2:h≤m) (h3:m≤cap) :
  bc P ρ val o (.val (iG (.s id (if m=l then off else off+l*s) (h-l) (m-l))) []):=by
 obtain ⟨i,u,hi',hu,_,_,_,_,_,jX⟩:=(az t d ht).facts
 rw [ha] at jX
 obtain ⟨e,ie,rfl,kZ,uY⟩:=jC jX
 refine cG (bu hq _ _ _) fun w=>?_
 simp only [execOp,ho,adq,ad0,aal,run_underlying hu,aaj,hx,ac3,yz hl hh hm h1 h2 h3,cu kZ,uY,aat]
 by_cases hc:m=l
 ·simp [hc]
 ·simp [hc,fo,aa4]
theorem CB(az:∀ t d,tab t=some d→TyOk P t d)(jL:∀ x s,ev x=some s→s.val ρ=some (val x)){o:Oper}{t:aax}{x:aav}{lo hi:Option aav}(ho:o.op = .slice t x lo hi none){d:Ty}(ht:tab t=some d)
  {s:Nat} (ha:d.sl=some s) {X:AV} (hX:X.val ρ=some (val x)) (hx:val x = .slice none 0 0) (hl:eT ev 0 lo=some 0) (hh:eT ev 0 hi=some 0):bc P ρ val o (.val (.one X) []):=by
 obtain ⟨i,u,hi',hu,_,_,_,_,_,jX⟩:=(az t d ht).facts
 rw [ha] at jX
 obtain ⟨e,ie,rfl,kZ,uY⟩:=jC jX
 refine cG (v:=val x) hX fun w=>?_
 simp only [execOp,ho,adq,ad0,aal,run_underlying hu,aaj,hx,ac4,j7 (gp jL hl) (gp jL hh) (aaV 0) (aaV 0),cu kZ,uY,aat]
 rfl
theorem nD(az:∀ t d,tab t=some d→TyOk P t d){o:Oper}{t:aax}{x:aav}(ho:o.op = .sliceToArrayPointer t x){d:Ty}(ht:tab t=some d)
  {n s:Nat} {g:Bool} (ha:d.arr=some (n,s,g)) {q:Nat×Nat} {id off len cap:Nat} (hq:ρ.at id=some q) (hx:val x = .slice (some ⟨q.1,q.2+off,none⟩) len cap) (hn:n≤len):bc P ρ val o (.val (iG (.p id off)) []):=by
 obtain ⟨i,u,hi',hu,_,_,_,_,og,_⟩:=(az t d ht).facts
 rw [ha] at og
 obtain ⟨e,ie,ue,rfl,kZ,_,uY,_⟩:=xJ og
 have:¬len<n:=by omega
 refine cG (C7 hq _) fun w=>?_
 simp [execOp,ho,Instr.arrayAt,run_underlying hu,hx,this,mo]
theorem A4(az:∀ t d,tab t=some d→TyOk P t d){o:Oper}{t:aax}{x:aav}{i:Nat}(ho:o.op = .fieldAddr t x i){d:Ty}(ht:tab t=some d){zdl s:Nat}{g:Bool}(hf:d.fields[i]? = some (zdl,s,g))(hs:s≠0)
  {q:Nat×Nat} {id off:Nat} (hq:ρ.at id=some q) (hx:val x=mo q off):bc P ρ val o (.val (iG (.p id (off+zdl))) []):=by
 obtain ⟨_,u,_,hu,_,_,_,hfs,_⟩:=(az t d ht).facts
 obtain ⟨Fs,f,n,uf,rfl,h1,h2,h3,h4,h5,h6⟩:=D6 hfs hf
 refine cG (C7 hq _) fun w=>?_
 simp only [execOp,ho,Instr.fieldAt,aal,run_underlying hu,aaj,h1,hx,mo,adg,aat,fieldPlace,cu h2,h5,hs,if_false,aeh,h4,fo,aa4]
theorem wo{t:aax}{u:acu}{i:adE}(hu:P.underlying t=some u)(hi:P.info? t=some i){l:List It}{vs:List Value}(hc:conc ρ l=some vs){off:Nat}{s:SV}(h:yM l off i.size (kX u)=some s):
  ∃ v,s.val ρ=some v∧∀ w,(part t vs.toArray off).run P w = .ok v w:=by
 unfold yM at h
 split at h
 ·rename_i r hr
  cases h
  obtain ⟨h1,h2⟩:=o_ hr hc
  cases ha:kX u with
  | true=>
   rw [ha] at h1 h2
   simp only [if_true] at h1 h2
   refine ⟨.agg ((vs.drop off).take i.size).toArray,by simp only [SV.val,AV.val,h2],fun w=>?_⟩
   unfold part
   simp only [aal,mR hu,aaj,ha,if_true,cu hi,aat]
   congr 2
   apply ac8
   rw [ads]
   simp [acZ]
  | false=>
   rw [ha] at h1 h2
   simp only [aaS,if_false] at h1 h2
   have hlt:off<vs.length:=by omega
   have e:(vs.drop off).take 1=[vs[off]]:=by
    rw [ack hlt,ac0,List.take_zero]
   rw [e] at h2
   refine ⟨vs[off],by simp only [SV.val,AV.val,h2],fun w=>?_⟩
   unfold part
   simp [mR hu,ha,hlt]
 ·cases h
theorem LB(az:∀ t d,tab t=some d→TyOk P t d){o:Oper}{t:aax}{x:aav}{i:Nat}(ho:o.op = .field t x i){d:Ty}(ht:tab t=some d){off s:Nat}{g:Bool}(hf:d.fields[i]? = some (off,s,g))
  {l:List It} (hx:AV.val ρ ⟨true,l⟩=some (val x)) {r:SV} (hr:yM l off s g=some r):bc P ρ val o (.val r []):=by
 obtain ⟨_,u,_,hu,_,_,_,hfs,_⟩:=(az t d ht).facts
 obtain ⟨Fs,f,n,uf,rfl,h1,h2,h3,h4,h5,h6⟩:=D6 hfs hf
 obtain ⟨vs,hc,hv⟩:=AV.cells hx
 rcases hv with ⟨_,ex⟩|⟨h0,_⟩
 case inr=>cases h0
 rw [←h5,←h6] at hr
 obtain ⟨v,qL,uX⟩:=wo h3 h2 hc hr
 refine cG qL fun w=>?_
 simp only [execOp,ho,Instr.field,aal,run_underlying hu,aaj,h1,ex,asAgg,aat,h4,uX]
theorem xe{y:AV}{n j:Nat}{v:Value}(h:sO n y=some j)(hv:y.val ρ=some v):∃ k,v = .int k (j:Int)∧j<n:=by
 unfold sO at h
 split at h
 ·rename_i k i hi
  split at h
  ·rename_i hb
   cases h
   exact ⟨k,by rw [dH hi hv,aa2 hb.1],by omega⟩
  ·cases h
 ·cases h
theorem CF(az:∀ t d,tab t=some d→TyOk P t d){o:Oper}{t:aax}{x i:aav}(ho:o.op = .indexAddr t x i){d:Ty}(ht:tab t=some d){n s:Nat}{g:Bool}(ha:d.arr=some (n,s,g))
  {q:Nat×Nat} {id off:Nat} (hq:ρ.at id=some q) (hx:val x=mo q off) {k:aaR} {j:Nat} (hi:val i = .int k (j:Int)) (hj:j<n):bc P ρ val o (.val (iG (.p id (off+j*s))) []):=by
 obtain ⟨_,u,_,hu,_,_,_,_,og,_⟩:=(az t d ht).facts
 rw [ha] at og
 obtain ⟨e,ie,ue,rfl,kZ,_,uY,_⟩:=xJ og
 refine cG (C7 hq _) fun w=>?_
 have hb:(0:Int)≤j∧(j:Int)<n:=⟨by omega,by omega⟩
 simp only [execOp,ho,Instr.indexAt,aal,hi,asIntOf,aat,aaj,run_underlying hu,hx,mo,adg]
 simp [hb,cu kZ,uY,fo,aa4]
theorem lI(az:∀ t d,tab t=some d→TyOk P t d){o:Oper}{t:aax}{x i:aav}(ho:o.op = .indexAddr t x i){d:Ty}(ht:tab t=some d){s:Nat}(ha:d.sl=some s)
  {q:Nat×Nat} {id off len cap:Nat} (hq:ρ.at id=some q) (hx:val x = .slice (some ⟨q.1,q.2+off,none⟩) len cap) {k:aaR} {j:Nat} (hi:val i = .int k (j:Int)) (hj:j<len):bc P ρ val o (.val (iG (.p id (off+j*s))) []):=by
 obtain ⟨_,u,_,hu,_,_,_,_,_,jX⟩:=(az t d ht).facts
 rw [ha] at jX
 obtain ⟨e,ie,rfl,kZ,uY⟩:=jC jX
 refine cG (C7 hq _) fun w=>?_
 have hb:(0:Int)≤j∧(j:Int)<len:=⟨by omega,by omega⟩
 simp only [execOp,ho,Instr.indexAt,aal,hi,asIntOf,aat,aaj,run_underlying hu,hx,mo]
 simp [hb,cu kZ,uY,fo,aa4]
theorem LA(az:∀ t d,tab t=some d→TyOk P t d){o:Oper}{t:aax}{x i:aav}(ho:o.op = .index t x i){d:Ty}(ht:tab t=some d){n s:Nat}{g:Bool}(ha:d.arr=some (n,s,g))
  {l:List It} (hx:AV.val ρ ⟨true,l⟩=some (val x)) {k:aaR} {j:Nat} (hi:val i = .int k (j:Int)) (hj:j<n) {r:SV} (hr:yM l (j*s) s g=some r):bc P ρ val o (.val r []):=by
 obtain ⟨_,u,_,hu,_,_,_,_,og,_⟩:=(az t d ht).facts
 rw [ha] at og
 obtain ⟨e,ie,ue,rfl,kZ,hue,uY,hge⟩:=xJ og
 obtain ⟨vs,hc,hv⟩:=AV.cells hx
 rcases hv with ⟨_,ex⟩|⟨h0,_⟩
 case inr=>cases h0
 rw [←hge] at hr
 have hr':=hr
 rw [←uY] at hr'
 obtain ⟨v,qL,uX⟩:=wo hue kZ hc hr'
 refine cG qL fun w=>?_
 have hb:(0:Int)≤j∧(j:Int)<n:=⟨by omega,by omega⟩
 simp only [execOp,ho,Instr.index,aal,hi,asIntOf,aat,aaj,run_underlying hu,ex,aeh,hb,and_self,if_true,cu kZ]
 rw [aam,uX]
 rfl
theorem zjN{l:List AV}{v:Value}(h:SV.val ρ (.tup l)=some v):∃ vs,ay ρ l=some vs∧v = .tuple vs.toArray:=by
 simp only [SV.val] at h
 split at h
 ·rename_i vs Pq;cases h;exact ⟨vs,Pq,rfl⟩
 ·cases h
theorem KX:∀ (l:List AV) (vs:List Value) (i:Nat) (y:AV),ay ρ l=some vs→l[i]? = some y→∃ v,y.val ρ=some v∧vs[i]? = some v:=by
 intro l
 induction l with
 | nil=>intro vs i y h hy;simp at hy
 | cons x l ih=>
  intro vs i y h hy
  simp only [ay] at h
  split at h
  ·rename_i u us hu BM
   cases h
   cases i with
   | zero=>simp only [abo,aag] at hy ⊢; subst hy;exact ⟨u,hu,rfl⟩
   | succ i=>simp only [abW] at hy ⊢; exact ih _ _ _ BM hy
  ·cases h
theorem EV{o:Oper}{x:aav}{i:Nat}(ho:o.op = .extract x i){l:List AV}(hx:SV.val ρ (.tup l)=some (val x)){y:AV}(hy:l[i]? = some y):bc P ρ val o (.val (.one y) []):=by
 obtain ⟨vs,h1,h2⟩:=zjN hx
 obtain ⟨v,h3,h4⟩:=KX _ _ _ _ h1 hy
 refine cG (v:=v) h3 fun w=>?_
 simp [execOp,ho,Instr.extract,h2,h4]
theorem OL{ρ:Rho}{l:List It}{vs:List Value}(h:conc ρ l=some vs):∀ n,conc ρ (aap n l).flatten=some (aap n vs).flatten:=by
 intro n
 induction n with
 | zero=>rfl
 | succ n ih=>rw [aby,ab5,aby,ab5];exact ij _ _ _ _ h ih
theorem yG(vs:List Value)(n:Nat):((aei (n*vs.length)).map (fun i=>(vs.toArray)[i%(vs.toArray).size]!)).toList=(aap n vs).flatten:=by
 have key:∀ n,(aan (n*vs.length)).map (fun i=>(vs.toArray)[i%(vs.toArray).size]!)=(aap n vs).flatten:=by
  intro n
  induction n with
  | zero=>simp
  | succ n ih=>
   rw [List.replicate_succ',List.flatten_append,List.flatten_singleton,←ih,abP]
   have:aan (n*vs.length+vs.length)=aan (n*vs.length)++(aan vs.length).map (n*vs.length + ·):=List.range_add
   rw [this,List.map_append,List.map_map]
   congr 1
   apply adm
   ·simp
   ·intro i h1 h2
    simp only [List.getElem_map,List.getElem_range,Function.comp_apply,abL]
    have:(n*vs.length+i)%vs.length=i:=by
     rw [Nat.mul_comm,Nat.mul_add_mod];exact Nat.mod_eq_of_lt h2
    rw [this]
    simp [h2]
 rw [←key n]
 simp
theorem yo(az:∀ t d,tab t=some d→TyOk P t d)(jL:∀ x s,ev x=some s→s.val ρ=some (val x)){o:Oper}{t:aax}{n:Nat}{ps:Array (Nat×aav)}(ho:o.op = .buildSlice t n ps){d:Ty}(ht:tab t=some d)
  {s:Nat} {l r:List It} (jX:d.sl=some s) (hez:d.ez=some l) (hs:gd l=s) (hn:n*s≤16777216) (hr:uG { d with arr:=some (n,s,true) } ev ((aap n l).flatten) ps.toList=some r):bc P ρ val o (.new r (some n)):=by
 obtain ⟨i,u,hi,hu,_,_,_,_,_,hsd⟩:=(az t d ht).facts
 obtain ⟨e,zs,hue,hz,hzp⟩:=(az t d ht).ez l hez
 rw [hu] at hue
 cases hue
 rw [jX] at hsd
 obtain ⟨e',ie,he,kZ,uY⟩:=jC hsd
 cases he
 have hzl:zs.length=s:=by rw [c7 _ _ hz,hs]
 have hz':=OL (eR (ky ρ) _ _ hz) n
 obtain ⟨rs,h3,h4⟩:=J5 (place:=fun i=>some (i*s,s)) (fun i q hq=>by unfold vZ at hq;simpa using hq) jL ps.toList _ r _ hr hz'
 have hps:(ps.map fun (x:Nat×aav)=>(x.1,val x.2)).toList=ps.toList.map fun q=>(q.1,val q.2):=by simp
 refine ⟨rs,e,h3,fun w=>?_⟩
 unfold zeroP at hzp
 simp only [kZ] at hzp
 cases DL:ie.zero with
 | none=>simp [DL] at hzp
 | some zv=>
  simp only [DL,aag] at hzp
  have hzr:∀ w,(zeroValue e).run P w = .ok zv w:=fun w=>by simp only [zeroValue,aal,run_typeInfo w kZ,aaj,DL,aat]
  have Fh:zv.cells=zs.toArray:=by rw [←hzp]
  have RM:¬n*s>2^24:=by
   have:(2:Nat)^24=16777216:=by decide
   omega
  simp only [execOp,ho,Instr.buildSlice,aal,run_underlying hu,aaj,cu kZ,uY,RM,if_false,aat]
  by_cases h0:n*s=0
  ·have e0:(aap n zs).flatten=[]:=by
    have:((aap n zs).flatten).length=0:=by simp [hzl,h0]
    exact ab4.1 this
   rw [e0] at h4
   simp only [h0,if_true,aal,aat,aaj]
   rw [show ((fun (x:Nat×aav)=>match x with | (i,x)=>(i,val x))=fun (x:Nat×aav)=>(x.1,val x.2)) from rfl,hps]
   have e1:(aei 0).map (fun i=>(#[]:Array Value)[i%(#[]:Array Value).size]!)=([]:List Value).toArray:=by simp
   rw [e1,h4]
   simp only [newRow,aal,run_newObj,aaj,aat]
   rfl
  ·have e1:(aei (n*s)).map (fun i=>(zs.toArray)[i%(zs.toArray).size]!)=((aap n zs).flatten).toArray:=by
    have:=yG zs n
    rw [hzl] at this
    rw [←this]
   simp only [h0,if_false,hzr,aal,aaj,aat,Fh]
   rw [show ((fun (x:Nat×aav)=>match x with | (i,x)=>(i,val x))=fun (x:Nat×aav)=>(x.1,val x.2)) from rfl,hps,e1,h4]
   simp only [newRow,aal,run_newObj,aaj,aat]
   rfl
theorem Ho{l:List It}{vs:List Value}(h:conc ρ l=some vs)(n:Nat):conc ρ (aap n l).flatten=some (aap n vs).flatten:=by
 induction n with
 | zero=>rfl
 | succ n ih=>
  rw [aby,aby,ab5,ab5]
  exact ij _ _ _ _ h ih
theorem N5{vs:List Value}(n:Nat):((aap n vs).flatten).length=n*vs.length:=by simp
theorem B_(z:Array Value)(n:Nat):(aa6 z n).toList=(aap n z.toList).flatten:=by
 have h:=yG z.toList n
 unfold aa6
 simpa using h
theorem ztd{n:Nat}(h:n≤100000):IntKind.i64.wrap (n:Int)=(n:Int):=by
 have key:∀ b:Int,(if (true&&decide (b%(2^64:Int)≥(2^63:Int)))=true then b%(2^64:Int)-(2^64:Int) else b%(2^64:Int))=if b%18446744073709551616≥9223372036854775808 then b%18446744073709551616-18446744073709551616 else b%18446744073709551616:=by
  intro b
  simp only [acL,decide_eq_true_eq]
  rfl
 refine (key _).trans ?_
 split<;>omega
theorem CH(az:∀ t d,tab t=some d→TyOk P t d){o:Oper}{c:Call}(ho:o.op = .call c)(hc:c.callee = .builtin .append){x y:aav}{t tx:aax}(e1:c.args = #[x,y])(e2:c.argTypes = #[t,tx])
  {d dx:Ty} (ht:tab t=some d) (htx:tab tx=some dx) {k kx:aaR} (hk:dx.ik=some kx) {s:Nat} {l:List It} (zh:sd d=some s) (hl:d.ez=some l) (hx:val x = .slice none 0 0) {n:Nat} (hy:val y = .int k (n:Int)) (hn:1≤n) (hsm:n≤100000) :
  bc P ρ val o (.appz s n (aap n l).flatten):=by
 obtain ⟨AJ,e,ie,z,hu,kZ,hz,Fh,rfl,RK,l',l6,hzl⟩:=sc az ht zh
 rw [hl] at l6;cases l6
 obtain ⟨_,ux,_,hux,_,_,YJ,_⟩:=(az tx dx htx).facts
 have zMk:∃ kk,ux = .int kk:=by
  rw [hk] at YJ
  unfold ikD at YJ
  split at YJ
  ·exact ⟨_,rfl⟩
  ·cases YJ
 obtain ⟨kk,rfl⟩:=zMk
 refine ⟨AJ,_,Ho (eR (fun _ _ h=>by cases h) _ _ hzl) n,by rw [N5,abx,Fh],fun w=>?_⟩
 have hg:0<0+n:=by omega
 have Nb:adt n 0*ie.bytes≤281474976710656:=growslice_fits (by omega) (abt (acf hsm RK) (by omega))
 have hk':n≤grownCap w n 0 e:=by unfold grownCap Question.cut;exact acW _ _
 have hns:¬n*ie.size=0:=by
  have:=Nat.mul_pos (show 0<n by omega) (show 0<ie.size by omega)
  omega
 have hnb:(n:Int)*(ie.bytes:Int)≤281474976710656:=by
  have:=acf hsm RK
  have h2:n*ie.bytes≤281474976710656:=abt this (by omega)
  have h3:((n*ie.bytes:Nat):Int)≤281474976710656:=Int.ofNat_le.2 h2
  rwa [Int.natCast_mul] at h3
 have hw:IntKind.i64.wrap (n:Int)=(n:Int):=ztd hsm
 have og:(aa6 z.cells n++aa6 z.cells (grownCap w n 0 e-n))=((aap n z.cells.toList).flatten++(aa6 z.cells (grownCap w n 0 e-n)).toList).toArray:=by
  apply ac8
  simp [B_]
 refine ⟨grownCap w n 0 e,(aa6 z.cells (grownCap w n 0 e-n)).toList,e,?_,hk',?_⟩
 ·rw [rc,Fh,N5,abx,Fh,←aaD]
  congr 1
  omega
 rw [←og]
 have h0:¬((n:Int)<0):=by omega
 have h1:¬((n:Int)*(ie.bytes:Int)>281474976710656):=by omega
 have h3:¬((n:Int)>9223372036854775807):=by omega
 have h4:¬(281474976710656<adt n 0*ie.bytes):=by omega
 simp [execOp,ho,resolve,hc,e1,e2,invoke,builtin,hx,hy,adX,run_underlying hu,run_underlying hux,sizeOf,typeInfo,zeroValue,kZ,hz,hw,h0,h1,h3,h4,hns,Go.asInt,asIntOf,adF,Question.forced,newRow,grownCap]
 omega
theorem ET(az:∀ t d,tab t=some d→TyOk P t d){o:Oper}{c:Call}(ho:o.op = .call c)(hc:c.callee = .builtin .append){x y:aav}{t tx:aax}(e1:c.args = #[x,y])(e2:c.argTypes = #[t,tx])
  {d dx:Ty} (ht:tab t=some d) (htx:tab tx=some dx) {kx:aaR} (hk:dx.ik=some kx) {X Y:AV} (hX:X.val ρ=some (val x)) (hY:Y.val ρ=some (val y)) {p:Plan} (h:HG d X Y=some p):bc P ρ val o p:=by
 unfold HG at h
 split at h
 ·rename_i s l k n zh hl hy
  split at h
  ·rename_i hb
   cases h
   rw [aaf] at hb
   exact CH az ho hc e1 e2 ht htx (k:=k) hk zh hl (iE hX) (dH hy hY) (aaL hb.1) (aaL hb.2)
  ·cases h
 ·cases h
theorem qJ(az:∀ t d,tab t=some d→TyOk P t d){o:Oper}{t:aax}{x y:aav}(ho:o.op = .makeSlice t x y){d:Ty}(ht:tab t=some d)
  {s n:Nat} {l:List It} {k k':aaR} (hx:val x = .int k (n:Int)) (hy:val y = .int k' (n:Int)) (jX:d.sl=some s) (hez:d.ez=some l) (hmk:d.mk8=true) (hs:gd l=s) (hn:n≤1000000):bc P ρ val o (.new ((aap n l).flatten) (some n)):=by
 obtain ⟨i,u,hi,hu,_,_,_,_,_,hsd⟩:=(az t d ht).facts
 obtain ⟨e,zs,hue,hz,hzp⟩:=(az t d ht).ez l hez
 obtain ⟨e2,i2,hu2,Vo,RK⟩:=(az t d ht).mk8 hmk
 rw [hue] at hu2
 cases hu2
 rw [hu] at hue
 cases hue
 rw [jX] at hsd
 obtain ⟨e',ie,he,kZ,uY⟩:=jC hsd
 cases he
 have RK:ie.bytes≤1024:=by
  have:=kZ.symm.trans Vo
  cases this
  exact RK
 have hzl:zs.length=s:=by rw [c7 _ _ hz,hs]
 have hz':=OL (eR (ky ρ) _ _ hz) n
 unfold zeroP at hzp
 simp only [kZ] at hzp
 cases DL:ie.zero with
 | none=>simp [DL] at hzp
 | some zv=>
  simp only [DL,aag] at hzp
  have Fh:zv.cells=zs.toArray:=by rw [←hzp]
  refine ⟨(aap n zs).flatten,e,hz',fun w=>?_⟩
  have hb:(ie.bytes:Int)*(n:Int)≤281474976710656:=by
   have:ie.bytes*n≤1024*1000000:=acf RK hn
   have h2:((ie.bytes*n:Nat):Int)≤281474976710656:=by omega
   rwa [Int.natCast_mul] at h2
  have eN:=run_make (P:=P) w t e ie zv hu kZ DL k k' (n:Int) (n:Int) (by omega) (Int.le_refl _) hb (by omega)
  simp only [aam] at eN
  have RI:madeCells zv.cells (n*ie.size)=((aap n zs).flatten).toArray:=by
   rw [←yG zs n,Fh,uY,hzl]
   rfl
  rw [RI] at eN
  simp only [execOp,ho,hx,hy,aal,eN,aaj,aat]
theorem Eo(ρ:Rho)(ik:aaR)(z:Int)(n:Nat):conc ρ (aap n [It.v (.int ik z)]).flatten=some (gvals ik n (fun _=>z)):=by
 rw [Ho (vs:=[.int ik z]) rfl n]
 congr 1
 unfold gvals
 apply adm
 ·simp
 ·intro i h1 h2
  simp
theorem WW{s:Nat}{y:AV}{yid yoff m:Nat}(h:P0 s y=some (yid,yoff,m)){v:Value}(hv:y.val ρ=some v):∃ q cap,ρ.at yid=some q∧v = .slice (some ⟨q.1,q.2+yoff,none⟩) m cap:=by
 unfold P0 at h
 split at h
 ·cases h
  obtain ⟨q,hq,rfl⟩:=aY hv
  exact ⟨q,_,hq,rfl⟩
 ·split at h
  ·rename_i hb
   cases h
   rw [aaf,aaf] at hb
   exact j3 hv hb.1 (rK hb.2.2)
  ·cases h
 ·cases h
theorem H8(az:∀ t d,tab t=some d→TyOk P t d){o:Oper}{c:Call}(ho:o.op = .call c)(hc:c.callee = .builtin .append){x y:aav}{t:aax}(e1:c.args = #[x,y])(e2:c.argTypes = #[t,t])
  {d:Ty} (ht:tab t=some d) {X Y:AV} (hX:X.val ρ=some (val x)) (hY:Y.val ρ=some (val y)) {p:Plan} (h:P4 d X Y=some p):bc P ρ val o p:=by
 unfold P4 at h
 split at h
 ·rename_i s zh
  split at h
  ·cases h
   obtain ⟨q,hq,h1,h2,hv⟩:=dB hX
   unfold pf at hv
   exact ja az ho hc e1 e2 ht zh hX hv ((abM (by omega)).2 (by omega)) (.inr (iE hY))
  ·cases h
 ·rename_i s zh _
  split at h
  ·rename_i yid yoff m hs
   obtain ⟨qy,KP,M3,hvy⟩:=WW hs hY
   split at h
   ·cases h
    intro ax
    obtain ⟨qx,G7,Z1⟩:=aY hX
    exact CK az ho hc e1 e2 ht zh G7 M3 Z1 hvy (ax _ aac) (ax _ (List.mem_cons_of_mem _ aac))
   ·split at h
    ·rename_i hb
     cases h
     intro ax
     have es:=aas hb
     subst es
     obtain ⟨qx,G7,h1,h2,Z1⟩:=dB hX
     refine CJ az ho hc e1 e2 ht zh G7 M3 ?_ hvy (ax _ (by simp))
     rw [Z1]
     unfold pf
     simp
    ·cases h
   ·cases h
    intro ax
    exact CI az ho hc e1 e2 ht zh M3 (iE hX) hvy (ax _ (by simp)) (ax _ (by simp))
   ·cases h
  ·cases h
 ·cases h
theorem H7(az:∀ t d,tab t=some d→TyOk P t d){o:Oper}{c:Call}(ho:o.op = .call c)(hc:c.callee = .builtin .append){x y:aav}{t tx:aax}(e1:c.args = #[x,y])(e2:c.argTypes = #[t,tx])
  {d dx:Ty} (ht:tab t=some d) (htx:tab tx=some dx) {kx:aaR} (hk:dx.ik=some kx) {X Y:AV} (hX:X.val ρ=some (val x)) (hY:Y.val ρ=some (val y)) {p:Plan} (h:PZ d X Y=some p):bc P ρ val o p:=by
 unfold PZ at h
 split at h
 ·rename_i s ik z k a zh hl hy
  cases h
  intro ax
  have h1:1≤a:=ax _ (by simp)
  have h2:a≤100000:=ax _ (by simp)
  have hv:=dH hy hY
  rw [←aa2 (show 0≤a by omega)] at hv
  obtain ⟨h3,vs,h4,h5,h6⟩:=CH (ρ:=ρ) (s:=s) az ho hc e1 e2 ht htx (k:=k) hk zh hl (iE hX) (n:=a.toNat) hv (by omega) (by omega)
  rw [Eo] at h4
  cases h4
  refine ⟨h3,_,?_,h5,h6⟩
  rw [aD,show a.toNat-1+1=a.toNat by omega]
 ·cases h
theorem EU(az:∀ t d,tab t=some d→TyOk P t d){o:Oper}{t:aax}{x y:aav}(ho:o.op = .makeSlice t x y){d:Ty}(ht:tab t=some d)
  {X Y:AV} (hX:X.val ρ=some (val x)) (hY:Y.val ρ=some (val y)) {p:Plan} (h:HW d X Y=some p):bc P ρ val o p:=by
 unfold HW at h
 split at h
 ·rename_i k a k' b s ik z hx hy jX hez hmk
  split at h
  ·rename_i hs
   cases h
   have hs:=aas hs
   subst hs
   intro ax
   have h0:b=a:=ax _ (by simp)
   have h1:1≤a:=ax _ (by simp)
   have h2:a≤1000000:=ax _ (by simp)
   subst h0
   have Z1:=dH hx hX
   have hvy:=dH hy hY
   rw [←aa2 (show 0≤b by omega)] at Z1 hvy
   obtain ⟨vs,tt,h4,h5⟩:=qJ (ρ:=ρ) az ho ht Z1 hvy jX hez hmk rfl (by omega)
   rw [Eo] at h4
   cases h4
   refine ⟨_,tt,?_,h5⟩
   rw [aD,show b.toNat-1+1=b.toNat by omega]
  ·cases h
 ·cases h
theorem CA(az:∀ t d,tab t=some d→TyOk P t d)(jL:∀ x s,ev x=some s→s.val ρ=some (val x)){o:Oper}{t:aax}{x:aav}{lo hi:Option aav}(ho:o.op = .slice t x lo hi none){d:Ty}(ht:tab t=some d)
  {Y:AV} (hY:Y.val ρ=some (val x)) {p:Plan} (h:Cm ev d Y lo hi=some p):bc P ρ val o p:=by
 unfold Cm at h
 split at h
 ·rename_i id off len cap s ha hs
  split at h
  ·rename_i l o1 hh o2 hl M_
   cases h
   intro ax
   obtain ⟨q,hq,hx⟩:=aY hY
   exact tC az ho ht hs hq hx (lE jL hl fun p hp=>ax p (by simp [hp])) (lE jL M_ fun p hp=>ax p (by simp [hp])) (ax _ (by simp)) (ax _ (by simp))
  ·cases h
 ·rename_i id s' adr off len s ha hs
  split at h
  ·rename_i l o1 hh o2 hb hl M_
   cases h
   have hb:=aas hb
   subst hb
   intro ax
   obtain ⟨q,hq,AJ,zng,hx⟩:=dB hY
   exact vF az ho ht hs hq AJ zng hx (lE jL hl fun p hp=>ax p (by simp [hp])) (lE jL M_ fun p hp=>ax p (by simp [hp])) (ax _ (by simp)) (ax _ (by simp))
  ·cases h
 ·cases h
theorem A3(az:∀ t d,tab t=some d→TyOk P t d)(jL:∀ x s,ev x=some s→s.val ρ=some (val x)){o:Oper}{t:aax}{x hi mx:aav}{lo:Option aav}(ho:o.op = .slice t x lo (some hi) (some mx)){d:Ty}(ht:tab t=some d)
  {Y:AV} (hY:Y.val ρ=some (val x)) {p:Plan} (h:yf ev d Y lo hi mx=some p):bc P ρ val o p:=by
 unfold yf at h
 split at h
 ·rename_i id off len cap s ha hs
  split at h
  ·rename_i l o1 hh o2 m o3 hl M_ hmm
   cases h
   intro ax
   obtain ⟨q,hq,hx⟩:=aY hY
   exact pH az ho ht hs hq hx (lE jL hl fun p hp=>ax p (by simp [hp])) (lE jL M_ fun p hp=>ax p (by simp [hp])) (lE jL hmm fun p hp=>ax p (by simp [hp])) (ax _ (by simp)) (ax _ (by simp)) (ax _ (by simp))
  ·cases h
 ·cases h
theorem rz(az:∀ t d,tab t=some d→TyOk P t d){o:Oper}{op:BinOp}{t u:aax}{x y:aav}(ho:o.op = .binOp op t x y u){a:Option Addr}{l c:Nat}(hx:val x = .slice a l c)(hy:val y = .slice none 0 0){b:Bool}(hb:a.isNone=b)
  {s:SV} {ob:List Prop} (h:Mp op (tab t) b=some (s,ob)):bc P ρ val o (.val s ob):=by
 intro _
 have hg:∀ w,(eqGuard op t x y (val x) (val y)).run P w = .ok () w:=fun w=>by
  rw [hx,hy];cases op<;>simp [eqGuard]
 unfold Mp at h
 split at h
 ·rename_i d ht
  split at h
  ·rename_i sz hs
   cases h
   obtain ⟨i,ut,hi,hu,_,_,_,_,_,jX⟩:=(az t d ht).facts
   rw [hs] at jX
   obtain ⟨e,ie,rfl,kZ,_⟩:=jC jX
   refine ⟨_,jP ρ _,fun w=>?_⟩
   simp only [execOp,ho,aal,hg,aaj]
   simp only [hx,hy,binOp,aal,run_equal_slice_nil w t e a l c hu,aaj,aat,hb]
  ·cases h
 ·rename_i d ht
  split at h
  ·rename_i sz hs
   cases h
   obtain ⟨i,ut,hi,hu,_,_,_,_,_,jX⟩:=(az t d ht).facts
   rw [hs] at jX
   obtain ⟨e,ie,rfl,kZ,_⟩:=jC jX
   refine ⟨_,jP ρ _,fun w=>?_⟩
   simp only [execOp,ho,aal,hg,aaj]
   simp only [hx,hy,binOp,aal,run_equal_slice_nil w t e a l c hu,aaj,aat,hb]
  ·cases h
 ·cases h
theorem IU(az:∀ t d,tab t=some d→TyOk P t d)(jL:∀ x s,ev x=some s→s.val ρ=some (val x)){hint:Option Bool}{o:Oper}{p:Plan}(h:IV tab hint ev o.op=some p):bc P ρ val o p:=by
 have mv:∀ {x:aav} {y:AV},av ev x=some y→y.val ρ=some (val x):=fun h=>qu jL h
 cases ho:o.op<;>rw [ho] at h<;>simp only [IV] at h<;>try (cases h;done)
 case move x=>
  split at h
  ·rename_i s hs;cases h
   exact cG (jL _ _ hs) fun w=>by simp only [execOp,ho,aat]
  ·cases h
 case assign x=>
  split at h
  ·rename_i s hs;cases h
   exact cG (jL _ _ hs) fun w=>by simp only [execOp,ho,aat]
  ·cases h
 case pick c a b=>
  split at h
  ·rename_i y hy
   split at h
   ·rename_i hb
    split at h
    ·rename_i s hs;cases h
     have:=uN hb (mv hy)
     exact cG (jL _ _ hs) fun w=>by simp [execOp,ho,this,Go.asBool]
    ·cases h
   ·rename_i hb
    split at h
    ·rename_i s hs;cases h
     have:=uN hb (mv hy)
     exact cG (jL _ _ hs) fun w=>by simp [execOp,ho,this,Go.asBool]
    ·cases h
   ·cases h
  ·cases h
 case alloc t=>
  split at h
  ·rename_i d ht
   split at h
   ·rename_i l hz;cases h;exact LF az ho ht hz
   ·cases h
  ·cases h
 case box t x=>
  split at h
  ·rename_i y hy;cases h;exact Xc ho (mv hy)
  ·cases h
 case build t ps=>
  split at h
  ·rename_i d ht
   split at h
   ·rename_i z hz
    split at h
    ·rename_i hg
     split at h
     ·rename_i r hr;cases h;exact LD az jL ho ht hz hg hr
     ·cases h
    ·cases h
   ·cases h
  ·cases h
 case buildSlice t n ps=>
  split at h
  ·rename_i d ht
   split at h
   ·rename_i s l jX hez
    split at h
    ·rename_i hc
     split at h
     ·rename_i r hr;cases h;exact yo az jL ho ht jX hez hc.1 hc.2 hr
     ·cases h
    ·cases h
   ·cases h
  ·cases h
 case makeSlice t x y=>
  split at h
  ·rename_i x' y' d RC hy' ht
   split at h
   ·exact EU az ho ht (mv RC) (mv hy') h
   split at h
   ·rename_i k a k' b s l hx hy jX hez hmk
    split at h
    ·rename_i n
     split at h
     ·rename_i hc
      cases h
      obtain ⟨hb,hs,hn⟩:=hc
      subst hb
      exact qJ az ho ht (dH hx (qu jL RC)) (dH hy (qu jL hy')) jX hez hmk hs hn
     ·cases h
    ·cases h
   ·cases h
  ·cases h
 case load t x=>
  split at h
  ·rename_i y d hy ht
   split at h
   ·rename_i id off hp
    cases h
    obtain ⟨q,hq,hx⟩:=dY hp (mv hy)
    exact Ql az ho ht hq hx
   ·cases h
  ·cases h
 case store t x y=>
  split at h
  ·rename_i p' z d hp hz ht
   split at h
   ·rename_i id off hpp
    split at h
    ·rename_i q9
     cases h
     obtain ⟨q,hq,hx⟩:=dY hpp (mv hp)
     exact Lz az ho ht hq hx (mv hz) q9
    ·cases h
   ·cases h
  ·cases h
 case nilCheck x=>
  split at h
  ·rename_i y hy
   split at h
   ·rename_i q hp;cases h;obtain ⟨id,off⟩:=q;exact CD ho (mv hy) hp
   ·cases h
  ·cases h
 case binOp op t x y u=>
  split at h
  ·rename_i a b ha hb
   split at h
   ·rename_i s ob hs
    cases h
    have hx:=mv ha
    have hy:=mv hb
    unfold VZ at hs
    split at hs
    ·rename_i k n k' m
     have ex:=AV.val_one hx
     have ey:=AV.val_one hy
     simp only [It.cs,abp,aag,aaM,and_true] at ex ey
     exact H9 ho ex.symm ey.symm hs
    ·rename_i n m
     have ex:=AV.val_one hx
     have ey:=AV.val_one hy
     simp only [It.cs,abp,aag,aaM,and_true] at ex ey
     split at hs
     ·rename_i s' d hbb ht
      split at hs
      ·rename_i hk;cases hs;exact EW az ho ht hk ex.symm ey.symm hbb
      ·cases hs
     ·cases hs
    ·rename_i l m
     split at hs
     ·rename_i d ht;exact Am az (.inl ⟨rfl,rfl⟩) ho ht hx hy hs
     ·rename_i d ht;exact Am az (.inr ⟨rfl,rfl⟩) ho ht hx hy hs
     ·cases hs
    ·obtain ⟨q,hq,hv⟩:=aY hx
     exact rz az ho hv (iE hy) rfl hs
    ·obtain ⟨q,hq,h1,h2,hv⟩:=dB hx
     unfold pf at hv
     exact rz az ho hv (iE hy) rfl hs
    ·exact rz az ho (iE hx) (iE hy) rfl hs
    ·cases hs
   ·cases h
  ·cases h
 case unOp op t x=>
  split at h
  ·rename_i y hy
   cases op<;>simp only at h<;>try (cases h;done)
   ·split at h
    ·rename_i k a hi
     cases h
     have:=dH hi (mv hy)
     exact cG (jg ρ _ _) fun w=>by simp [execOp,ho,this,Op.unary,Op.intArith]
    ·cases h
   ·split at h
    ·rename_i b hb
     cases h
     have:=uN hb (mv hy)
     exact cG (jP ρ _) fun w=>by simp [execOp,ho,this,Op.unary]
    ·cases h
  ·cases h
 case convert src dst x=>
  split at h
  ·rename_i y d' d hy hs ht
   split at h
   ·rename_i k' a k hi hk
    cases h
    obtain ⟨_,u,_,hu,_,_,YJ,_⟩:=(az _ _ ht).facts
    obtain ⟨_,u',_,hu',_⟩:=(az _ _ hs).facts
    rw [hk] at YJ
    have hu2:u = .int k:=by
     unfold ikD at YJ
     split at YJ
     ·cases YJ;rfl
     ·cases YJ
    subst hu2
    have:=dH hi (mv hy)
    exact cG (jg ρ _ _) fun w=>by simp [execOp,ho,this,convert,run_underlying hu,run_underlying hu',Conv.intToInt]
   ·cases h
  ·cases h
 case sliceToArrayPointer t x=>
  split at h
  ·rename_i id off len cap d hx ht
   split at h
   ·rename_i n s g ha
    split at h
    ·rename_i hn
     cases h
     obtain ⟨q,hq,hv⟩:=aY (mv hx)
     exact nD az ho ht ha hq hv hn
    ·cases h
   ·cases h
  ·cases h
 case makeFunc fn first caps=>
  cases fn<;>simp only at h<;>try (cases h;done)
  split at h
  ·rename_i h0
   split at h
   ·rename_i qs hq;cases h;exact CE jL ho h0 hq
   ·cases h
  ·cases h
 case slice t x lo hi mx=>
  cases mx with
  | some mx=>
   cases hi with
   | none=>simp only at h;cases h
   | some hi=>
   simp only at h
   split at h
   ·rename_i y d hy ht
    split at h
    ·exact A3 az jL ho ht (mv hy) h
    split at h
    ·rename_i id off len cap s ha hs
     split at h
     ·rename_i l hh m hl M_ hmm
      split at h
      ·rename_i hb
       cases h
       obtain ⟨q,hq,hx⟩:=aY (mv hy)
       exact pH az ho ht hs hq hx (gp jL hl) (gp jL M_) (gp jL hmm) hb.1 hb.2.1 hb.2.2
      ·cases h
     ·cases h
    ·rename_i id s' adr off len s ha hs
     split at h
     ·rename_i l hh m hl M_ hmm
      split at h
      ·rename_i hb
       cases h
       obtain ⟨⟨rfl,hlen,q7⟩,h1,h2,h3⟩:=hb
       have hcv:=mv hy
       obtain ⟨q0,hq0,AJ,zng,_⟩:=dB hcv
       obtain ⟨q,cap,hq,hx⟩:=j3 hcv q7 hlen
       have zMR:len≤cap:=by
        obtain ⟨q1,hq1,_,hb1,qL⟩:=dB hcv
        rw [qL,Hu AJ hb1 hlen] at hx
        simp only [Value.slice.injEq] at hx
        rw [←hx.2.2]
        exact (abM (by omega)).2 (by omega)
       exact pH az ho ht hs hq hx (gp jL hl) (gp jL M_) (gp jL hmm) h1 h2 (abt h3 zMR)
      ·cases h
     ·cases h
    ·cases h
   ·cases h
  | none=>
  simp only at h
  split at h
  ·rename_i y d hy ht
   split at h
   ·exact CA az jL ho ht (mv hy) h
   split at h
   ·rename_i id off n s g ha
    split at h
    ·rename_i l hh hl M_
     split at h
     ·rename_i hb
      cases h
      obtain ⟨q,hq,hx⟩:=dY (id:=id) (off:=off) rfl (mv hy)
      exact CC az ho ht ha hq hx (gp jL hl) (gp jL M_) hb.1 hb.2
     ·cases h
    ·cases h
   ·rename_i id off len cap s ha hs
    split at h
    ·rename_i l hh hl M_
     split at h
     ·rename_i hb
      cases h
      obtain ⟨q,hq,hx⟩:=aY (mv hy)
      exact tC az ho ht hs hq hx (gp jL hl) (gp jL M_) hb.1 hb.2
     ·cases h
    ·cases h
   ·rename_i id s' adr off len s ha hs
    split at h
    ·rename_i l hh hl M_
     split at h
     ·rename_i hb
      cases h
      obtain ⟨rfl,h1,h2⟩:=hb
      obtain ⟨q,hq,AJ,zng,hx⟩:=dB (mv hy)
      exact vF az ho ht hs hq AJ zng hx (gp jL hl) (gp jL M_) h1 h2
     ·cases h
    ·cases h
   ·rename_i s ha hs
    split at h
    ·rename_i hl M_
     cases h
     have hyv:=mv hy
     have hx:=AV.val_one hyv
     simp only [It.cs,abp,aag,aaM,and_true] at hx
     exact CB az jL ho ht hs hyv hx.symm hl M_
    ·cases h
   ·cases h
  ·cases h
 case fieldAddr t x i=>
  split at h
  ·rename_i y d hy ht
   split at h
   ·rename_i id off zdl s g hp hf
    split at h
    ·rename_i hs
     cases h
     obtain ⟨q,hq,hx⟩:=dY hp (mv hy)
     exact A4 az ho ht hf hs hq hx
    ·cases h
   ·cases h
  ·cases h
 case field t x i=>
  split at h
  ·rename_i l d hx ht
   split at h
   ·rename_i off s g hf
    split at h
    ·rename_i r hr;cases h;exact LB az ho ht hf (mv hx) hr
    ·cases h
   ·cases h
  ·cases h
 case indexAddr t x i=>
  split at h
  ·rename_i y j d hy hj ht
   split at h
   ·rename_i id off n s g ha
    split at h
    ·rename_i q hq
     cases h
     obtain ⟨q',EH,hx⟩:=dY (id:=id) (off:=off) rfl (mv hy)
     obtain ⟨k,hk,hlt⟩:=xe hq (mv hj)
     exact CF az ho ht ha EH hx hk hlt
    ·cases h
   ·rename_i id off len cap s ha hs
    split at h
    ·split at h
     ·rename_i k n hn
      cases h
      obtain ⟨q',EH,hx⟩:=aY (mv hy)
      intro ax
      have hb:=ax _ (aao.2 rfl)
      have hk:=dH hn (mv hj)
      exact lI az ho ht hs EH hx (k:=k) (j:=n.toNat) (by rw [hk,aa2 hb.1]) (by omega) (fun p hp=>by cases hp)
     ·cases h
    ·split at h
     ·rename_i q hq
      cases h
      obtain ⟨q',EH,hx⟩:=aY (mv hy)
      obtain ⟨k,hk,hlt⟩:=xe hq (mv hj)
      exact lI az ho ht hs EH hx hk hlt
     ·cases h
   ·rename_i id s' adr off len s ha hs
    split at h
    ·split at h
     ·rename_i k n hn hb
      cases h
      rw [aaf] at hb
      have es:=aas hb.1
      subst es
      intro ax
      have hbd:=ax _ (aao.2 rfl)
      have hk:=dH hn (mv hj)
      obtain ⟨q',cap,EH,hx⟩:=j3 (mv hy) hb.2 (by omega)
      exact lI az ho ht hs EH hx (k:=k) (j:=n.toNat) (by rw [hk,aa2 hbd.1]) (by omega) (fun p hp=>by cases hp)
     ·cases h
    split at h
    ·rename_i q hq hb
     cases h
     rw [aaf] at hb
     obtain ⟨k,hk,hlt⟩:=xe hq (mv hj)
     have es:=aas hb.1
     subst es
     obtain ⟨q',cap,EH,hx⟩:=j3 (mv hy) hb.2 (by omega)
     exact lI az ho ht hs EH hx hk hlt
    ·cases h
   ·cases h
  ·cases h
 case index t x i=>
  split at h
  ·rename_i z j d hx hj ht
   split at h
   ·rename_i k n zMo hn
    split at h
    ·rename_i b hb
     cases h
     have hu:=(az t d ht).str zMo
     have bC:=AV.val_one (ρ:=ρ) (mv hx)
     have hx3:val x = .string z:=by
      simp only [It.cs] at bC
      split at bC
      ·simp only [aag,aaM,and_true] at bC;exact bC.symm
      ·cases bC
     have hi:=dH hn (mv hj)
     exact cG (jg _ _ _) fun w=>by simp only [execOp,ho,Instr.index,aal,hi,asIntOf,aat,aaj,run_underlying hu,hx3,hb]
    ·cases h
   ·cases h
  ·rename_i l j d hx hj ht
   split at h
   ·rename_i n s g ha
    split at h
    ·rename_i q hq
     split at h
     ·rename_i r hr
      cases h
      obtain ⟨k,hk,hlt⟩:=xe hq (mv hj)
      exact LA az ho ht ha (mv hx) hk hlt hr
     ·cases h
    ·cases h
   ·cases h
  ·cases h
 case extract x i=>
  split at h
  ·rename_i l hl
   split at h
   ·rename_i y hy;cases h;exact EV ho (jL _ _ hl) hy
   ·cases h
  ·cases h
 case call c=>
  split at h
  ·unfold TI at h
   split at h
   ·rename_i hc
    split at h
    ·rename_i x y t t' h1 h2
     split at h
     ·rename_i X Y d d' hx hy ht ht'
      have e1:c.args = #[x,y]:=by rw [←h1]
      split at h
      ·rename_i htt
       have et:=aas htt
       have e2:c.argTypes = #[t,t]:=by
        have:c.argTypes = #[t,t']:=by rw [←h2]
        rw [this];congr 2;exact congrArg (fun z=>[z]) et.symm
       exact H8 az ho hc e1 e2 ht (mv hx) (mv hy) h
      ·split at h
       ·rename_i kx hk
        exact H7 az ho hc e1 (by rw [←h2]) ht ht' hk (mv hx) (mv hy) h
       ·cases h
     ·cases h
    ·cases h
   ·cases h
  unfold OR at h
  split at h
  ·rename_i f hc
   split at h
   ·rename_i fn caps args hf ha;cases h;exact Qm jL ho hc hf ha
   ·cases h
  ·rename_i hc
   split at h
   ·rename_i x t h1 h2
    split at h
    ·rename_i id off len cap d hx ht
     split at h
     ·rename_i s hs
      cases h
      obtain ⟨q,hq,hv⟩:=aY (mv hx)
      exact yn az ho hc h1 h2 ht hs hv
     ·cases h
    ·rename_i a len cap d hx ht
     split at h
     ·rename_i s hs
      cases h
      have ex:=AV.val_one (mv hx)
      simp only [It.cs,abp,aag,aaM,and_true] at ex
      exact yn az ho hc h1 h2 ht hs ex.symm
     ·cases h
    ·rename_i id len d hx ht
     split at h
     ·rename_i s hs
      cases h
      obtain ⟨q,hq,_,_,hv⟩:=dB (mv hx)
      unfold pf at hv
      exact yn az ho hc h1 h2 ht hs hv
     ·cases h
    ·cases h
   ·cases h
  ·rename_i hc
   split at h
   ·rename_i x t h1 h2
    split at h
    ·rename_i id off len cap d hx ht
     split at h
     ·rename_i s hs
      cases h
      obtain ⟨q,hq,hv⟩:=aY (mv hx)
      exact Gb az ho hc h1 h2 ht hs hv
     ·cases h
    ·rename_i a len cap d hx ht
     split at h
     ·rename_i s hs
      cases h
      have ex:=AV.val_one (mv hx)
      simp only [It.cs,abp,aag,aaM,and_true] at ex
      exact Gb az ho hc h1 h2 ht hs ex.symm
     ·cases h
    ·cases h
   ·cases h
  ·rename_i hc
   split at h
   ·rename_i x y h1
    split at h
    ·rename_i a b ha hb
     split at h
     ·rename_i k n k' m hi hj
      cases h
      exact Xb ho hc h1 (dH hi (mv ha)) (dH hj (mv hb))
     ·cases h
    ·cases h
   ·cases h
  ·rename_i hc
   split at h
   ·rename_i x y t ts h1 h2
    split at h
    ·rename_i did doff Eb zya sid soff A5 zBM d hx hy ht
     split at h
     ·rename_i s hs
      cases h
      obtain ⟨qd,hqd,hvd⟩:=aY (mv hx)
      obtain ⟨qs,hqs,Pq⟩:=aY (mv hy)
      exact CG az ho hc h1 h2 ht hs hqd hqs hvd Pq
     ·cases h
    ·rename_i did doff Eb zya sid s' adr soff A5 d hx hy ht
     split at h
     ·rename_i s hs hb
      cases h
      rw [aaf] at hb
      obtain ⟨qd,hqd,hvd⟩:=aY (mv hx)
      obtain ⟨qs,cap,hqs,Pq⟩:=j3 (mv hy) hb.1 (rK hb.2)
      exact CG az ho hc h1 h2 ht hs hqd hqs hvd Pq
     ·cases h
    ·cases h
   ·cases h
  ·rename_i hc
   split at h
   ·rename_i x t ts h1 h2
    split at h
    ·rename_i id off len cap d hx ht
     split at h
     ·rename_i i hs
      cases h
      obtain ⟨q,hq,hv⟩:=aY (mv hx)
      exact LC az ho hc h1 h2 ht hs hq hv
     ·cases h
    ·cases h
   ·cases h
  ·rename_i hc
   split at h
   ·rename_i x y t t' h1 h2
    split at h
    ·rename_i X Y d d' hx hy ht ht'
     have e1:c.args = #[x,y]:=by rw [←h1]
     split at h
     ·rename_i htt
      have et:=aas htt
      have e2:c.argTypes = #[t,t]:=by
       have:c.argTypes = #[t,t']:=by rw [←h2]
       rw [this];congr 2;exact congrArg (fun z=>[z]) et.symm
      exact EX az ho hc e1 e2 ht (mv hx) (mv hy) h
     ·split at h
      ·rename_i kx hk
       exact ET az ho hc e1 (by rw [←h2]) ht ht' hk (mv hx) (mv hy) h
      ·cases h
    ·cases h
   ·cases h
  ·cases h
end
structure Out where
 val:SV
 wr:List (Nat×List It)
 news:List (Nat×List It)
 ob:List Prop
abbrev CallT:=aaz→List AV→St→Nat→Option Out
def ia(l:List (Nat×List It)):List (Nat×Ct):=l.map fun p=>(2*p.1+1,.bl p.2)
def Invoked(P:aaE)(f:aaz)(args:Array Value)(w:World)(R:Value→World→Prop):Prop:=
 (∃ v,(callFunc f args).run P w = .ok (.value v) w∧R v w) ∨
 ((callFunc f args).run P w = .ok (.enter f args) w∧Calls P f args w fun e w'=>∃ v,e = .returned v∧R v w')
theorem Invoked.mono{P:aaE}{f:aaz}{args:Array Value}{w:World}{R R':Value→World→Prop}(h:Invoked P f args w R)(hr:∀ v w',R v w'→R' v w'):Invoked P f args w R':=by
 rcases h with ⟨v,h1,h2⟩|⟨h1,h2⟩
 ·exact .inl ⟨v,h1,hr _ _ h2⟩
 ·exact .inr ⟨h1,h2.mono fun e w' ⟨v,he,hR⟩=>⟨v,he,hr _ _ hR⟩⟩
structure Mem(ρ:Rho)(m:St)(w:World):Prop where
 ok:MemOk ρ m.blk w
 inj:Inj ρ m.blk
 dom:∀ id q,ρ id=some q→∃ l,m.blk id=some l
def ag(P:aaE)(call:CallT):Prop:=∀ (f:aaz) (args:List AV) (m:St) (nid:Nat) (out:Out),call f args m nid=some out→(∀ p∈out.ob,p) →
 ∀ (ρ:Rho) (w:World) (vs:List Value),ay ρ args=some vs→Mem ρ m w→(∀ p∈out.news,m.blk p.1=none) →
  Invoked P f vs.toArray w fun v w'=>∃ ρ',Ext ρ w ρ' w'∧out.val.val ρ'=some v∧Mem ρ' (aX m (ia (out.wr++out.news))) w'
theorem kd{α:Type}(e f:List (Nat×α)):∀ l,aX l (e++f)=aX (aX l e) f:=by
 induction e with
 | nil=>intro l;rfl
 | cons p e ih=>intro l;obtain ⟨k,v⟩:=p;simp only [abe,aX,ih]
theorem Xe(l:List (Nat×List It)):∀ (st:St) (t:Nat),St.slot (aX st (ia l)) t=st.slot t:=by
 induction l with
 | nil=>intro st t;rfl
 | cons p l ih=>
  intro st t
  have:=ih (aX st [(2*p.1+1,.bl p.2)]) t
  rw [jB] at this
  exact this
def fC:List (Nat×List It)→Nat→Option (List It)
 | [],_=>none
 | p::l,id=>match fC l id with
  | some r=>some r
  | none=>if p.1=id then some p.2 else none
theorem eJ(l:List (Nat×List It)):∀ (st:St) (id:Nat),St.blk (aX st (ia l)) id=match fC l id with | some r=>some r | none=>st.blk id:=by
 induction l with
 | nil=>intro st id;rfl
 | cons p l ih=>
  intro st id
  have:=ih (aX st [(2*p.1+1,.bl p.2)]) id
  rw [cf] at this
  simp only [fC]
  refine this.trans ?_
  cases fC l id with
  | some r=>rfl
  | none=>by_cases h:p.1=id<;>simp [h]
theorem GX:∀ (l:List (Nat×List It)) (id:Nat) (r:List It),fC l id=some r→∃ p∈l,p.1=id:=by
 intro l
 induction l with
 | nil=>intro id r h;cases h
 | cons p l ih=>
  intro id r h
  simp only [fC] at h
  cases hl:fC l id with
  | some u=>obtain ⟨q,hq,e⟩:=ih id u hl;exact ⟨q,by simp [hq],e⟩
  | none=>
   simp only [hl] at h
   split at h
   ·rename_i e;exact ⟨p,by simp,e⟩
   ·cases h
def zfU(id:Nat)(l:List It):Bool:=app id&&qE l
def St.kept(st:St)(id:Nat):Option (List It):=match st.blk id with
 | some b=>(match zfU id b with
  | true=>none
  | false=>some b)
 | none=>none
theorem kK{st:St}{id:Nat}{l:List It}(h:st.kept id=some l):st.blk id=some l∧zfU id l=false:=by
 unfold St.kept at h
 split at h
 ·rename_i b hb
  split at h
  ·cases h
  ·rename_i hg;cases h;exact ⟨hb,hg⟩
 ·cases h
theorem zmu{st:St}{id:Nat}{l:List It}(h:st.blk id=some l)(hg:zfU id l=false):st.kept id=some l:=by
 unfold St.kept
 rw [h]
 simp only [hg]
theorem za{st:St}{id:Nat}{l:List It}(h:st.kept id=some l)(ho:own id=true∨app id=true):Live id l:=by
 rcases ho with ho|ho
 ·exact .inl ho
 ·have hg:=(kK h).2
  unfold zfU at hg
  rw [ho,acL] at hg
  exact .inr fun e=>by rw [(rb l).2 e] at hg;cases hg
def dc(st:St):List Nat→St
 | []=>[]
 | id::l=>match st.kept id with
  | some b=>(2*id+1,.bl b)::dc st l
  | none=>dc st l
theorem pg(st:St):∀ (l:List Nat) (id:Nat),(dc st l).blk id=if id∈l then st.kept id else none:=by
 intro l
 induction l with
 | nil=>intro id;rfl
 | cons j l ih=>
  intro id
  simp only [dc]
  cases hj:st.kept j with
  | none=>
   simp only [ih id]
   by_cases h:id=j
   ·subst h;simp [hj]
   ·simp [h]
  | some b=>
   by_cases h:id=j
   ·subst h
    simp only [St.blk,look,beq_self_eq_true,if_true,aae,true_or]
    exact hj.symm
   ·have:¬2*j+1=2*id+1:=by omega
    have e:St.blk ((2*j+1,.bl b)::dc st l) id=(dc st l).blk id:=by
     simp only [St.blk,look,beq_iff_eq,this,if_false]
    rw [e,ih id]
    simp [h]
theorem pI{st:St}{ids:List Nat}{id:Nat}(h:((dc st ids).blk id).isSome=true):∃ l,st.kept id=some l∧(dc st ids).blk id=some l:=by
 obtain ⟨l,hl⟩:=aa5.1 h
 have:=hl
 rw [pg] at this
 split at this
 ·exact ⟨l,this,hl⟩
 ·cases this
theorem Sim.call{ρ:Rho}{N:Nat}{st:St}{a:Act}{w w':World}(h:Sim ρ N st a w){ids:List Nat}{wr news:List (Nat×List It)}{ρ':Rho}
  (hE:Ext (fun id=>if ((dc st ids).blk id).isSome then ρ id else none) w ρ' w') (hM:Mem ρ' (aX (dc st ids) (ia (wr++news))) w')
  (hwr:∀ p∈wr,((dc st ids).blk p.1).isSome=true∧(own p.1=true∨app p.1=true)) (df:∀ p∈news,st.blk p.1=none) :
  ∃ qS,Ext ρ w qS w'∧ρ'.le qS∧Sim qS N (aX st (ia (wr++news))) a w':=by
 have hb:=fun id=>pg st ids id
 have old:∀ id q,ρ' id=some q→∀ q',ρ id=some q'→((dc st ids).blk id).isSome=true∧q=q':=by
  intro id q h1 q' h2
  obtain ⟨l,hl⟩:=hM.dom id q h1
  have his:((dc st ids).blk id).isSome=true:=by
   rw [eJ] at hl
   cases nW:fC (wr++news) id with
   | none=>simp only [nW] at hl;simp [hl]
   | some r=>
    obtain ⟨p,hp,e⟩:=GX _ _ _ nW
    rcases aaw.1 hp with hp|hp
    ·have:=(hwr p hp).1;rw [e] at this;exact this
    ·have:=df p hp
     rw [e] at this
     obtain ⟨l',l6⟩:=h.dom id q' h2
     rw [this] at l6;cases l6
  refine ⟨his,?_⟩
  have:=hE.le id q' (by simp [his,h2])
  rw [h1] at this
  exact abn this
 have le1:ρ'.le (fun id=>match ρ id with | some q=>some q | none=>ρ' id):=by
  intro id q hq
  simp only
  cases h0:ρ id with
  | none=>exact hq
  | some q'=>rw [(old id q hq q' h0).2]
 have le2:ρ.le (fun id=>match ρ id with | some q=>some q | none=>ρ' id):=by
  intro id q hq
  simp only [hq]
 have sub:∀ id q,(if ((dc st ids).blk id).isSome then ρ id else none)=some q→ρ id=some q∧((dc st ids).blk id).isSome=true:=by
  intro id q hq
  split at hq
  ·rename_i his;exact ⟨hq,his⟩
  ·cases hq
 have zvN:∀ id b o,ρ id=none→ρ' id=some (b,o)→w.heap.size≤b∨Own (fun id=>if ((dc st ids).blk id).isSome then ρ id else none) b:=fun id b o h0 h1=>hE.new id b o (by simp [h0]) h1
 have kept:∀ b,b<w.heap.size→¬Own (fun id=>if ((dc st ids).blk id).isSome then ρ id else none) b→w'.heap[b]? = w.heap[b]?:=hE.keep.block
 have before:∀ id q l,ρ id=some q→St.blk (aX st (ia (wr++news))) id=some l→Live id l→∃ l0,st.blk id=some l0∧Live id l0:=by
  intro id q l hq hl kh
  rw [eJ] at hl
  cases nW:fC (wr++news) id with
  | none=>rw [nW] at hl;exact ⟨l,hl,kh⟩
  | some r=>
   obtain ⟨p,hp,e⟩:=GX _ _ _ nW
   rcases aaw.1 hp with hp|hp
   ·obtain ⟨h1,h2⟩:=hwr p hp
    rw [e] at h1 h2
    obtain ⟨l0,h3,_⟩:=pI h1
    exact ⟨l0,(kK h3).1,za h3 h2⟩
   ·have:=df p hp
    rw [e] at this
    obtain ⟨l',l6⟩:=h.dom id q hq
    rw [this] at l6;cases l6
 have same:∀ id l,(((dc st ids).blk id).isSome=true∨ρ id=none)→St.blk (aX st (ia (wr++news))) id=some l→St.blk (aX (dc st ids) (ia (wr++news))) id=some l:=by
  intro id l cl hl
  rw [eJ] at hl ⊢
  cases nW:fC (wr++news) id with
  | some r=>rw [nW] at hl;exact hl
  | none=>
   rw [nW] at hl
   simp only at hl ⊢
   rcases cl with cl|cl
   ·obtain ⟨l0,h3,h4⟩:=pI cl
    rw [h4,←(kK h3).1];exact hl
   ·obtain ⟨b,o,vs,h1,_⟩:=h.mem.blk id l hl
    rw [cl] at h1;cases h1
 have zsA:∀ id b o l,ρ id=some (b,o)→St.blk (aX st (ia (wr++news))) id=some l→Live id l→(w.heap.size≤b∨Own (fun id=>if ((dc st ids).blk id).isSome then ρ id else none) b)→((dc st ids).blk id).isSome=true:=by
  intro id b o l hq hl kh hb
  rcases hb with hb|⟨id0,o0,ho0,hq0⟩
  ·have:=h.lt hq;omega
  ·obtain ⟨h1,h2⟩:=sub _ _ hq0
   obtain ⟨l0,h3,_⟩:=pI h2
   obtain ⟨k0,h5,h6⟩:=before id _ l hq hl kh
   have:=h.inj.inj id0 id b o0 o l0 k0 ho0 (kK h3).1 h5 (za h3 ho0) h6 h1 hq
   subst this
   exact h2
 refine ⟨_,⟨le2,?_,?_⟩,le1,?_⟩
 ·intro id b o h0 h1
  simp only [h0] at h1
  rcases zvN id b o h0 h1 with h3|⟨id2,o2,ho2,hq2⟩
  ·exact .inl h3
  ·exact .inr ⟨id2,o2,ho2,(sub _ _ hq2).1⟩
 ·refine ⟨hE.keep.os,hE.keep.tape,hE.keep.output,hE.keep.size,fun k hk hD=>kept k hk ?_⟩
  rintro ⟨id,o,ho,hq⟩
  exact hD ⟨id,o,ho,(sub _ _ hq).1⟩
 ·constructor
  ·intro t x hx
   rw [Xe] at hx
   exact SV.val_le le2 _ _ (h.slots t x hx)
  ·exact h.size
  ·constructor
   intro id l hl
   by_cases sP:((dc st ids).blk id).isSome=true
   ·obtain ⟨b,o,vs,h1,h2,h3⟩:=hM.ok.blk id l (same id l (.inl sP) hl)
    exact ⟨b,o,vs,le1 _ _ h1,eR le1 _ _ h2,h3⟩
   ·rw [eJ] at hl
    cases nW:fC (wr++news) id with
    | some r=>
     simp only [nW,aag] at hl
     subst hl
     obtain ⟨b,o,vs,h1,h2,h3⟩:=hM.ok.blk id r (by rw [eJ,nW])
     exact ⟨b,o,vs,le1 _ _ h1,eR le1 _ _ h2,h3⟩
    | none=>
     simp only [nW] at hl
     obtain ⟨b,o,vs,h1,h2,h3⟩:=h.mem.blk id l hl
     by_cases kh:Live id l
     ·refine ⟨b,o,vs,le2 _ _ h1,eR le2 _ _ h2,h3.of_kept hE.keep.size (kept b h3.1 ?_)⟩
      rintro ⟨id',o',ho',EH⟩
      obtain ⟨h4,h5⟩:=sub _ _ EH
      obtain ⟨l0,h6,_⟩:=pI h5
      have:=h.inj.inj id' id b o' o l0 l ho' (kK h6).1 hl (za h6 ho') kh h4 h1
      subst this
      exact sP h5
     ·exact ⟨b,o,vs,le2 _ _ h1,eR le2 _ _ h2,lF kh h2 h3 hE.keep.size⟩
  ·constructor
   intro id id' b o o' l l' ho m1 m2 l1 l2 h1 h2
   cases e1:ρ id with
   | some q1=>
    simp only [e1,aag] at h1
    subst h1
    cases e2:ρ id' with
    | some q2=>
     simp only [e2,aag] at h2
     subst h2
     obtain ⟨k0,a1,a2⟩:=before id _ l e1 m1 l1
     obtain ⟨k0',a3,a4⟩:=before id' _ l' e2 m2 l2
     exact h.inj.inj id id' b o o' k0 k0' ho a1 a3 a2 a4 e1 e2
    | none=>
     simp only [e2] at h2
     have sP:=zsA id b o l e1 m1 l1 (zvN id' b o' e2 h2)
     exact hM.inj.inj id id' b o o' l l' ho (same id l (.inl sP) m1) (same id' l' (.inr e2) m2) l1 l2 (hE.le id _ (by simp only [sP,if_true];exact e1)) h2
   | none=>
    simp only [e1] at h1
    cases e2:ρ id' with
    | some q2=>
     simp only [e2,aag] at h2
     subst h2
     have sP:=zsA id' b o' l' e2 m2 l2 (zvN id b o e1 h1)
     exact hM.inj.inj id id' b o o' l l' ho (same id l (.inr e1) m1) (same id' l' (.inl sP) m2) l1 l2 h1 (hE.le id' _ (by simp only [sP,if_true];exact e2))
    | none=>
     simp only [e2] at h2
     exact hM.inj.inj id id' b o o' l l' ho (same id l (.inr e1) m1) (same id' l' (.inr e2) m2) l1 l2 h1 h2
  ·intro id q hq
   rw [eJ]
   cases nW:fC (wr++news) id with
   | some r=>exact ⟨r,rfl⟩
   | none=>
    cases e1:ρ id with
    | some q1=>exact h.dom id q1 e1
    | none=>
     simp only [e1] at hq
     obtain ⟨l,hl⟩:=hM.dom id q hq
     rw [eJ,nW,hb] at hl
     simp only at hl
     split at hl
     ·exact ⟨l,(kK hl).1⟩
     ·cases hl
  ·exact h.calm
def jK:List It→List Nat
 | []=>[]
 | .p id _::l=>id::jK l
 | .s id _ _ _::l=>id::jK l
 | .f _ caps::l=>caps.map (·.1)++jK l
 | .c id _ _ _ _::l=>id::jK l
 | .v _::l=>jK l
 | .w _ _::l=>jK l
 | .g _ _ _::l=>jK l
def qK:List AV→List Nat
 | []=>[]
 | x::l=>jK x.its++qK l
theorem zii{ρ ρ':Rho}{id:Nat}(h:∀ q,ρ id=some q→ρ' id=some q){q:Nat×Nat}(hq:ρ.at id=some q):ρ'.at id=some q:=by
 obtain ⟨q',h1,rfl⟩:=Rho.of_at hq
 exact Rho.at_some (h _ h1)
theorem SD{ρ ρ':Rho}:∀ (l:List (Nat×Nat)) (vs:List Value),(∀ id∈l.map (·.1),∀ q,ρ id=some q→ρ' id=some q)→gP ρ l=some vs→gP ρ' l=some vs:=by
 intro l
 induction l with
 | nil=>intro vs _ h;exact h
 | cons c l ih=>
  intro vs nH h
  simp only [gP] at h ⊢
  split at h
  ·rename_i q us hq BM
   rw [zii (nH c.1 (by simp)) hq,ih us (fun id cl=>nH id (by simp only [aaB,aae];exact .inr cl)) BM]
   exact h
  ·cases h
theorem Ke{ρ ρ':Rho}:∀ (l:List It) (vs:List Value),(∀ id∈jK l,∀ q,ρ id=some q→ρ' id=some q)→conc ρ l=some vs→conc ρ' l=some vs:=by
 intro l
 induction l with
 | nil=>intro vs _ h;exact h
 | cons i l ih=>
  intro vs nH h
  obtain ⟨a,b,ha,hb,rfl⟩:=cz h
  cases i with
  | v x=>exact en ha (ih b (fun id cl=>nH id cl) hb)
  | w k n=>exact en ha (ih b (fun id cl=>nH id cl) hb)
  | g ik k m=>exact en ha (ih b (fun id cl=>nH id cl) hb)
  | p id off=>
   refine en ?_ (ih b (fun j hj=>nH j (by simp [jK,hj])) hb)
   simp only [It.cs] at ha ⊢
   split at ha
   ·rename_i q hq;rw [zii (nH id (by simp [jK])) hq];exact ha
   ·cases ha
  | s id off len cap=>
   refine en ?_ (ih b (fun j hj=>nH j (by simp [jK,hj])) hb)
   simp only [It.cs] at ha ⊢
   split at ha
   ·rename_i q hq;rw [zii (nH id (by simp [jK])) hq];exact ha
   ·cases ha
  | f fn caps=>
   refine en ?_ (ih b (fun j hj=>nH j (by simp [jK,hj])) hb)
   simp only [It.cs] at ha ⊢
   split at ha
   ·rename_i us BM
    rw [SD caps us (fun j hj=>nH j (by simp only [jK,aaw];exact .inl hj)) BM];exact ha
   ·cases ha
  | c id sz adr off len=>
   refine en ?_ (ih b (fun j hj=>nH j (by simp [jK,hj])) hb)
   simp only [It.cs] at ha ⊢
   split at ha
   ·rename_i q hq;rw [nH id (by simp [jK]) q hq];exact ha
   ·cases ha
theorem AV.val_on{ρ ρ':Rho}{x:AV}{v:Value}(nH:∀ id∈jK x.its,∀ q,ρ id=some q→ρ' id=some q)(h:x.val ρ=some v):x.val ρ'=some v:=by
 unfold AV.val at h ⊢
 cases hc:conc ρ x.its with
 | none=>simp [hc] at h
 | some vs=>rw [hc] at h;rw [Ke _ _ nH hc];exact h
theorem Ts{ρ ρ':Rho}:∀ (l:List AV) (vs:List Value),(∀ id∈qK l,∀ q,ρ id=some q→ρ' id=some q)→ay ρ l=some vs→ay ρ' l=some vs:=by
 intro l
 induction l with
 | nil=>intro vs _ h;exact h
 | cons x l ih=>
  intro vs nH h
  simp only [ay] at h ⊢
  split at h
  ·rename_i v us hv BM
   rw [AV.val_on (fun id cl=>nH id (by simp [qK,cl])) hv,ih us (fun id cl=>nH id (by simp [qK,cl])) BM];exact h
  ·cases h
def wX(st:St)(id:Nat):Bool:=match st.blk id with
 | some l=>!(zfU id l)
 | none=>true
def qi(st:St)(as ids:List Nat):Bool:=as.all (wX st)&&ids.all fun id=>match st.kept id with
 | some l=>(jK l).all fun j=>ids.contains j&&wX st j
 | none=>true
theorem Sim.on{ρ:Rho}{N:Nat}{st:St}{a:Act}{w:World}(h:Sim ρ N st a w){ids:List Nat}{id:Nat}(cl:id∈ids)(hk:wX st id=true){q:Nat×Nat}(hq:ρ id=some q):
  (fun id=>if ((dc st ids).blk id).isSome then ρ id else none) id=some q:=by
 obtain ⟨l,hl⟩:=h.dom id q hq
 have:st.kept id=some l:=zmu hl (by unfold wX at hk;rw [hl] at hk;simpa using hk)
 simp only [pg,if_pos cl,this,Option.isSome_some,if_true,hq]
theorem Sim.handed{ρ:Rho}{N:Nat}{st:St}{a:Act}{w:World}(h:Sim ρ N st a w)(as ids:List Nat)(BN:qi st as ids=true):Mem (fun id=>if ((dc st ids).blk id).isSome then ρ id else none) (dc st ids) w:=by
 have hb:=fun id=>pg st ids id
 have sub:∀ id q,(if ((dc st ids).blk id).isSome then ρ id else none)=some q→ρ id=some q:=by
  intro id q hq;split at hq
  ·exact hq
  ·cases hq
 have blk:∀ id l,(dc st ids).blk id=some l→id∈ids∧st.kept id=some l:=by
  intro id l hl
  rw [hb] at hl
  split at hl
  ·rename_i sP;exact ⟨sP,hl⟩
  ·cases hl
 unfold qi at BN
 rw [aaf] at BN
 refine ⟨⟨fun id l hl=>?_⟩,⟨fun id id' b o o' l l' ho m1 m2 l1 l2 h1 h2=>h.inj.inj id id' b o o' l l' ho (kK (blk _ _ m1).2).1 (kK (blk _ _ m2).2).1 l1 l2 (sub _ _ h1) (sub _ _ h2)⟩,fun id q hq=>?_⟩
 ·obtain ⟨sP,hk⟩:=blk id l hl
  obtain ⟨hk1,RH⟩:=kK hk
  obtain ⟨b,o,vs,h1,h2,h3⟩:=h.mem.blk id l hk1
  refine ⟨b,o,vs,h.on sP (by unfold wX;rw [hk1];simp [RH]) h1,Ke l vs (fun j hj q hq=>?_) h2,h3⟩
  have BN:=BN.2
  rw [aaF] at BN
  have:=BN id sP
  simp only [hk,aaF] at this
  have:=this j hj
  rw [aaf] at this
  exact h.on (by simpa using this.1) this.2 hq
 ·split at hq
  ·rename_i his;exact aa5.1 his
  ·cases hq
end Go.Eng
