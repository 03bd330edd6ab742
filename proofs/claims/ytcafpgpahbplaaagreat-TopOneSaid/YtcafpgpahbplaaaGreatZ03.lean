/-
 The proof, part 3 of 25.
-/
import Derived.Test.YtcafpgpahbplaaaGreatZ02
import Derived.Scope
import Derived.LoopN
open Array renaming getD_eq_getD_getElem?->aaO,getElem?_eq_getElem->abZ,getElem?_eq_some_iff->aa8,length_toList->abx,replicate->ac5
open Bool renaming and_eq_true->aaf,and_true->ab2,false_eq_true->aaS,or_eq_true->acm
open Go renaming FuncId->aaz,Program->aaE,ResultVar->acM,TypeId->aax
open Go.Code renaming rounds->adu
open Go.Oper renaming upon_value->abQ
open Go.Region renaming ready->adC,wanted->ab1
open Go.Result renaming andThen_ok->aaj
open Go.Sem renaming run_bind->aal
open Go.Value renaming oneCell'->abp
open List renaming all_cons->abX,all_eq_true->aaF,all_nil->ab8,append_nil->aaP,cons_append->abe,contains_eq_mem->ab3,drop_eq_getElem_cons->ack,filter_congr->acR,flatMap_append->ad7,flatMap_cons->acy,flatMap_nil->aeg,getD_eq_getElem?_getD->aaU,getElem?_append->acr,getElem?_append_left->abr,getElem?_cons_succ->abW,getElem?_cons_zero->abo,getElem?_drop->abC,getElem?_eq_getElem->aaC,getElem?_eq_some_iff->abH,getElem?_take->aa7,getElem?_toArray->aba,getElem_mem->adM,length_append->aaX,length_drop->aa1,length_take->abd,mem_append_left->aau,mem_append_right->aaq,mem_cons->aae,mem_cons_of_mem->aaa,mem_filter->adz,mem_filterMap->acG,mem_flatMap->acX,mem_map->aaY,mem_singleton->aao,range->aan,size_toArray->abL,take_succ_cons->ac0,take_succ_eq_append_getElem->acv
open List.cons renaming injEq->aaM
open Nat renaming add_zero->aaN,eq_of_beq_eq_true->aas,eq_zero_or_pos->abT,le_refl->aaV,mul_div_cancel->ac9,mul_le_mul_right->aaI,zero_add->aay
open Option renaming getD_some->adL
open Option.some renaming injEq->aag
open Prod.mk renaming injEq->abq
set_option linter.unusedVariables false
set_option linter.unusedSimpArgs false
namespace Go.Eng
open Go Go.RowKit
def BW:Value→Option SV
 | .agg cs=>if cs.toList.all (·.oneCell') then some (.one ⟨true,cs.toList.map .v⟩) else none
 | .tuple _=>none
 | v=>some (iG (.v v))
def evE(aZ:Nat→Option SV):Operand→Option SV
 | .tmp t=>aZ t
 | .const v=>BW v
 | .func f=>some (iG (.f f []))
 | .global _=>none
theorem zDr{ρ:Rho}{x:Value}(h:x.oneCell'=true):(iG (.v x)).val ρ=some x:=AV.val_v h
theorem OJ{ρ:Rho}{v:Value}{s:SV}(h:BW v=some s):s.val ρ=some v:=by
 cases v
 case agg cs=>
  simp only [BW] at h
  split at h
  ·rename_i zi
   cases h
   rw [aaF] at zi
   simp only [SV.val,AV.val,iU ρ _ zi]
  ·cases h
 case tuple=>cases h
 all_goals
  simp only [BW,aag] at h
  subst h
  exact zDr rfl
theorem Vy{ρ:Rho}{a:Act}{aZ:Nat→Option SV}(Fj:∀ t x,aZ t=some x→x.val ρ=some (a.tmps.getD t undef)):∀ x s,evE aZ x=some s→s.val ρ=some (a.eval x):=by
 intro x s h
 cases x with
 | tmp t=>exact Fj t s h
 | const v=>exact OJ h
 | func f=>
  cases h
  have e:(It.f f []).cs ρ=some [.func (.func f) #[] #[]]:=rfl
  exact AV.val_mk (ρ:=ρ) e
 | global g=>cases h
def Bp(ops:Array Oper)(o:Oper)(aZ:Nat→Option SV):Option Bool:=match o.guard with
 | none=>some true
 | some (j,want)=>match (ops[j]?).bind (·.dst) with
  | none=>none
  | some d=>match aZ d with
   | some (.one ⟨false,[.v (.bool b)]⟩)=>some (b==want)
   | some (.tup [])=>some false
   | _=>none
theorem Ce{ρ:Rho}{a:Act}{ops:Array Oper}{o:Oper}{aZ:Nat→Option SV}(Fj:∀ t x,aZ t=some x→x.val ρ=some (a.tmps.getD t undef)){b:Bool}(h:Bp ops o aZ=some b):
  ab1 o (yielded ops a.tmps)=b:=by
 unfold Bp at h
 unfold ab1
 cases hg:o.guard with
 | none=>simp only [hg] at h;cases h;rfl
 | some g=>
  obtain ⟨j,want⟩:=g
  simp only [hg] at h
  simp only
  unfold yielded
  cases hd:(ops[j]?).bind (·.dst) with
  | none=>simp only [hd] at h;cases h
  | some d=>
   simp only [hd] at h
   simp only [Option.bind_some]
   split at h
   ·rename_i c hc
    cases h
    have:=AV.val_one (ρ:=ρ) (i:=.v (.bool c)) (Fj d _ hc)
    simp only [It.cs,abp,aag,aaM,and_true] at this
    rw [aaO] at this
    cases ht:a.tmps[d]? with
    | none=>rw [ht] at this;cases this
    | some v=>
     rw [ht] at this
     simp only [adL] at this
     subst this
     cases c<;>cases want<;>rfl
   ·rename_i hc
    cases h
    have:=Fj d _ hc
    simp only [SV.val,ay,aag] at this
    rw [aaO] at this
    cases ht:a.tmps[d]? with
    | none=>cases want<;>rfl
    | some v=>
     rw [ht] at this
     simp only [adL] at this
     subst this
     cases want<;>rfl
   ·cases h
def zn0(N:Nat):Option Nat→SV→Option (List (Nat×Ct))
 | none,_=>some []
 | some d,x=>if d<N then some [(2*d,.sl x)] else none
abbrev qB:=List Nat×List (Nat×Ct)×List Prop
def je(st:St)(l:List (Nat×List It)):Bool:=l.all fun p=>match look st (2*p.1+1) with
 | none=>true
 | some _=>false
def zff(m:St)(l:List (Nat×List It)):Bool:=l.all fun p=>(m.blk p.1).isSome&&(own p.1 || app p.1)
def yi(st:St):List Nat→List Nat
 | []=>[]
 | id::l=>match st.kept id with
  | some b=>jK b++yi st l
  | none=>yi st l
def eO(st:St)(args:List AV)(cJ:List Nat):List Nat:=match qK args with
 | []=>[]
 | l=>l++(yi st l++cJ)
theorem HZ{st kb:St}:∀ (l:List Nat),(∀ id∈l,st.blk id=kb.blk id)→yi st l=yi kb l:=by
 intro l
 induction l with
 | nil=>intro _;rfl
 | cons j l ih=>
  intro h
  have e:st.kept j=kb.kept j:=by unfold St.kept;rw [h j (by simp)]
  simp only [yi,e,ih fun id cl=>h id (by simp [cl])]
theorem Fk{st kb:St}{args:List AV}{cJ:List Nat}(h:∀ id∈eO st args cJ,st.blk id=kb.blk id):eO st args cJ=eO kb args cJ:=by
 unfold eO at h ⊢
 split
 ·rfl
 ·rw [HZ (qK args) fun id cl=>h id (by
   split
   ·rename_i h0;rw [h0] at cl;cases cl
   ·exact aau _ cl)]
def ix(N:Nat)(dst:Option Nat)(x:SV)(reads:List Nat)(wr:List (Nat×Ct))(ob:List Prop):Option qB:=match zn0 N dst x with
 | some d=>some (reads,wr++d,ob)
 | none=>none
def Jj(l:List It)(off len:Nat)(agg:Bool):Option (AV×List Prop):=match l with
 | [.w 0 _,.w k n]=>match agg,Nat.beq len 1 with
  | false,true=>some (⟨false,[.v (pv n off)]⟩,[off<k])
  | _,_=>none
 | [.w 0 _,.g ik k f]=>match agg with
  | false=>match Nat.beq len 1 with
   | true=>some (⟨false,[.v (.int ik (f off))]⟩,[off<k])
   | false=>none
  | true=>some (⟨true,[.g ik len (fun i=>f (off+i))]⟩,[off+len≤k])
 | l=>match cut l off len with
  | some r=>some (⟨agg,r⟩,[])
  | none=>none
theorem Yp{l:List It}{off len:Nat}{agg:Bool}{x:AV}{ob:List Prop}(h:Jj l off len agg=some (x,ob))(ax:∀ p∈ob,p){ρ:Rho}{vs:List Value}(hc:conc ρ l=some vs):
  off+len≤vs.length∧((agg=true∧x.agg=true∧conc ρ x.its=some ((vs.drop off).take len))∨(agg=false∧x.agg=false∧(len=1→conc ρ x.its=some ((vs.drop off).take 1)))):=by
 unfold Jj at h
 split at h
 ·rename_i k0 k n
  split at h
  ·rename_i hb
   cases h
   have hb:len=1:=aas hb
   have hlt:off<k:=ax _ (aao.2 rfl)
   have hv:vs=au k n:=by
    simp only [conc,It.cs,aag] at hc
    rw [←hc];simp [au]
   subst hv
   subst hb
   refine ⟨by rw [kJ];omega,.inr ⟨rfl,rfl,fun _=>?_⟩⟩
   have h1:((au k n).drop off).take 1=[pv n off]:=by
    rw [ack (by rw [kJ];exact hlt)]
    simp [au]
   rw [h1]
   simp [conc,It.cs,pv,abp]
  ·cases h
 ·rename_i k0 ik k f
  rw [aD] at hc
  cases hc
  split at h
  ·split at h
   ·rename_i hb
    cases h
    have hb:len=1:=aas hb
    have hlt:off<k:=ax _ (aao.2 rfl)
    subst hb
    refine ⟨by rw [cD];omega,.inr ⟨rfl,rfl,fun _=>?_⟩⟩
    rw [zk _ _ (show off+1≤k from hlt)]
    simp [conc,It.cs,gvals,abp]
   ·cases h
  ·cases h
   have hle:off+len≤k:=ax _ (aao.2 rfl)
   refine ⟨by rw [cD];exact hle,.inl ⟨rfl,rfl,?_⟩⟩
   rw [zk _ _ hle]
   simp [conc,It.cs]
 ·split at h
  ·rename_i r hr
   cases h
   obtain ⟨hle,xj⟩:=o_ hr hc
   refine ⟨hle,?_⟩
   cases agg with
   | true=>exact .inl ⟨rfl,rfl,xj⟩
   | false=>exact .inr ⟨rfl,rfl,fun e=>by rw [e] at xj;exact xj⟩
  ·cases h
def St.rblk(st:St)(id:Nat):Option (List It):=st.blk id
theorem rJ{st:St}{id:Nat}{l:List It}(h:st.rblk id=some l):st.blk id=some l:=h
def cU(nid:Nat):Nat:=nid+1000000000000000000000000000000000000000000000000000000000000000000000000000000000000
theorem ziq{nid:Nat}(h:own nid=true):app (cU nid)=true:=by
 unfold own at h
 unfold app cU
 simp only [aaf,decide_eq_true_eq] at h ⊢
 omega
def MH(c:Bool)(id:Nat):List (Nat×Ct):=match c with
 | true=>[(2*id+1,.bl [])]
 | false=>[]
def zpn(c:Bool)(xid xoff nid:Nat):Bool:=Bool.and (match c with
 | true=>app xid&&Nat.beq xoff 0
 | false=>true) (own nid)
def zqQ(c:Bool)(l:List It):Bool:=match c with
 | true=>!(qE l)
 | false=>true
def zvh(id:Nat)(l:List It):Bool:=own id || (app id && !(qE l))
def dR(call:CallT)(N:Nat)(cJ:List Nat)(nid:Nat)(dst:Option Nat)(st:St):Plan→Option qB
 | .val x ob=>ix N dst x [] [] ob
 | .load id off len agg=>match st.rblk id with
  | some l=>match Jj l off len agg with
   | some (x,ob)=>ix N dst (.one x) [2*id+1] [] ob
   | none=>none
  | none=>none
 | .new l sl=>match own nid,je st [(nid,l)] with
  | true,true=>ix N dst (match sl with | some n=>iG (.s nid 0 n n) | none=>iG (.p nid 0)) [2*nid+1] [(2*nid+1,.bl l)] []
  | _,_=>none
 | .store id off new=>match st.blk id with
  | some l=>match zvh id l,Yv l off new with
   | true,some (r,ob)=>ix N dst (.tup []) [2*id+1] [(2*id+1,.bl r)] ob
   | _,_=>none
  | none=>none
 | .clear id off new=>match own id,st.blk id with
  | true,some l=>match lay l off new with
   | some r=>ix N dst (.tup []) [2*id+1] [(2*id+1,.bl r)] []
   | none=>none
  | _,_=>none
 | .copy did doff sid soff cells cnt=>match own did,st.blk did,st.rblk sid with
  | true,some l,some l2=>match Kb l2 soff cells with
   | some (c,o1)=>match Yv l doff c with
    | some (r,o2)=>ix N dst (vI .i64 (cnt:Int)) [2*did+1,2*sid+1] [(2*did+1,.bl r)] (o1++o2)
    | none=>none
   | none=>none
  | _,_,_=>none
 | .app c s xid xoff xlen yid yoff m=>match zpn c xid xoff nid,je st [(cU nid,[])] with
  | true,true=>match st.blk xid,st.rblk yid with
   | some lx,some ly=>match Kb lx xoff (xlen*s),Kb ly yoff (m*s),zqQ c lx with
    | some (l1,o1),some (l2,o2),true=>ix N dst (iG (.c (cU nid) s 0 0 (xlen+m))) [2*xid+1,2*yid+1,2*cU nid+1] (MH c xid++[(2*cU nid+1,.bl (G2 l1 l2).1)]) (o1++(o2++(G2 l1 l2).2))
    | _,_,_=>none
   | _,_=>none
  | _,_=>none
 | .appz s n l=>match own nid,je st [(cU nid,[])] with
  | true,true=>ix N dst (iG (.c (cU nid) s 0 0 n)) [2*cU nid+1] [(2*cU nid+1,.bl l)] []
  | _,_=>none
 | .call f args=>match qi st (qK args) (eO st args cJ),call f args (dc st (eO st args cJ)) nid with
  | true,some out=>match je st out.news,zff (dc st (eO st args cJ)) out.wr with
   | true,true=>ix N dst out.val ((eO st args cJ).map (fun id=>2*id+1)++out.news.map fun p=>2*p.1+1) (ia (out.wr++out.news)) out.ob
   | _,_=>none
  | _,_=>none
 | .owe _ _=>none
def uH(call:CallT)(N:Nat)(cJ:List Nat)(nid:Nat)(dst:Option Nat)(st:St)(p:Plan):Option qB:=match p with
 | .owe ob p=>match dR call N cJ nid dst st p with
  | some (R,W,jW)=>some (R,W,ob++jW)
  | none=>none
 | p=>dR call N cJ nid dst st p
def xx(st:St)(sl:List Nat)(t:Nat):Option SV:=if sl.contains t then st.slot t else none
def rq(tab:aax→Option Ty)(call:CallT)(N:Nat)(ops:Array Oper)(cJ:List Nat)(nid:Nat)(hint:Option Bool)(o:Oper)(st:St):Option qB:=
 match Bp ops o (xx st (o.looksAt ops)) with
 | some true=>match IV tab hint (evE (xx st (o.looksAt ops))) o.op with
  | some p=>match uH call N cJ nid o.dst st p with
   | some (R,W,ob)=>some ((o.looksAt ops).map (fun t=>2*t)++R,W,ob)
   | none=>none
  | none=>none
 | some false=>match zn0 N o.dst (.tup []) with
  | some d=>some ((o.looksAt ops).map (fun t=>2*t),d,[])
  | none=>none
 | none=>none
theorem ki{st kb:St}{id:Nat}(h:look st (2*id+1)=look kb (2*id+1)):st.blk id=kb.blk id:=by unfold St.blk;rw [h]
theorem pO{st kb:St}{id:Nat}(h:look st (2*id+1)=look kb (2*id+1)):st.rblk id=kb.rblk id:=by unfold St.rblk;rw [ki h]
theorem MC{st kb:St}:∀ (l:List Nat),(∀ id∈l,st.blk id=kb.blk id)→dc st l=dc kb l:=by
 intro l
 induction l with
 | nil=>intro _;rfl
 | cons j l ih=>
  intro h
  have e:st.kept j=kb.kept j:=by unfold St.kept;rw [h j (by simp)]
  simp only [dc,e,ih fun id cl=>h id (by simp [cl])]
theorem tT{call:CallT}{N:Nat}{cJ:List Nat}{nid:Nat}{dst:Option Nat}{st kb:St}{p:Plan}{R:List Nat}{W:List (Nat×Ct)}{ob:List Prop}
  (h:dR call N cJ nid dst st p=some (R,W,ob)) (hR:∀ k∈R,look st k=look kb k):dR call N cJ nid dst kb p=some (R,W,ob):=by
 have pd:∀ {x:SV} {rd:List Nat} {wr:List (Nat×Ct)} {jW:List Prop},ix N dst x rd wr jW=some (R,W,ob)→rd=R:=by
  intro x rd wr jW h
  unfold ix at h
  split at h
  ·cases h;rfl
  ·cases h
 cases p with
 | owe _ _=>cases h
 | val x jW=>exact h
 | app c s xid xoff xlen yid yoff m=>
  simp only [dR] at h ⊢
  cases ho:zpn c xid xoff nid with
  | false=>simp [ho] at h
  | true=>
   cases hf:je st [(cU nid,[])] with
   | false=>simp [ho,hf] at h
   | true=>
    cases hb:st.blk xid with
    | none=>simp [ho,hf,hb] at h
    | some lx=>
     cases tP:st.rblk yid with
     | none=>simp [ho,hf,hb,tP] at h
     | some ly=>
      cases hc:Kb lx xoff (xlen*s) with
      | none=>simp [ho,hf,hb,tP,hc] at h
      | some l1=>
       cases RJ:Kb ly yoff (m*s) with
       | none=>simp [ho,hf,hb,tP,hc,RJ] at h
       | some l2=>
        cases ht:zqQ c lx with
        | false=>simp [ho,hf,hb,tP,hc,RJ,ht] at h
        | true=>
         simp only [ho,hf,hb,tP,hc,RJ,ht] at h
         have:=pd h
         have e:=ki (hR (2*xid+1) (by rw [←this];simp))
         have e2:=pO (hR (2*yid+1) (by rw [←this];simp))
         have e3:=hR (2*cU nid+1) (by rw [←this];simp)
         have e4:je kb [(cU nid,[])]=true:=by
          simp only [je,abX,ab8,ab2] at hf ⊢
          rw [←e3];exact hf
         rw [←e,←e2]
         simp only [e4,hb,tP,hc,RJ,ht,h]
 | appz s n l=>
  simp only [dR] at h ⊢
  cases ho:own nid with
  | false=>simp [ho] at h
  | true=>
   cases hf:je st [(cU nid,[])] with
   | false=>simp [ho,hf] at h
   | true=>
    simp only [ho,hf] at h
    have:=pd h
    have e3:=hR (2*cU nid+1) (by rw [←this];simp)
    have e4:je kb [(cU nid,[])]=true:=by
     simp only [je,abX,ab8,ab2] at hf ⊢
     rw [←e3];exact hf
    simp only [e4,h]
 | load id off len agg=>
  simp only [dR] at h ⊢
  cases hb:st.rblk id with
  | none=>simp [hb] at h
  | some l=>
   cases hc:Jj l off len agg with
   | none=>simp [hb,hc] at h
   | some r=>
    obtain ⟨x,jW⟩:=r
    simp only [hb,hc] at h
    have:=pd h
    have e:=pO (hR (2*id+1) (by rw [←this];simp))
    rw [←e]
    simp only [hb,hc,h]
 | new l sl=>
  simp only [dR] at h ⊢
  cases ho:own nid with
  | false=>simp [ho] at h
  | true=>
   cases hf:je st [(nid,l)] with
   | false=>simp [ho,hf] at h
   | true=>
    simp only [ho,hf] at h
    have:=pd h
    have e:=hR (2*nid+1) (by rw [←this];simp)
    have:je kb [(nid,l)]=true:=by
     simp only [je,abX,ab8,ab2] at hf ⊢
     rw [←e];exact hf
    simp only [this];exact h
 | store id off new=>
  simp only [dR] at h ⊢
  cases hb:st.blk id with
  | none=>simp [hb] at h
  | some l=>
   cases ho:zvh id l with
   | false=>simp [hb,ho] at h
   | true=>
    cases hc:Yv l off new with
    | none=>simp [ho,hb,hc] at h
    | some r=>
     simp only [ho,hb,hc] at h
     have:=pd h
     have e:=ki (hR (2*id+1) (by rw [←this];simp))
     rw [←e]
     simp only [ho,hb,hc,h]
 | clear id off new=>
  simp only [dR] at h ⊢
  cases ho:own id with
  | false=>simp [ho] at h
  | true=>
   cases hb:st.blk id with
   | none=>simp [ho,hb] at h
   | some l=>
    cases hc:lay l off new with
    | none=>simp [ho,hb,hc] at h
    | some r=>
     simp only [ho,hb,hc] at h
     have:=pd h
     have e:=ki (hR (2*id+1) (by rw [←this];simp))
     rw [←e]
     simp only [hb,hc,h]
 | copy did doff sid soff cells cnt=>
  simp only [dR] at h ⊢
  cases ho:own did with
  | false=>simp [ho] at h
  | true=>
   cases hb:st.blk did with
   | none=>simp [ho,hb] at h
   | some l=>
    cases tP:st.rblk sid with
    | none=>simp [ho,hb,tP] at h
    | some l2=>
     cases RJ:Kb l2 soff cells with
     | none=>simp [ho,hb,tP,RJ] at h
     | some c=>
      cases hc:Yv l doff c.1 with
      | none=>simp [ho,hb,tP,RJ,hc] at h
      | some r=>
       simp only [ho,hb,tP,RJ,hc] at h
       have:=pd h
       have e:=ki (hR (2*did+1) (by rw [←this];simp))
       have e2:=pO (hR (2*sid+1) (by rw [←this];simp))
       rw [←e,←e2]
       simp only [hb,tP,RJ,hc,h]
 | call f args=>
  simp only [dR] at h ⊢
  cases BN:qi st (qK args) (eO st args cJ) with
  | false=>simp [BN] at h
  | true=>
   cases hc:call f args (dc st (eO st args cJ)) nid with
   | none=>simp [BN,hc] at h
   | some out=>
    simp only [BN,hc] at h
    cases hf:je st out.news with
    | false=>simp [hf] at h
    | true=>
     cases hi:zff (dc st (eO st args cJ)) out.wr with
     | false=>simp [hf,hi] at h
     | true=>
      simp only [hf,hi] at h
      have:=pd h
      have eb:∀ id∈eO st args cJ,st.blk id=kb.blk id:=fun id cl=>ki (hR _ (by
       rw [←this];exact aau _ (aaY.2 ⟨id,cl,rfl⟩)))
      have eh:=Fk eb
      have em:=MC _ eb
      have sP:∀ id∈qK args,id∈eO st args cJ:=by
       intro id cl
       unfold eO
       split
       ·rename_i he;rw [he] at cl;cases cl
       ·exact aau _ cl
      have ek:∀ id∈eO st args cJ,wX st id=wX kb id:=fun id cl=>by unfold wX;rw [eb id cl]
      have e1:qi kb (qK args) (eO st args cJ)=true:=by
       unfold qi at BN ⊢
       rw [aaf,aaF,aaF] at BN ⊢
       refine ⟨fun id cl=>by rw [←ek id (sP id cl)];exact BN.1 id cl,fun id cl=>?_⟩
       have e:st.kept id=kb.kept id:=by unfold St.kept;rw [eb id cl]
       have h0:=BN.2 id cl
       rw [←e]
       cases hk:st.kept id with
       | none=>rfl
       | some l=>
        rw [hk] at h0
        simp only [aaF] at h0 ⊢
        intro j hj
        have h1:=h0 j hj
        rw [aaf] at h1 ⊢
        exact ⟨h1.1,by rw [←ek j (by simpa using h1.1)];exact h1.2⟩
      have e2:je kb out.news=true:=by
       unfold je at hf ⊢
       rw [aaF] at hf ⊢
       intro p hp
       rw [←hR _ (by rw [←this];exact aaq _ (aaY.2 ⟨p,hp,rfl⟩))];exact hf p hp
      rw [←eh]
      simp only [e1,←em,hc,e2,hi];exact h
theorem J9{call:CallT}{N:Nat}{cJ:List Nat}{nid:Nat}{dst:Option Nat}{st kb:St}{p:Plan}{R:List Nat}{W:List (Nat×Ct)}{ob:List Prop}
  (h:uH call N cJ nid dst st p=some (R,W,ob)) (hR:∀ k∈R,look st k=look kb k):uH call N cJ nid dst kb p=some (R,W,ob):=by
 unfold uH at h ⊢
 split at h
 ·rename_i jW p'
  split at h
  ·rename_i R' W' Dh hd
   cases h
   simp only [tT hd hR]
  ·cases h
 ·exact tT h hR
theorem H3{tab:aax→Option Ty}{call:CallT}{N:Nat}{ops:Array Oper}{cJ:List Nat}{nid:Nat}{hint:Option Bool}{o:Oper}{st kb:St}{R:List Nat}{W:List (Nat×Ct)}{ob:List Prop}
  (h:rq tab call N ops cJ nid hint o st=some (R,W,ob)) (hR:∀ k∈R,look st k=look kb k):rq tab call N ops cJ nid hint o kb=some (R,W,ob):=by
 have Nd:∀ t∈o.looksAt ops,2*t∈R:=by
  intro t ht
  unfold rq at h
  split at h
  ·split at h
   ·split at h
    ·cases h;exact aau _ (aaY.2 ⟨t,ht,rfl⟩)
    ·cases h
   ·cases h
  ·split at h
   ·cases h;exact aaY.2 ⟨t,ht,rfl⟩
   ·cases h
  ·cases h
 have Fj:xx st (o.looksAt ops)=xx kb (o.looksAt ops):=by
  funext t
  unfold xx
  by_cases ht:t∈o.looksAt ops
  ·have hc:(o.looksAt ops).contains t=true:=by simpa using ht
   simp only [hc,if_true]
   unfold St.slot
   rw [hR _ (Nd t ht)]
  ·have hc:(o.looksAt ops).contains t=false:=by simpa using ht
   simp only [hc,aaS,if_false]
 unfold rq at h ⊢
 rw [←Fj]
 cases hw:Bp ops o (xx st (o.looksAt ops)) with
 | none=>rw [hw] at h;cases h
 | some b=>
  rw [hw] at h
  cases b with
  | false=>exact h
  | true=>
   simp only at h ⊢
   cases hp:IV tab hint (evE (xx st (o.looksAt ops))) o.op with
   | none=>rw [hp] at h;cases h
   | some p=>
    rw [hp] at h
    simp only at h ⊢
    cases hd:uH call N cJ nid o.dst st p with
    | none=>rw [hd] at h;cases h
    | some q=>
     obtain ⟨R',W',jW⟩:=q
     rw [hd] at h
     cases h
     rw [J9 hd fun k hk=>hR k (aaq _ hk)]
theorem yL{N:Nat}{dst:Option Nat}{x:SV}{rd:List Nat}{wr:List (Nat×Ct)}{ob:List Prop}{R:List Nat}{W:List (Nat×Ct)}{jW:List Prop}(h:ix N dst x rd wr ob=some (R,W,jW)):ob=jW:=by
 unfold ix at h
 split at h
 ·cases h;rfl
 ·cases h
theorem jD{N:Nat}{dst:Option Nat}{x:SV}{rd:List Nat}{wr:List (Nat×Ct)}{ob:List Prop}{R:List Nat}{W:List (Nat×Ct)}{jW:List Prop}(h:ix N dst x rd wr ob=some (R,W,jW)){ρ:Rho}{st:St}{a:Act}{w:World}
  (hs:Sim ρ N (aX st wr) a w) {v:Value} (hv:x.val ρ=some v):jW=ob∧Sim ρ N (aX st W) (a.put dst v) w:=by
 unfold ix at h
 split at h
 ·rename_i d hd
  cases h
  refine ⟨rfl,?_⟩
  rw [kd]
  unfold zn0 at hd
  cases dst with
  | none=>cases hd;exact hs
  | some t=>
   simp only at hd
   split at hd
   ·rename_i ht;cases hd;exact hs.put ht hv
   ·cases hd
 ·cases h
section
variable {P:aaE}{tab:aax→Option Ty}{call:CallT}{N:Nat}{ops:Array Oper}{cJ:List Nat}{nid:Nat}{hint:Option Bool}{o:Oper}{st:St}{Q:Exit→Act→World→Prop}{R:List Nat}{W:List (Nat×Ct)}{ob:List Prop}{ρ:Rho}{a:Act}{w:World}
theorem BlkOk.cell{w:World}{id b o:Nat}{vs:List Value}(h:BlkOk w id b o vs){i:Nat}{v:Value}(hi:vs[i]? = some v):w.cell? ⟨(qo id (b,o)).1,(qo id (b,o)).2+i,none⟩=some v:=by
 obtain ⟨_,qZ,zMO,q7⟩:=h
 cases ha:app id with
 | true=>
  obtain ⟨jY,t,ht,_,hp⟩:=q7 ha (fun e=>by subst e;cases hi)
  rw [uu ha]
  show w.cell? ⟨b,0+i,none⟩=some v
  rw [cell_of_row w b _ _ t _ ht,aay]
  exact hp i v hi
 | false=>
  rw [Q4 ha]
  show w.cell? ⟨b,o+i,none⟩=some v
  cases ho:own id with
  | true=>
   obtain ⟨rfl,t,ht⟩:=qZ ho
   rw [cell_of_row w b _ _ t _ ht,aay]
   simpa using hi
  | false=>exact zMO ho ha _ _ hi
theorem BlkOk.cells{w:World}{id b o:Nat}{vs:List Value}(h:BlkOk w id b o vs)(off len:Nat):∀ i v,((vs.drop off).take len)[i]? = some v→w.cell? ⟨(qo id (b,o)).1,(qo id (b,o)).2+(off+i),none⟩=some v:=by
 intro i v hi
 refine h.cell ?_
 rw [aa7] at hi
 split at hi
 ·rw [abC] at hi;exact hi
 ·cases hi
theorem Sim.storeA{ρ:Rho}{N:Nat}{st:St}{a:Act}{w w':World}(h:Sim ρ N st a w){id b o:Nat}(ha:app id=true)(hq:ρ id=some (b,o)){l0:List It}(hl0:st.blk id=some l0)(hz:gd l0≠0)(hs:w'.heap.size=w.heap.size)
    (hb:∀ k,k≠b→w'.heap[k]? = w.heap[k]?) {l:List It} {vs:List Value} (hv:conc ρ l=some vs) {jY:Array Value} {t:aax} (hw:w'.heap[b]? = some (.cells jY t (0,0))) (q9:jY.size=o)
    (hp:∀ (i:Nat) (v:Value),vs[i]? = some v→jY[i]? = some v):Sim ρ N (aX st [(2*id+1,.bl l)]) a w' where
  slots u x hx:=h.slots u x (by rw [←jB st id l];exact hx)
  size:=h.size
  mem:=⟨fun j m hm=>by
    rw [cf] at hm
    by_cases e:id=j
    · subst e
      simp only [if_true,aag] at hm
      subst hm
      exact ⟨b,o,vs,hq,hv,by have:=h.lt hq;omega,fun ho=>(by rw [sJ ha] at ho;cases ho),fun _ hf=>(by rw [ha] at hf;cases hf),fun _ _=>⟨jY,t,hw,q9,hp⟩⟩
    · simp only [e,if_false] at hm
      obtain ⟨c,o',us,h1,h2,h3⟩:=h.mem.blk j m hm
      by_cases kh:Live j m
      · refine ⟨c,o',us,h1,h2,h3.of_kept (by omega) (hb c fun ec=>e ?_)⟩
        exact h.inj.inj id j b o o' l0 m (.inr ha) hl0 hm (.inr hz) kh hq (ec ▸ h1)
      · exact ⟨c,o',us,h1,h2,lF kh h2 h3 (by omega)⟩⟩
  inj:=⟨fun i i' c o o' k k' hi m1 m2 l1 l2 h1 h2=>by
    have old:∀ j kj,St.blk (aX st [(2*id+1,.bl l)]) j=some kj→Live j kj→∃ k0,st.blk j=some k0∧Live j k0:=by
      intro j kj hj kh
      rw [cf] at hj
      by_cases e:id=j
      · subst e
        exact ⟨l0,hl0,.inr hz⟩
      · rw [if_neg e] at hj;exact ⟨kj,hj,kh⟩
    obtain ⟨k0,e1,e2⟩:=old i k m1 l1
    obtain ⟨k0',e3,e4⟩:=old i' k' m2 l2
    exact h.inj.inj i i' c o o' k0 k0' hi e1 e3 e2 e4 h1 h2⟩
  dom j q hj:=by
    rw [cf]
    by_cases e:id=j
    · exact ⟨l,by simp [e]⟩
    · simp only [e,if_false];exact h.dom j q hj
  calm:=h.calm
theorem Ext.storeA{ρ:Rho}{w w':World}{id b o:Nat}(ha:app id=true)(hq:ρ id=some (b,o))(h1:w'.os=w.os)(h2:w'.tape=w.tape)(h3:w'.output=w.output)(hs:w'.heap.size=w.heap.size)
  (hb:∀ k,k≠b→w'.heap[k]? = w.heap[k]?):Ext ρ w ρ w':=
 ⟨.refl ρ,fun id b o h h'=>(by rw [h] at h';cases h'),h1,h2,h3,by omega,fun k _ hD=>hb k fun e=>hD ⟨id,o,.inr ha,e ▸ hq⟩⟩
theorem xL{a0:Act}{s n:Nat}{rd:List Nat}{kl:List (Nat×Ct)}{l:List It}{ob0:List Prop}(h:ix N o.dst (iG (.c (cU nid) s 0 0 n)) rd (kl++[(2*cU nid+1,.bl l)]) ob0=some (R,W,ob))(qZ:own nid=true)(hs:Sim ρ N (aX st kl) a0 w)(hn:St.blk (aX st kl) (cU nid)=none)
  {w':World} {b:Nat} {vs:List Value} {jY:Array Value} {t:aax} (cv:∀ j m o,St.blk (aX st kl) j=some m→Live j m→ρ j=some (b,o)→False) (df:w.heap.size≤b∨Own ρ b) (h1:w'.os=w.os) (h2:w'.tape=w.tape) (h3:w'.output=w.output) (q9:w.heap.size≤w'.heap.size)
  (hb:∀ j,j<w.heap.size→j≠b→w'.heap[j]? = w.heap[j]?) (hv:conc ρ l=some vs) (hw:w'.heap[b]? = some (.cells jY t (0,0))) (hp:∀ (i:Nat) (v:Value),vs[i]? = some v→jY[i]? = some v) (AJ:1≤s) (hns:n*s≤jY.size) :
  ∃ ρ',Ext ρ w ρ' w'∧Sim ρ' N (aX st W) (a0.put o.dst (.slice (some ⟨b,0,none⟩) n (jY.size/s))) w':=by
 have nm:=hs.appAt (ziq qZ) hn cv q9 hb hv hw hp
 refine ⟨_,Ext.appAt (q:=(b,jY.size)) (hs.unknown hn) df h1 h2 h3 q9 hb,(jD h (st:=st) (by rw [kd];exact nm) ?_).2⟩
 have:=Hl (ρ:=ρ.setq (cU nid) (b,jY.size)) (id:=cU nid) (q:=(b,jY.size)) (by simp [Rho.setq]) (s:=s) (adr:=0) (off:=0) (len:=n) AJ (by show 0+n*s≤jY.size;omega)
 rw [this]
 unfold pf
 simp
theorem Ea(cP:ag P call){p:Plan}(hp:bc P ρ a.eval o p)(h:dR call N cJ nid o.dst st p=some (R,W,ob))(ax:∀ q∈ob,q)(hs:Sim ρ N st a w){K:Act→World→Prop}
  (hK:∀ ρ' a' w',Ext ρ w ρ' w'→Sim ρ' N (aX st W) a' w'→K a' w'):o.wp P a w K Q:=by
 unfold Oper.wp
 cases p with
 | owe _ _=>cases h
 | val x jW=>
  simp only [dR] at h
  obtain ⟨v,hv,hr⟩:=hp (by
   unfold ix at h;split at h
   ·cases h;exact ax
   ·cases h)
  rw [hr w,abQ]
  exact hK ρ _ w (.refl ρ w) (jD h (wr:=[]) hs hv).2
 | load id off len agg=>
  simp only [dR] at h
  split at h
  ·rename_i l hl
   split at h
   ·rename_i x jW hr
    have zfy:∀ p∈jW,p:=by
     unfold ix at h;split at h
     ·cases h;exact ax
     ·cases h
    obtain ⟨q,hq,h1,eN⟩:=hp
    have hl:=rJ hl
    obtain ⟨b,o',vs,hb,hc,od⟩:=hs.mem.blk id l hl
    rw [Rho.at_some hb] at hq;cases hq
    obtain ⟨hle,xj⟩:=Yp hr zfy hc
    have hlen:((vs.drop off).take len).length=len:=by rw [abd,aa1];omega
    have AH:=od.cells off len
    have zDX:=eN w _ hlen AH
    rw [zDX,abQ]
    refine hK ρ _ w (.refl ρ w) (jD h (wr:=[]) hs ?_).2
    obtain ⟨xa,xi⟩:=x
    rcases xj with ⟨ha,hx,xj⟩|⟨ha,hx,xj⟩
    ·simp only at hx xj
     subst ha;subst hx
     simp only [SV.val,AV.val,xj]
    ·simp only at hx xj
     subst ha;subst hx
     have KJ:=h1 rfl
     have xj:=xj KJ
     rw [KJ] at hlen ⊢
     obtain ⟨v,hv⟩:∃ v,(vs.drop off).take 1=[v]:=by
      cases hh:(vs.drop off).take 1 with
      | nil=>rw [hh] at hlen;cases hlen
      | cons v t=>cases t with
       | nil=>exact ⟨v,rfl⟩
       | cons _ _=>rw [hh] at hlen;simp at hlen
     rw [hv] at xj ⊢
     simp only [SV.val,AV.val,xj,List.headD_cons]
   ·cases h
  ·cases h
 | new l sl=>
  simp only [dR] at h
  split at h
  ·rename_i ho hf
   obtain ⟨vs,t,hc,eN⟩:=hp
   have hn:st.blk nid=none:=by
    simp only [je,abX,ab8,ab2] at hf
    unfold St.blk
    split at hf
    ·rename_i hlk;rw [hlk]
    ·cases hf
   have fD:=hs.alloc hn (lO ho) hc t
   have tO:=hs.unknown hn
   rw [eN w,abQ]
   refine hK _ _ _ (Ext.alloc tO _) (jD h fD ?_).2
   cases sl with
   | none=>
    have:=C7 (ρ:=ρ.set nid w.heap.size) (id:=nid) (q:=(w.heap.size,0)) (by rw [Rho.at_own ho];simp [Rho.set]) 0
    simpa [mo] using this
   | some n=>
    have:=bu (ρ:=ρ.set nid w.heap.size) (id:=nid) (q:=(w.heap.size,0)) (by rw [Rho.at_own ho];simp [Rho.set]) 0 n n
    simpa using this
  ·cases h
 | store id off new=>
  simp only [dR] at h
  split at h
  ·rename_i l hl
   split at h
   ·rename_i r ob0 M4 hr
    have e0:=yL h
    subst e0
    obtain ⟨q,us,hq,hu,eN⟩:=hp
    obtain ⟨b,o',vs,hb,hc,od⟩:=hs.mem.blk id l hl
    rw [Rho.at_some hb] at hq;cases hq
    obtain ⟨hlt,qZ,_,q7⟩:=od
    obtain ⟨hle,xj⟩:=GU hr ax hc hu
    rw [eN w]
    cases ho:own id with
    | true=>
     obtain ⟨rfl,t,ht⟩:=qZ ho
     rw [Q4 (lO ho)]
     simp only [aay]
     rw [run_storeCells_at (P:=P) b off t us 0 vs.toArray w ht (by simp;omega) (gZ _ _ hu)]
     simp only [aaj,Oper.upon_skip,aaN]
     have RD:(w.setRow b (vs.toArray.toList.take off++us++vs.toArray.toList.drop (off+us.length)).toArray).heap[b]? = some (.cells (vs.take off++(us++vs.drop (off+us.length))).toArray t (0,0)):=by
      rw [setRow_heap w b vs.toArray _ t _ ht];simp
     have DO:∀ k,k≠b→(w.setRow b (vs.toArray.toList.take off++us++vs.toArray.toList.drop (off+us.length)).toArray).heap[k]? = w.heap[k]?:=fun k hk=>setRow_other w b k _ hk
     refine hK ρ _ _ (Ext.store ho hb rfl rfl rfl (by simp) DO) (jD h (hs.store ho hb (by simp) DO xj RD) ?_).2
     rfl
    | false=>
     unfold zvh at M4
     rw [ho,Bool.false_or,aaf] at M4
     have AI:=M4.1
     have hz:gd l≠0:=fun e=>by rw [(rb l).2 e] at M4;exact absurd M4.2 (by decide)
     have hvl:=c7 _ _ hc
     obtain ⟨jY,t,ht,Z2,zfx⟩:=q7 AI (fun e=>by subst e;simp at hvl;omega)
     have hvc:vs.length≤jY.size:=by
      rcases abT vs.length with e|e
      ·omega
      ·have:=zfx (vs.length-1) vs[vs.length-1] (aaC (by omega))
       have:=(aa8.1 this).1
       omega
     rw [uu AI]
     simp only [aay]
     rw [run_storeCells_at (P:=P) b off t us 0 jY w ht (by omega) (gZ _ _ hu)]
     simp only [aaj,Oper.upon_skip,aaN]
     have RD:=setRow_heap w b jY (jY.toList.take off++us++jY.toList.drop (off+us.length)).toArray t _ ht
     have DO:∀ k,k≠b→(w.setRow b (jY.toList.take off++us++jY.toList.drop (off+us.length)).toArray).heap[k]? = w.heap[k]?:=fun k hk=>setRow_other w b k _ hk
     have q9:(jY.toList.take off++us++jY.toList.drop (off+us.length)).toArray.size=o':=by
      simp only [abL,aaX,abd,aa1,abx];omega
     refine hK ρ _ _ (Ext.storeA AI hb rfl rfl rfl (by simp) DO) (jD h (hs.storeA AI hb hl hz (by simp) DO xj RD q9 ?_) ?_).2
     ·intro i v hi
      rw [aba]
      have hi':(vs.take off++(us++vs.drop (off+us.length)))[i]? = some v:=hi
      rw [←List.append_assoc] at hi'
      rw [acr] at hi' ⊢
      have e1:(vs.take off++us).length=off+us.length:=by simp;omega
      have e2:(jY.toList.take off++us).length=off+us.length:=by simp;omega
      rw [e1] at hi'
      rw [e2]
      split at hi'
      ·rename_i zwZ
       rw [if_pos zwZ]
       rw [acr] at hi' ⊢
       have e3:(vs.take off).length=off:=by simp;omega
       have e4:(jY.toList.take off).length=off:=by simp;omega
       rw [e3] at hi'
       rw [e4]
       split at hi'
       ·rename_i h5
        rw [if_pos h5]
        rw [aa7,if_pos h5] at hi' ⊢
        have:=zfx i v hi'
        simpa using this
       ·rename_i h5;rw [if_neg h5];exact hi'
      ·rename_i zwZ
       rw [if_neg zwZ]
       rw [abC] at hi' ⊢
       have:=zfx _ v hi'
       simpa using this
     ·rfl
   ·cases h
  ·cases h
 | clear id off new=>
  simp only [dR] at h
  split at h
  ·rename_i l ho hl
   split at h
   ·rename_i r hr
    obtain ⟨q,us,hq,hu,eN⟩:=hp
    obtain ⟨b,o',vs,hb,hc,od⟩:=hs.mem.blk id l hl
    rw [Rho.at_own ho,hb] at hq;cases hq
    obtain ⟨hlt,qZ,_⟩:=od
    obtain ⟨rfl,t,ht⟩:=qZ ho
    obtain ⟨hle,xj⟩:=Du hr hc hu
    rw [eN w]
    simp only [aay]
    rw [run_storeCells_at (P:=P) b off t us 0 vs.toArray w ht (by simp;omega) (gZ _ _ hu)]
    simp only [aaj,abQ,aaN]
    have RD:(w.setRow b (vs.toArray.toList.take off++us++vs.toArray.toList.drop (off+us.length)).toArray).heap[b]? = some (.cells (vs.take off++(us++vs.drop (off+us.length))).toArray t (0,0)):=by
     rw [setRow_heap w b vs.toArray _ t _ ht];simp
    have DO:∀ k,k≠b→(w.setRow b (vs.toArray.toList.take off++us++vs.toArray.toList.drop (off+us.length)).toArray).heap[k]? = w.heap[k]?:=fun k hk=>setRow_other w b k _ hk
    refine hK ρ _ _ (Ext.store ho hb rfl rfl rfl (by simp) DO) (jD h (hs.store ho hb (by simp) DO xj RD) ?_).2
    rfl
   ·cases h
  ·cases h
 | app c sz xid xoff xlen yid yoff m=>
  simp only [dR] at h
  split at h
  ·rename_i od hf
   split at h
   ·rename_i lx ly hlx hly
    split at h
    ·rename_i l1 o1 l2 o2 hc1 RJ zDQ
     have e0:=yL h
     subst e0
     have ho1:∀ q∈o1,q:=fun q hq=>ax q (aau _ hq)
     have ho2:∀ q∈o2,q:=fun q hq=>ax q (aaq _ (aau _ hq))
     have ho3:∀ q∈(G2 l1 l2).2,q:=fun q hq=>ax q (aaq _ (aaq _ hq))
     obtain ⟨qx,qy,G7,M3,AJ,eN⟩:=hp
     have hly:=rJ hly
     obtain ⟨bx,ox,vx,ex,cx,okx⟩:=hs.mem.blk xid lx hlx
     obtain ⟨by_,oy,vy,ey,cy,oky⟩:=hs.mem.blk yid ly hly
     rw [Rho.at_some ey] at M3;cases M3
     obtain ⟨zRp,zEk⟩:=s7 hc1 ho1 cx
     obtain ⟨zMH,zfL⟩:=s7 RJ ho2 cy
     have M8:((vx.drop xoff).take (xlen*sz)).length=xlen*sz:=by rw [abd,aa1];omega
     have zr1:((vy.drop yoff).take (m*sz)).length=m*sz:=by rw [abd,aa1];omega
     have zDV:=eN w _ zr1 (oky.cells yoff (m*sz)) (gZ _ _ zfL)
     have hcc:=Ru ho3 zEk zfL
     have zfA:own nid=true:=by
      unfold zpn at od
      rw [aaf] at od;exact od.2
     have tO:st.blk (cU nid)=none:=by
      simp only [je,abX,ab8,ab2] at hf
      unfold St.blk
      split at hf
      ·rename_i hlk;rw [hlk]
      ·cases hf
     cases c with
     | false=>
      have G7:ρ.at xid=some qx:=G7
      rw [Rho.at_some ex] at G7;cases G7
      obtain ⟨k,zs,t,hk,hnk,hr⟩:=zDV _ M8 (okx.cells xoff (xlen*sz))
      rw [hr,abQ]
      have xh:(((vx.drop xoff).take (xlen*sz)++(vy.drop yoff).take (m*sz))++zs).toArray.size=k*sz:=by simp only [abL,aaX] at hk ⊢; omega
      obtain ⟨ρ',hE,nm⟩:=xL (kl:=[]) h zfA (hs.drew) tO (w':=w.drew.alloc (.cells (((vx.drop xoff).take (xlen*sz)++(vy.drop yoff).take (m*sz))++zs).toArray t)) (b:=w.heap.size)
       (fun j m o hj kh hq=>by have:=hs.lt hq;omega) (.inl (aaV _)) rfl rfl rfl (by simp) (fun j hj _=>nn _ _ _ hj) hcc (heap_alloc_new _ _)
       (fun i v hi=>by rw [aba,abr (abH.1 hi).1];exact hi) AJ (by rw [xh];exact aaI _ hnk)
      rw [xh,ac9 _ (by omega)] at nm
      exact hK ρ' _ _ ((Ext.drew ρ w).trans hE) nm
     | true=>
      have G7:ρ xid=some qx:=G7
      rw [ex] at G7;cases G7
      have hax:app xid=true∧xoff=0:=by
       unfold zpn at od
       rw [aaf,aaf] at od
       exact ⟨od.1.1,aas od.1.2⟩
      have hx1:1≤gd lx:=by
       rcases abT (gd lx) with e|e
       ·have:(!(qE lx))=true:=zDQ
        rw [(rb lx).2 e] at this;cases this
       ·exact e
      obtain ⟨hax,zDK⟩:=hax
      obtain ⟨zRn,_,_,zEq⟩:=okx
      have hvl:=c7 _ _ cx
      have Z1:vx≠[]:=fun e=>by subst e;simp at hvl;omega
      obtain ⟨jY,t,Na,Z2,zfx⟩:=zEq hax Z1
      have Vm:Live xid lx:=.inr (by omega)
      subst zDK
      rw [List.drop_zero] at M8 zEk hcc
      have htk:jY.toList.take (xlen*sz)=vx.take (xlen*sz):=by
       apply List.ext_getElem?
       intro i
       rw [aa7,aa7]
       by_cases hi:i<xlen*sz
       ·rw [if_pos hi,if_pos hi]
        have hiv:i<vx.length:=by rw [abd] at M8;omega
        rw [aaC hiv]
        have:=zfx i _ (aaC hiv)
        simpa using this
       ·rw [if_neg hi,if_neg hi]
      have BN:xlen*sz≤jY.size:=by
       have:(vx.take (xlen*sz)).length≤jY.toList.length:=by rw [←htk];exact List.length_take_le' _ _
       rw [M8,abx] at this;exact this
      have zr2:=hs.kill hax hlx
      have kN:¬xid=cU nid:=fun e=>by rw [←e,hlx] at tO;cases tO
      have zfz:St.blk (aX st (MH true xid)) (cU nid)=none:=by
       show St.blk (aX st [(2*xid+1,.bl [])]) (cU nid)=none
       rw [cf,if_neg kN];exact tO
      have zD4:∀ j mm,St.blk (aX st (MH true xid)) j=some mm→Live j mm→st.blk j=some mm∧j≠xid:=by
       intro j mm hj kh
       have hj:St.blk (aX st [(2*xid+1,.bl [])]) j=some mm:=hj
       rw [cf] at hj
       by_cases e:xid=j
       ·rw [if_pos e] at hj;cases hj
        rcases kh with kh|kh
        ·rw [←e,sJ hax] at kh;cases kh
        ·exact absurd rfl kh
       ·rw [if_neg e] at hj;exact ⟨hj,fun e'=>e e'.symm⟩
      rcases zDV jY t Na Z2 BN with ⟨k,zs,t',hk,hnk,hr⟩|⟨Nb,hr⟩
      ·rw [hr,abQ]
       rw [htk] at hr hk ⊢
       have xh:((vx.take (xlen*sz)++(vy.drop yoff).take (m*sz))++zs).toArray.size=k*sz:=by simp only [abL,aaX] at hk ⊢; omega
       obtain ⟨ρ',hE,nm⟩:=xL (kl:=MH true xid) h zfA (zr2.drew) zfz (w':=w.drew.alloc (.cells ((vx.take (xlen*sz)++(vy.drop yoff).take (m*sz))++zs).toArray t')) (b:=w.heap.size)
        (fun j m o hj kh hq=>by have:=hs.lt hq;omega) (.inl (aaV _)) rfl rfl rfl (by simp) (fun j hj _=>nn _ _ _ hj) hcc (heap_alloc_new _ _)
        (fun i v hi=>by rw [aba,abr (abH.1 hi).1];exact hi) AJ (by rw [xh];exact aaI _ hnk)
       rw [xh,ac9 _ (by omega)] at nm
       exact hK ρ' _ _ ((Ext.drew ρ w).trans hE) nm
      ·rw [hr,abQ,htk]
       have zPF:xlen*sz+m*sz≤jY.size:=by rw [←Nat.add_mul];exact Nb
       have zDS:(vx.take (xlen*sz)++(vy.drop yoff).take (m*sz)++jY.toList.drop ((xlen+m)*sz)).toArray.size=ox:=by
        rw [Nat.add_mul]
        simp only [abL,aaX,M8,zr1,aa1,abx];omega
       obtain ⟨ρ',hE,nm⟩:=xL (kl:=MH true xid) h zfA zr2 zfz (w':=w.setRow bx (vx.take (xlen*sz)++(vy.drop yoff).take (m*sz)++jY.toList.drop ((xlen+m)*sz)).toArray) (b:=bx)
        (fun j m o hj kh hq=>by
         obtain ⟨h1,h2⟩:=zD4 j m hj kh
         exact h2 (hs.inj.inj xid j bx ox o lx m (.inr hax) hlx h1 Vm kh ex hq).symm) (.inr ⟨xid,ox,.inr hax,ex⟩) rfl rfl rfl (by simp) (fun j _ kN=>setRow_other w bx j _ kN) hcc (setRow_heap w bx jY _ t _ Na)
        (fun i v hi=>by rw [aba,abr (abH.1 hi).1];exact hi) AJ (by rw [zDS,←Z2];exact Nb)
       rw [zDS] at nm
       exact hK ρ' _ _ hE nm
    ·cases h
   ·cases h
  ·cases h
 | appz sz n l=>
  simp only [dR] at h
  split at h
  ·rename_i zfA hf
   obtain ⟨AJ,vs,hc,kh,eN⟩:=hp
   have tO:st.blk (cU nid)=none:=by
    simp only [je,abX,ab8,ab2] at hf
    unfold St.blk
    split at hf
    ·rename_i hlk;rw [hlk]
    ·cases hf
   obtain ⟨k,zs,t,hk,hnk,hr⟩:=eN w
   rw [hr,abQ]
   have xh:(vs++zs).toArray.size=k*sz:=by simp only [abL,aaX] at hk ⊢; omega
   obtain ⟨ρ',hE,nm⟩:=xL (kl:=[]) h zfA (hs.drew) tO (w':=w.drew.alloc (.cells (vs++zs).toArray t)) (b:=w.heap.size)
    (fun j m o hj kh hq=>by have:=hs.lt hq;omega) (.inl (aaV _)) rfl rfl rfl (by simp) (fun j hj _=>nn _ _ _ hj) hc (heap_alloc_new _ _)
    (fun i v hi=>by rw [aba,abr (abH.1 hi).1];exact hi) AJ (by rw [xh];exact aaI _ hnk)
   rw [xh,ac9 _ (by omega)] at nm
   exact hK ρ' _ _ ((Ext.drew ρ w).trans hE) nm
  ·cases h
 | copy did doff sid soff cells cnt=>
  simp only [dR] at h
  split at h
  ·rename_i l l2 ho hl JD
   split at h
   ·rename_i c o1 RJ
    split at h
    ·rename_i r o2 hr
     have e0:=yL h
     subst e0
     obtain ⟨qd,qs,hqd,hqs,eN⟩:=hp
     obtain ⟨b,o',vs,hb,hc,od⟩:=hs.mem.blk did l hl
     rw [Rho.at_own ho,hb] at hqd;cases hqd
     obtain ⟨hlt,qZ,_⟩:=od
     obtain ⟨rfl,t,ht⟩:=qZ ho
     have JD:=rJ JD
     obtain ⟨b2,o2,vs2,tP,zMQ,zMz⟩:=hs.mem.blk sid l2 JD
     rw [Rho.at_some tP] at hqs;cases hqs
     obtain ⟨zMH,zfL⟩:=s7 RJ (fun q hq=>ax q (aau _ hq)) zMQ
     obtain ⟨hle,xj⟩:=GU hr (fun q hq=>ax q (aaq _ hq)) hc zfL
     have hlen:((vs2.drop soff).take cells).length=cells:=by rw [abd,aa1];omega
     have AH:=zMz.cells soff cells
     rw [eN w _ hlen AH]
     simp only [aay]
     rw [run_storeCells_at (P:=P) b doff t _ 0 vs.toArray w ht (by simp only [abL];omega) (gZ _ _ zfL)]
     simp only [aaj,abQ,aaN]
     generalize BM:(vs2.drop soff).take cells=us at *
     have RD:(w.setRow b (vs.toArray.toList.take doff++us++vs.toArray.toList.drop (doff+us.length)).toArray).heap[b]? = some (.cells (vs.take doff++(us++vs.drop (doff+us.length))).toArray t (0,0)):=by
      rw [setRow_heap w b vs.toArray _ t _ ht];simp
     have DO:∀ k,k≠b→(w.setRow b (vs.toArray.toList.take doff++us++vs.toArray.toList.drop (doff+us.length)).toArray).heap[k]? = w.heap[k]?:=fun k hk=>setRow_other w b k _ hk
     refine hK ρ _ _ (Ext.store ho hb rfl rfl rfl (by simp) DO) (jD h (hs.store ho hb (by simp) DO xj RD) ?_).2
     exact jg ρ _ _
    ·cases h
   ·cases h
  ·cases h
 | call f args=>
  simp only [dR] at h
  split at h
  ·rename_i out BN hc
   split at h
   ·rename_i hf hi
    obtain ⟨vs,hv,eN⟩:=hp
    have mH:ob=out.ob:=by
     unfold ix at h;split at h
     ·cases h;rfl
     ·cases h
    subst mH
    have jt:=hs.handed _ _ BN
    have hkp:∀ id∈qK args,wX st id=true:=by
     have:=BN
     unfold qi at this
     rw [aaf,aaF] at this
     exact this.1
    have G6:ay (fun id=>if ((dc st (eO st args cJ)).blk id).isSome then ρ id else none) args=some vs:=by
     refine Ts args vs (fun id cl q hq=>hs.on ?_ (hkp id cl) hq) hv
     unfold eO
     split
     ·rename_i he;rw [he] at cl;cases cl
     ·exact aau _ cl
    have Vl:∀ p∈out.news,st.blk p.1=none:=by
     intro p hp
     unfold je at hf
     rw [aaF] at hf
     have:=hf p hp
     unfold St.blk
     split at this
     ·rename_i hlk;rw [hlk]
     ·cases this
    have hinv:=cP f args _ nid out hc ax _ w vs G6 jt (fun p hp=>by
     rw [pg];split
     ·unfold St.kept;rw [Vl p hp]
     ·rfl)
    have fin:∀ v w',(∃ ρ',Ext (fun id=>if ((dc st (eO st args cJ)).blk id).isSome then ρ id else none) w ρ' w'∧out.val.val ρ'=some v∧Mem ρ' (aX (dc st (eO st args cJ)) (ia (out.wr++out.news))) w') →
      K (a.put o.dst v) w':=by
     rintro v w' ⟨ρ',hE,hval,hM⟩
     obtain ⟨qS,zM6,hle,nm⟩:=hs.call hE hM (fun p hp=>by
      unfold zff at hi;rw [aaF] at hi;have:=hi p hp;rw [aaf,acm] at this;exact this) Vl
     exact hK qS _ w' zM6 (jD h nm (SV.val_le hle _ _ hval)).2
    rw [eN w]
    rcases hinv with ⟨v,h1,h2⟩|⟨h1,h2⟩
    ·rw [h1,abQ];exact fin v w h2
    ·rw [h1,Oper.upon_enter]
     refine h2.mono ?_
     rintro e w' ⟨v,rfl,hR⟩
     exact fin v w' hR
   ·cases h
  ·cases h
theorem Za(cP:ag P call){p:Plan}(hp:bc P ρ a.eval o p)(h:uH call N cJ nid o.dst st p=some (R,W,ob))(ax:∀ q∈ob,q)(hs:Sim ρ N st a w){K:Act→World→Prop}
  (hK:∀ ρ' a' w',Ext ρ w ρ' w'→Sim ρ' N (aX st W) a' w'→K a' w'):o.wp P a w K Q:=by
 unfold uH at h
 split at h
 ·rename_i jW p'
  split at h
  ·rename_i R' W' Dh hd
   cases h
   exact Ea cP (hp fun q hq=>ax q (aau _ hq)) hd (fun q hq=>ax q (aaq _ hq)) hs hK
  ·cases h
 ·exact Ea cP hp h ax hs hK
theorem yj(az:∀ t d,tab t=some d→TyOk P t d)(cP:ag P call){i:Nat}(hi:ops[i]? = some o)(h:rq tab call N ops cJ nid hint o st=some (R,W,ob))(ax:∀ q∈ob,q)(hs:Sim ρ N st a w){K:Act→World→Prop}
  (hK:∀ ρ' a' w',Ext ρ w ρ' w'→Sim ρ' N (aX st W) a' w'→K a' w'):wpOp P ops Q i K a w:=by
 have Fj:∀ t x,xx st (o.looksAt ops) t=some x→x.val ρ=some (a.tmps.getD t undef):=by
  intro t x hx
  unfold xx at hx
  split at hx
  ·exact hs.slots t x hx
  ·cases hx
 unfold wpOp
 simp only [hi]
 unfold rq at h
 split at h
 ·rename_i hw
  rw [if_pos (Ce Fj hw)]
  split at h
  ·rename_i p hp
   split at h
   ·rename_i R' W' jW hd
    cases h
    exact .inl (Za cP (IU az (Vy Fj) hp) hd ax hs hK)
   ·cases h
  ·cases h
 ·rename_i hw
  rw [if_neg (by rw [Ce Fj hw];simp)]
  split at h
  ·rename_i d hd
   cases h
   refine hK ρ _ w (.refl ρ w) ?_
   unfold zn0 at hd
   cases zEg:o.dst with
   | none=>simp only [zEg] at hd;cases hd;exact hs
   | some t=>
    simp only [zEg] at hd
    split at hd
    ·rename_i ht;cases hd;exact hs.put ht rfl
    ·cases hd
  ·cases h
 ·cases h
end
def zfH(hints:List (Nat×Bool))(o:Oper):Option Bool:=match o.dst with
 | some d=>look hints d
 | none=>none
def mz(tab:aax→Option Ty)(call:CallT)(N:Nat)(ops:Array Oper)(cJ:List Nat)(hints:List (Nat×Bool)):Nat→List Oper→St→Option (List qB)
 | _,[],_=>some []
 | nid,o::l,st=>match rq tab call N ops cJ nid (zfH hints o) o st with
  | some (R,W,ob)=>match mz tab call N ops cJ hints (nid+1) l (aX st W) with
   | some r=>some ((R,W,ob)::r)
   | none=>none
  | none=>none
def qw(l:List qB):List (Nat×Ct):=l.flatMap (·.2.1)
def xN(l:List qB):List Prop:=l.flatMap (·.2.2)
def nj(prev:List Nat):List Nat→Nat
 | []=>0
 | m::l=>nj prev l ||| (1 <<< m ||| prev.getD m 0)
def DK(R1 W1 R2 W2:List Nat):Bool:=W1.all (fun k=>!R2.contains k && !W2.contains k)&&W2.all fun k=>!R1.contains k
def Kh(zdV:Nat)(R W:List Nat):Nat→List (List Nat×List Nat)→Bool
 | _,[]=>true
 | j,(R',W')::l=>(zdV.testBit j || DK R' W' R W)&&Kh zdV R W (j+1) l
def uK:List Oper→List qB→List Nat→List (List Nat×List Nat)→Bool
 | [],[],_,_=>true
 | o::ops,(R,W,_)::l,prev,aM=>
  (vE o).all (fun m=>decide (m<aM.length))&&Kh (nj prev (vE o)) R (keys W) 0 aM&&uK ops l (prev++[nj prev (vE o)]) (aM++[(R,keys W)])
 | _,_,_,_=>false
theorem MT{R1 W1 R2 W2:List Nat}(h:DK R1 W1 R2 W2=true):(∀ k∈W1,k∉R2∧k∉W2)∧(∀ k∈W2,k∉R1):=by
 unfold DK at h
 simp only [aaf,aaF,Bool.not_eq_true',ab3,decide_eq_false_iff_not] at h
 exact h
theorem MD(prev:List Nat):∀ (l:List Nat) (j:Nat),(nj prev l).testBit j=true→∃ m∈l,m=j∨(prev.getD m 0).testBit j=true:=by
 intro l
 induction l with
 | nil=>intro j h;simp [nj] at h
 | cons m l ih=>
  intro j h
  simp only [nj,Nat.testBit_or,acm] at h
  rcases h with h|h|h
  ·obtain ⟨m',h1,h2⟩:=ih j h;exact ⟨m',by simp [h1],h2⟩
  ·refine ⟨m,by simp,.inl ?_⟩
   rw [Nat.shiftLeft_eq,Nat.one_mul,Nat.testBit_two_pow] at h
   simpa using h
  ·exact ⟨m,by simp,.inr h⟩
theorem ON{zdV:Nat}{R W:List Nat}:∀ (l:List (List Nat×List Nat)) (j:Nat),Kh zdV R W j l=true→∀ i p,l[i]? = some p→zdV.testBit (j+i)=true∨DK p.1 p.2 R W=true:=by
 intro l
 induction l with
 | nil=>intro j _ i p h;simp at h
 | cons q l ih=>
  intro j h i p hp
  simp only [Kh,aaf,acm] at h
  cases i with
  | zero=>simp only [abo,aag] at hp;subst hp;exact h.1
  | succ i=>
   simp only [abW] at hp
   have:=ih (j+1) h.2 i p hp
   rwa [show j+1+i=j+(i+1) by omega] at this
theorem OO:∀ (ops:List Oper) (l:List qB) (prev:List Nat) (aM:List (List Nat×List Nat)),uK ops l prev aM=true→prev.length=aM.length →
  ∃ rR:List Nat,rR.length=ops.length∧ops.length=l.length∧∀ i o s,ops[i]? = some o→l[i]? = some s →
   (∀ m∈vE o,m<aM.length+i) ∧
   (∀ j,((prev++rR).getD (aM.length+i) 0).testBit j=true→∃ m∈vE o,m=j∨((prev++rR).getD m 0).testBit j=true) ∧
   (∀ j p,j<aM.length+i→(aM++l.map fun s=>(s.1,keys s.2.1))[j]? = some p→((prev++rR).getD (aM.length+i) 0).testBit j=true∨DK p.1 p.2 s.1 (keys s.2.1)=true):=by
 intro ops
 induction ops with
 | nil=>
  intro l prev aM h _
  cases l with
  | nil=>exact ⟨[],rfl,rfl,fun i o s ho _=>by simp at ho⟩
  | cons s l=>cases h
 | cons o ops ih=>
  intro l prev aM h hlen
  cases l with
  | nil=>cases h
  | cons s l=>
   obtain ⟨R,W,ob⟩:=s
   simp only [uK,aaf,aaF,decide_eq_true_eq] at h
   obtain ⟨⟨h1,h2⟩,h3⟩:=h
   obtain ⟨rR,hm1,hm2,hm3⟩:=ih l _ _ h3 (by simp [hlen])
   refine ⟨nj prev (vE o)::rR,by simp [hm1],by simp [hm2],fun i o' s' ho hs=>?_⟩
   have zES:prev++nj prev (vE o)::rR=(prev++[nj prev (vE o)])++rR:=by simp
   have zNm:aM++List.map (fun s:qB=>(s.1,keys s.2.1)) ((R,W,ob)::l)=(aM++[(R,keys W)])++List.map (fun s:qB=>(s.1,keys s.2.1)) l:=by simp
   cases i with
   | zero=>
    simp only [abo,aag] at ho hs
    subst ho;subst hs
    have eg:(prev++nj prev (vE o)::rR).getD (aM.length+0) 0=nj prev (vE o):=by
     rw [aaU,List.getElem?_append_right (by omega),←hlen];simp
    refine ⟨fun m hm=>by simpa using h1 m hm,fun j hj=>?_,fun j p hj hp=>?_⟩
    ·rw [eg] at hj
     obtain ⟨m,hm,Vn⟩:=MD prev _ j hj
     refine ⟨m,hm,Vn.imp id fun Vn=>?_⟩
     have:=h1 m hm
     rw [aaU,abr (by omega),←aaU];exact Vn
    ·rw [eg]
     rw [abr (by omega)] at hp
     have:=ON aM 0 h2 j p hp
     rwa [aay] at this
   | succ i=>
    simp only [abW] at ho hs
    obtain ⟨a1,a2,a3⟩:=hm3 i o' s' ho hs
    have el:(aM++[(R,keys W)]).length+i=aM.length+(i+1):=by simp;omega
    rw [el] at a1 a2 a3
    refine ⟨a1,fun j hj=>?_,fun j p hj hp=>?_⟩
    ·rw [zES] at hj ⊢; exact a2 j hj
    ·rw [zES];rw [zNm] at hp;exact a3 j p hj hp
section
variable {P:aaE}{tab:aax→Option Ty}{call:CallT}{N:Nat}{ops:Array Oper}{cJ:List Nat}{hints:List (Nat×Bool)}
theorem vk:∀ (l:List Oper) (nid:Nat) (st:St) (aM:List qB),mz tab call N ops cJ hints nid l st=some aM →
  aM.length=l.length∧∀ i o s,l[i]? = some o→aM[i]? = some s→rq tab call N ops cJ (nid+i) (zfH hints o) o (aX st (qw (aM.take i)))=some s:=by
 intro l
 induction l with
 | nil=>intro nid st aM h;cases h;exact ⟨rfl,fun i o s ho _=>by simp at ho⟩
 | cons o l ih=>
  intro nid st aM h
  simp only [mz] at h
  split at h
  ·rename_i R W ob hs
   split at h
   ·rename_i r hr
    cases h
    obtain ⟨h1,h2⟩:=ih _ _ _ hr
    refine ⟨by simp [h1],fun i o' s ho hi=>?_⟩
    cases i with
    | zero=>
     simp only [abo,aag] at ho hi
     subst ho;subst hi
     exact hs
    | succ i=>
     simp only [abW] at ho hi
     have:=h2 i o' s ho hi
     rw [show nid+1+i=nid+(i+1) by omega] at this
     simp only [ac0,qw,acy,kd]
     exact this
   ·cases h
  ·cases h
def Wf(aM:List qB)(i:Nat):List (Nat×Ct):=match aM[i]? with
 | some s=>s.2.1
 | none=>[]
def Rf(aM:List qB)(i:Nat):List Nat:=match aM[i]? with
 | some s=>s.1
 | none=>[]
theorem GY(aM:List qB)(st:St):∀ i,i≤aM.length→rT (Wf aM) st (aan i)=aX st (qw (aM.take i)):=by
 intro i
 induction i with
 | zero=>intro _;rfl
 | succ i ih=>
  intro h
  rw [List.range_succ,AE,ih (by omega),acv (by omega)]
  simp only [rT,Wf,aaC (show i<aM.length by omega),qw,ad7,acy,aeg,aaP,kd]
def Qg(ops:Array Oper)(i:Nat):List Nat:=match ops[i]? with
 | some o=>vE o
 | none=>[]
theorem EY{aM:List qB}(h:uK ops.toList aM [] []=true):∃ anc:Nat→Nat→Bool,Sorted ops.size (Qg ops) anc (Rf aM) (Wf aM):=by
 obtain ⟨rR,h1,h2,h3⟩:=OO ops.toList aM [] [] h rfl
 have hl:aM.length=ops.size:=by rw [←h2];simp
 refine ⟨fun i j=>(rR.getD i 0).testBit j,⟨?_,?_,?_⟩⟩
 all_goals
  intro i hi
  have ho:ops.toList[i]? = some ops[i]:=by simp [hi]
  have hs:aM[i]? = some aM[i]:=aaC (by omega)
  obtain ⟨a1,a2,a3⟩:=h3 i _ _ ho hs
  simp only [List.length_nil,aay,List.nil_append] at a1 a2 a3
  have es:Qg ops i=vE ops[i]:=by simp [Qg,hi]
 ·intro m hm;rw [es] at hm;exact a1 m hm
 ·intro j hj
  obtain ⟨m,hm,h'⟩:=a2 j hj
  exact ⟨m,by rw [es];exact hm,h'⟩
 ·intro j hj
  have hsj:aM[j]? = some aM[j]:=aaC (by omega)
  refine (a3 j _ hj (by rw [List.getElem?_map,hsj];rfl)).imp id fun hI=>?_
  have:=MT hI
  simp only [indep,Rf,Wf,hs,hsj]
  exact this
variable {Q:Exit→Act→World→Prop}{ρ:Rho}{a:Act}{w:World}{st:St}
theorem Wt(az:∀ t d,tab t=some d→TyOk P t d)(cP:ag P call){nid:Nat}{aM:List qB}(eN:mz tab call N ops cJ hints nid ops.toList st=some aM)(zw8:uK ops.toList aM [] []=true)
  (ax:∀ q∈xN aM,q) {dL:Rho} {w0:World} (hQ:∀ ρ' a' w',Ext dL w0 ρ' w'→Sim ρ' N (aX st (qw aM)) a' w'→Q .normal a' w') :
  ∃ anc:Nat→Nat→Bool,∀ (jR:Nat) (bS:Array Bool) (a:Act) (w:World) (ρ:Rho),bS.size=ops.size→Closed ops.size anc (fun j=>bS.getD j true) →
   ((aan ops.size).filter fun j=>!bS.getD j true).length≤jR→Ext dL w0 ρ w→Sim ρ N (at_ (Wf aM) st ops.size fun j=>bS.getD j true) a w→wpAny P .any ops Q jR bS a w:=by
 obtain ⟨anc,S⟩:=EY zw8
 obtain ⟨hl,zft⟩:=vk _ _ _ _ eN
 have hlen:aM.length=ops.size:=by rw [hl];simp
 refine ⟨anc,?_⟩
 have rd:∀ (bS:Array Bool) i,i∈adC .any ops bS↔bS.getD i true=false∧i<ops.size∧∀ m∈Qg ops i,bS.getD m false=true:=by
  intro bS i
  rw [mem_ready]
  constructor
  ·rintro ⟨h0,o,ho,zi⟩
   have hi:i<ops.size:=(aa8.1 ho).1
   refine ⟨h0,hi,fun m hm=>?_⟩
   simp only [Qg,ho] at hm
   obtain ⟨e,he,hb,rfl⟩:=MB.1 hm
   exact zi e he hb
  ·rintro ⟨h0,hi,zi⟩
   refine ⟨h0,ops[i],by simp [hi],fun e he hb=>zi _ ?_⟩
   simp only [Qg,abZ hi]
   exact MB.2 ⟨e,he,hb,rfl⟩
 have done:∀ (bS:Array Bool),bS.size=ops.size→adC .any ops bS=[]→∀ i,i<ops.size→bS.getD i true=true:=by
  intro bS q9 M7 i
  induction i using Nat.strongRecOn with
  | _ i ih=>
   intro hi
   cases hg:bS.getD i true with
   | true=>rfl
   | false=>
    have:i∈adC .any ops bS:=(rd bS i).2 ⟨hg,hi,fun m hm=>by
     have hmi:=S.below i hi m hm
     have:=ih m hmi (by omega)
     rw [aaO,abZ (by omega)] at this ⊢
     exact this⟩
    rw [M7] at this
    cases this
 have fin:∀ (bS:Array Bool) (a:Act) (w:World) (ρ:Rho),bS.size=ops.size→adC .any ops bS=[]→Ext dL w0 ρ w→Sim ρ N (at_ (Wf aM) st ops.size fun j=>bS.getD j true) a w→Q .normal a w:=by
  intro bS a w ρ q9 M7 hE hs
  refine hQ ρ a w hE (hs.congr fun k=>?_)
  unfold at_
  rw [List.filter_eq_self.2 (fun j hj=>by simpa using done bS q9 M7 j (by simpa using hj))]
  rw [GY aM st ops.size (by omega),←hlen,List.take_length]
 intro jR
 induction jR with
 | zero=>
  intro bS a w ρ q9 BN hfu hE hs
  have M7:adC .any ops bS=[]:=by
   rw [List.eq_nil_iff_forall_not_mem]
   intro i hi
   have:=(rd bS i).1 hi
   have hm:i∈(aan ops.size).filter fun j=>!bS.getD j true:=by
    rw [adz];exact ⟨by simpa using this.2.1,by rw [this.1];rfl⟩
   have:=List.length_pos_of_mem hm
   omega
  exact ⟨M7,fin bS a w ρ q9 M7 hE hs⟩
 | succ jR ih=>
  intro bS a w ρ q9 BN hfu hE hs
  refine ⟨fun M7=>fin bS a w ρ q9 M7 hE hs,fun i hi=>?_⟩
  obtain ⟨h0,hlt,zMq⟩:=(rd bS i).1 hi
  have zfu:∀ m∈Qg ops i,bS.getD m true=true:=fun m hm=>by
   have:=zMq m hm
   have hmi:=S.below i hlt m hm
   rw [aaO,abZ (by omega)] at this ⊢
   exact this
  have hi':i<aM.length:=by omega
  have M9:aM[i]? = some (aM[i]'hi'):=aaC hi'
  rcases rV:aM[i]'hi' with ⟨R,W,ob⟩
  have jd:=zft i ops[i] (aM[i]'hi') (by simp [hlt]) M9
  rw [rV] at jd
  have hR:Rf aM i=R:=by simp only [Rf,M9,rV]
  have hW:Wf aM i=W:=by simp only [Wf,M9,rV]
  have zMp:=H3 (kb:=at_ (Wf aM) st ops.size fun j=>bS.getD j true) jd fun k hk=>by
   rw [S.reads BN hlt h0 zfu st (by rw [hR];exact hk),GY aM st i (by omega)]
  refine yj az cP (by simp [hlt]) zMp (fun q hq=>ax q ?_) hs fun ρ' a' w' BO fD=>?_
  ·unfold xN
   rw [acX]
   exact ⟨aM[i]'hi',adM _,by rw [rV];exact hq⟩
  ·have heq:∀ j,(bS.setIfInBounds i true).getD j true=(j==i || bS.getD j true):=by
    intro j
    simp only [aaO]
    by_cases hj:i=j
    ·subst hj;simp [show i<bS.size by omega]
    ·rw [Array.getElem?_setIfInBounds_ne hj]
     have:(j==i)=false:=by simpa using fun e=>hj e.symm
     rw [this,Bool.false_or]
   have zD9:(fun j=>(bS.setIfInBounds i true).getD j true)=fun j=>j==i || bS.getD j true:=funext heq
   refine ih (bS.setIfInBounds i true) a' w' ρ' (by simp [q9]) ?_ ?_ (hE.trans BO) ?_
   ·rw [zD9];exact Closed.add S BN hlt zfu
   ·have znb:((aan ops.size).filter fun j=>!(j==i || bS.getD j true)).length<((aan ops.size).filter fun j=>!bS.getD j true).length:=by
     have e:((aan ops.size).filter fun j=>!(j==i || bS.getD j true))=((aan ops.size).filter fun j=>!bS.getD j true).filter fun j=>!(j==i):=by
      rw [List.filter_filter]
      apply acR
      intro j _
      simp [Bool.not_or]
     rw [e]
     refine List.length_filter_lt_length_iff_exists.2 ⟨i,?_,by simp⟩
     rw [adz];exact ⟨by simpa using hlt,by rw [h0];rfl⟩
    have e2:((aan ops.size).filter fun j=>!(bS.setIfInBounds i true).getD j true)=(aan ops.size).filter fun j=>!(j==i || bS.getD j true):=by
     apply acR;intro j _;rw [heq]
    rw [e2];omega
   ·rw [zD9]
    refine fD.congr fun k=>?_
    rw [S.more BN hlt h0 zfu st k,hW]
end
section
variable {P:aaE}{tab:aax→Option Ty}{call:CallT}{N:Nat}{ops:Array Oper}{cJ:List Nat}{hints:List (Nat×Bool)}{Q:Exit→Act→World→Prop}{ρ:Rho}{a:Act}{w:World}{st:St}
theorem XI(hm:P.follows .mixedOrders=true)(az:∀ t d,tab t=some d→TyOk P t d)(cP:ag P call){nid id:Nat}{draw:Bool}{aM:List qB}(eN:mz tab call N ops cJ hints nid ops.toList st=some aM)
  (zw8:draw=true→uK ops.toList aM [] []=true) (ax:∀ q∈xN aM,q) (hs:Sim ρ N st a w)
  (hQ:∀ ρ' a' w',Ext ρ w ρ' w'→Sim ρ' N (aX st (qw aM)) a' w'→Q .normal a' w'):(Code.region id ops draw).wp P Q a w:=by
 cases draw with
 | true=>
  obtain ⟨anc,h⟩:=Wt az cP eN (zw8 rfl) ax hQ
  refine wp_region_any hm (h ops.size _ a _ ρ (by simp) ?_ (Nat.le_trans (List.length_filter_le _ _) (by simp)) (Ext.drew ρ w) ?_)
  ·intro j hj hl
   simp [hj] at hl
  ·refine (Sim.congr hs fun k=>?_).drew
   unfold at_
   have:(aan ops.size).filter (fun j=>(ac5 ops.size false).getD j true)=[]:=by
    rw [List.filter_eq_nil_iff]
    intro j hj
    have:j<ops.size:=by simpa using hj
    simp [this]
   rw [this];rfl
 | false=>
  obtain ⟨hl,zft⟩:=vk _ _ _ _ eN
  have hlen:aM.length=ops.size:=by rw [hl];simp
  refine wp_region ?_
  rw [List.range_eq_range']
  have key:∀ (m k:Nat) (a:Act) (w':World) (ρ':Rho),k+m=ops.size→Ext ρ w ρ' w'→Sim ρ' N (aX st (qw (aM.take k))) a w'→wpOps P ops Q (List.range' k m) a w':=by
   intro m
   induction m with
   | zero=>
    intro k a w' ρ' hk hE fD
    rw [show aM.take k=aM by rw [List.take_of_length_le (by omega)]] at fD
    exact hQ ρ' a w' hE fD
   | succ m ih=>
    intro k a w' ρ' hk hE fD
    have hlt:k<ops.size:=by omega
    have hi':k<aM.length:=by omega
    have M9:aM[k]? = some (aM[k]'hi'):=aaC hi'
    rcases rV:aM[k]'hi' with ⟨R,W,ob⟩
    have jd:=zft k ops[k] (aM[k]'hi') (by simp [hlt]) M9
    rw [rV] at jd
    rw [List.range'_succ,wpOps_cons]
    refine yj az cP (by simp [hlt]) jd (fun q hq=>ax q ?_) fD fun qS SY uV BO JB=>?_
    ·unfold xN
     rw [acX]
     exact ⟨aM[k]'hi',adM _,by rw [rV];exact hq⟩
    ·refine ih (k+1) SY uV qS (by omega) (hE.trans BO) ?_
     rw [acv hi',rV]
     simp only [qw,ad7,acy,aeg,aaP,kd]
     exact JB
  exact key ops.size 0 a w ρ (by omega) (.refl ρ w) hs
end
structure Xs where
 st:St
 nid:Nat
 hints:List (Nat×Bool)
 obs:List Prop
 dirty:List Nat
inductive Xk where
 | n
 | e (id:Nat)
 | r
def Xk.exit:Xk→Exit
 | .n=>.normal
 | .e id=>.exit id
 | .r=>.ret
def fP(st:St):List Nat:=st.filterMap fun p=>if p.1%2=1 then some (p.1/2) else none
def VH(W:List (Nat×Ct)):List Nat:=W.filterMap fun p=>if p.1%2=1 then some (p.1/2) else none
def Og:List (Nat×Bool)→Nat→List (Nat×Bool)
 | [],_=>[]
 | (k,b)::l,d=>if k=d then l else (k,b)::Og l d
def Cj:List Oper→List (Nat×Bool)→List (Nat×Bool)
 | [],h=>h
 | o::l,h=>match o.dst with
  | some d=>Cj l (Og h d)
  | none=>Cj l h
structure Eng where
 tab:aax→Option Ty
 call:CallT
 N:Nat
def li(E:Eng)(ops:Array Oper)(draw:Bool)(x:Xs):Option Xs:=
 match mz E.tab E.call E.N ops (fP x.st) x.hints x.nid ops.toList x.st with
 | some aM=>match draw && !uK ops.toList aM [] [] with
  | true=>none
  | false=>some { st:=aX x.st (qw aM),nid:=x.nid+ops.size,hints:=Cj ops.toList x.hints,obs:=x.obs++xN aM,dirty:=VH (qw aM)++x.dirty }
 | none=>none
def En(st:St)(c:Operand):Option Bool:=match evE st.slot c with
 | some (.one ⟨false,[.v (.bool b)]⟩)=>some b
 | _=>none
def exec(E:Eng):Nat→Code→Xs→Option (Xk×Xs)
 | 0,_,_=>none
 | n+1,c,x=>match c with
  | .skip=>some (.n,x)
  | .label _=>some (.n,x)
  | .region _ ops draw=>match li E ops draw x with
   | some y=>some (.n,y)
   | none=>none
  | .seq p q=>match exec E n p x with
   | some (.n,y)=>exec E n q y
   | r=>r
  | .cond c p q=>match En x.st c with
   | some true=>exec E n p x
   | some false=>exec E n q x
   | none=>none
  | .block id p=>match exec E n p x with
   | some (.e id',y)=>if id'=id then some (.n,y) else some (.e id',y)
   | r=>r
  | .loop p=>match exec E n p x with
   | some (.n,y)=>exec E n (.loop p) y
   | r=>r
  | .exit id=>some (.e id,x)
  | .ret=>some (.r,x)
  | .scope p=>exec E n p x
  | _=>none
def Kept(x y:Xs):Prop:=(∀ q∈x.obs,q∈y.obs)∧(∀ d∈x.dirty,d∈y.dirty)∧∀ id,id∉y.dirty→y.st.blk id=x.st.blk id
theorem Kept.refl(x:Xs):Kept x x:=⟨fun _ h=>h,fun _ h=>h,fun _ _=>rfl⟩
theorem Kept.trans{x y z:Xs}(h:Kept x y)(k:Kept y z):Kept x z:=
 ⟨fun q hq=>k.1 q (h.1 q hq),fun q hq=>k.2.1 q (h.2.1 q hq),fun id cl=>(k.2.2 id cl).trans (h.2.2 id fun hd=>cl (k.2.1 id hd))⟩
theorem CQ{E:Eng}{ops:Array Oper}{draw:Bool}{x y:Xs}(h:li E ops draw x=some y):Kept x y:=by
 unfold li at h
 split at h
 ·rename_i aM hi
  split at h
  ·cases h
  ·cases h
   refine ⟨fun q hq=>aau _ hq,fun q hq=>aaq _ hq,fun id cl=>?_⟩
   have:2*id+1∉keys (qw aM):=by
    intro hk
    refine cl (aau _ ?_)
    unfold keys at hk
    obtain ⟨p,hp,e⟩:=aaY.1 hk
    unfold VH
    rw [acG]
    refine ⟨p,hp,?_⟩
    rw [e,if_pos (by omega)]
    congr 1;omega
   unfold St.blk
   rw [lp,zc this]
 ·cases h
theorem m3{E:Eng}:∀ (n:Nat) (c:Code) (x:Xs) (k:Xk) (y:Xs),exec E n c x=some (k,y)→Kept x y:=by
 intro n
 induction n with
 | zero=>intro c x k y h;cases h
 | succ n ih=>
  intro c x k y h
  cases c<;>simp only [exec] at h<;>try (cases h;done)
  case skip=>cases h;exact .refl _
  case label=>cases h;exact .refl _
  case exit=>cases h;exact .refl _
  case ret=>cases h;exact .refl _
  case region id ops draw=>
   split at h
   ·rename_i z hz;cases h;exact CQ hz
   ·cases h
  case seq p q=>
   cases hp:exec E n p x with
   | none=>rw [hp] at h;cases h
   | some r=>
    obtain ⟨k',z⟩:=r
    rw [hp] at h
    cases k' with
    | n=>exact (ih _ _ _ _ hp).trans (ih _ _ _ _ h)
    | e id=>cases h;exact ih _ _ _ _ hp
    | r=>cases h;exact ih _ _ _ _ hp
  case cond c p q=>
   split at h
   ·exact ih _ _ _ _ h
   ·exact ih _ _ _ _ h
   ·cases h
  case block id p=>
   cases hp:exec E n p x with
   | none=>rw [hp] at h;cases h
   | some r=>
    obtain ⟨k',z⟩:=r
    rw [hp] at h
    cases k' with
    | n=>cases h;exact ih _ _ _ _ hp
    | e id'=>simp only at h;split at h<;>(cases h;exact ih _ _ _ _ hp)
    | r=>cases h;exact ih _ _ _ _ hp
  case loop p=>
   cases hp:exec E n p x with
   | none=>rw [hp] at h;cases h
   | some r=>
    obtain ⟨k',z⟩:=r
    rw [hp] at h
    cases k' with
    | n=>exact (ih _ _ _ _ hp).trans (ih _ _ _ _ h)
    | e id=>cases h;exact ih _ _ _ _ hp
    | r=>cases h;exact ih _ _ _ _ hp
  case scope p=>exact ih _ _ _ _ h
section
variable {P:aaE}{E:Eng}
theorem Ie(hm:P.follows .mixedOrders=true)(az:∀ t d,E.tab t=some d→TyOk P t d)(cP:ag P E.call){id:Nat}{ops:Array Oper}{draw:Bool}{x y:Xs}(h:li E ops draw x=some y)(ax:∀ q∈y.obs,q)
  {ρ:Rho} {a:Act} {w:World} (hs:Sim ρ E.N x.st a w) {Q:Exit→Act→World→Prop} (hQ:∀ ρ' a' w',Ext ρ w ρ' w'→Sim ρ' E.N y.st a' w'→Q .normal a' w'):(Code.region id ops draw).wp P Q a w:=by
 unfold li at h
 split at h
 ·rename_i aM hi
  split at h
  ·cases h
  ·rename_i hd
   cases h
   refine XI hm az cP hi (fun e=>?_) (fun q hq=>ax q (aaq _ hq)) hs hQ
   subst e
   simpa using hd
 ·cases h
theorem lB{N:Nat}{st:St}{ρ:Rho}{a:Act}{w:World}(hs:Sim ρ N st a w){c:Operand}{b:Bool}(h:En st c=some b):a.eval c = .bool b:=by
 unfold En at h
 split at h
 ·rename_i b' he
  cases h
  have:=AV.val_one (ρ:=ρ) (i:=.v (.bool b)) (Vy (fun t x hx=>hs.slots t x hx) c _ he)
  simp only [It.cs,abp,aag,aaM,and_true] at this
  exact this.symm
 ·cases h
theorem Vw(hm:P.follows .mixedOrders=true)(az:∀ t d,E.tab t=some d→TyOk P t d)(cP:ag P E.call):∀ (n:Nat) (c:Code) (x:Xs) (k:Xk) (y:Xs),exec E n c x=some (k,y)→(∀ q∈y.obs,q) →
  ∀ (ρ:Rho) (a:Act) (w:World),Sim ρ E.N x.st a w→∀ (Q:Exit→Act→World→Prop),(∀ ρ' a' w',Ext ρ w ρ' w'→Sim ρ' E.N y.st a' w'→Q k.exit a' w') →
   c.wp P Q a w∧∀ p,c = .loop p→adu P p Q n a w:=by
 intro n
 induction n with
 | zero=>intro c x k y h;cases h
 | succ n ih=>
  intro c x k y h ax ρ a w hs Q hQ
  have nl:∀ (hc:∀ p,c≠.loop p),c.wp P Q a w→c.wp P Q a w∧∀ p,c = .loop p→adu P p Q (n+1) a w:=fun hc h=>⟨h,fun p e=>absurd e (hc p)⟩
  cases c<;>simp only [exec] at h<;>try (cases h;done)
  case skip=>cases h;exact nl (fun _ e=>by cases e) (wp_skip (hQ ρ a w (.refl ρ w) hs))
  case label=>cases h;exact nl (fun _ e=>by cases e) (wp_label (hQ ρ a w (.refl ρ w) hs))
  case exit=>cases h;exact nl (fun _ e=>by cases e) (wp_exit (hQ ρ a w (.refl ρ w) hs))
  case ret=>cases h;exact nl (fun _ e=>by cases e) (wp_ret (hQ ρ a w (.refl ρ w) hs))
  case region id ops draw=>
   split at h
   ·rename_i z hz;cases h;exact nl (fun _ e=>by cases e) (Ie hm az cP hz ax hs hQ)
   ·cases h
  case seq p q=>
   refine nl (fun _ e=>by cases e) (wp_seq ?_)
   cases hp:exec E n p x with
   | none=>rw [hp] at h;cases h
   | some r=>
    obtain ⟨k',z⟩:=r
    rw [hp] at h
    cases k' with
    | n=>
     have hk:=m3 _ _ _ _ _ h
     refine (ih _ _ _ _ hp (fun q hq=>ax q (hk.1 q hq)) ρ a w hs _ fun ρ' a' w' hE fD=>?_).1
     exact (ih _ _ _ _ h ax ρ' a' w' fD Q fun qS SY uV BO JB=>hQ qS SY uV (hE.trans BO) JB).1
    | e id=>cases h;refine (ih _ _ _ _ hp ax ρ a w hs _ fun ρ' a' w' hE fD=>?_).1;exact hQ ρ' a' w' hE fD
    | r=>cases h;refine (ih _ _ _ _ hp ax ρ a w hs _ fun ρ' a' w' hE fD=>?_).1;exact hQ ρ' a' w' hE fD
  case cond c p q=>
   refine nl (fun _ e=>by cases e) ?_
   split at h
   ·rename_i hc;exact wp_cond_true (lB hs hc) (ih _ _ _ _ h ax ρ a w hs Q hQ).1
   ·rename_i hc;exact wp_cond_false (lB hs hc) (ih _ _ _ _ h ax ρ a w hs Q hQ).1
   ·cases h
  case block id p=>
   refine nl (fun _ e=>by cases e) (wp_block ?_)
   cases hp:exec E n p x with
   | none=>rw [hp] at h;cases h
   | some r=>
    obtain ⟨k',z⟩:=r
    rw [hp] at h
    cases k' with
    | n=>cases h;refine (ih _ _ _ _ hp ax ρ a w hs _ fun ρ' a' w' hE fD=>?_).1;exact hQ ρ' a' w' hE fD
    | e id'=>
     simp only at h
     split at h
     ·rename_i e
      cases h
      refine (ih _ _ _ _ hp ax ρ a w hs _ fun ρ' a' w' hE fD=>?_).1
      simp only [Xk.exit,Exit.inBlock,e,if_true]
      exact hQ ρ' a' w' hE fD
     ·rename_i e
      cases h
      refine (ih _ _ _ _ hp ax ρ a w hs _ fun ρ' a' w' hE fD=>?_).1
      simp only [Xk.exit,Exit.inBlock,e,if_false]
      exact hQ ρ' a' w' hE fD
    | r=>cases h;refine (ih _ _ _ _ hp ax ρ a w hs _ fun ρ' a' w' hE fD=>?_).1;exact hQ ρ' a' w' hE fD
  case loop p=>
   have rounds:adu P p Q (n+1) a w:=by
    rw [rounds_succ]
    cases hp:exec E n p x with
    | none=>rw [hp] at h;cases h
    | some r=>
     obtain ⟨k',z⟩:=r
     rw [hp] at h
     cases k' with
     | n=>
      have hk:=m3 _ _ _ _ _ h
      refine (ih _ _ _ _ hp (fun q hq=>ax q (hk.1 q hq)) ρ a w hs _ fun ρ' a' w' hE fD=>?_).1
      exact (ih _ _ _ _ h ax ρ' a' w' fD Q fun qS SY uV BO JB=>hQ qS SY uV (hE.trans BO) JB).2 p rfl
     | e id=>cases h;refine (ih _ _ _ _ hp ax ρ a w hs _ fun ρ' a' w' hE fD=>?_).1;exact hQ ρ' a' w' hE fD
     | r=>cases h;refine (ih _ _ _ _ hp ax ρ a w hs _ fun ρ' a' w' hE fD=>?_).1;exact hQ ρ' a' w' hE fD
   exact ⟨wp_loop_rounds _ rounds,fun q e=>by cases e;exact rounds⟩
  case scope p=>
   refine nl (fun _ e=>by cases e) (wp_scope_straight (ih _ _ _ _ h ax ρ a w hs _ fun ρ' a' w' hE fD=>?_).1)
   have:=hQ ρ' a' w' hE fD
   cases k<;>exact this
end
structure Fn1 where
 body:Code
 results:List acM
 ntmps:Nat
structure FnOk(P:aaE)(f:aaz)(d:Fn1):Prop where
 ok : ∃ fn, P.funcs[f]? = some fn ∧ fn.body = some d.body ∧ fn.results.toList = d.results ∧ fn.ntmps = d.ntmps ∧ (fn.name == "runtime.NumGoroutine") = false
def wq:Nat→Nat→St
 | _,0=>[]
 | t,n+1=>(2*t,.sl (.tup []))::wq (t+1) n
def aW:Nat→List AV→Nat→St
 | t,[],n=>wq t n
 | t,x::l,n=>(2*t,.sl (.one x))::aW (t+1) l n
def vS(tab:aax→Option Ty)(st:St):acM→Option AV
 | .tmp t=>match st.slot t with
  | some (.one x)=>some x
  | _=>none
 | .cell p ty=>match st.slot p,tab ty with
  | some (.one x),some d=>match xH x with
   | some (id,off)=>match st.rblk id with
    | some l=>match cut l off (if d.agg then d.size else 1) with
     | some r=>some ⟨d.agg,r⟩
     | none=>none
    | none=>none
   | none=>none
  | _,_=>none
def cO(tab:aax→Option Ty)(st:St):List acM→Option (List AV)
 | []=>some []
 | r::l=>match vS tab st r,cO tab st l with
  | some x,some xs=>some (x::xs)
  | _,_=>none
def pT:List AV→SV
 | [x]=>.one x
 | l=>.tup l
def kD(m st:St):List Nat→List (Nat×List It)
 | []=>[]
 | id::l=>match m.blk id,st.blk id with
  | some _,some b=>(id,b)::kD m st l
  | _,_=>kD m st l
def kG(m st:St):List Nat→List (Nat×List It)
 | []=>[]
 | id::l=>match m.blk id,st.blk id with
  | none,some b=>(id,b)::kG m st l
  | _,_=>kG m st l
def nv:List Nat→List Nat
 | []=>[]
 | x::l=>if l.contains x then nv l else x::nv l
def rF(tab:aax→Option Ty)(call:CallT)(jR:Nat)(d:Fn1)(args:List AV)(m:St)(nid:Nat)(hints:List (Nat×Bool)):Option Out:=
 if args.length≤d.ntmps∧m.all (fun p=>p.1%2==1)=true then
  match exec { tab:=tab,call:=call,N:=d.ntmps } jR d.body { st:=aW 0 args (d.ntmps-args.length)++m,nid:=nid,hints:=hints,obs:=[],dirty:=[] } with
  | some (.e _,_)=>none
  | some (_,y)=>match cO tab y.st d.results with
   | some rs=>some { val:=pT rs,wr:=kD m y.st (nv y.dirty),news:=kG m y.st (nv y.dirty),ob:=y.obs }
   | none=>none
  | none=>none
 else none
theorem AD{α:Type}(l m:List (Nat×α))(k:Nat):look (l++m) k=match look l k with | some v=>some v | none=>look m k:=by
 induction l with
 | nil=>rfl
 | cons p l ih=>
  obtain ⟨k',v⟩:=p
  simp only [abe,look]
  by_cases h:k'=k
  ·simp [h]
  ·simp [h,ih]
theorem rS:∀ (args:List AV) (t n k:Nat) (c:Ct),look (aW t args n) k=some c →
  ∃ u,k=2*u∧t≤u∧u<t+(args.length+n)∧((∃ y,args[u-t]? = some y∧c = .sl (.one y))∨(args.length≤u-t∧c = .sl (.tup []))):=by
 intro args
 induction args with
 | nil=>
  intro t n
  induction n generalizing t with
  | zero=>intro k c h;simp only [aW,wq,look] at h;cases h
  | succ n ih=>
   intro k c h
   simp only [aW,wq,look,beq_iff_eq] at h
   split at h
   ·rename_i e
    cases h
    exact ⟨t,e.symm,aaV _,by simp,.inr ⟨by simp,rfl⟩⟩
   ·obtain ⟨u,h1,h2,h3,h4⟩:=ih (t+1) k c h
    refine ⟨u,h1,by omega,by simp at h3 ⊢; omega,.inr ?_⟩
    rcases h4 with ⟨y,hy,_⟩|⟨_,hc⟩
    ·simp at hy
    ·exact ⟨by simp,hc⟩
 | cons x args ih=>
  intro t n k c h
  simp only [aW,look,beq_iff_eq] at h
  split at h
  ·rename_i e
   cases h
   exact ⟨t,e.symm,aaV _,by simp;omega,.inl ⟨x,by simp,rfl⟩⟩
  ·obtain ⟨u,h1,h2,h3,h4⟩:=ih (t+1) n k c h
   refine ⟨u,h1,by omega,by simp at h3 ⊢; omega,?_⟩
   have e:u-t=(u-(t+1))+1:=by omega
   rcases h4 with ⟨y,hy,hc⟩|⟨hl,hc⟩
   ·exact .inl ⟨y,by rw [e,abW];exact hy,hc⟩
   ·exact .inr ⟨by simp;omega,hc⟩
theorem zec{m:St}(hm:m.all (fun p=>p.1%2==1)=true)(t:Nat):look m (2*t)=none:=by
 induction m with
 | nil=>rfl
 | cons p m ih=>
  obtain ⟨k,v⟩:=p
  simp only [abX,aaf,beq_iff_eq] at hm
  simp only [look,beq_iff_eq]
  have:¬k=2*t:=by omega
  rw [if_neg this];exact ih hm.2
theorem xE{m:St}{args:List AV}{n id:Nat}:St.blk (aW 0 args n++m) id=m.blk id:=by
 unfold St.blk
 rw [AD]
 cases h:look (aW 0 args n) (2*id+1) with
 | none=>rfl
 | some c=>obtain ⟨u,h1,_⟩:=rS _ _ _ _ _ h;omega
theorem LH{ρ:Rho}{m:St}{w:World}(hM:Mem ρ m w)(RE:m.all (fun p=>p.1%2==1)=true){args:List AV}{vs:List Value}(hv:ay ρ args=some vs){N:Nat}(hN:args.length≤N):
  Sim ρ N (aW 0 args (N-args.length)++m) { tmps:=vs.toArray++ac5 (N-vs.toArray.size) undef,defers:=[] } w:=by
 have hlen:vs.length=args.length:=by
  clear hM hN
  induction args generalizing vs with
  | nil=>cases hv;rfl
  | cons x args ih=>
   simp only [ay] at hv
   split at hv
   ·rename_i u us hu BM;cases hv;simp [ih BM]
   ·cases hv
 constructor
 ·intro t x hx
  unfold St.slot at hx
  rw [AD,zec RE] at hx
  cases h:look (aW 0 args (N-args.length)) (2*t) with
  | none=>rw [h] at hx;cases hx
  | some c=>
   rw [h] at hx
   obtain ⟨u,h1,h2,h3,h4⟩:=rS _ _ _ _ _ h
   have hu:u=t:=by omega
   subst hu
   simp only [Nat.sub_zero] at h4
   rcases h4 with ⟨y,hy,rfl⟩|⟨hl,rfl⟩
   ·simp only [aag] at hx
    subst hx
    obtain ⟨v,qL,uX⟩:=KX _ _ _ _ hv hy
    have hlt:u<vs.length:=(abH.1 uX).1
    rw [aaO,Array.getElem?_append_left (by simpa using hlt)]
    rw [aba,uX];exact qL
   ·simp only [aag] at hx
    subst hx
    rw [aaO,Array.getElem?_append_right (by simp;omega)]
    simp only [Array.getElem?_replicate]
    split<;>rfl
 ·simp;omega
 ·exact ⟨fun id l hl=>hM.ok.blk id l (by rw [←xE (args:=args) (n:=N-args.length)];exact hl)⟩
 ·exact hM.inj.congr fun id=>xE
 ·intro id q hq;rw [xE];exact hM.dom id q hq
 ·rfl
section
variable {P:aaE}{tab:aax→Option Ty}
theorem CP(az:∀ t d,tab t=some d→TyOk P t d){ρ:Rho}{N:Nat}{st:St}{a:Act}{w:World}(hs:Sim ρ N st a w){t:aax}{d:Ty}(ht:tab t=some d){id off:Nat}{l r:List It}{q:Nat×Nat}(hq:ρ.at id=some q)
  (hl:st.rblk id=some l) (hr:cut l off (if d.agg then d.size else 1)=some r):∃ v,AV.val ρ ⟨d.agg,r⟩=some v∧(loadVar t ⟨q.1,q.2+off,none⟩).run P w = .ok v w:=by
 obtain ⟨i,u,hi,hu,q9,ha,_⟩:=(az t d ht).facts
 have hl:=rJ hl
 obtain ⟨b,o',vs,hb,hc,od⟩:=hs.mem.blk id l hl
 rw [Rho.at_some hb] at hq;cases hq
 obtain ⟨hle,xj⟩:=o_ hr hc
 have AH:∀ j v,vs[off+j]? = some v→w.cell? ⟨(qo id (b,o')).1,(qo id (b,o')).2+off+j,none⟩=some v:=by
  intro j v hj
  rw [Nat.add_assoc];exact od.cell hj
 simp only [loadVar,aal,mR hu,aaj,ha]
 cases hg:d.agg with
 | true=>
  rw [hg] at xj hle
  simp only [if_true] at xj hle
  have hlen:((vs.drop off).take d.size).length=d.size:=by rw [abd,aa1];omega
  refine ⟨.agg ((vs.drop off).take d.size).toArray,by simp only [AV.val,xj],?_⟩
  simp only [if_true,aal,cu hi,aaj,q9]
  have:=run_loadCells_list (P:=P) w ⟨(qo id (b,o')).1,(qo id (b,o')).2+off,none⟩ ((vs.drop off).take d.size) (fun j v hv=>by
   rw [fo]
   refine AH j v ?_
   rw [aa7] at hv
   split at hv
   ·rw [abC] at hv;exact hv
   ·cases hv)
  rw [hlen] at this
  rw [this];rfl
 | false=>
  rw [hg] at xj hle
  simp only [aaS,if_false] at xj hle
  have hlt:off<vs.length:=by omega
  have e:(vs.drop off).take 1=[vs[off]]:=by
   rw [ack hlt,ac0,List.take_zero]
  rw [e] at xj
  refine ⟨vs[off],by simp only [AV.val,xj],?_⟩
  have h0:=AH 0 vs[off] (by simp)
  simp only [aaN] at h0
  simp only [aaS,if_false,run_load,h0]
def C6(tmps:Array Value):acM→Sem Value
 | .tmp t=>pure (tmps.getD t undef)
 | .cell a t=>do loadVar t (←asAddr (tmps.getD a undef))
theorem Ma(az:∀ t d,tab t=some d→TyOk P t d){ρ:Rho}{N:Nat}{st:St}{a:Act}{w:World}(hs:Sim ρ N st a w){r:acM}{x:AV}(h:vS tab st r=some x):
  ∃ v,x.val ρ=some v∧(C6 a.tmps r).run P w = .ok v w:=by
 cases r with
 | tmp t=>
  simp only [vS] at h
  split at h
  ·rename_i y hy;cases h;exact ⟨_,hs.slots t _ hy,rfl⟩
  ·cases h
 | cell p ty=>
  simp only [vS] at h
  split at h
  ·rename_i y d hy ht
   split at h
   ·rename_i id off hp
    split at h
    ·rename_i l hl
     split at h
     ·rename_i r hr
      cases h
      obtain ⟨q,hq,hv⟩:=dY hp (hs.slots p _ hy)
      obtain ⟨v,h1,h2⟩:=CP az hs ht hq hl hr
      refine ⟨v,h1,?_⟩
      simp only [C6,hv,mo,asAddr,aal,Sem.run_pure,aaj,h2]
     ·cases h
    ·cases h
   ·cases h
  ·cases h
theorem IB(az:∀ t d,tab t=some d→TyOk P t d){ρ:Rho}{N:Nat}{st:St}{a:Act}{w:World}(hs:Sim ρ N st a w):∀ (l:List acM) (xs:List AV),cO tab st l=some xs →
  ∃ vs,ay ρ xs=some vs∧(l.mapM (C6 a.tmps)).run P w = .ok vs w:=by
 intro l
 induction l with
 | nil=>intro xs h;cases h;exact ⟨[],rfl,rfl⟩
 | cons r l ih=>
  intro xs h
  simp only [cO] at h
  split at h
  ·rename_i x ys hx hys
   cases h
   obtain ⟨v,h1,h2⟩:=Ma az hs hx
   obtain ⟨vs,h3,h4⟩:=ih ys hys
   exact ⟨v::vs,by simp only [ay,h1,h3],by simp only [List.mapM_cons,aal,h2,h4,aaj,Sem.run_pure]⟩
  ·cases h
theorem zc4{ρ:Rho}{xs:List AV}{vs:List Value}(h:ay ρ xs=some vs):(pT xs).val ρ=some (if h:vs.toArray.size=1 then vs.toArray[0] else .tuple vs.toArray):=by
 cases xs with
 | nil=>cases h;rfl
 | cons x xs=>
  simp only [ay] at h
  split at h
  ·rename_i v us hv BM
   cases h
   cases xs with
   | nil=>cases BM;simpa [pT,SV.val] using hv
   | cons y ys=>
    have kN:¬((v::us).toArray.size=1):=by
     simp only [ay] at BM
     split at BM
     ·cases BM;simp
     ·cases BM
    rw [dif_neg kN]
    have:ay ρ (x::y::ys)=some (v::us):=by
     show (match x.val ρ,ay ρ (y::ys) with | some v,some vs=>some (v::vs) | _,_=>none)=_
     rw [hv,BM]
    simp only [pT,SV.val,this]
  ·cases h
theorem jl(az:∀ t d,tab t=some d→TyOk P t d){ρ:Rho}{N:Nat}{st:St}{a:Act}{w:World}(hs:Sim ρ N st a w){fn:Func}{rs:List acM}(hr:fn.results.toList=rs){xs:List AV}(h:cO tab st rs=some xs):
  ∃ v,(pT xs).val ρ=some v∧(results fn a.tmps).run P w = .ok v w:=by
 obtain ⟨vs,h1,h2⟩:=IB az hs rs xs h
 refine ⟨_,zc4 h1,?_⟩
 have e:(fn.results.mapM (C6 a.tmps)).run P w = .ok vs.toArray w:=by
  rw [Array.mapM_eq_mapM_toList,Sem.run_map,hr,h2];rfl
 have e':results fn a.tmps=(do let vs ←fn.results.mapM (C6 a.tmps);pure (if h:vs.size=1 then vs[0] else .tuple vs)):=by
  unfold results
  congr 1
 rw [e',aal,e]
 rfl
end
theorem Jn(a b:List (Nat×List It))(id:Nat):fC (a++b) id=match fC b id with | some r=>some r | none=>fC a id:=by
 induction a with
 | nil=>cases h:fC b id<;>simp [fC,h]
 | cons p a ih=>
  simp only [abe,fC,ih]
  cases fC b id with
  | some r=>rfl
  | none=>rfl
theorem Yw(m st:St)(id:Nat):∀ (D:List Nat),fC (kD m st D) id=if id∈D then (match m.blk id,st.blk id with | some _,some b=>some b | _,_=>none) else none:=by
 intro D
 induction D with
 | nil=>rfl
 | cons j D ih=>
  simp only [kD]
  by_cases hj:id=j
  ·subst hj
   cases h1:m.blk id with
   | none=>
    simp only [ih,h1,aae,true_or,if_true]
    split<;>rfl
   | some x=>
    cases h2:st.blk id with
    | none=>simp only [ih,h1,h2,aae,true_or,if_true];split<;>rfl
    | some b=>
     simp only [fC,ih,h1,h2,aae,true_or,if_true]
     by_cases hD:id∈D<;>simp [hD]
  ·have Vn:¬j=id:=fun e=>hj e.symm
   cases h1:m.blk j with
   | none=>simp only [ih,aae,hj,false_or]
   | some x=>
    cases h2:st.blk j with
    | none=>simp only [ih,aae,hj,false_or]
    | some b=>
     simp only [fC,ih,aae,hj,false_or,Vn,if_false]
     split<;>simp_all
theorem Yx(m st:St)(id:Nat):∀ (D:List Nat),fC (kG m st D) id=if id∈D then (match m.blk id,st.blk id with | none,some b=>some b | _,_=>none) else none:=by
 intro D
 induction D with
 | nil=>rfl
 | cons j D ih=>
  simp only [kG]
  by_cases hj:id=j
  ·subst hj
   cases h1:m.blk id with
   | some x=>
    simp only [ih,h1,aae,true_or,if_true]
    split<;>rfl
   | none=>
    cases h2:st.blk id with
    | none=>simp only [ih,h1,h2,aae,true_or,if_true];split<;>rfl
    | some b=>
     simp only [fC,ih,h1,h2,aae,true_or,if_true]
     by_cases hD:id∈D<;>simp [hD]
  ·have Vn:¬j=id:=fun e=>hj e.symm
   cases h1:m.blk j with
   | some x=>simp only [ih,aae,hj,false_or]
   | none=>
    cases h2:st.blk j with
    | none=>simp only [ih,aae,hj,false_or]
    | some b=>
     simp only [fC,ih,aae,hj,false_or,Vn,if_false]
     split<;>simp_all
theorem Ym:∀ (l:List Nat) (x:Nat),x∈nv l↔x∈l:=by
 intro l
 induction l with
 | nil=>intro x;exact Iff.rfl
 | cons y l ih=>
  intro x
  simp only [nv]
  by_cases h:y∈l
  ·have hc:l.contains y=true:=by simpa using h
   rw [if_pos hc,ih]
   constructor
   ·intro hx;exact aaa _ hx
   ·intro hx
    rcases aae.1 hx with rfl|hx
    ·exact h
    ·exact hx
  ·have hc:¬l.contains y=true:=by simpa using h
   rw [if_neg hc,aae,aae,ih]
theorem fB{P:aaE}(hm:P.follows .mixedOrders=true){tab:aax→Option Ty}(az:∀ t d,tab t=some d→TyOk P t d){call:CallT}(cP:ag P call){jR:Nat}{f:aaz}{d:Fn1}(hf:FnOk P f d)
  {args:List AV} {m:St} {nid:Nat} {hints:List (Nat×Bool)} {out:Out} (h:rF tab call jR d args m nid hints=some out) (ax:∀ p∈out.ob,p) {ρ:Rho} {w:World} {vs:List Value} (hv:ay ρ args=some vs) (hM:Mem ρ m w) :
  Calls P f vs.toArray w fun e w'=>∃ v,e = .returned v∧∃ ρ',Ext ρ w ρ' w'∧out.val.val ρ'=some v∧Mem ρ' (aX m (ia (out.wr++out.news))) w':=by
 obtain ⟨fn,Fi,l7,oX,RF,_⟩:=hf.ok
 unfold rF at h
 split at h
 ·rename_i hc
  have fin:∀ (k:Xk) (y:Xs),exec { tab:=tab,call:=call,N:=d.ntmps } jR d.body { st:=aW 0 args (d.ntmps-args.length)++m,nid:=nid,hints:=hints,obs:=[],dirty:=[] }=some (k,y) →
    (k.exit = .normal∨k.exit = .ret)→∀ rs,cO tab y.st d.results=some rs→out={ val:=pT rs,wr:=kD m y.st (nv y.dirty),news:=kG m y.st (nv y.dirty),ob:=y.obs } →
    Calls P f vs.toArray w fun e w'=>∃ v,e = .returned v∧∃ ρ',Ext ρ w ρ' w'∧out.val.val ρ'=some v∧Mem ρ' (aX m (ia (out.wr++out.news))) w':=by
   intro k y hx hk rs hrs af
   subst af
   refine calls_of_wp Fi l7 ?_
   have zD5:=m3 _ _ _ _ _ hx
   rw [RF]
   refine (Vw (E:={ tab:=tab,call:=call,N:=d.ntmps }) hm az cP _ _ _ _ _ hx ax ρ _ w (LH hM hc.2 hv hc.1) _ fun ρ' a' w' hE fD=>?_).1
   obtain ⟨v,qL,uX⟩:=jl az fD oX hrs
   have oe:∀ id,St.blk (aX m (ia (kD m y.st (nv y.dirty)++kG m y.st (nv y.dirty)))) id=y.st.blk id:=by
    intro id
    rw [eJ,Jn,Yw,Yx]
    have DM:∀ l,m.blk id=some l→∃ l',y.st.blk id=some l':=by
     intro l hl
     obtain ⟨b,o,us,h1,_⟩:=hM.ok.blk id l hl
     exact fD.dom id _ (hE.le id _ h1)
    by_cases hd:id∈nv y.dirty
    ·simp only [hd,if_true]
     cases h1:m.blk id with
     | none=>
      cases h2:y.st.blk id with
      | none=>rfl
      | some b=>rfl
     | some l=>
      obtain ⟨l',l6⟩:=DM l h1
      simp only [l6]
    ·simp only [hd,if_false]
     have:=zD5.2.2 id (fun hh=>hd ((Ym _ _).2 hh))
     rw [this,xE]
   have jt:Mem ρ' (aX m (ia (kD m y.st (nv y.dirty)++kG m y.st (nv y.dirty)))) w':=
    ⟨⟨fun id l hl=>fD.mem.blk id l (by rw [←oe];exact hl)⟩,fD.inj.congr oe,fun id q hq=>by rw [oe];exact fD.dom id q hq⟩
   have zD8:a'.defers=[]∧∃ u,(results fn a'.tmps).run P w' = .ok u w'∧∃ v,(Ending.returned u) = .returned v∧∃ ρ',Ext ρ w ρ' w'∧(pT rs).val ρ'=some v∧Mem ρ' (aX m (ia (kD m y.st (nv y.dirty)++kG m y.st (nv y.dirty)))) w':=
    ⟨fD.calm,v,uX,v,rfl,ρ',hE,qL,jt⟩
   rcases hk with hk|hk<;>(rw [hk];exact zD8)
  split at h
  ·cases h
  ·rename_i k y kN hx
   split at h
   ·rename_i rs hrs
    cases h
    refine fin k y hx ?_ rs hrs rfl
    cases k with
    | n=>exact .inl rfl
    | e id=>exact absurd rfl (kN id)
    | r=>exact .inr rfl
   ·cases h
  ·cases h
 ·cases h
theorem FnOk.enter{P:aaE}{f:aaz}{d:Fn1}(hf:FnOk P f d)(args:Array Value)(w:World):(callFunc f args).run P w = .ok (.enter f args) w:=by
 obtain ⟨fn,Fi,l7,_,_,zD2⟩:=hf.ok
 have h1 : fn.name ≠ "runtime.NumGoroutine" := by simpa using zD2
 simp [callFunc,Fi,h1,l7]
def jw(tab:aax→Option Ty)(T:CallT)(fns:aaz→Option Fn1)(jR:Nat):Nat→CallT
 | 0=>T
 | n+1=>fun f args m nid=>match T f args m nid with
  | some out=>some out
  | none=>match fns f with
   | some d=>rF tab (jw tab T fns jR n) jR d args m (nid*1048576) []
   | none=>none
theorem dd{P:aaE}(hm:P.follows .mixedOrders=true){tab:aax→Option Ty}(az:∀ t d,tab t=some d→TyOk P t d){T:CallT}(hT:ag P T){fns:aaz→Option Fn1}(zfJ:∀ f d,fns f=some d→FnOk P f d)(jR:Nat):
  ∀ n,ag P (jw tab T fns jR n):=by
 intro n
 induction n with
 | zero=>exact hT
 | succ n ih=>
  intro f args m nid out h ax ρ w vs hv hM df
  simp only [jw] at h
  split at h
  ·rename_i o ho;cases h;exact hT f args m nid _ ho ax ρ w vs hv hM df
  ·split at h
   ·rename_i d hd
    exact .inr ⟨(zfJ f d hd).enter _ _,fB hm az ih (zfJ f d hd) h ax hv hM⟩
   ·cases h
def kR(tab:aax→Option Ty)(T:CallT)(fns:aaz→Option Fn1)(jR:Nat)(hf:aaz→List (Nat×Bool)):Nat→CallT
 | 0=>T
 | n+1=>fun f args m nid=>match T f args m nid with
  | some out=>some out
  | none=>match fns f with
   | some d=>rF tab (kR tab T fns jR hf n) jR d args m (nid*1048576) (hf f)
   | none=>none
theorem gm{P:aaE}(hm:P.follows .mixedOrders=true){tab:aax→Option Ty}(az:∀ t d,tab t=some d→TyOk P t d){T:CallT}(hT:ag P T){fns:aaz→Option Fn1}(zfJ:∀ f d,fns f=some d→FnOk P f d)(jR:Nat)(hf:aaz→List (Nat×Bool)):
  ∀ n,ag P (kR tab T fns jR hf n):=by
 intro n
 induction n with
 | zero=>exact hT
 | succ n ih=>
  intro f args m nid out h ax ρ w vs hv hM df
  simp only [kR] at h
  split at h
  ·rename_i o ho;cases h;exact hT f args m nid _ ho ax ρ w vs hv hM df
  ·split at h
   ·rename_i d hd
    exact .inr ⟨(zfJ f d hd).enter _ _,fB hm az ih (zfJ f d hd) h ax hv hM⟩
   ·cases h
def At(N:Nat)(dL:Rho)(w0:World)(st:St)(a:Act)(w:World):Prop:=∃ ρ,Ext dL w0 ρ w∧Sim ρ N st a w
theorem At.exec{P:aaE}{E:Eng}(hm:P.follows .mixedOrders=true)(az:∀ t d,E.tab t=some d→TyOk P t d)(cP:ag P E.call){n:Nat}{c:Code}{x:Xs}{k:Xk}{y:Xs}(h:exec E n c x=some (k,y))(ax:∀ q∈y.obs,q)
  {dL:Rho} {w0:World} {a:Act} {w:World} (hA:At E.N dL w0 x.st a w) {Q:Exit→Act→World→Prop} (hQ:∀ a' w',At E.N dL w0 y.st a' w'→Q k.exit a' w'):c.wp P Q a w:=by
 obtain ⟨ρ,hE,hs⟩:=hA
 exact (Vw hm az cP n c x k y h ax ρ a w hs Q fun ρ' a' w' BO fD=>hQ a' w' ⟨ρ',hE.trans BO,fD⟩).1
def zrS:SV→List Nat
 | .one x=>jK x.its
 | .tup l=>qK l
def zDF:Ct→List Nat
 | .sl x=>zrS x
 | .bl l=>jK l
def aw(st:St)(keep:List Nat):Bool:=(fP st).all (fun id=>keep.contains id)&&st.all fun p=>(zDF p.2).all fun id=>keep.contains id
theorem SV.val_on{ρ ρ':Rho}{x:SV}{v:Value}(nH:∀ id∈zrS x,∀ q,ρ id=some q→ρ' id=some q)(h:x.val ρ=some v):x.val ρ'=some v:=by
 cases x with
 | one x=>exact AV.val_on nH h
 | tup l=>
  simp only [SV.val] at h ⊢
  split at h
  ·rename_i vs Pq;rw [Ts l vs nH Pq];exact h
  ·cases h
theorem lr{α:Type}:∀ (l:List (Nat×α)) (k:Nat) (v:α),look l k=some v→(k,v)∈l:=by
 intro l
 induction l with
 | nil=>intro k v h;cases h
 | cons p l ih=>
  intro k v h
  obtain ⟨k',v'⟩:=p
  simp only [look,beq_iff_eq] at h
  split at h
  ·rename_i e;cases h;subst e;exact List.mem_cons_self
  ·exact aaa _ (ih k v h)
theorem At.forget{N:Nat}{dL:Rho}{w0:World}{st kb:St}{a:Act}{w:World}(h:At N dL w0 st a w)(keep:List Nat)(h1:∀ k c,look kb k=some c→look st k=some c)(h2:∀ id∈keep,∃ l,kb.blk id=some l)
  (h3:aw kb keep=true) (h4:∀ id q,dL id=some q→id∈keep):At N dL w0 kb a w:=by
 obtain ⟨ρ,hE,hs⟩:=h
 simp only [aw,aaf,aaF,ab3,decide_eq_true_eq] at h3
 have on:∀ id q,ρ id=some q→id∈keep→(fun id=>if id∈keep then ρ id else none) id=some q:=fun id q hq hk=>by simp only [hk,if_true,hq]
 have sub:∀ id q,(fun id=>if id∈keep then ρ id else none) id=some q→ρ id=some q∧id∈keep:=by
  intro id q hq
  simp only at hq
  split at hq
  ·rename_i hk;exact ⟨hq,hk⟩
  ·cases hq
 refine ⟨fun id=>if id∈keep then ρ id else none,⟨fun id q hq=>on id q (hE.le id q hq) (h4 id q hq),fun id b o h0 hq=>hE.new id b o h0 (sub _ _ hq).1,hE.keep⟩,?_⟩
 constructor
 ·intro t x hx
  unfold St.slot at hx
  split at hx
  ·rename_i y hy
   cases hx
   refine SV.val_on (fun id cl q hq=>on id q hq (h3.2 _ (lr _ _ _ hy) id cl)) (hs.slots t x ?_)
   unfold St.slot
   rw [h1 _ _ hy]
  ·cases hx
 ·exact hs.size
 ·constructor
  intro id l hl
  unfold St.blk at hl
  split at hl
  ·rename_i m hm
   cases hl
   have hb:st.blk id=some l:=by unfold St.blk;rw [h1 _ _ hm]
   obtain ⟨b,o,vs,e1,e2,e3⟩:=hs.mem.blk id l hb
   have cl:id∈keep:=h3.1 id (by
    unfold fP
    rw [acG]
    refine ⟨_,lr _ _ _ hm,?_⟩
    simp only
    rw [if_pos (by omega)]
    congr 1;omega)
   exact ⟨b,o,vs,on id _ e1 cl,Ke l vs (fun j hj q hq=>on j q hq (h3.2 _ (lr _ _ _ hm) j hj)) e2,e3⟩
  ·cases hl
 ·have hb:∀ id l,St.blk kb id=some l→st.blk id=some l:=by
   intro id l hl
   unfold St.blk at hl
   split at hl
   ·rename_i m hm
    cases hl
    unfold St.blk;rw [h1 _ _ hm]
   ·cases hl
  exact ⟨fun id id' b o o' l l' ho m1 m2 l1 l2 e1 e2=>hs.inj.inj id id' b o o' l l' ho (hb _ _ m1) (hb _ _ m2) l1 l2 (sub _ _ e1).1 (sub _ _ e2).1⟩
 ·intro id q hq;exact h2 id (sub _ _ hq).2
 ·exact hs.calm
theorem dG{P:aaE}{N:Nat}{dL:Rho}{w0:World}{body:Code}{Q:Exit→Act→World→Prop}{ι:Type}(Inv:ι→Prop)(x:ι→St)(μ:ι→Nat)
  (h:∀ i,Inv i→∀ a w,At N dL w0 (x i) a w→body.wp P (Exit.then (fun a' w'=>∃ i',Inv i'∧μ i'<μ i∧At N dL w0 (x i') a' w') Q) a w) :
  ∀ i,Inv i→∀ a w,At N dL w0 (x i) a w→(Code.loop body).wp P Q a w:=by
 have key:∀ n i,μ i<n→Inv i→∀ a w,At N dL w0 (x i) a w→adu P body Q n a w:=by
  intro n
  induction n with
  | zero=>intro i hi;omega
  | succ n ih=>
   intro i hi hI a w hA
   rw [rounds_succ]
   refine wp_mono (h i hI a w hA) fun e a' w' hq=>?_
   cases e with
   | normal=>obtain ⟨i',h1,h2,h3⟩:=hq;exact ih i' (by omega) h1 a' w' h3
   | _=>exact hq
 intro i hI a w hA
 exact wp_loop_rounds (μ i+1) (key _ i (by omega) hI a w hA)
def bj(P:aaE)(f:aaz)(args:List Value)(v:Value):Prop:=∀ w,Invoked P f args.toArray w fun u w'=>u=v∧Below w.heap.size w w'
structure Row where
 f:aaz
 ans:List AV→Option (SV×List Prop)
def bE(P:aaE)(r:Row):Prop:=∀ (args:List AV) (s:SV) (ob:List Prop),r.ans args=some (s,ob)→(∀ p∈ob,p)→∀ (ρ:Rho) (vs:List Value),ay ρ args=some vs→∃ v,s.val rho0=some v∧bj P r.f vs v
def BP:List Row→aaz→List AV→Option (SV×List Prop)
 | [],_,_=>none
 | r::l,f,args=>if r.f==f then r.ans args else BP l f args
def aA(l:List Row):CallT:=fun f args _ _=>match BP l f args with
 | some (s,ob)=>some { val:=s,wr:=[],news:=[],ob:=ob }
 | none=>none
theorem J4:∀ (l:List Row) (f:aaz) (args:List AV) (s:SV) (ob:List Prop),BP l f args=some (s,ob)→∃ r∈l,r.f=f∧r.ans args=some (s,ob):=by
 intro l
 induction l with
 | nil=>intro f args s ob h;cases h
 | cons r l ih=>
  intro f args s ob h
  simp only [BP,beq_iff_eq] at h
  split at h
  ·rename_i e;exact ⟨r,by simp,e,h⟩
  ·obtain ⟨r',h1,h2⟩:=ih f args s ob h;exact ⟨r',by simp [h1],h2⟩
theorem Ext.of_below{ρ:Rho}{w w':World}(h:Below w.heap.size w w'):Ext ρ w ρ w':=
 ⟨.refl ρ,fun id b o h h'=>(by rw [h] at h';cases h'),h.os,h.tape,h.output,h.size,fun k hk _=>h.block k hk⟩
theorem Mem.of_below{ρ:Rho}{m:St}{w w':World}(hM:Mem ρ m w)(h:Below w.heap.size w w'):Mem ρ m w':=
 ⟨⟨fun id l hl=>by obtain ⟨b,o,vs,h1,h2,h3⟩:=hM.ok.blk id l hl;exact ⟨b,o,vs,h1,h2,h3.of_kept h.size (h.block b h3.1)⟩⟩,hM.inj,hM.dom⟩
theorem ap{P:aaE}{l:List Row}(h:∀ r∈l,bE P r):ag P (aA l):=by
 intro f args m nid out af ax ρ w vs hv hM df
 unfold aA at af
 split at af
 ·rename_i s ob hr
  cases af
  obtain ⟨r,hr1,rfl,hr3⟩:=J4 _ _ _ _ _ hr
  obtain ⟨v,qL,hp⟩:=h r hr1 args s ob hr3 ax ρ vs hv
  refine (hp w).mono ?_
  rintro u w' ⟨rfl,hb⟩
  exact ⟨ρ,Ext.of_below hb,SV.val_le (ky ρ) _ _ qL,hM.of_below hb⟩
 ·cases af
def jV(a b:CallT):CallT:=fun f args m nid=>match a f args m nid with
 | some out=>some out
 | none=>b f args m nid
theorem aT{P:aaE}{a b:CallT}(ha:ag P a)(hb:ag P b):ag P (jV a b):=by
 intro f args m nid out af
 unfold jV at af
 split at af
 ·rename_i o ho;cases af;exact ha f args m nid _ ho
 ·exact hb f args m nid out af
theorem wV(w:World):Mem rho0 [] w:=⟨⟨fun id l h=>by cases h⟩,⟨fun id id' b o o' l l' _ h=>by cases h⟩,fun id q h=>by cases h⟩
theorem Aq{P:aaE}(hm:P.follows .mixedOrders=true){tab:aax→Option Ty}(az:∀ t d,tab t=some d→TyOk P t d){call:CallT}(cP:ag P call){jR:Nat}{f:aaz}{d:Fn1}(hf:FnOk P f d)
  {args:List AV} {nid:Nat} {hints:List (Nat×Bool)} {out:Out} (h:rF tab call jR d args [] nid hints=some out) (ax:∀ p∈out.ob,p) {vs:List Value} (hv:ay rho0 args=some vs) {v:Value} (hval:∀ ρ u,out.val.val ρ=some u→u=v) :
  bj P f vs v:=by
 intro w
 refine .inr ⟨hf.enter _ _,(fB hm az cP hf h ax hv (wV w)).mono ?_⟩
 rintro e w' ⟨u,rfl,ρ',hE,hu,_⟩
 exact ⟨u,rfl,hval ρ' u hu,hE.below fun b ⟨id,_,_,hq⟩=>by cases hq⟩
def Xk.code:Xk→Nat
 | .n=>0
 | .e id=>id+2
 | .r=>1
def zr:Nat→Exit
 | 0=>.normal
 | 1=>.ret
 | n+2=>.exit n
theorem sV(k:Xk):zr k.code=k.exit:=by cases k<;>rfl
def probe(E:Eng)(n:Nat)(c:Code)(st:St)(nid:Nat)(hints:List (Nat×Bool))(ks:List Nat):Option (Nat×List Prop×List (Option Ct)):=
 match exec E n c { st:=st,nid:=nid,hints:=hints,obs:=[],dirty:=[] } with
 | some (k,y)=>some (k.code,y.obs,ks.map (look y.st))
 | none=>none
def bJ:Code→Code
 | .seq a _=>a
 | c=>c
def aJ:Code→Code
 | .seq _ b=>b
 | c=>c
def dh:Code→Code
 | .block _ b=>b
 | c=>c
def gw:Code→Code
 | .loop b=>b
 | c=>c
theorem gz{α:Type}{l:List (Nat×α)}{k:Nat}{v:α}(h:look l k=some v):(k,v)∈l:=lr l k v h
theorem At.probe{P:aaE}{E:Eng}(hm:P.follows .mixedOrders=true)(az:∀ t d,E.tab t=some d→TyOk P t d)(cP:ag P E.call){n:Nat}{c:Code}{st:St}{nid:Nat}{hints:List (Nat×Bool)}{cE:St}{kc:Nat}{ob:List Prop}
  (h:Eng.probe E n c st nid hints (cE.map (·.1))=some (kc,ob,cE.map fun p=>some p.2)) (ax:∀ q∈ob,q)
  {dL:Rho} {w0:World} {a:Act} {w:World} (hA:At E.N dL w0 st a w) (keep:List Nat) (h2:∀ id∈keep,∃ l,cE.blk id=some l) (h3:aw cE keep=true) (h4:∀ id q,dL id=some q→id∈keep)
  {Q:Exit→Act→World→Prop} (hQ:∀ a' w',At E.N dL w0 cE a' w'→Q (zr kc) a' w'):c.wp P Q a w:=by
 unfold Eng.probe at h
 split at h
 ·rename_i k y hx
  simp only [aag,abq] at h
  obtain ⟨h5,h6,h7⟩:=h
  subst h6
  refine At.exec (x:={ st:=st,nid:=nid,hints:=hints,obs:=[],dirty:=[] }) hm az cP hx ax hA fun a' w' bY=>?_
  rw [←sV,h5]
  refine hQ a' w' (bY.forget keep (fun j v hj=>?_) h2 h3 h4)
  have jt:=gz hj
  have:∀ (l:St),l.map (fun p=>look y.st p.1)=l.map (fun p=>some p.2)→∀ p∈l,look y.st p.1=some p.2:=by
   intro l
   induction l with
   | nil=>intro _ p hp;cases hp
   | cons q l ih=>
    intro hl p hp
    simp only [List.map_cons,aaM] at hl
    rcases aae.1 hp with rfl|hp
    ·exact hl.1
    ·exact ih hl.2 p hp
  rw [List.map_map] at h7
  exact this cE h7 _ jt
 ·cases h
theorem At.begin{ρ:Rho}{m:St}{w:World}(hM:Mem ρ m w)(RE:m.all (fun p=>p.1%2==1)=true){args:List AV}{vs:List Value}(hv:ay ρ args=some vs){N:Nat}(hN:args.length≤N):
  At N ρ w (aW 0 args (N-args.length)++m) { tmps:=vs.toArray++ac5 (N-vs.toArray.size) undef,defers:=[] } w:=
 ⟨ρ,.refl ρ w,LH hM RE hv hN⟩
def SameCt(c c':Ct):Prop:=match c,c' with
 | .sl x,.sl y=>∀ ρ v,x.val ρ=some v→y.val ρ=some v
 | .bl l,.bl m=>∀ ρ vs,conc ρ l=some vs→conc ρ m=some vs
 | _,_=>False
theorem SameCt.refl(c:Ct):SameCt c c:=by cases c with
 | sl x=>exact fun ρ v h=>h
 | bl l=>exact fun ρ vs h=>h
theorem At.same{N:Nat}{dL:Rho}{w0:World}{st kb:St}{a:Act}{w:World}(h:At N dL w0 st a w)(hs:∀ k,match look st k,look kb k with | some c,some c'=>SameCt c c' | none,none=>True | _,_=>False):At N dL w0 kb a w:=by
 obtain ⟨ρ,hE,nm⟩:=h
 have slot:∀ t y,kb.slot t=some y→∃ x,st.slot t=some x∧∀ ρ v,x.val ρ=some v→y.val ρ=some v:=by
  intro t y hy
  have:=hs (2*t)
  unfold St.slot at hy ⊢
  cases h1:look st (2*t) with
  | none=>cases h2:look kb (2*t) with
   | none=>rw [h2] at hy;cases hy
   | some c=>rw [h1,h2] at this;exact this.elim
  | some c=>cases h2:look kb (2*t) with
   | none=>rw [h2] at hy;cases hy
   | some c'=>
    rw [h1,h2] at this
    cases c' with
    | bl l=>rw [h2] at hy;cases hy
    | sl z=>
     rw [h2] at hy
     cases hy
     cases c with
     | bl l=>exact this.elim
     | sl x=>exact ⟨x,rfl,this⟩
 have blk:∀ id m,kb.blk id=some m→∃ l,st.blk id=some l∧∀ ρ vs,conc ρ l=some vs→conc ρ m=some vs:=by
  intro id m hy
  have:=hs (2*id+1)
  unfold St.blk at hy ⊢
  cases h1:look st (2*id+1) with
  | none=>cases h2:look kb (2*id+1) with
   | none=>rw [h2] at hy;cases hy
   | some c=>rw [h1,h2] at this;exact this.elim
  | some c=>cases h2:look kb (2*id+1) with
   | none=>rw [h2] at hy;cases hy
   | some c'=>
    rw [h1,h2] at this
    cases c' with
    | sl z=>rw [h2] at hy;cases hy
    | bl m'=>
     rw [h2] at hy
     cases hy
     cases c with
     | sl x=>exact this.elim
     | bl l=>exact ⟨l,rfl,this⟩
 have live:∀ id m,kb.blk id=some m→Live id m→∃ l,st.blk id=some l∧Live id l:=by
  intro id m hm kh
  obtain ⟨l,h1,h2⟩:=blk id m hm
  refine ⟨l,h1,kh.elim .inl fun q9=>.inr ?_⟩
  obtain ⟨b,o,vs,e1,e2,e3⟩:=nm.mem.blk id l h1
  rw [←c7 _ _ e2,c7 _ _ (h2 _ _ e2)]
  exact q9
 refine ⟨ρ,hE,⟨fun t y hy=>?_,nm.size,⟨fun id m hm=>?_⟩,⟨fun i i' c o o' l l' ho m1 m2 l1 l2 h1 h2=>?_⟩,fun id q hq=>?_,nm.calm⟩⟩
 ·obtain ⟨x,h1,h2⟩:=slot t y hy
  exact h2 _ _ (nm.slots t x h1)
 ·obtain ⟨l,h1,h2⟩:=blk id m hm
  obtain ⟨b,o,vs,e1,e2,e3⟩:=nm.mem.blk id l h1
  exact ⟨b,o,vs,e1,h2 _ _ e2,e3⟩
 ·obtain ⟨k0,a1,a2⟩:=live i l m1 l1
  obtain ⟨k0',a3,a4⟩:=live i' l' m2 l2
  exact nm.inj.inj i i' c o o' k0 k0' ho a1 a3 a2 a4 h1 h2
 ·obtain ⟨l,hl⟩:=nm.dom id q hq
  have:=hs (2*id+1)
  unfold St.blk at hl ⊢
  cases h1:look st (2*id+1) with
  | none=>rw [h1] at hl;cases hl
  | some c=>cases h2:look kb (2*id+1) with
   | none=>rw [h1,h2] at this;exact this.elim
   | some c'=>
    rw [h1,h2] at this
    cases c with
    | sl x=>rw [h1] at hl;cases hl
    | bl l'=>cases c' with
     | sl z=>exact this.elim
     | bl m=>exact ⟨m,rfl⟩
def mb(w:World)(b:Nat)(vs:List Value):Prop:=∃ t,w.heap[b]? = some (.cells vs.toArray t (0,0))
def Two(P:aaE)(f:aaz)(args:List Value)(b1 b2:Nat)(va vb ZV vb':List Value)(r:Value):Prop:=
 ∀ w,mb w b1 va→mb w b2 vb→Invoked P f args.toArray w fun v w'=>v=r∧mb w' b1 ZV∧mb w' b2 vb'∧Keep (fun b=>b=b1∨b=b2) w w'
def cZ(b1 b2:Nat):Rho:=fun id=>if id=16 then some (b1,0) else if id=17 then some (b2,0) else none
def Dr(A B:List It):St:=[(33,.bl A),(35,.bl B)]
theorem l5{w:World}{b:Nat}{vs:List Value}(h:mb w b vs):b<w.heap.size:=by
 obtain ⟨t,h⟩:=h
 exact (aa8.1 h).1
theorem OY(A B:List It)(id:Nat):(Dr A B).blk id=if id=16 then some A else if id=17 then some B else none:=by
 unfold St.blk Dr
 simp only [look,beq_iff_eq]
 by_cases h1:id=16
 ·subst h1;rfl
 ·by_cases h2:id=17
  ·subst h2;rfl
  ·have e1:¬33=2*id+1:=by omega
   have e2:¬35=2*id+1:=by omega
   simp only [e1,e2,h1,h2,if_false]
theorem zdR{w:World}{b1 b2:Nat}(kN:b1≠b2){va vb:List Value}(h1:mb w b1 va)(h2:mb w b2 vb){A B:List It}(hA:conc (cZ b1 b2) A=some va)(hB:conc (cZ b1 b2) B=some vb):Mem (cZ b1 b2) (Dr A B) w:=by
 refine ⟨⟨fun id l hl=>?_⟩,⟨fun id id' b o o' l l' _ _ _ _ _ e1 e2=>?_⟩,fun id q hq=>?_⟩
 ·rw [OY] at hl
  split at hl
  ·rename_i e;cases hl;subst e
   exact ⟨b1,0,va,by simp [cZ],hA,l5 h1,fun _=>⟨rfl,h1⟩,fun h=>by simp [own] at h,fun h=>by simp [app] at h⟩
  ·split at hl
   ·rename_i e;cases hl;subst e
    exact ⟨b2,0,vb,by simp [cZ],hB,l5 h2,fun _=>⟨rfl,h2⟩,fun h=>by simp [own] at h,fun h=>by simp [app] at h⟩
   ·cases hl
 ·unfold cZ at e1 e2
  split at e1
  ·rename_i a;split at e2
   ·rename_i c;rw [a,c]
   ·split at e2
    ·cases e1;cases e2;exact absurd rfl kN
    ·cases e2
  ·split at e1
   ·rename_i a;split at e2
    ·cases e1;cases e2;exact absurd rfl kN
    ·split at e2
     ·rename_i c;rw [a,c]
     ·cases e2
   ·cases e1
 ·rw [OY]
  unfold cZ at hq
  split at hq
  ·rename_i e;exact ⟨A,if_pos e⟩
  ·rename_i e
   split at hq
   ·rename_i e';exact ⟨B,by rw [if_neg e,if_pos e']⟩
   ·cases hq
theorem tZ{P:aaE}{f:aaz}{args:List Value}{b1 b2:Nat}{va vb ZV vb':List Value}{r:Value}(kN:b1≠b2){A B A' B':List It}(hA:conc (cZ b1 b2) A=some va)(hB:conc (cZ b1 b2) B=some vb)
  (bY:∀ ρ us,conc ρ A'=some us→us=ZV) (hB':∀ ρ us,conc ρ B'=some us→us=vb')
  (h:∀ w,Mem (cZ b1 b2) (Dr A B) w→Invoked P f args.toArray w fun v w'=>v=r∧∃ ρ st,Ext (cZ b1 b2) w ρ w'∧MemOk ρ (St.blk st) w'∧st.blk 16=some A'∧st.blk 17=some B'):Two P f args b1 b2 va vb ZV vb' r:=by
 intro w h1 h2
 refine (h w (zdR kN h1 h2 hA hB)).mono ?_
 rintro v w' ⟨hv,ρ,st,hE,hM,s1,s2⟩
 have get:∀ {id b:Nat} {l:List It} {us:List Value},own id=true→cZ b1 b2 id=some (b,0)→st.blk id=some l→(∀ ρ ov,conc ρ l=some ov→ov=us)→mb w' b us:=by
  intro id b l us ho hq hl hu
  obtain ⟨b',o,ov,e1,e2,_,e4,_⟩:=hM.blk id l hl
  rw [hE.le id _ hq] at e1
  cases e1
  rw [←hu _ _ e2]
  exact (e4 ho).2
 refine ⟨hv,get (id:=16) rfl (by simp [cZ]) s1 bY,get (id:=17) rfl (by simp [cZ]) s2 hB',?_⟩
 refine ⟨hE.keep.os,hE.keep.tape,hE.keep.output,hE.keep.size,fun k hk hD=>hE.keep.block k hk ?_⟩
 rintro ⟨id,_,_,hq⟩
 unfold cZ at hq
 split at hq
 ·cases hq;exact hD (.inl rfl)
 ·split at hq
  ·cases hq;exact hD (.inr rfl)
  ·cases hq
theorem Cl{P:aaE}{f:aaz}{ρ:Rho}{m:St}{w:World}(hM:Mem ρ m w){a b:Nat}(Nl:a≠b)(ha:own a=true)(hb:own b=true){A B A' B':List It}(hmA:m.blk a=some A)(hmB:m.blk b=some B)
  {args:Nat×Nat→Nat×Nat→List Value} {va vb ZV vb':List Value} {r:Value} (hA:∀ ρ us,conc ρ A=some us→us=va) (hB:∀ ρ us,conc ρ B=some us→us=vb) (bY:∀ ρ,conc ρ A'=some ZV) (hB':∀ ρ,conc ρ B'=some vb')
  (h:∀ b1 b2,b1≠b2→Two P f (args (b1,0) (b2,0)) b1 b2 va vb ZV vb' r) {vs:List Value} (Pq:∀ q1 q2,ρ a=some q1→ρ b=some q2→vs=args q1 q2) {s:SV} (hs:s.val rho0=some r) :
  Invoked P f vs.toArray w fun v w'=>∃ ρ',Ext ρ w ρ' w'∧s.val ρ'=some v∧Mem ρ' (aX m (ia ([(a,A'),(b,B')]++[]))) w':=by
 obtain ⟨b1,o1,us1,e1,c1,l1,h1,_⟩:=hM.ok.blk a A hmA
 obtain ⟨b2,o2,us2,e2,c2,l2,h2,_⟩:=hM.ok.blk b B hmB
 obtain ⟨rfl,t1,h1⟩:=h1 ha
 obtain ⟨rfl,t2,h2⟩:=h2 hb
 have kN:b1≠b2:=fun e=>Nl (hM.inj.inj a b b1 0 0 A B (.inl ha) hmA hmB (.inl ha) (.inl hb) e1 (e ▸ e2))
 rw [hA _ _ c1] at h1
 rw [hB _ _ c2] at h2
 rw [Pq _ _ e1 e2]
 refine (h b1 b2 kN w ⟨t1,h1⟩ ⟨t2,h2⟩).mono ?_
 rintro v w' ⟨rfl,⟨t1',k1⟩,⟨t2',k2⟩,hK⟩
 refine ⟨ρ,⟨.refl ρ,fun id b o h h'=>(by rw [h] at h';cases h'),hK.os,hK.tape,hK.output,hK.size,fun k hk hD=>hK.block k hk ?_⟩,SV.val_le (ky ρ) _ _ hs,⟨⟨fun id l hl=>?_⟩,⟨fun i i' c o o' l l' ho m1 m2 l1 l2 h1 h2=>?_⟩,fun id q hq=>?_⟩⟩
 ·rintro (rfl|rfl)
  ·exact hD ⟨a,0,.inl ha,e1⟩
  ·exact hD ⟨b,0,.inl hb,e2⟩
 ·rw [eJ] at hl
  simp only [aaP,fC] at hl
  by_cases eb:b=id
  ·subst eb
   simp only [if_true,aag] at hl
   subst hl
   exact ⟨b2,0,vb',e2,hB' ρ,by have:=hK.size;omega,fun _=>⟨rfl,t2',k2⟩,fun hf=>(by rw [hb] at hf;cases hf),fun hf=>(by rw [lO hb] at hf;cases hf)⟩
  ·simp only [eb,if_false] at hl
   by_cases ea:a=id
   ·subst ea
    simp only [if_true,aag] at hl
    subst hl
    exact ⟨b1,0,ZV,e1,bY ρ,by have:=hK.size;omega,fun _=>⟨rfl,t1',k1⟩,fun hf=>(by rw [ha] at hf;cases hf),fun hf=>(by rw [lO ha] at hf;cases hf)⟩
   ·simp only [ea,if_false] at hl
    obtain ⟨c,o,us,f1,f2,f3⟩:=hM.ok.blk id l hl
    by_cases kh:Live id l
    ·refine ⟨c,o,us,f1,f2,f3.of_kept hK.size (hK.block c f3.1 ?_)⟩
     rintro (rfl|rfl)
     ·exact ea (hM.inj.inj a id c 0 o A l (.inl ha) hmA hl (.inl ha) kh e1 f1)
     ·exact eb (hM.inj.inj b id c 0 o B l (.inl hb) hmB hl (.inl hb) kh e2 f1)
    ·exact ⟨c,o,us,f1,f2,lF kh f2 f3 hK.size⟩
 ·have live:∀ id k,St.blk (aX m (ia ([(a,A'),(b,B')]++[]))) id=some k→Live id k→∃ k0,m.blk id=some k0∧Live id k0:=by
   intro id k hk kh
   rw [eJ] at hk
   simp only [aaP,fC] at hk
   by_cases eb:b=id
   ·subst eb;exact ⟨B,hmB,.inl hb⟩
   ·simp only [eb,if_false] at hk
    by_cases ea:a=id
    ·subst ea;exact ⟨A,hmA,.inl ha⟩
    ·simp only [ea,if_false] at hk
     exact ⟨k,hk,kh⟩
  obtain ⟨k0,a1,a2⟩:=live i l m1 l1
  obtain ⟨k0',a3,a4⟩:=live i' l' m2 l2
  exact hM.inj.inj i i' c o o' k0 k0' ho a1 a3 a2 a4 h1 h2
 ·obtain ⟨l,hl⟩:=hM.dom id q hq
  rw [eJ]
  cases fC ([(a,A'),(b,B')]++[]) id with
  | some r=>exact ⟨r,rfl⟩
  | none=>exact ⟨l,hl⟩
theorem bX{P:aaE}{tab:aax→Option Ty}(az:∀ t d,tab t=some d→TyOk P t d){f:aaz}{d:Fn1}(hf:FnOk P f d){ρ:Rho}{m:St}{w:World}(hM:Mem ρ m w)(RE:m.all (fun p=>p.1%2==1)=true)
  {args:List AV} {vs:List Value} (hv:ay ρ args=some vs) (hN:args.length≤d.ntmps) {G:List AV→St→Prop}
  (h:∀ a,At d.ntmps ρ w (aW 0 args (d.ntmps-args.length)++m) a w→d.body.wp P (fun e a' w'=>(e = .normal∨e = .ret)∧∃ st xs,At d.ntmps ρ w st a' w'∧cO tab st d.results=some xs∧G xs st) a w) :
  Calls P f vs.toArray w fun e w'=>∃ v,e = .returned v∧∃ xs st ρ',Ext ρ w ρ' w'∧(pT xs).val ρ'=some v∧MemOk ρ' st.blk w'∧G xs st:=by
 obtain ⟨fn,Fi,l7,oX,RF,_⟩:=hf.ok
 refine calls_of_wp Fi l7 ?_
 rw [RF]
 refine wp_mono (h _ (At.begin hM RE hv hN)) ?_
 rintro e a' w' ⟨he,st,xs,⟨ρ',hE,hs⟩,hxs,hG⟩
 obtain ⟨v,qL,uX⟩:=jl az hs oX hxs
 have:a'.defers=[]∧∃ u,(results fn a'.tmps).run P w' = .ok u w'∧∃ v,(Ending.returned u) = .returned v∧∃ xs st ρ',Ext ρ w ρ' w'∧(pT xs).val ρ'=some v∧MemOk ρ' st.blk w'∧G xs st:=
  ⟨hs.calm,v,uX,v,rfl,xs,st,ρ',hE,qL,hs.mem,hG⟩
 rcases he with rfl|rfl<;>exact this
def gG:List Code→Code→Code
 | [],r=>r
 | c::l,r=>.seq c (gG l r)
def runs(E:Eng)(n:Nat):List Code→Xs→Option (Xk×Xs)
 | [],x=>some (.n,x)
 | c::l,x=>match exec E n c x with
  | some (.n,y)=>runs E n l y
  | r=>r
theorem Xv{E:Eng}{n:Nat}:∀ (l:List Code) (x:Xs) (k:Xk) (y:Xs),runs E n l x=some (k,y)→Kept x y:=by
 intro l
 induction l with
 | nil=>intro x k y h;cases h;exact .refl _
 | cons c l ih=>
  intro x k y h
  simp only [runs] at h
  split at h
  ·rename_i z hz;exact (m3 _ _ _ _ _ hz).trans (ih _ _ _ h)
  ·exact m3 _ _ _ _ _ h
theorem At.runs{P:aaE}{E:Eng}(hm:P.follows .mixedOrders=true)(az:∀ t d,E.tab t=some d→TyOk P t d)(cP:ag P E.call){n:Nat}{rest:Code}{Q:Exit→Act→World→Prop}{dL:Rho}{w0:World}:∀ (l:List Code) (x:Xs) (k:Xk) (y:Xs),Eng.runs E n l x=some (k,y)→(∀ q∈y.obs,q) →
  ∀ (a:Act) (w:World),At E.N dL w0 x.st a w→(∀ a' w',At E.N dL w0 y.st a' w'→Exit.then (rest.wp P Q) Q k.exit a' w')→(gG l rest).wp P Q a w:=by
 intro l
 induction l with
 | nil=>intro x k y h ax a w hA hQ;cases h;exact hQ a w hA
 | cons c l ih=>
  intro x k y h ax a w hA hQ
  simp only [Eng.runs] at h
  split at h
  ·rename_i z hz
   refine wp_seq (At.exec hm az cP hz (fun q hq=>ax q ((Xv _ _ _ _ h).1 q hq)) hA fun a' w' bY=>?_)
   exact ih z k y h ax a' w' bY hQ
  ·rename_i kN
   refine wp_seq (At.exec hm az cP h ax hA fun a' w' bY=>?_)
   have:=hQ a' w' bY
   cases k with
   | n=>exact (kN y h).elim
   | e id=>exact this
   | r=>exact this
def probes(E:Eng)(n:Nat)(l:List Code)(st:St)(nid:Nat)(hints:List (Nat×Bool))(ks:List Nat):Option (Nat×List Prop×List (Option Ct)):=
 match Eng.runs E n l { st:=st,nid:=nid,hints:=hints,obs:=[],dirty:=[] } with
 | some (k,y)=>some (k.code,y.obs,ks.map (look y.st))
 | none=>none
theorem At.probes{P:aaE}{E:Eng}(hm:P.follows .mixedOrders=true)(az:∀ t d,E.tab t=some d→TyOk P t d)(cP:ag P E.call){n:Nat}{l:List Code}{rest:Code}{st:St}{nid:Nat}{hints:List (Nat×Bool)}{cE:St}{kc:Nat}{ob:List Prop}
  (h:Eng.probes E n l st nid hints (cE.map (·.1))=some (kc,ob,cE.map fun p=>some p.2)) (ax:∀ q∈ob,q)
  {dL:Rho} {w0:World} {a:Act} {w:World} (hA:At E.N dL w0 st a w) (keep:List Nat) (h2:∀ id∈keep,∃ l,cE.blk id=some l) (h3:aw cE keep=true) (h4:∀ id q,dL id=some q→id∈keep)
  {Q:Exit→Act→World→Prop} (hQ:∀ a' w',At E.N dL w0 cE a' w'→Exit.then (rest.wp P Q) Q (zr kc) a' w'):(gG l rest).wp P Q a w:=by
 unfold Eng.probes at h
 split at h
 ·rename_i k y hx
  simp only [aag,abq] at h
  obtain ⟨h5,h6,h7⟩:=h
  subst h6
  refine At.runs (x:={ st:=st,nid:=nid,hints:=hints,obs:=[],dirty:=[] }) hm az cP l k y hx ax a w hA fun a' w' bY=>?_
  rw [←sV,h5]
  refine hQ a' w' (bY.forget keep (fun j v hj=>?_) h2 h3 h4)
  have jt:=gz hj
  have:∀ (l:St),l.map (fun p=>look y.st p.1)=l.map (fun p=>some p.2)→∀ p∈l,look y.st p.1=some p.2:=by
   intro l
   induction l with
   | nil=>intro _ p hp;cases hp
   | cons q l ih=>
    intro hl p hp
    simp only [List.map_cons,aaM] at hl
    rcases aae.1 hp with rfl|hp
    ·exact hl.1
    ·exact ih hl.2 p hp
  rw [List.map_map] at h7
  exact this cE h7 _ jt
 ·cases h
end Go.Eng
