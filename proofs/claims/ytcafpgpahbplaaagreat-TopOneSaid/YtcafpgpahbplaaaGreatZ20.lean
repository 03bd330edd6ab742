/-
 The proof, part 20 of 25.
-/
import Derived.Test.YtcafpgpahbplaaaGreatZ18
import Derived.RangeFuncNested
import Derived.RangeFuncBound
import Derived.RangeFuncCalls
import Derived.RangeFuncLeaves
import Derived.Recover
import Derived.WalkKit
import Derived.Test.YtcafpgpahbplaaaGreatZ19
import Derived.Test.YtcafpgpahbplaaaGreatZ12
import Derived.Test.YtcafpgpahbplaaaGreatZ10
import Derived.Laws.IdiomStrings
open Array renaming getD_eq_getD_getElem?->aaO,getElem?_toList->acj,replicate->ac5
open Bool renaming and_eq_true->aaf,false_eq_true->aaS
open Go renaming Deferred->ad4,Program->aaE
open Go.Exit renaming inBlock->acY,thenS->aeb
open Go.Fence renaming wide->abU
open Go.Oper renaming upon->adT,wp->ad6
open Go.Region renaming wanted->ab1
open List renaming all_eq_true->aaF,flatMap_cons->acy,forall_mem_cons->aab,getElem?_eq_getElem->aaC,getElem?_map->abA,length_append->aaX,length_cons->acA,map_cons->aaB,map_map->abm,mem_append_left->aau,mem_append_right->aaq,mem_cons->aae,mem_cons_of_mem->aaa,mem_cons_self->aac,mem_of_getElem?->adx,nil_append->abO,range'->aaQ,range->aan
open List.cons renaming injEq->aaM
open Nat renaming mod_eq_of_lt->aah
open Option renaming map_eq_some_iff->adi
open Option.some renaming injEq->aag
open Prod.mk renaming injEq->abq
noncomputable section
set_option linter.unusedVariables false
set_option linter.unusedSimpArgs false
namespace Go.Eng
open Go Go.RowKit
section
variable {P:aaE}{tab:TypeId→Option Ty}{call:CallT}{N:Nat}{ops:Array Oper}{cJ:List Nat}{hints:List (Nat×Bool)}{Q:Exit→Act→World→Prop}
theorem Ur(az:∀ t d,tab t=some d→TyOk P t d)(cP:ag P call){rest:List Nat}:∀ (l:List Oper) (k nid:Nat) (st:St) (aM:List qB),mz tab call N ops cJ hints nid l st=some aM→(∀ i o,l[i]? = some o→ops[k+i]? = some o) →
  (∀ q∈xN aM,q)→∀ (ρ:Rho) (a:Act) (w:World),Sim ρ N st a w→(∀ ρ' a' w',Ext ρ w ρ' w'→Sim ρ' N (aX st (qw aM)) a' w'→wpOps P ops Q rest a' w')→wpOps P ops Q (aaQ k l.length++rest) a w:=by
 intro l
 induction l with
 | nil=>intro k nid st aM h _ _ ρ a w hs hQ;cases h;exact hQ ρ a w (.refl ρ w) hs
 | cons o l ih=>
  intro k nid st aM h hi ax ρ a w hs hQ
  simp only [mz] at h
  split at h
  ·rename_i R W ob jd
   split at h
   ·rename_i r hr
    cases h
    rw [acA,List.range'_succ,List.cons_append,wpOps_cons]
    refine yj az cP (by have:=hi 0 o rfl;rwa [Nat.add_zero] at this) jd (fun q hq=>ax q (by unfold xN;rw [acy];exact aau _ hq)) hs fun ρ' a' w' hE fD=>?_
    refine ih (k+1) (nid+1) _ r hr (fun i o' ho'=>by have:=hi (i+1) o' ho';rwa [show k+1+i=k+(i+1) by omega]) (fun q hq=>ax q (by unfold xN;rw [acy];exact aaq _ hq)) ρ' a' w' fD fun qS SY uV BO JB=>?_
    refine hQ qS SY uV (hE.trans BO) ?_
    have e:qw ((R,W,ob)::r)=W++qw r:=by simp only [qw,acy]
    rw [e,kd];exact JB
   ·cases h
  ·cases h
theorem lQ{i:Nat}{o:Oper}{K:Act→World→Prop}{a:Act}{w w':World}{v:Value}(hi:ops[i]? = some o)(hg:o.guard=none)(hr:(execOp a.eval o).run P w = .ok (.value v) w')(hK:K (a.put o.dst v) w'):wpOp P ops Q i K a w:=by
 unfold wpOp
 rw [hi]
 have:ab1 o (yielded ops a.tmps)=true:=by unfold ab1;rw [hg]
 simp only [this,if_true]
 exact .inl (by unfold ad6;rw [hr];exact hK)
theorem Ws{i:Nat}{o:Oper}{K:Act→World→Prop}{a:Act}{w w':World}(hi:ops[i]? = some o)(hg:o.guard=none)(hr:(execOp a.eval o).run P w = .ok .skip w')(hK:K (a.put o.dst undef) w'):wpOp P ops Q i K a w:=by
 unfold wpOp
 rw [hi]
 have:ab1 o (yielded ops a.tmps)=true:=by unfold ab1;rw [hg]
 simp only [this,if_true]
 exact .inl (by unfold ad6;rw [hr];exact hK)
theorem PA{i:Nat}{o:Oper}{K:Act→World→Prop}{a:Act}{w w':World}{d:ad4}(hi:ops[i]? = some o)(hg:o.guard=none)(hr:(execOp a.eval o).run P w = .ok (.defer d) w')(hK:K ({ a with defers:=d::a.defers }.put o.dst undef) w'):wpOp P ops Q i K a w:=by
 unfold wpOp
 rw [hi]
 have:ab1 o (yielded ops a.tmps)=true:=by unfold ab1;rw [hg]
 simp only [this,if_true]
 exact .inl (by unfold ad6;rw [hr];exact hK)
end
theorem Sim.put_off{ρ:Rho}{N:Nat}{st:St}{a:Act}{w:World}(h:Sim ρ N st a w){t:Nat}(ht:st.slot t=none)(v:Value):Sim ρ N st (a.put (some t) v) w where
 slots u y hy:=by
  have kN:t≠u:=fun e=>by rw [e] at ht;rw [ht] at hy;cases hy
  have:=h.slots u y hy
  simp only [Act.put,aaO] at this ⊢
  rw [Array.getElem?_setIfInBounds_ne kN];exact this
 size:=by simp [Act.put,h.size]
 mem:=h.mem
 inj:=h.inj
 dom:=h.dom
 calm:=h.calm
def j8(D:List ad4)(a:Act):Act:={ a with defers:=a.defers++D }
def Nrm(G:Act→World→Prop)(e:Exit)(a:Act)(w:World):Prop:=e = .normal∧G a w
theorem oN(D:List ad4)(a:Act)(d:Option Tmp)(v:Value):(j8 D a).put d v=j8 D (a.put d v):=by cases d<;>rfl
theorem D7(D:List ad4)(a:Act):(j8 D a).eval=a.eval:=funext fun x=>by cases x<;>rfl
theorem sL{G:Act→World→Prop}(h:LetsOut (Nrm G)):False:=by
 obtain ⟨a,w,h1,_⟩:=h;cases h1
theorem GO{G:Act→World→Prop}{c:List PanicEntry}{a:Act}{w:World}(h:Nrm G (.panic c) a w):False:=by cases h.1
theorem X4{P:aaE}{ops:Array Oper}{D:List ad4}{G:Act→World→Prop}{Q:Exit→Act→World→Prop}(hG:∀ a w,G a w→Q .normal (j8 D a) w):∀ (l:List Nat) (a:Act) (w:World),wpOps P ops (Nrm G) l a w→wpOps P ops Q l (j8 D a) w:=by
 intro l
 induction l with
 | nil=>intro a w h;exact hG a w h.2
 | cons i l ih=>
  intro a w h
  rw [wpOps_cons] at h ⊢
  unfold wpOp at h ⊢
  split
  ·rename_i ho;rw [ho] at h;exact ih a w h
  ·rename_i o ho
   rw [ho] at h
   have ey:yielded ops (j8 D a).tmps=yielded ops a.tmps:=rfl
   rw [ey]
   simp only at h
   split at h
   ·rename_i hw
    rw [if_pos hw]
    rcases h with h|⟨_,h⟩
    ·left
     unfold ad6 at h ⊢
     rw [D7]
     generalize (execOp a.eval o).run P w=r at h ⊢
     cases r with
     | ok n w'=>
      cases n<;>simp only [adT] at h ⊢ <;>
       first
        | (rw [oN];exact ih _ _ h)
        | (refine Calls.mono h fun e uV he=>?_;cases e<;>first | (have h2:=ih _ _ he;rw [←oN] at h2;exact h2) | exact (GO he).elim | exact (sL he).elim)
        | (refine Rows.mono h fun v uV he=>?_;rw [oN];exact ih _ _ he)
        | (have:=ih _ _ h;rw [←oN] at this;exact this)
        | exact h.elim
     | halt x w'=>cases x<;>simp only [adT] at h ⊢ <;> first | exact (GO h).elim | exact h.elim
    ·exact (sL h).elim
   ·rename_i hw
    rw [if_neg hw,oN]
    exact ih _ _ h
def noDefer(o:Oper):Bool:=match o.op with
 | .defer _=>false
 | _=>true
theorem Re{o:Oper}(h:noDefer o=true):∀ c,o.op≠.defer c:=fun c e=>by unfold noDefer at h;rw [e] at h;cases h
theorem zvk{P:aaE}{ops:Array Oper}{zd5 n:Nat}{G:Act→World→Prop}{Q:Exit→Act→World→Prop}(hnd:∀ (i:Nat) (o:Oper),ops[i]? = some o→noDefer o=true)(hG:∀ a w,G a w→Q .normal a w):∀ (l:List Nat) (a:Act) (w:World),wpOps P ops (Nrm G) l a w→wpOpsIn (abU.inRound zd5) n P ops Q l a w:=by
 intro l
 induction l with
 | nil=>intro a w h;exact hG a w h.2
 | cons i l ih=>
  intro a w h
  rw [wpOps_cons] at h
  unfold wpOp at h
  unfold wpOpsIn
  split
  ·rename_i ho;rw [ho] at h;exact ih a w h
  ·rename_i o ho
   rw [ho] at h
   simp only at h
   split at h
   ·rename_i hw
    rw [if_pos hw]
    rcases h with h|⟨_,h⟩
    ·refine ⟨fun _ _=>trivial,?_⟩
     rw [Oper.semAt_eq _ _ _ (Re (hnd i o ho))]
     unfold ad6 at h
     generalize (execOp a.eval o).run P w=r at h ⊢
     have dn:(abU.inRound zd5).depth.isSome=true→1≤n:=fun h=>by cases h
     cases r with
     | ok m w'=>
      cases m<;>simp only [adT] at h<;>simp only [Oper.uponIn] <;>
       first
        | exact ih _ _ h
        | (refine ⟨dn,CallsIn.inRound zd5 (callsIn_wide.2 (Calls.mono h fun e uV he=>?_))⟩;cases e<;>first | exact ih _ _ he | exact (GO he).elim | exact (sL he).elim)
        | exact ⟨dn,fun c cs _=>let ⟨v,uV,r,s⟩:=h c cs;⟨v,uV,ih _ _ r,stepsIn_wide.2 s⟩⟩
        | exact h.elim
     | halt x w'=>cases x<;>simp only [adT] at h<;>first | exact (GO h).elim | exact h.elim
    ·exact (sL h).elim
   ·rename_i hw
    rw [if_neg hw]
    exact ⟨fun _ _=>trivial,ih _ _ h⟩
def cq:Code→Array Oper
 | .region _ ops _=>ops
 | _=>#[]
def xg:Code→Nat
 | .region id _ _=>id
 | _=>0
def oQ(c:Code)(i:Nat):Option (Op×Option Tmp×Option (Tmp×Bool)):=((cq c)[i]?).map fun o=>(o.op,o.dst,o.guard)
theorem fH{c:Code}{i:Nat}{p:Op}{d:Option Tmp}{g:Option (Tmp×Bool)}(h:oQ c i=some (p,d,g)):∃ o,(cq c)[i]? = some o∧o.op=p∧o.dst=d∧o.guard=g:=by
 unfold oQ at h
 rw [adi] at h
 obtain ⟨o,h1,h2⟩:=h
 simp only [abq] at h2
 exact ⟨o,h1,h2.1,h2.2.1,h2.2.2⟩
structure Lg(P:aaE) where
 wp:Code→(Exit→Act→World→Prop)→Act→World→Prop
 skip:∀ {Q:Exit→Act→World→Prop} {a:Act} {w:World},Q .normal a w→wp .skip Q a w
 label:∀ {i:Nat} {Q:Exit→Act→World→Prop} {a:Act} {w:World},Q .normal a w→wp (.label i) Q a w
 exit:∀ {i:Nat} {Q:Exit→Act→World→Prop} {a:Act} {w:World},Q (.exit i) a w→wp (.exit i) Q a w
 ret:∀ {Q:Exit→Act→World→Prop} {a:Act} {w:World},Q .ret a w→wp .ret Q a w
 region:∀ {id:Nat} {ops:Array Oper} {G:Act→World→Prop} {Q:Exit→Act→World→Prop} {a:Act} {w:World},(∀ (i:Nat) (o:Oper),ops[i]? = some o→noDefer o=true)→wpOps P ops (Nrm G) (aan ops.size) a w→(∀ a w,G a w→Q .normal a w)→wp (.region id ops false) Q a w
 seq:∀ {x y:Code} {Q:Exit→Act→World→Prop} {a:Act} {w:World},wp x (Exit.then (wp y Q) Q) a w→wp (.seq x y) Q a w
 cond:∀ {c:Operand} {x y:Code} {t:Bool} {Q:Exit→Act→World→Prop} {a:Act} {w:World},a.eval c = .bool t→wp (if t then x else y) Q a w→wp (.cond c x y) Q a w
 block:∀ {id:Nat} {c:Code} {Q:Exit→Act→World→Prop} {a:Act} {w:World},wp c (acY id Q) a w→wp (.block id c) Q a w
def lgD(P:aaE)(D:List ad4):Lg P where
 wp c Q a w:=c.wp P (fun e a' w'=>∃ b,a'=j8 D b∧Q e b w') (j8 D a) w
 skip h:=wp_skip ⟨_,rfl,h⟩
 label h:=wp_label ⟨_,rfl,h⟩
 exit h:=wp_exit ⟨_,rfl,h⟩
 ret h:=wp_ret ⟨_,rfl,h⟩
 region _ h hG:=wp_region (X4 (fun a w hg=>⟨a,rfl,hG a w hg⟩) _ _ _ h)
 seq h:=wp_seq (wp_mono h fun e a' w' he=>by
  cases e with
  | normal=>obtain ⟨b,rfl,hb⟩:=he;exact hb
  | _=>exact he)
 cond hc h:=wp_cond (by rw [D7];exact hc) (by split<;>rename_i ht<;>simp only [ht,if_true,if_false,aaS] at h<;>exact h)
 block {id c Q a w} h:=wp_block (wp_mono h fun e a' w' he=>by
  cases e with
  | exit i=>
   obtain ⟨b,rfl,hb⟩:=he
   simp only [acY] at hb ⊢
   split<;>rename_i hi<;>simp only [hi,if_true,if_false] at hb<;>exact ⟨b,rfl,hb⟩
  | _=>exact he)
def lgR(P:aaE)(zd5 n:Nat):Lg P where
 wp c Q a w:=c.wpIn (abU.inRound zd5) n P Q a w
 skip h:=wpIn_skip h
 label h:=wpIn_label h
 exit h:=wpIn_exit h
 ret h:=wpIn_ret h
 region hn h hG:=wpIn_region (zvk hn hG _ _ _ h)
 seq h:=wpIn_seq h
 cond hc h:=wpIn_cond hc h
 block h:=wpIn_block h
def GL:Code→Bool
 | .skip=>true
 | .label _=>true
 | .region _ ops draw=>!draw&&ops.toList.all noDefer
 | .seq p q=>GL p&&GL q
 | .cond _ p q=>GL p&&GL q
 | .block _ p=>GL p
 | .exit _=>true
 | .ret=>true
 | _=>false
section
variable {P:aaE}{E:Eng}
theorem QU(az:∀ t d,E.tab t=some d→TyOk P t d)(cP:ag P E.call){ops:Array Oper}{x y:Xs}(h:li E ops false x=some y)(ax:∀ q∈y.obs,q){ρ:Rho}{a:Act}{w:World}(hs:Sim ρ E.N x.st a w)
  {Q:Exit→Act→World→Prop} (hQ:∀ ρ' a' w',Ext ρ w ρ' w'→Sim ρ' E.N y.st a' w'→Q .normal a' w'):wpOps P ops Q (aan ops.size) a w:=by
 unfold li at h
 split at h
 ·rename_i aM hi
  simp only [Bool.false_and] at h
  cases h
  have:=Ur (Q:=Q) (rest:=[]) az cP ops.toList 0 _ _ aM hi (fun i o ho=>by rw [Nat.zero_add,←acj];exact ho) (fun q hq=>ax q (aaq _ hq)) ρ a w hs (fun ρ' a' w' hE fD=>hQ ρ' a' w' hE fD)
  rw [List.append_nil,Array.length_toList,←List.range_eq_range'] at this
  exact this
 ·cases h
theorem Vx(L:Lg P)(az:∀ t d,E.tab t=some d→TyOk P t d)(cP:ag P E.call):∀ (n:Nat) (c:Code) (x:Xs) (k:Xk) (y:Xs),exec E n c x=some (k,y)→GL c=true→(∀ q∈y.obs,q) →
  ∀ (ρ:Rho) (a:Act) (w:World),Sim ρ E.N x.st a w→∀ (Q:Exit→Act→World→Prop),(∀ ρ' a' w',Ext ρ w ρ' w'→Sim ρ' E.N y.st a' w'→Q k.exit a' w')→L.wp c Q a w:=by
 intro n
 induction n with
 | zero=>intro c x k y h;cases h
 | succ n ih=>
  intro c x k y h od ax ρ a w hs Q hQ
  cases c<;>simp only [exec] at h<;>try (cases h;done)
  case skip=>cases h;exact L.skip (hQ ρ a w (.refl ρ w) hs)
  case label=>cases h;exact L.label (hQ ρ a w (.refl ρ w) hs)
  case exit=>cases h;exact L.exit (hQ ρ a w (.refl ρ w) hs)
  case ret=>cases h;exact L.ret (hQ ρ a w (.refl ρ w) hs)
  case region id ops draw=>
   split at h
   ·rename_i z hz
    cases h
    simp only [GL,aaf,Bool.not_eq_true',aaF] at od
    obtain ⟨rfl,hnd⟩:=od
    refine L.region (G:=fun a' w'=>∃ ρ',Ext ρ w ρ' w'∧Sim ρ' E.N y.st a' w') (fun i o ho=>hnd o ?_) (QU az cP hz ax hs fun ρ' a' w' hE fD=>⟨rfl,ρ',hE,fD⟩) fun a' w' ⟨ρ',hE,fD⟩=>hQ ρ' a' w' hE fD
    rw [←acj] at ho
    exact adx ho
   ·cases h
  case seq p q=>
   simp only [GL,aaf] at od
   refine L.seq ?_
   cases hp:exec E n p x with
   | none=>rw [hp] at h;cases h
   | some r=>
    obtain ⟨k',z⟩:=r
    rw [hp] at h
    cases k' with
    | n=>
     have hk:=m3 _ _ _ _ _ h
     refine ih _ _ _ _ hp od.1 (fun q hq=>ax q (hk.1 q hq)) ρ a w hs _ fun ρ' a' w' hE fD=>?_
     exact ih _ _ _ _ h od.2 ax ρ' a' w' fD Q fun qS SY uV BO JB=>hQ qS SY uV (hE.trans BO) JB
    | e id=>cases h;refine ih _ _ _ _ hp od.1 ax ρ a w hs _ fun ρ' a' w' hE fD=>?_;exact hQ ρ' a' w' hE fD
    | r=>cases h;refine ih _ _ _ _ hp od.1 ax ρ a w hs _ fun ρ' a' w' hE fD=>?_;exact hQ ρ' a' w' hE fD
  case cond c p q=>
   simp only [GL,aaf] at od
   split at h
   ·rename_i hc;exact L.cond (t:=true) (lB hs hc) (ih _ _ _ _ h od.1 ax ρ a w hs Q hQ)
   ·rename_i hc;exact L.cond (t:=false) (lB hs hc) (ih _ _ _ _ h od.2 ax ρ a w hs Q hQ)
   ·cases h
  case block id p=>
   simp only [GL] at od
   refine L.block ?_
   cases hp:exec E n p x with
   | none=>rw [hp] at h;cases h
   | some r=>
    obtain ⟨k',z⟩:=r
    rw [hp] at h
    cases k' with
    | n=>cases h;refine ih _ _ _ _ hp od ax ρ a w hs _ fun ρ' a' w' hE fD=>?_;exact hQ ρ' a' w' hE fD
    | e id'=>
     simp only at h
     split at h
     ·rename_i e
      cases h
      refine ih _ _ _ _ hp od ax ρ a w hs _ fun ρ' a' w' hE fD=>?_
      simp only [Xk.exit,acY,e,if_true]
      exact hQ ρ' a' w' hE fD
     ·rename_i e
      cases h
      refine ih _ _ _ _ hp od ax ρ a w hs _ fun ρ' a' w' hE fD=>?_
      simp only [Xk.exit,acY,e,if_false]
      exact hQ ρ' a' w' hE fD
    | r=>cases h;refine ih _ _ _ _ hp od ax ρ a w hs _ fun ρ' a' w' hE fD=>?_;exact hQ ρ' a' w' hE fD
  all_goals (simp only [GL] at od;cases od)
theorem At.probeL(L:Lg P)(az:∀ t d,E.tab t=some d→TyOk P t d)(cP:ag P E.call){n:Nat}{c:Code}{st:St}{nid:Nat}{hints:List (Nat×Bool)}{cE:St}{kc:Nat}{ob:List Prop}
  (h:Eng.probe E n c st nid hints (cE.map (·.1))=some (kc,ob,cE.map fun p=>some p.2)) (od:GL c=true) (ax:∀ q∈ob,q)
  {dL:Rho} {w0:World} {a:Act} {w:World} (hA:At E.N dL w0 st a w) (keep:List Nat) (h2:∀ id∈keep,∃ l,cE.blk id=some l) (h3:aw cE keep=true) (h4:∀ id q,dL id=some q→id∈keep)
  {Q:Exit→Act→World→Prop} (hQ:∀ a' w',At E.N dL w0 cE a' w'→Q (zr kc) a' w'):L.wp c Q a w:=by
 unfold Eng.probe at h
 split at h
 ·rename_i k y hx
  simp only [aag,abq] at h
  obtain ⟨h5,h6,h7⟩:=h
  subst h6
  obtain ⟨ρ,hE,hs⟩:=hA
  refine Vx L az cP n c _ k y hx od ax ρ a w hs Q fun ρ' a' w' BO fD=>?_
  rw [←sV,h5]
  have bY:At E.N dL w0 y.st a' w':=⟨ρ',hE.trans BO,fD⟩
  refine hQ a' w' (bY.forget keep (fun j v hj=>?_) h2 h3 h4)
  have jt:=gz hj
  have:∀ (l:St),l.map (fun p=>look y.st p.1)=l.map (fun p=>some p.2)→∀ p∈l,look y.st p.1=some p.2:=by
   intro l
   induction l with
   | nil=>intro _ p hp;cases hp
   | cons q l ih=>
    intro hl p hp
    simp only [aaB,aaM] at hl
    rcases aae.1 hp with rfl|hp
    ·exact hl.1
    ·exact ih hl.2 p hp
  rw [abm] at h7
  exact this cE h7 _ jt
 ·cases h
end
end Go.Eng
namespace Go.Proofs.YtcafpgpahbplaaaGreat
open Go Go.Eng Go.RowKit Go.Wd Go.Alg Go.Pr
namespace Sh
theorem Ev(w:World):Calls Tryz.prog 39 #[.nilIface] w fun e w'=>e = .returned (.int .i64 0)∧w'=w:=by
 go_enter Tryz.func39,Tryz.ntmps39
 go_wp2
 go_ret
 exact ⟨rfl,rfl⟩
theorem Rq(p q:Addr)(w:World):CallsD Tryz.prog 38 #[.pointer (some p),.pointer (some q)] .returning w fun e u' w'=>e = .returned (.tuple #[])∧u' = .returning∧w'=w:=by
 refine callsD_of_wpS Tryz.func38 rfl fun zye cs hu=>?_
 apply wpS_seq
 apply wpS_region
 simp [wpOpsS,go_sem,recoverD,hu,Tryz.ntmps38,aeb]
 refine (Ev w).mono ?_
 rintro e w' ⟨rfl,rfl⟩
 apply wpS_seq
 apply wpS_region
 simp [wpOpsS,go_sem,aeb]
 refine wpS_cond (t:=false) (by simp [Act.eval,ac5]) ?_
 simp only [aaS,if_false]
 refine wpS_of_wp (wp_skip ?_)
 cases zye
 simp_all [bodyPostS,results,Tryz.results38]
theorem Rp(p q:Addr)(w:World):CallsD Tryz.prog 85 #[.pointer (some p),.pointer (some q)] .returning w fun e u' w'=>e = .returned (.tuple #[])∧u' = .returning∧w'=w:=by
 refine callsD_of_wpS Tryz.func85 rfl fun zye cs hu=>?_
 apply wpS_seq
 apply wpS_region
 simp [wpOpsS,go_sem,recoverD,hu,Tryz.ntmps85,aeb]
 refine (Ev w).mono ?_
 rintro e w' ⟨rfl,rfl⟩
 apply wpS_seq
 apply wpS_region
 simp [wpOpsS,go_sem,aeb]
 refine wpS_cond (t:=false) (by simp [Act.eval,ac5]) ?_
 simp only [aaS,if_false]
 refine wpS_of_wp (wp_skip ?_)
 cases zye
 simp_all [bodyPostS,results,Tryz.results85]
def S7(w:World)(N:Nat)(g:Nat→Int)(u:Value)(w':World):Prop:=∃ b o,w.heap.size≤b∧u = .tuple #[.slice (some ⟨b,o,none⟩) N N,.int .i64 0]∧Stands w' b o (gvals .u8 N g)∧Below w.heap.size w w'
def AQ(P:P1):Nat→Int:=fun i=>(qM (gJ (bO P)) (qP (gJ (bO P)).1.2)).getD i 0
def j2(P:P2):Nat→Int:=fun i=>(rZ (cS (ιP2 P)) (jx (cS (ιP2 P)).1.2)).getD i 0
theorem nU(g:Nat→Int):∀ k j,(bn g j k).length=k:=by
 intro k
 induction k with
 | zero=>intro j;rfl
 | succ k ih=>intro j;show (bn g (j+1) k).length+1=_;rw [ih]
theorem zel(Q:P1)(big:Bool):(qM Q big).length=96:=by
 unfold qM
 simp only [acA,aaX,nU]
theorem zek(Q:P2)(big:Bool):(rZ Q big).length=192:=by
 unfold rZ
 simp only [acA,aaX,nU]
theorem Qb{w:World}{b o k:Nat}{l:List Int}(hk:k≤l.length)(h:Stands w b o (l.map (Value.int .u8))):Stands w b o (gvals .u8 k fun i=>l.getD i 0):=by
 refine ⟨h.1,fun i v hv=>h.2 i v ?_⟩
 unfold gvals at hv
 rw [abA] at hv ⊢
 by_cases hi:i<k
 ·rw [List.getElem?_range hi] at hv
  rw [aaC (by omega)]
  simp only [Option.map_some,aag] at hv ⊢
  rw [←hv,List.getD_eq_getElem?_getD,aaC (by omega),Option.getD_some]
 ·rw [List.getElem?_eq_none (by simp;omega)] at hv;cases hv
theorem UH{w w':World}{k:Nat}{l:List Int}{u:Value}(hk:k≤l.length)(h:xS w k l u w'):S7 w k (fun i=>l.getD i 0) u w':=by
 obtain ⟨g,h1,h2,h3,h4⟩:=h
 exact ⟨g,0,h1,h2,Qb hk h3,h4⟩
theorem zgE{P:P1}(hP:eV P=true)(w:World):Invoked Tryz.prog 42 #[i_ P,.bool true] w (S7 w 48 (AQ P)):=
 (FH P hP w).mono fun _ _ h=>UH (by rw [zel];omega) h
theorem zgC{P:P2}(hP:dW P=true)(w:World):Invoked Tryz.prog 86 #[i_ P,.bool true] w (S7 w 96 (j2 P)):=
 (FG P hP w).mono fun _ _ h=>UH (by rw [zek];omega) h
theorem zfd{ρ:Rho}{m:Nat→Option (List It)}(h:Inj ρ m){id b zK6:Nat}{l:List It}(hb:∀ j c o,ρ j=some (c,o)→c<b):Inj (ρ.setq id (b,zK6)) (fun j=>if id=j then some l else m j):=⟨fun j j' c o o' k k' ho m1 m2 l1 l2 h1 h2=>by
 unfold Rho.setq at h1 h2
 by_cases e1:j=id
 ·by_cases e2:j'=id
  ·rw [e1,e2]
  ·rw [if_pos e1] at h1;rw [if_neg e2] at h2;cases h1
   exact absurd (hb _ _ _ h2) (by omega)
 ·by_cases e2:j'=id
  ·rw [if_neg e1] at h1;rw [if_pos e2] at h2;cases h2
   exact absurd (hb _ _ _ h1) (by omega)
  ·rw [if_neg e1] at h1;rw [if_neg e2] at h2
   simp only [if_neg (fun e=>e1 (Eq.symm e):¬id=j)] at m1
   simp only [if_neg (fun e=>e2 (Eq.symm e):¬id=j')] at m2
   exact h.inj j j' c o o' k k' ho m1 m2 l1 l2 h1 h2⟩
theorem Dq{ρ:Rho}{m:St}{w w':World}(hM:Mem ρ m w)(hb:Below w.heap.size w w'){nid g go:Nat}(hn:m.blk nid=none)(ho:own nid=false)(ha:app nid=false)(hg:w.heap.size≤g){l:List It}{vs:List Value}(hl:∀ ρ,conc ρ l=some vs)(hH:Stands w' g go vs):
  Ext ρ w (ρ.setq nid (g,go)) w'∧Mem (ρ.setq nid (g,go)) (aX m (ia ([]++[(nid,l)]))) w':=by
 have YI:ρ nid=none:=by
  cases h:ρ nid with
  | none=>rfl
  | some q=>obtain ⟨l',l6⟩:=hM.dom nid q h;rw [hn] at l6;cases l6
 have hlt:∀ j c o,ρ j=some (c,o)→c<w.heap.size:=fun j c o h=>by
  obtain ⟨l',l6⟩:=hM.dom j _ h
  obtain ⟨b,o',vs',e1,e2,e3⟩:=hM.ok.blk j l' l6
  rw [h] at e1;cases e1
  exact e3.1
 have oe:∀ id,St.blk (aX m (ia ([]++[(nid,l)]))) id=if nid=id then some l else m.blk id:=fun id=>by
  rw [eJ,zd]
  by_cases e:nid=id
  ·simp [e]
  ·simp [e]
 refine ⟨⟨Rho.le_setq YI,fun id b o h h'=>?_,hb.os,hb.tape,hb.output,hb.size,fun k hk _=>hb.block k hk⟩,⟨⟨fun id l' l6=>?_⟩,?_,fun id q hq=>?_⟩⟩
 ·unfold Rho.setq at h'
  by_cases e:id=nid
  ·rw [if_pos e] at h';cases h';exact .inl hg
  ·rw [if_neg e,h] at h';cases h'
 ·rw [oe] at l6
  by_cases e:nid=id
  ·subst e
   rw [if_pos rfl] at l6;cases l6
   exact ⟨g,go,vs,by simp [Rho.setq],hl _,hH.1,fun hf=>(by rw [ho] at hf;cases hf),fun _ _=>hH.2,fun hf=>(by rw [ha] at hf;cases hf)⟩
  ·rw [if_neg e] at l6
   obtain ⟨b,o,us,h1,h2,h3⟩:=hM.ok.blk id l' l6
   exact ⟨b,o,us,Rho.le_setq YI _ _ h1,eR (Rho.le_setq YI) _ _ h2,h3.of_kept hb.size (hb.block b h3.1)⟩
 ·exact (zfd (id:=nid) (l:=l) hM.inj fun j c o hq=>Nat.lt_of_lt_of_le (hlt j c o hq) hg).congr oe
 ·rw [oe]
  by_cases e:nid=id
  ·exact ⟨l,if_pos e⟩
  ·unfold Rho.setq at hq
   rw [if_neg fun h=>e h.symm] at hq
   obtain ⟨l',l6⟩:=hM.dom id q hq
   exact ⟨l',by rw [if_neg e];exact l6⟩
theorem wu{ρ:Rho}{m:St}{w w':World}(hM:Mem ρ m w){nid N:Nat}(hn:m.blk (gC nid)=none){g:Nat→Int}{u:Value}(h:S7 w N g u w'):
  ∃ ρ',Ext ρ w ρ' w'∧SV.val ρ' (.tup [bT (.s (gC nid) 0 N N),bT (.v (.int .i64 0))])=some u∧Mem ρ' (aX m (ia ([]++[(gC nid,gM N g)]))) w':=by
 obtain ⟨b,o,h1,rfl,hS,hB⟩:=h
 obtain ⟨hE,Bh⟩:=Dq hM hB hn (nt nid) (kO nid) h1 (l:=gM N g) (fun ρ=>aD) hS
 refine ⟨_,hE,?_,Bh⟩
 have e1:AV.val (ρ.setq (gC nid) (b,o)) (bT (.s (gC nid) 0 N N))=some (.slice (some ⟨b,o,none⟩) N N):=by
  have e:=bu (ρ:=ρ.setq (gC nid) (b,o)) (id:=gC nid) (q:=(b,o)) (by rw [Rho.at_not (kO nid)];simp [Rho.setq]) 0 N N
  simpa [iG,SV.val,bT] using e
 exact jh e1 (AV.val_v (ρ:=ρ.setq (gC nid) (b,o)) (x:=.int .i64 0) rfl)
def zgz(g:Nat→Int):CallT:=fun f args _ nid=>match f==42 with
 | true=>match args with
  | [x,⟨false,[.v (.bool true)]⟩]=>match (dV A1).rd x with
   | some P=>some { val:=.tup [bT (.s (gC nid) 0 48 48),bT (.v (.int .i64 0))],wr:=[],news:=[(gC nid,gM 48 g)],ob:=[eV P=true,AQ P=g] }
   | none=>none
  | _=>none
 | false=>none
theorem zgy(g:Nat→Int):ag Tryz.prog (zgz g):=by
 intro f args m nid out af ax ρ w vs hv hM df
 unfold zgz at af
 split at af
 ·rename_i hf
  rw [beq_iff_eq] at hf
  subst hf
  split at af
  ·rename_i x
   split at af
   ·rename_i P hP
    cases af
    obtain ⟨v1,us,h1,h2,rfl⟩:=aj hv
    obtain ⟨v2,ov,h3,h4,rfl⟩:=aj h2
    cases h4
    have e1:=(dV A1).ok hP h1
    subst e1
    rw [show AV.val ρ ⟨false,[.v (.bool true)]⟩=some (.bool true) from AV.val_v (ρ:=ρ) (x:=.bool true) rfl] at h3
    cases h3
    have o1:eV P=true:=ax _ aac
    have o2:AQ P=g:=ax _ (aaa _ aac)
    subst o2
    exact (zgE o1 w).mono fun u w' hu=>wu hM (df _ aac) hu
   ·cases af
  ·cases af
 ·cases af
def zgx(g:Nat→Int):CallT:=fun f args _ nid=>match f==86 with
 | true=>match args with
  | [x,⟨false,[.v (.bool true)]⟩]=>match (dV A2).rd x with
   | some P=>some { val:=.tup [bT (.s (gC nid) 0 96 96),bT (.v (.int .i64 0))],wr:=[],news:=[(gC nid,gM 96 g)],ob:=[dW P=true,j2 P=g] }
   | none=>none
  | _=>none
 | false=>none
theorem Oe(g:Nat→Int):ag Tryz.prog (zgx g):=by
 intro f args m nid out af ax ρ w vs hv hM df
 unfold zgx at af
 split at af
 ·rename_i hf
  rw [beq_iff_eq] at hf
  subst hf
  split at af
  ·rename_i x
   split at af
   ·rename_i P hP
    cases af
    obtain ⟨v1,us,h1,h2,rfl⟩:=aj hv
    obtain ⟨v2,ov,h3,h4,rfl⟩:=aj h2
    cases h4
    have e1:=(dV A2).ok hP h1
    subst e1
    rw [show AV.val ρ ⟨false,[.v (.bool true)]⟩=some (.bool true) from AV.val_v (ρ:=ρ) (x:=.bool true) rfl] at h3
    cases h3
    have o1:dW P=true:=ax _ aac
    have o2:j2 P=g:=ax _ (aaa _ aac)
    subst o2
    exact (zgC o1 w).mono fun u w' hu=>wu hM (df _ aac) hu
   ·cases af
  ·cases af
 ·cases af
def frT:CallT:=Ue (tI kd4 tj) 91 (fun _ b=>frG b) (fun n b=>n=32∧bOk 32 b)
theorem R3:ag Tryz.prog frT:=L9 fun w v n b hk hb=>by
 obtain ⟨hn,hk⟩:=hk
 subst hn
 rcases hb with ⟨_,h0⟩|⟨b',o,c,rfl,hs⟩
 ·omega
 ·exact .inr ⟨(aB _ (match fJ 91 with | some d=>d | none=>⟨.skip,[],0⟩) (by kernel_rfl)).enter _ _,(znu hk hs).mono fun e w' ⟨he,h⟩=>⟨_,he,rfl,h⟩⟩
def TSk(k:Nat)(P:P1)(g:Nat→Int):CallT:=fz (fz (jV frT (jV TS1 (zgz g))) 91 ((tI kd4 tj).sv (k,0))) 40 (uj.sv (P,0))
def dSk:Fn1:=match fJ 16 with
 | some d=>d
 | none=>⟨.skip,[],0⟩
theorem zgf:fJ 16=some dSk:=by kernel_rfl
def Nc(f:FuncId):List (Nat×Bool):=match f==41 with
 | true=>[(11,false),(15,false)]
 | false=>[]
def ESk(k:Nat)(P:P1)(g:Nat→Int):Eng:={ tab:=bh,call:=kR bh (TSk k P g) fJ 1000 Nc 6,N:=18 }
def zFG:Code:=bJ dSk.body
def SJ:Code:=bJ (aJ dSk.body)
def zyo:Code:=aJ (aJ dSk.body)
def zLY(c:Nat)(f:Nat→Int):St:=aW 0 [gn false 1 32 c] (18-1)++cj [(1,gM 32 f)]
def Ll(c:Nat)(f:Nat→Int):St:=[(0,.sl (.one (gn false 1 32 c))),(4,.sl (.one (bT (.p 16 0)))),(6,.sl (.one (bT (.p 17 0)))),(3,.bl (gM 32 f)),(33,.bl [.v (.slice none 0 0)]),(35,.bl [.v (.int .i64 0)])]
def RA:Nat:=gC 31
def Cw(f g:Nat→Int):St:=[(4,.sl (.one (bT (.p 16 0)))),(6,.sl (.one (bT (.p 17 0)))),(3,.bl (gM 32 f)),(33,.bl [.s RA 0 48 48]),(35,.bl [.v (.int .i64 0)]),(2*RA+1,.bl (gM 48 g))]
theorem zkt:dSk.body = .seq zFG (.seq SJ zyo):=by kernel_rfl
theorem zks(k c:Nat)(P:P1)(f g:Nat→Int):Eng.probe (ESk k P g) 100 zFG (zLY c f) 16 [] ((Ll c f).map (·.1))=some (0,[],(Ll c f).map fun p=>some p.2):=by kernel_rfl
def zvy(k px py:Nat)(i:Bool)(f g:Nat→Int):List Prop:=[∀ ρ,SV.val ρ ((tI kd4 tj).sv (frG fun i=>f (0+i)))=SV.val ρ ((tI kd4 tj).sv (k,0)),32=32∧bOk 32 (fun i=>f (0+i)),0+32*1≤32,(0:Int)≠0↔false=true,aV [.w 4 k]=aV [.w 4 0]↔false=true,
 ∀ ρ,SV.val ρ (uj.sv (lZ dj (k%pw 4)))=SV.val ρ (uj.sv ((((px,py),i):P1),0)),4<4294967296,eV (((px,py),i):P1)=true,AQ (((px,py),i):P1)=g]
theorem zkr(k px py:Nat)(i:Bool)(c:Nat)(f g:Nat→Int):Eng.probe (ESk k (((px,py),i):P1) g) 100 zyo (Ll c f) 20 [] ((Cw f g).map (·.1))=some (1,zvy k px py i f g,(Cw f g).map fun p=>some p.2):=by kernel_rfl
theorem zt7:GL zyo=true:=by kernel_rfl
def zrc:List ResultVar:=[.cell 2 22,.cell 3 30]
theorem zt2:dSk.results=zrc:=by kernel_rfl
theorem zt4(f g:Nat→Int):cO bh (Cw f g) zrc=some [bT (.s RA 0 48 48),pp 0]:=by kernel_rfl
theorem zt3:SJ = .region (xg SJ) (cq SJ) false:=by kernel_rfl
theorem zt6:oQ SJ 0=some (.makeFunc (.func 38) #[] #[.tmp 2,.tmp 3],some 6,none):=by kernel_rfl
theorem zt5:oQ SJ 1=some (.defer { callee:=.value (.tmp 6),args:=#[],argTypes:=#[] },none,none):=by kernel_rfl
theorem zkq:(cq SJ).size=2:=by kernel_rfl
theorem Hh{P:aaE}{c:Code}{f:FuncId}{t2 t3 t6:Nat}(zfv:c = .region (xg c) (cq c) false)(h0:oQ c 0=some (.makeFunc (.func f) #[] #[.tmp t2,.tmp t3],some t6,none))(h1:oQ c 1=some (.defer { callee:=.value (.tmp t6),args:=#[],argTypes:=#[] },none,none))
  (q9:(cq c).size=2) {dL:Rho} {w0:World} {N:Nat} {st:St} {a:Act} {w:World} (hA:At N dL w0 st a w) (h6:st.slot t6=none) (hN:t6<N) {i2 i3:Nat} (e2:st.slot t2=some (.one (bT (.p i2 0)))) (e3:st.slot t3=some (.one (bT (.p i3 0)))) {Q:Exit→Act→World→Prop}
  (hQ:∀ p q a',At N dL w0 st a' w→Q .normal (j8 [{ target:=.fn (.func f) #[.pointer (some p),.pointer (some q)],args:=#[] }] a') w):c.wp P Q a w:=by
 obtain ⟨o0,a0,a1,a2,a3⟩:=fH h0
 obtain ⟨o1,b0,b1,b2,b3⟩:=fH h1
 obtain ⟨ρ,hE,hs⟩:=hA
 have v2:=hs.slots _ _ e2
 have v3:=hs.slots _ _ e3
 obtain ⟨p,hp⟩:∃ p:Addr,a.tmps.getD t2 undef = .pointer (some p):=by
  obtain ⟨q,hq,hv⟩:=dY (id:=i2) (off:=0) rfl v2
  exact ⟨_,hv⟩
 obtain ⟨q,hq⟩:∃ q:Addr,a.tmps.getD t3 undef = .pointer (some q):=by
  obtain ⟨q,hq,hv⟩:=dY (id:=i3) (off:=0) rfl v3
  exact ⟨_,hv⟩
 rw [zfv]
 refine wp_region ?_
 rw [q9]
 show wpOps P (cq c) Q [0,1] a w
 rw [wpOps_cons]
 refine lQ (v:=.func (.func f) #[] #[.pointer (some p),.pointer (some q)]) (w':=w) a0 a3 ?_ ?_
 ·have r2:a.eval (.tmp t2) = .pointer (some p):=hp
  have r3:a.eval (.tmp t3) = .pointer (some q):=hq
  simp [execOp,a1,go_sem,r2,r3]
  exact ⟨by rw [←aaO];exact hp,by rw [←aaO];exact hq⟩
 ·rw [wpOps_cons,a2]
  have fD:=hs.put_off h6 (.func (.func f) #[] #[.pointer (some p),.pointer (some q)])
  refine PA (d:={ target:=.fn (.func f) #[.pointer (some p),.pointer (some q)],args:=#[] }) (w':=w) b0 b3 ?_ ?_
  ·have hlt:t6<a.tmps.size:=by rw [hs.size];exact hN
   simp [execOp,b1,go_sem,resolve,hlt]
  ·rw [b2]
   have:=hQ p q _ ⟨ρ,hE,fD⟩
   have hd:a.defers=[]:=hs.calm
   simpa [j8,Act.put,wpOps,hd] using this
theorem Mq{dL ρ:Rho}{w0 w:World}{N:Nat}{st:St}{a:Act}{id n:Nat}{g:Nat→Int}(cv:∀ c,¬Eng.Own dL c)(h0:dL id=none)(ho:own id=false)(ha:app id=false)(hb:st.blk id=some (gM n g))
  (hE:Ext dL w0 ρ w) (hs:Sim ρ N st a w) {v:Value} (hv:SV.val ρ (.tup [bT (.s id 0 n n),pp 0])=some v):S7 w0 n g v w:=by
 obtain ⟨b,o,vs,e1,e2,e3⟩:=hs.mem.blk id _ hb
 have e2':conc ρ (gM n g)=some (gvals .u8 n g):=aD
 rw [e2'] at e2;cases e2
 have hS:Stands w b o (gvals .u8 n g):=⟨e3.1,e3.2.2.1 ho ha⟩
 have e5:AV.val ρ (bT (.s id 0 n n))=some (.slice (some ⟨b,o,none⟩) n n):=by
  have e:=bu (ρ:=ρ) (id:=id) (q:=(b,o)) (by rw [Rho.at_not ha];exact e1) 0 n n
  simpa [iG,SV.val,bT] using e
 rw [jh e5 (so ρ 0)] at hv
 cases hv
 have hg:w0.heap.size≤b:=by
  rcases hE.new id b o h0 e1 with h|h
  ·exact h
  ·exact absurd h (cv b)
 exact ⟨b,o,hg,rfl,hS,hE.below cv⟩
theorem ba{keep:List Nat}{cE:St}(h:keep.all (fun id=>(cE.blk id).isSome)=true):∀ id∈keep,∃ l,cE.blk id=some l:=fun id cl=>by
 rw [aaF] at h
 exact Option.isSome_iff_exists.1 (h id cl)
theorem Gz{b o:Nat}{keep:List Nat}(h:keep.contains 1=true):∀ id q,bV b o id=some q→id∈keep:=fun id q hq=>by
 unfold bV aH at hq
 by_cases e:1=id
 ·subst e;simpa using h
 ·simp [aH,e] at hq
theorem zbW(c:Nat)(f:Nat→Int):[1,16,17].all (fun id=>(St.blk (Ll c f) id).isSome)=true:=by kernel_rfl
theorem Xl(c:Nat)(f:Nat→Int):aw (Ll c f) [1,16,17]=true:=by kernel_rfl
theorem zbV(f g:Nat→Int):[1,16,17,RA].all (fun id=>(St.blk (Cw f g) id).isSome)=true:=by kernel_rfl
theorem Xj(f g:Nat→Int):aw (Cw f g) [1,16,17,RA]=true:=by kernel_rfl
theorem CN(c:Nat)(f:Nat→Int):St.slot (Ll c f) 6=none∧St.slot (Ll c f) 2=some (.one (bT (.p 16 0)))∧St.slot (Ll c f) 3=some (.one (bT (.p 17 0))):=⟨by kernel_rfl,by kernel_rfl,by kernel_rfl⟩
theorem zt8(f:Nat→Int):(cj [(1,gM 32 f)]).all (fun p=>p.1%2==1)=true:=by kernel_rfl
theorem zua(f g:Nat→Int):St.blk (Cw f g) RA=some (gM 48 g):=by kernel_rfl
theorem zKC:dSk.ntmps=18:=by kernel_rfl
def E3(k:Nat):P1:=gJ (smul k (bO dj))
def uW(k:Nat):Nat→Int:=AQ (E3 k)
theorem zu9(k:Nat):Tor b1 aO (smul k (bO dj)):=dX.smul oi k
theorem Up(k:Nat):eV (E3 k)=true:=(kM _).2 (by unfold E3;rw [tV];exact zu9 k)
theorem IE:aO<pw 4:=by decide +kernel
theorem zt9{k px py:Nat}{i:Bool}{f g:Nat→Int}(hb:bOk 32 f)(hk:eo f 32=k)(h0:k≠0)(hr:k<aO)(hP:E3 k=(((px,py),i):P1))(hg:uW k=g):∀ p∈zvy k px py i f g,p:=by
 have e0:(fun i=>f (0+i))=f:=nI f
 have hpw:=IE
 unfold zvy
 rw [e0]
 refine aa (fun ρ=>?_) (aa ⟨rfl,hb⟩ (aa (by omega) (aa (br (by decide)) (aa (BS (by omega) (by omega) (br h0)) (aa (fun ρ=>?_) (aa (by omega) (aa ?_ (aa ?_ ad))))))))
 ·unfold frG;rw [hk,if_pos hr]
 ·rw [aah (by omega:k<pw 4),Dl O6]
  show SV.val ρ (uj.sv (E3 k,0))=_
  rw [hP]
 ·rw [←hP];exact Up k
 ·rw [←hP];exact hg
theorem SN{w:World}{b o c k:Nat}{f:Nat→Int}(hb:bOk 32 f)(hk:eo f 32=k)(h0:k≠0)(hr:k<aO)(hS:Stands w b o (gvals .u8 32 f)):
  Calls Tryz.prog 16 #[.slice (some ⟨b,o,none⟩) 32 c] w fun e w'=>∃ v,e = .returned v∧S7 w 48 (uW k) v w':=by
 obtain ⟨hM,cv,hv⟩:=sN (aD (z:=0)) hS c
 obtain ⟨fn,Fi,l7,oX,RF,_⟩:=(aB _ _ zgf).ok
 obtain ⟨P,hP⟩:∃ P,E3 k=P:=⟨_,rfl⟩
 obtain ⟨⟨px,py⟩,i⟩:=P
 obtain ⟨g,hg⟩:∃ g,uW k=g:=⟨_,rfl⟩
 have hT:ag Tryz.prog (kR bh (TSk k (((px,py),i):P1) g) fJ 1000 Nc 6):=gm an ab (b7 (b7 (aT R3 (aT oo (zgy g))) _ _) _ _) aB 1000 Nc 6
 refine calls_of_wp_defers Fi l7 ?_
 rw [RF,zKC,zkt]
 have c9:=At.begin (N:=18) hM (zt8 f) hv (by show 1≤18;omega)
 refine wp_seq ?_
 refine At.probe (E:=ESk k (((px,py),i):P1) g) an ab hT (zks k c (((px,py),i):P1) f g) (fun p hp=>by cases hp) c9 [1,16,17] (ba (zbW c f)) (Xl c f) (Gz rfl) fun a1 w1 nq=>?_
 refine wp_seq ?_
 refine Hh zt3 zt6 zt5 zkq nq (CN c f).1 (by show 6<18;omega) (CN c f).2.1 (CN c f).2.2 fun p q a2 YM=>?_
 have DQ:=At.probeL (E:=ESk k (((px,py),i):P1) g) (lgD Tryz.prog [{ target:=.fn (.func 38) #[.pointer (some p),.pointer (some q)],args:=#[] }]) ab hT (zkr k px py i c f g) zt7 (zt9 hb hk h0 hr hP hg) YM [1,16,17,RA] (ba (zbV f g)) (Xj f g) (Gz rfl)
  (Q:=fun e a' w'=>e = .ret∧At 18 (bV b o) w (Cw f g) a' w') (fun a' w' h=>⟨rfl,h⟩)
 refine wp_mono DQ ?_
 rintro e a3 w3 ⟨a4,rfl,rfl,ρ,hE,hs⟩
 have hd:a4.defers=[]:=hs.calm
 show Leaves _ _ a4.tmps _ (a4.defers++_) .returning w3
 rw [hd,abO]
 refine leaves_cons (f:=38) (args:=#[.pointer (some p),.pointer (some q)]) (by simp) (by simp [go_sem]) ?_
 refine (Rq p q w3).mono ?_
 rintro e u' w4 ⟨rfl,rfl,rfl⟩
 obtain ⟨v,qL,uX⟩:=jl ab hs (oX.trans zt2) (zt4 f g)
 refine ⟨v,uX,v,rfl,?_⟩
 rw [hg]
 exact Mq cv rfl (nt 31) (kO 31) (zua f g) hE hs qL
def vL(ops:Array Oper)(k m:Nat):List Oper:=(ops.toList.drop k).take m
theorem zkL{ops:Array Oper}{k m i:Nat}{o:Oper}(h:(vL ops k m)[i]? = some o):ops[k+i]? = some o:=by
 unfold vL at h
 rw [List.getElem?_take] at h
 split at h
 ·rw [List.getElem?_drop,acj] at h;exact h
 ·cases h
def rpart(E:Eng)(ops:Array Oper)(l:List Oper)(st:St)(nid:Nat)(hints:List (Nat×Bool))(ks:List Nat):Option (List Prop×List (Option Ct)):=
 match mz E.tab E.call E.N ops (fP st) hints nid l st with
 | some aM=>some (xN aM,ks.map (Eng.look (aX st (qw aM))))
 | none=>none
theorem At.rpart{P:aaE}{E:Eng}(az:∀ t d,E.tab t=some d→TyOk P t d)(cP:ag P E.call){ops:Array Oper}{k m nid:Nat}{st cE:St}{hints:List (Nat×Bool)}{ob:List Prop}(hm:(vL ops k m).length=m)
  (h:rpart E ops (vL ops k m) st nid hints (cE.map (·.1))=some (ob,cE.map fun p=>some p.2)) (ax:∀ q∈ob,q) {dL:Rho} {w0:World} {a:Act} {w:World} (hA:At E.N dL w0 st a w)
  (keep:List Nat) (h2:∀ id∈keep,∃ l,cE.blk id=some l) (h3:aw cE keep=true) (h4:∀ id q,dL id=some q→id∈keep) {Q:Exit→Act→World→Prop} {rest:List Nat}
  (hQ:∀ a' w',At E.N dL w0 cE a' w'→wpOps P ops Q rest a' w'):wpOps P ops Q (aaQ k m++rest) a w:=by
 unfold Sh.rpart at h
 split at h
 ·rename_i aM hi
  simp only [aag,abq] at h
  obtain ⟨h5,h7⟩:=h
  subst h5
  obtain ⟨ρ,hE,hs⟩:=hA
  have key:=Ur (Q:=Q) (rest:=rest) az cP (vL ops k m) k nid st aM hi (fun i o ho=>zkL ho) ax ρ a w hs fun ρ' a' w' BO fD=>?_
  ·rw [hm] at key;exact key
  ·have bY:At E.N dL w0 (aX st (qw aM)) a' w':=⟨ρ',hE.trans BO,fD⟩
   refine hQ a' w' (bY.forget keep (fun j v hj=>?_) h2 h3 h4)
   have jt:=gz hj
   have:∀ (l:St),l.map (fun p=>Eng.look (aX st (qw aM)) p.1)=l.map (fun p=>some p.2)→∀ p∈l,Eng.look (aX st (qw aM)) p.1=some p.2:=by
    intro l
    induction l with
    | nil=>intro _ p hp;cases hp
    | cons q l ih=>
     intro hl p hp
     simp only [aaB,aaM] at hl
     rcases aae.1 hp with rfl|hp
     ·exact hl.1
     ·exact ih hl.2 p hp
   rw [abm] at h7
   exact this cE h7 _ jt
 ·cases h
abbrev SlQ:=Nat×Nat×Nat×Nat×Nat
def zt1(c:Option Ct)(p:Nat×Nat×Nat×Nat):Bool:=match c with
 | some (.sl (.one ⟨false,[.s i o l k]⟩))=>(i==p.1)&&((o==p.2.1)&&((l==p.2.2.1)&&(k==p.2.2.2)))
 | _=>false
theorem zkp{c:Option Ct}{p:Nat×Nat×Nat×Nat}(h:zt1 c p=true):c=some (.sl (.one (bT (.s p.1 p.2.1 p.2.2.1 p.2.2.2)))):=by
 unfold zt1 at h
 split at h
 ·simp only [aaf,beq_iff_eq] at h
  obtain ⟨h1,h2,h3,h4⟩:=h
  rw [←h1,←h2,←h3,←h4];rfl
 ·cases h
def mkQ(p:SlQ):Nat×Ct:=(p.1,.sl (.one (bT (.s p.2.1 p.2.2.1 p.2.2.2.1 p.2.2.2.2))))
def probeS(E:Eng)(n:Nat)(c:Code)(st:St)(nid:Nat)(hints:List (Nat×Bool))(ks:List Nat)(sp:List SlQ):Option (Nat×List Prop×List (Option Ct)×Bool):=
 match exec E n c { st:=st,nid:=nid,hints:=hints,obs:=[],dirty:=[] } with
 | some (k,y)=>some (k.code,y.obs,ks.map (Eng.look y.st),sp.all fun p=>zt1 (Eng.look y.st p.1) p.2)
 | none=>none
theorem At.probeS{P:aaE}{E:Eng}(L:Lg P)(az:∀ t d,E.tab t=some d→TyOk P t d)(cP:ag P E.call){n:Nat}{c:Code}{st:St}{nid:Nat}{hints:List (Nat×Bool)}{cE:St}{sp:List SlQ}{kc:Nat}{ob:List Prop}
  (h:probeS E n c st nid hints (cE.map (·.1)) sp=some (kc,ob,cE.map (fun p=>some p.2),true)) (od:GL c=true) (ax:∀ q∈ob,q)
  {dL:Rho} {w0:World} {a:Act} {w:World} (hA:At E.N dL w0 st a w) (keep:List Nat) (h2:∀ id∈keep,∃ l,St.blk (cE++sp.map mkQ) id=some l) (h3:aw (cE++sp.map mkQ) keep=true) (h4:∀ id q,dL id=some q→id∈keep)
  {Q:Exit→Act→World→Prop} (hQ:∀ a' w',At E.N dL w0 (cE++sp.map mkQ) a' w'→Q (zr kc) a' w'):L.wp c Q a w:=by
 unfold Sh.probeS at h
 split at h
 ·rename_i k y hx
  simp only [aag,abq] at h
  obtain ⟨h5,h6,h7,h8⟩:=h
  subst h6
  obtain ⟨ρ,hE,hs⟩:=hA
  refine Vx L az cP n c _ k y hx od ax ρ a w hs Q fun ρ' a' w' BO fD=>?_
  rw [←sV,h5]
  have bY:At E.N dL w0 y.st a' w':=⟨ρ',hE.trans BO,fD⟩
  refine hQ a' w' (bY.forget keep (fun j v hj=>?_) h2 h3 h4)
  have jt:=gz hj
  rcases List.mem_append.1 jt with jt|jt
  ·have:∀ (l:St),l.map (fun p=>Eng.look y.st p.1)=l.map (fun p=>some p.2)→∀ p∈l,Eng.look y.st p.1=some p.2:=by
    intro l
    induction l with
    | nil=>intro _ p hp;cases hp
    | cons q l ih=>
     intro hl p hp
     simp only [aaB,aaM] at hl
     rcases aae.1 hp with rfl|hp
     ·exact hl.1
     ·exact ih hl.2 p hp
   rw [abm] at h7
   exact this cE h7 _ jt
  ·obtain ⟨p,hp,e⟩:=List.mem_map.1 jt
   rw [aaF] at h8
   have:=zkp (h8 p hp)
   unfold mkQ at e
   cases e
   exact this
 ·cases h
structure WO(P:aaE)(ops:Array Oper)(Q:Exit→Act→World→Prop)(l:List Nat)(a:Act)(w:World):Prop where
 h:wpOps P ops Q l a w
theorem Lg.regionC{P:aaE}(L:Lg P){c:Code}{ops:Array Oper}{l:List Nat}{G:Act→World→Prop}{Q:Exit→Act→World→Prop}{a:Act}{w:World}(zfv:c = .region (xg c) ops false)(hr:aan ops.size=l)(hnd:ops.toList.all noDefer=true)
  (h:WO P ops (Nrm G) l a w) (hG:∀ a w,G a w→Q .normal a w):L.wp c Q a w:=by
 rw [zfv]
 refine L.region (fun i o ho=>?_) (by rw [hr];exact h.h) hG
 rw [aaF] at hnd
 rw [←acj] at ho
 exact hnd o (adx ho)
def cT:ByteArray:=⟨(eK.map fun n=>UInt8.ofNat n.toNat).toArray⟩
theorem WR:cT.size=43:=by decide +kernel
theorem WQ:cT.data.toList.map (fun b=>Value.int .u8 (b.toNat:Int))=ye:=by
 have:cT.data.toList.map (fun b=>(b.toNat:Int))=eK:=by decide +kernel
 unfold ye
 rw [←this,abm];rfl
theorem gR:Tryz.prog.underlying 9=some .string∧Tryz.prog.underlying 22=some (.slice 5)∧Tryz.prog.underlying 5=some (.int .u8):=⟨by kernel_rfl,by kernel_rfl,by kernel_rfl⟩
theorem zhI(w:World):∃ kk w',(convert 9 22 (.string cT)).run Tryz.prog w = .ok (.slice (some ⟨w.heap.size,0,none⟩) 43 (kk+43)) w'∧Below w.heap.size w w'∧Stands w' w.heap.size 0 ye:=by
 have h:=run_bytes_of_string (P:=Tryz.prog) w 9 22 5 cT gR.1 gR.2.1 gR.2.2
 have hc:=grownCap_ge w cT.size 0 5
 rw [WR] at h hc
 obtain ⟨kk,hk⟩:∃ kk,grownCap w 43 0 5=kk+43:=⟨grownCap w 43 0 5-43,by omega⟩
 rw [hk] at h
 refine ⟨kk,_,h,?_,?_⟩
 ·exact ((Below.refl _ w).drew).alloc (Nat.le_refl _) _
 ·refine ⟨by simp,fun i v hi=>?_⟩
  rw [←WQ] at hi
  have hh:∀ (X:World) (o:Obj),(X.alloc o).heap[X.heap.size]? = some o:=fun X o=>World.alloc_heap_new X o
  have:=hh w.drew (.cells (bytesRow cT (kk+43)) 5 ((bytesRow cT (kk+43)).size,(bytesRow cT (kk+43)).size+1))
  rw [abA] at hi
  obtain ⟨x,hx,rfl⟩:=adi.1 hi
  have RC:cT.data[i]? = some x:=by rw [←acj];exact hx
  have hlt:=(Array.getElem?_eq_some_iff.1 RC).1
  unfold World.cell?
  simp only at this ⊢
  rw [show w.heap.size=w.drew.heap.size from rfl,this]
  simp [bytesRow,Array.getElem?_append,hlt,RC]
  intro h9
  have h8:cT.size=cT.data.size:=rfl
  omega
theorem At.conv{ops:Array Oper}{Q:Exit→Act→World→Prop}{K:Act→World→Prop}{i t d:Nat}{o:Oper}(hi:ops[i]? = some o)(hg:o.guard=none)(ho:o.op = .convert 9 22 (.tmp t))(hd:o.dst=some d){dL:Rho}{w0:World}{N:Nat}{st:St}{a:Act}{w:World}(hA:At N dL w0 st a w)
  (jd:st.slot t=some (.one ⟨false,[.v (.string cT)]⟩)) (hdN:d<N) {id:Nat} (hn:st.blk id=none) (qZ:own id=false) (q7:app id=false)
  (hQ:∀ kk a' w',At N dL w0 (aX (aX st (ia ([]++[(id,bR eK)]))) [(2*d,.sl (.one (bT (.s id 0 43 (kk+43)))))]) a' w'→K a' w'):wpOp Tryz.prog ops Q i K a w:=by
 obtain ⟨ρ,hE,hs⟩:=hA
 have hv:=hs.slots t _ jd
 have G6:a.tmps.getD t undef = .string cT:=by
  have e:SV.val ρ (.one ⟨false,[.v (.string cT)]⟩)=some (.string cT):=AV.val_v (ρ:=ρ) (x:=.string cT) rfl
  rw [e] at hv;exact (Option.some.inj hv).symm
 obtain ⟨kk,w1,hr,hB,hS⟩:=zhI w
 refine lQ (v:=.slice (some ⟨w.heap.size,0,none⟩) 43 (kk+43)) (w':=w1) hi hg ?_ ?_
 ·have r2:a.eval (.tmp t) = .string cT:=G6
  unfold execOp
  rw [ho]
  simp only [r2,Sem.run_bind,hr,Result.andThen,Sem.run_pure]
 ·have hM0:Mem (fun id=>if ((dc st []).blk id).isSome then ρ id else none) (dc st []) w:=⟨⟨fun id l hl=>by cases hl⟩,⟨fun id id' b o o' l l' ho h1=>by cases h1⟩,fun id q hq=>by simp [dc,St.blk,Eng.look] at hq⟩
  obtain ⟨hE1,hM1⟩:=Dq (nid:=id) (g:=w.heap.size) (go:=0) hM0 hB rfl qZ q7 (Nat.le_refl _) (l:=bR eK) (fun ρ=>g_ ρ .u8 eK) hS
  obtain ⟨xV,hE2,hle,DN⟩:=hs.call (wr:=[]) (news:=[(id,bR eK)]) hE1 hM1 (fun p hp=>by cases hp) (fun p hp=>by rw [List.mem_singleton] at hp;subst hp;exact hn)
  have hq:xV id=some (w.heap.size,0):=hle _ _ (by simp [Rho.setq])
  have e1:SV.val xV (.one (bT (.s id 0 43 (kk+43))))=some (.slice (some ⟨w.heap.size,0,none⟩) 43 (kk+43)):=by
   have e:=bu (ρ:=xV) (id:=id) (q:=(w.heap.size,0)) (by rw [Rho.at_not q7];exact hq) 0 43 (kk+43)
   simpa [iG,SV.val,bT] using e
  rw [hd]
  exact hQ kk _ _ ⟨xV,hE.trans hE2,DN.put hdN e1⟩
def Ni(H:P2):CallT:=fun f args m _=>match f==9 with
 | true=>match args with
  | [x,⟨false,[.s id off k2 c2]⟩]=>match UK m x,iJ m id off k2 with
   | some (z,n,f,ob),some (_,g,jW)=>some { val:=.tup [wP H,pp 0],wr:=[],news:=[],ob:=(k2=43)::(n≤90000)::(43≤c2)::(bn g 0 43=eK)::(mw z n f=H)::(ob++jW) }
   | _,_=>none
  | _=>none
 | false=>none
theorem xk(H:P2):ag Tryz.prog (Ni H):=by
 intro f args m nid out af ax ρ w vs hv hM df
 unfold Ni at af
 split at af
 ·rename_i hf
  rw [beq_iff_eq] at hf
  subst hf
  split at af
  ·rename_i x id off k2 c2
   split at af
   ·rename_i z n f ob k g jW hm hb
    cases af
    obtain ⟨v1,us,h1,h2,rfl⟩:=aj hv
    obtain ⟨v2,ov,h3,h4,rfl⟩:=aj h2
    cases h4
    have RH:k2=43:=ax _ aac
    subst RH
    have hn:n≤90000:=ax _ (aaa _ aac)
    have hc:43≤c2:=ax _ (aaa _ (aaa _ aac))
    have ht:bn g 0 43=eK:=ax _ (aaa _ (aaa _ (aaa _ aac)))
    have hX:mw z n f=H:=ax _ (aaa _ (aaa _ (aaa _ (aaa _ aac))))
    have mH:∀ p∈ob++jW,p:=fun p hp=>ax p (aaa _ (aaa _ (aaa _ (aaa _ (aaa _ hp)))))
    obtain ⟨q,hq,rfl⟩:=aY h3
    obtain ⟨rfl,hs⟩:=eW hM hb (fun p hp=>mH p (aaq _ hp)) hq
    rw [oY ht] at hs
    have zfB:∃ b o c,v1=byV z b o n c∧Stands w b o (gvals .u8 n f):=by
     unfold UK at hm
     split at hm
     ·cases hm
      exact ⟨q.1,q.2+off,0,iE h1,hs.1,fun i v hi=>by cases hi⟩
     ·rename_i id' zdl n' c'
      split at hm
      ·rename_i k' f' ob1 JE
       cases hm
       obtain ⟨q',EH,rfl⟩:=aY h1
       obtain ⟨rfl,fD⟩:=eW hM JE (fun p hp=>mH p (aau _ hp)) EH
       exact ⟨_,_,c',rfl,fD⟩
      ·cases hm
     ·cases hm
    obtain ⟨b,o,c,rfl,fD⟩:=zfB
    refine .inr ⟨(aB _ (match fJ 9 with | some d=>d | none=>⟨.skip,[],0⟩) (by kernel_rfl)).enter _ _,(zfS z hn hc fD hs).mono ?_⟩
    rintro e w' ⟨rfl,hB⟩
    rw [hX]
    exact ⟨_,rfl,ρ,Ext.of_below hB,jh (jO ρ H) (so ρ 0),hM.of_below hB⟩
   ·cases af
  ·cases af
 ·cases af
def TSg(k:Nat)(H P:P2)(g:Nat→Int):CallT:=fz (fz (jV frT (jV TS1 (jV (Ni H) (zgx g)))) 91 ((tI kd4 tj).sv (k,0))) 70 (nE.sv (P,0))
def dSg:Fn1:=match fJ 37 with
 | some d=>d
 | none=>⟨.skip,[],0⟩
theorem zgg:fJ 37=some dSg:=by kernel_rfl
def ESg(k:Nat)(H P:P2)(g:Nat→Int):Eng:={ tab:=bh,call:=kR bh (TSg k H P g) fJ 1000 Nc 6,N:=33 }
def zFH:Code:=bJ dSg.body
def SK:Code:=bJ (aJ dSg.body)
def zoz:Code:=bJ (aJ (aJ dSg.body))
def ZF:Code:=bJ (aJ (aJ (aJ dSg.body)))
def zoy:Code:=aJ (aJ (aJ (aJ dSg.body)))
def stA(z:Bool)(n c1 c:Nat):St:=[(0,.sl (.one (gn false 1 32 c1))),(2,.sl (.one (gn z 2 n c))),(4,.sl (.one ⟨false,[.v (.string cT)]⟩))]
def bkA(n:Nat)(f fm:Nat→Int):St:=[(3,.bl (gM 32 f)),(5,.bl (gM n fm))]
def zLZ(z:Bool)(n c1 c:Nat)(f fm:Nat→Int):St:=aW 0 [gn false 1 32 c1,gn z 2 n c,⟨false,[.v (.string cT)]⟩] (33-3)++cj [(1,gM 32 f),(2,gM n fm)]
def zld:St:=[(12,.sl (.one (bT (.p 16 0)))),(14,.sl (.one (bT (.p 17 0)))),(33,.bl [.v (.slice none 0 0)]),(35,.bl [.v (.int .i64 0)])]
def Lm(z:Bool)(n c1 c:Nat)(f fm:Nat→Int):St:=stA z n c1 c++bkA n f fm++zld
theorem zkC(k:Nat)(H P:P2)(g:Nat→Int)(z:Bool)(n c1 c:Nat)(f fm:Nat→Int):Eng.probe (ESg k H P g) 100 zFH (zLZ z n c1 c f fm) 16 [] ((Lm z n c1 c f fm).map (·.1))=some (0,[],(Lm z n c1 c f fm).map fun p=>some p.2):=by cases z<;>kernel_rfl
def ztV:List SlQ:=[(16,22020102,0,4,4)]
def zhJ(z:Bool)(n c k:Nat)(f fm:Nat→Int):St:=[(2,.sl (.one (gn z 2 n c))),(4,.sl (.one ⟨false,[.v (.string cT)]⟩))]++bkA n f fm++zld++[(44040205,.bl [.w 4 k])]
def skW(k:Nat):St:=[(44040205,.bl [.w 4 k])]++ztV.map mkQ
def TR(z:Bool)(n c k:Nat)(f fm:Nat→Int):St:=zhJ z n c k f fm++ztV.map mkQ
def zds(k:Nat)(f:Nat→Int):List Prop:=[∀ ρ,SV.val ρ ((tI kd4 tj).sv (frG fun i=>f (0+i)))=SV.val ρ ((tI kd4 tj).sv (k,0)),32=32∧bOk 32 (fun i=>f (0+i)),0+32*1≤32,(0:Int)≠0↔false=true,aV [.w 4 k]=aV [.w 4 0]↔false=true]
theorem zkB(k:Nat)(H P:P2)(g:Nat→Int)(z:Bool)(n c1 c:Nat)(f fm:Nat→Int):Sh.probeS (ESg k H P g) 100 zoz (Lm z n c1 c f fm) 20 [] ((zhJ z n c k f fm).map (·.1)) ztV=some (0,zds k f,(zhJ z n c k f fm).map (fun p=>some p.2),true):=by cases z<;>kernel_rfl
def Ba:Array Oper:=cq ZF
def Cy(z:Bool)(n c k:Nat)(f fm:Nat→Int):St:=[(34,.sl (.one (gn z 2 n c))),(36,.sl (.one ⟨false,[.v (.string cT)]⟩))]++bkA n f fm++zld++skW k
theorem zkA(k:Nat)(H P:P2)(g:Nat→Int)(z:Bool)(n c:Nat)(f fm:Nat→Int):rpart (ESg k H P g) Ba (vL Ba 0 2) (TR z n c k f fm) 24 [] ((Cy z n c k f fm).map (·.1))=some ([],(Cy z n c k f fm).map fun p=>some p.2):=by cases z<;>kernel_rfl
def ztO(z:Bool)(n c k kk:Nat)(f fm:Nat→Int):St:=aX (aX (Cy z n c k f fm) (ia ([]++[(gC 100,bR eK)]))) [(2*19,.sl (.one (bT (.s (gC 100) 0 43 (kk+43)))))]
def aG(a b c d:Nat)(i:Bool):P2:=(((a,b),(c,d)),i)
def F_(n k:Nat)(H:P2)(f fm:Nat→Int):St:=[(18,.sl (.one (bT (.p 44 0)))),(89,.bl (wP H).its)]++bkA n f fm++zld++skW k
def zdr(z:Bool)(n kk:Nat)(fm:Nat→Int)(H:P2):List Prop:=match z with
 | true=>[43=43,0≤90000,43≤kk+43,bn (fun i=>eK.getD i 0) 0 43=eK,mw true 0 (fun _=>0)=H]
 | false=>[43=43,n≤90000,43≤kk+43,bn (fun i=>eK.getD i 0) 0 43=eK,mw false n (fun i=>fm (0+i))=H,0+n*1≤n]
theorem zb5(k kk:Nat)(a b c d:Nat)(i:Bool)(P:P2)(g:Nat→Int)(z:Bool)(n c2:Nat)(f fm:Nat→Int):rpart (ESg k (aG a b c d i) P g) Ba (vL Ba 3 7) (ztO z n c2 k kk f fm) 40 [] ((F_ n k (aG a b c d i) f fm).map (·.1))=some (zdr z n kk fm (aG a b c d i),(F_ n k (aG a b c d i) f fm).map fun p=>some p.2):=by cases z<;>kernel_rfl
def RB:Nat:=gC 70
def Cx(n:Nat)(f fm g:Nat→Int):St:=bkA n f fm++[(12,.sl (.one (bT (.p 16 0)))),(14,.sl (.one (bT (.p 17 0)))),(33,.bl [.s RB 0 96 96]),(35,.bl [.v (.int .i64 0)]),(2*RB+1,.bl (gM 96 g))]
def zrq(k:Nat)(H P:P2)(g:Nat→Int):List Prop:=[∀ ρ,SV.val ρ (nE.sv (jJ H (k%pw 4)))=SV.val ρ (nE.sv (P,0)),4<4294967296,dW P=true,j2 P=g]
theorem zkz(k:Nat)(a b c d:Nat)(i:Bool)(px px2 py py2:Nat)(j:Bool)(n:Nat)(f fm g:Nat→Int):Eng.probe (ESg k (aG a b c d i) (aG px px2 py py2 j) g) 100 zoy (F_ n k (aG a b c d i) f fm) 60 [] ((Cx n f fm g).map (·.1))=some (1,zrq k (aG a b c d i) (aG px px2 py py2 j) g,(Cx n f fm g).map fun p=>some p.2):=by kernel_rfl
theorem zui:GL zoz=true:=by kernel_rfl
theorem zuh:GL zoy=true:=by kernel_rfl
theorem zkI:dSg.body = .seq zFH (.seq SK (.seq zoz (.seq ZF zoy))):=by kernel_rfl
theorem zKD:dSg.ntmps=33:=by kernel_rfl
def zrg:List ResultVar:=[.cell 6 22,.cell 7 30]
theorem zuc:dSg.results=zrg:=by kernel_rfl
theorem zue(n:Nat)(f fm g:Nat→Int):cO bh (Cx n f fm g) zrg=some [bT (.s RB 0 96 96),pp 0]:=by kernel_rfl
theorem zud:SK = .region (xg SK) (cq SK) false:=by kernel_rfl
theorem zug:oQ SK 0=some (.makeFunc (.func 85) #[] #[.tmp 6,.tmp 7],some 13,none):=by kernel_rfl
theorem zuf:oQ SK 1=some (.defer { callee:=.value (.tmp 13),args:=#[],argTypes:=#[] },none,none):=by kernel_rfl
theorem zky:(cq SK).size=2:=by kernel_rfl
theorem zkD:ZF = .region (xg ZF) Ba false:=by kernel_rfl
theorem zub:aan Ba.size=aaQ 0 2++(2::(aaQ 3 7++[])):=by kernel_rfl
theorem zuk:Ba.toList.all noDefer=true:=by kernel_rfl
theorem zBL:oQ ZF 2=some (.convert 9 22 (.tmp 18),some 19,none):=by kernel_rfl
theorem zkH:(vL Ba 0 2).length=2:=by kernel_rfl
theorem zkG:(vL Ba 3 7).length=7:=by kernel_rfl
theorem zuj(n:Nat)(f fm:Nat→Int):(cj [(1,gM 32 f),(2,gM n fm)]).all (fun p=>p.1%2==1)=true:=by kernel_rfl
theorem LK(z:Bool)(n c1 c:Nat)(f fm:Nat→Int):[1,2,16,17].all (fun id=>(St.blk (Lm z n c1 c f fm) id).isSome)=true∧aw (Lm z n c1 c f fm) [1,2,16,17]=true∧St.slot (Lm z n c1 c f fm) 13=none∧St.slot (Lm z n c1 c f fm) 6=some (.one (bT (.p 16 0)))∧St.slot (Lm z n c1 c f fm) 7=some (.one (bT (.p 17 0))):=by
 cases z<;>exact ⟨by kernel_rfl,by kernel_rfl,by kernel_rfl,by kernel_rfl,by kernel_rfl⟩
theorem zrf(z:Bool)(n c k:Nat)(f fm:Nat→Int):[1,2,16,17,22020102].all (fun id=>(St.blk (TR z n c k f fm) id).isSome)=true∧aw (TR z n c k f fm) [1,2,16,17,22020102]=true:=by
 cases z<;>exact ⟨by kernel_rfl,by kernel_rfl⟩
theorem T1(z:Bool)(n c k:Nat)(f fm:Nat→Int):[1,2,16,17,22020102].all (fun id=>(St.blk (Cy z n c k f fm) id).isSome)=true∧aw (Cy z n c k f fm) [1,2,16,17,22020102]=true∧St.slot (Cy z n c k f fm) 18=some (.one ⟨false,[.v (.string cT)]⟩)∧St.blk (Cy z n c k f fm) (gC 100)=none:=by
 cases z<;>exact ⟨by kernel_rfl,by kernel_rfl,by kernel_rfl,by kernel_rfl⟩
theorem zre(n k:Nat)(a b c d:Nat)(i:Bool)(f fm:Nat→Int):[1,2,16,17,22020102,44].all (fun id=>(St.blk (F_ n k (aG a b c d i) f fm) id).isSome)=true∧aw (F_ n k (aG a b c d i) f fm) [1,2,16,17,22020102,44]=true:=⟨by kernel_rfl,by kernel_rfl⟩
theorem zb6(n:Nat)(f fm g:Nat→Int):[1,2,16,17,RB].all (fun id=>(St.blk (Cx n f fm g) id).isSome)=true∧aw (Cx n f fm g) [1,2,16,17,RB]=true∧St.blk (Cx n f fm g) RB=some (gM 96 g):=⟨by kernel_rfl,by kernel_rfl,by kernel_rfl⟩
theorem um{b1 o1 b2 o2:Nat}{keep:List Nat}(h:keep.contains 1=true)(h':keep.contains 2=true):∀ id q,aH [(1,(b1,o1)),(2,(b2,o2))] id=some q→id∈keep:=fun id q hq=>by
 by_cases e:1=id
 ·subst e;simpa using h
 ·by_cases e':2=id
  ·subst e';simpa using h'
  ·simp [aH,e,e'] at hq
theorem zcH{b1 o1 b2 o2 id:Nat}{q:Nat×Nat}(hq:aH [(1,(b1,o1)),(2,(b2,o2))] id=some q):id=1∨id=2:=by
 by_cases e:1=id
 ·exact .inl e.symm
 ·by_cases e':2=id
  ·exact .inr e'.symm
  ·simp [aH,e,e'] at hq
def hV(z:Bool)(n:Nat)(f:Nat→Int):P2:=match z with
 | true=>mw true 0 (fun _=>0)
 | false=>mw false n f
theorem YK(X:Nat→Nat→Int):Tor b2 aO (ιP2 (G8 X)):=by unfold G8;exact zcb _ _
theorem Nf(z:Bool)(n:Nat)(f:Nat→Int):Tor b2 aO (ιP2 (mw z n f)):=by unfold mw;exact YK _
theorem zj(z:Bool)(n:Nat)(f:Nat→Int):Tor b2 aO (ιP2 (hV z n f)):=by
 cases z
 ·exact Nf _ _ _
 ·exact Nf _ _ _
def tM(k:Nat)(H:P2):P2:=cS (smul k (ιP2 H))
theorem wR{H:P2}(h:Tor b2 aO (ιP2 H))(k:Nat):dW (tM k H)=true:=(gX _).2 (by unfold tM;rw [jN];exact h.smul ic k)
def Bt(k:Nat)(H:P2):Nat→Int:=j2 (tM k H)
theorem zkF{k:Nat}{f:Nat→Int}(hb:bOk 32 f)(hk:eo f 32=k)(h0:k≠0)(hr:k<aO):∀ p∈zds k f,p:=by
 have e0:(fun i=>f (0+i))=f:=nI f
 have hpw:=IE
 unfold zds
 rw [e0]
 refine aa (fun ρ=>?_) (aa ⟨rfl,hb⟩ (aa (by omega) (aa (br (by decide)) (aa (BS (by omega) (by omega) (br h0)) ad))))
 unfold frG;rw [hk,if_pos hr]
theorem TZ{z:Bool}{n kk:Nat}{fm:Nat→Int}{H:P2}(hn:n≤90000)(hH:hV z n fm=H):∀ p∈zdr z n kk fm H,p:=by
 have e0:(fun i=>fm (0+i))=fm:=nI fm
 cases z with
 | true=>exact aa rfl (aa (by omega) (aa (by omega) (aa HV (aa hH ad))))
 | false=>exact aa rfl (aa hn (aa (by omega) (aa HV (aa (by rw [e0];exact hH) (aa (by omega) ad)))))
theorem zkE{k:Nat}{H P:P2}{g:Nat→Int}(hr:k<aO)(hH:Tor b2 aO (ιP2 H))(hP:tM k H=P)(hg:Bt k H=g):∀ p∈zrq k H P g,p:=by
 have hpw:=IE
 refine aa (fun ρ=>?_) (aa (by omega) (aa ?_ (aa ?_ ad)))
 ·rw [aah (by omega:k<pw 4),wQ ((fM _).2 hH.on)]
  show SV.val ρ (nE.sv (tM k H,0))=_
  rw [hP]
 ·rw [←hP];exact wR hH k
 ·rw [←hP];exact hg
theorem Xm{k n c:Nat}{z:Bool}{a b e d:Nat}{i:Bool}{P:P2}{f fm g:Nat→Int}{dL:Rho}{w0 w:World}{a3:Act}(h4:∀ id q,dL id=some q→id=1∨id=2)(hn:n≤90000)(hH:hV z n fm=aG a b e d i)(hA3:At 33 dL w0 (TR z n c k f fm) a3 w):
  WO Tryz.prog Ba (Nrm fun a' w'=>At 33 dL w0 (F_ n k (aG a b e d i) f fm) a' w') (aaQ 0 2++(2::(aaQ 3 7++[]))) a3 w:=by
 have hT:ag Tryz.prog (kR bh (TSg k (aG a b e d i) P g) fJ 1000 Nc 6):=gm an ab (b7 (b7 (aT R3 (aT oo (aT (xk _) (Oe g)))) _ _) _ _) aB 1000 Nc 6
 have hR:=zkA k (aG a b e d i) P g z n c f fm
 have hR2:=fun kk=>zb5 k kk a b e d i P g z n c f fm
 have KJ:=zkH
 have JD:=zkG
 obtain ⟨o,p1,p2,p3,p4⟩:=fH zBL
 have p1:Ba[2]? = some o:=p1
 generalize Ba=ops at *
 have k4:∀ (l:List Nat),l.contains 1=true→l.contains 2=true→∀ id q,dL id=some q→id∈l:=fun l h1 h2 id q hq=>by
  rcases h4 id q hq with rfl|rfl
  ·simpa using h1
  ·simpa using h2
 refine ⟨?_⟩
 refine At.rpart (E:=ESg k (aG a b e d i) P g) ab hT KJ hR (fun p hp=>by cases hp) hA3 [1,2,16,17,22020102] (ba (T1 z n c k f fm).1) (T1 z n c k f fm).2.1 (k4 _ rfl rfl) fun a4 w4 Fm=>?_
 rw [wpOps_cons]
 refine At.conv (id:=gC 100) p1 p4 p2 p3 Fm (T1 z n c k f fm).2.2.1 (by show 19<33;omega) (T1 z n c k f fm).2.2.2 (nt 100) (kO 100) fun kk a5 w5 G9=>?_
 refine At.rpart (E:=ESg k (aG a b e d i) P g) ab hT JD (hR2 kk) (TZ hn hH) G9 [1,2,16,17,22020102,44] (ba (zre n k a b e d i f fm).1) (zre n k a b e d i f fm).2 (k4 _ rfl rfl) fun a6 w6 Nn=>?_
 exact ⟨rfl,Nn⟩
theorem OW{w:World}{u1 o1 c1 u2 o2 c k n:Nat}{f fm:Nat→Int}(z:Bool)(hb:bOk 32 f)(hk:eo f 32=k)(h0:k≠0)(hr:k<aO)(hn:n≤90000)(hS:Stands w u1 o1 (gvals .u8 32 f))(hS2:Stands w u2 o2 (gvals .u8 n fm))
  {H P:P2} {g:Nat→Int} (hH:hV z n fm=H) (hP:tM k H=P) (hg:Bt k H=g) :
  Calls Tryz.prog 37 #[.slice (some ⟨u1,o1,none⟩) 32 c1,byV z u2 o2 n c,.string cT] w fun e w'=>∃ v,e = .returned v∧S7 w 96 g v w':=by
 have tk:Tor b2 aO (ιP2 H):=by rw [←hH];exact zj z n fm
 obtain ⟨⟨⟨ha,JE⟩,⟨hc,hd⟩⟩,hi⟩:=H
 obtain ⟨⟨⟨pa,pb⟩,⟨pc,pd⟩⟩,pi⟩:=P
 obtain ⟨fn,Fi,l7,oX,RF,_⟩:=(aB _ _ zgg).ok
 have hT:ag Tryz.prog (kR bh (TSg k (aG ha JE hc hd hi) (aG pa pb pc pd pi) g) fJ 1000 Nc 6):=gm an ab (b7 (b7 (aT R3 (aT oo (aT (xk _) (Oe g)))) _ _) _ _) aB 1000 Nc 6
 have jd:∀ e∈[((1:Nat),gM 32 f,(u1,o1),gvals .u8 32 f),(2,gM n fm,(u2,o2),gvals .u8 n fm)],e.1<16∧conc rho0 e.2.1=some e.2.2.2∧Stands w e.2.2.1.1 e.2.2.1.2 e.2.2.2:=
  aab.2 ⟨⟨(by show 1<16;decide),aD,hS⟩,aab.2 ⟨⟨(by show 2<16;decide),aD,hS2⟩,fun _ h=>by cases h⟩⟩
 have hM:Mem (aH [(1,(u1,o1)),(2,(u2,o2))]) (cj [(1,gM 32 f),(2,gM n fm)]) w:=dU _ jd
 have cv:∀ c,¬Eng.Own (aH [(1,(u1,o1)),(2,(u2,o2))]) c:=iD (w:=w) _ jd
 have e1:AV.val (aH [(1,(u1,o1)),(2,(u2,o2))]) (gn false 1 32 c1)=some (.slice (some ⟨u1,o1,none⟩) 32 c1):=by
  have e:=bu (ρ:=aH [(1,(u1,o1)),(2,(u2,o2))]) (id:=1) (q:=(u1,o1)) (by simp [aH]) 0 32 c1
  simpa [iG,SV.val,gn] using e
 have e2:AV.val (aH [(1,(u1,o1)),(2,(u2,o2))]) (gn z 2 n c)=some (byV z u2 o2 n c):=by
  cases z with
  | true=>exact AV.val_v rfl
  | false=>
   have e:=bu (ρ:=aH [(1,(u1,o1)),(2,(u2,o2))]) (id:=2) (q:=(u2,o2)) (by simp [aH]) 0 n c
   simpa [iG,SV.val,gn,byV] using e
 have e3:AV.val (aH [(1,(u1,o1)),(2,(u2,o2))]) ⟨false,[.v (.string cT)]⟩=some (.string cT):=AV.val_v rfl
 have hv:ay (aH [(1,(u1,o1)),(2,(u2,o2))]) [gn false 1 32 c1,gn z 2 n c,⟨false,[.v (.string cT)]⟩]=some [.slice (some ⟨u1,o1,none⟩) 32 c1,byV z u2 o2 n c,.string cT]:=by
  simp only [ay,e1,e2,e3]
 refine calls_of_wp_defers Fi l7 ?_
 rw [RF,zKD,zkI]
 have c9:=At.begin (N:=33) hM (zuj n f fm) hv (by show 3≤33;omega)
 refine wp_seq ?_
 refine At.probe (E:=ESg k (aG ha JE hc hd hi) (aG pa pb pc pd pi) g) an ab hT (zkC k _ _ g z n c1 c f fm) (fun p hp=>by cases hp) c9 [1,2,16,17] (ba (LK z n c1 c f fm).1) (LK z n c1 c f fm).2.1 (um rfl rfl) fun a1 w1 nq=>?_
 refine wp_seq ?_
 refine Hh zud zug zuf zky nq (LK z n c1 c f fm).2.2.1 (by show 13<33;omega) (LK z n c1 c f fm).2.2.2.1 (LK z n c1 c f fm).2.2.2.2 fun p q a2 YM=>?_
 let L:=lgD Tryz.prog [{ target:=.fn (.func 85) #[.pointer (some p),.pointer (some q)],args:=#[] }]
 have DQ:L.wp (.seq zoz (.seq ZF zoy)) (fun e a' w'=>e = .ret∧At 33 (aH [(1,(u1,o1)),(2,(u2,o2))]) w (Cx n f fm g) a' w') a2 w1:=by
  refine L.seq ?_
  refine At.probeS (E:=ESg k (aG ha JE hc hd hi) (aG pa pb pc pd pi) g) L ab hT (zkB k _ _ g z n c1 c f fm) zui (zkF hb hk h0 hr) YM [1,2,16,17,22020102] (ba (zrf z n c k f fm).1) (zrf z n c k f fm).2 (um rfl rfl) fun a3 w3 hA3=>?_
  refine L.seq ?_
  refine Lg.regionC L zkD zub zuk (Xm (P:=aG pa pb pc pd pi) (g:=g) (fun id q hq=>zcH hq) hn hH hA3) fun a6 w6 Nn=>?_
  exact At.probeL (E:=ESg k (aG ha JE hc hd hi) (aG pa pb pc pd pi) g) L ab hT (zkz k ha JE hc hd hi pa pb pc pd pi n f fm g) zuh (zkE hr tk hP hg) Nn [1,2,16,17,RB] (ba (zb6 n f fm g).1) (zb6 n f fm g).2.1 (um rfl rfl) fun a7 w7 hA7=>⟨rfl,hA7⟩
 refine wp_mono DQ ?_
 rintro e a3 w3 ⟨a4,rfl,rfl,ρ,hE,hs⟩
 have hd:a4.defers=[]:=hs.calm
 show Leaves _ _ a4.tmps _ (a4.defers++_) .returning w3
 rw [hd,abO]
 refine leaves_cons (f:=85) (args:=#[.pointer (some p),.pointer (some q)]) (by simp) (by simp [go_sem]) ?_
 refine (Rp p q w3).mono ?_
 rintro e u' w4 ⟨rfl,rfl,rfl⟩
 obtain ⟨v,qL,uX⟩:=jl ab hs (oX.trans zuc) (zue n f fm g)
 refine ⟨v,uX,v,rfl,?_⟩
 exact Mq cv rfl (nt 70) (kO 70) (zb6 n f fm g).2.2 hE hs qL
def BV(z:Bool)(n:Nat)(f:Nat→Int):P1×Int:=match z with
 | true=>(EJ,200)
 | false=>J_ n f
def kW(z:Bool)(n:Nat)(f:Nat→Int):P2×Int:=match z with
 | true=>(iX,200)
 | false=>r8 n f
theorem zoa:cV T0 7 [⟨false,[.v (.slice none 0 0)]⟩,wT] [] [] (hfX [(28,true)])=some (gg.sv (EJ,200),[((0:Nat):Int)≠IntKind.i64.wrap (48*1)↔true=true]):=by kernel_rfl
theorem zn4:cV T0 8 [⟨false,[.v (.slice none 0 0)]⟩,wT] [] [] (hfX [(28,true)])=some (fr.sv (iX,200),[((0:Nat):Int)≠IntKind.i64.wrap (48*2)↔true=true]):=by kernel_rfl
theorem Mn:ay rho0 [⟨false,[.v (.slice none 0 0)]⟩,wT]=some [.slice none 0 0,.bool true]:=by
 have e1:AV.val rho0 ⟨false,[.v (.slice none 0 0)]⟩=some (.slice none 0 0):=AV.val_v (ρ:=rho0) (x:=.slice none 0 0) rfl
 have e2:AV.val rho0 wT=some (.bool true):=jP rho0 true
 simp only [ay,e1,e2]
inductive ByAt (w:World):Bool→Nat→(Nat→Int)→Value→Prop where
 | nil {f:Nat→Int}:ByAt w true 0 f (.slice none 0 0)
 | pt {b o c n:Nat} {f:Nat→Int} (hc:n≤c) (hb:bOk n f) (hs:Stands w b o (gvals .u8 n f)):ByAt w false n f (.slice (some ⟨b,o,none⟩) n c)
theorem zn3{w:World}{z:Bool}{n:Nat}{f:Nat→Int}{v:Value}(h:ByAt w z n f v):cX Tryz.prog 7 #[v,.bool true] (gg.vl (BV z n f)) w:=by
 cases h with
 | nil=>exact ae pk zoa (aa (bD (by decide)) ad) (fU (w:=w)).1 (fU (w:=w)).2 Mn (bL gg _)
 | pt hc hb hs=>exact FJ hc hb hs
theorem zn2{w:World}{z:Bool}{n:Nat}{f:Nat→Int}{v:Value}(h:ByAt w z n f v):cX Tryz.prog 8 #[v,.bool true] (fr.vl (kW z n f)) w:=by
 cases h with
 | nil=>exact ae pk zn4 (aa (bD (by decide)) ad) (fU (w:=w)).1 (fU (w:=w)).2 Mn (bL fr _)
 | pt hc hb hs=>exact FI hc hb hs
def tn(m:St):AV→Option (Bool×Nat×(Nat→Int)×List Prop)
 | ⟨false,[.v (.slice none 0 0)]⟩=>some (true,0,fun _=>0,[])
 | ⟨false,[.s id off n c]⟩=>match iJ m id off n with
  | some (_,f,ob)=>some (false,n,f,(n≤c)::bOk n f::ob)
  | none=>none
 | _=>none
theorem lN{ρ:Rho}{m:St}{w:World}(hM:Mem ρ m w){x:AV}{z:Bool}{n:Nat}{f:Nat→Int}{ob:List Prop}(h:tn m x=some (z,n,f,ob))(ax:∀ p∈ob,p){v:Value}(hv:AV.val ρ x=some v):ByAt w z n f v:=by
 unfold tn at h
 split at h
 ·cases h
  rw [iE hv];exact .nil
 ·split at h
  ·rename_i k' f' jW hb
   cases h
   obtain ⟨q,hq,rfl⟩:=aY hv
   obtain ⟨_,hs⟩:=eW hM hb (fun p hp=>ax p (aaa _ (aaa _ hp))) hq
   exact .pt (ax _ aac) (ax _ (aaa _ aac)) hs
  ·cases h
 ·cases h
def Ud{R:Type}(r:Rs R)(f:FuncId)(g:Bool→Nat→(Nat→Int)→R)(D:R):CallT:=fun f' args m _=>match f'==f with
 | true=>match args with
  | [x,⟨false,[.v (.bool true)]⟩]=>match tn m x with
   | some (z,n,h,ob)=>some { val:=r.sv D,wr:=[],news:=[],ob:=(g z n h=D)::ob }
   | none=>none
  | _=>none
 | false=>none
theorem L8{R:Type}{r:Rs R}{f:FuncId}{g:Bool→Nat→(Nat→Int)→R}{D:R}(hf:∀ args w,(callFunc f args).run Tryz.prog w = .ok (.enter f args) w)(h:∀ w z n b v,ByAt w z n b v→cX Tryz.prog f #[v,.bool true] (r.vl (g z n b)) w):ag Tryz.prog (Ud r f g D):=by
 intro f' args m nid out af ax ρ w vs hv hM df
 unfold Ud at af
 split at af
 ·rename_i hf'
  rw [beq_iff_eq] at hf'
  subst hf'
  split at af
  ·rename_i x
   split at af
   ·rename_i z n b ob hb
    cases af
    obtain ⟨v1,us,h1,h2,rfl⟩:=aj hv
    obtain ⟨v2,ov,h3,h4,rfl⟩:=aj h2
    cases h4
    rw [show AV.val ρ ⟨false,[.v (.bool true)]⟩=some (.bool true) from AV.val_v (ρ:=ρ) (x:=.bool true) rfl] at h3
    cases h3
    have hD:g z n b=D:=ax _ aac
    have hB:=lN hM hb (fun p hp=>ax p (aaa _ hp)) h1
    refine .inr ⟨hf _ _,(h w z n b v1 hB).mono ?_⟩
    rintro e w' ⟨rfl,hB⟩
    rw [hD]
    exact ⟨_,rfl,ρ,Ext.of_below hB,r.val ρ _,hM.of_below hB⟩
   ·cases af
  ·cases af
 ·cases af
def d1T(D:P1×Int):CallT:=Ud gg 7 BV D
theorem zhC(D:P1×Int):ag Tryz.prog (d1T D):=L8 (fun args w=>(aB _ (match fJ 7 with | some d=>d | none=>⟨.skip,[],0⟩) (by kernel_rfl)).enter _ _) fun w z n b v h=>zn3 h
def d2T(D:P2×Int):CallT:=Ud fr 8 kW D
theorem zhB(D:P2×Int):ag Tryz.prog (d2T D):=L8 (fun args w=>(aB _ (match fJ 8 with | some d=>d | none=>⟨.skip,[],0⟩) (by kernel_rfl)).enter _ _) fun w z n b v h=>zn2 h
end Sh
end Go.Proofs.YtcafpgpahbplaaaGreat
