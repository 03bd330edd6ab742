/-
 The proof, part 8 of 25.
-/
import Derived.Test.YtcafpgpahbplaaaGreatZ01
import Derived.Test.YtcafpgpahbplaaaGreatZ07
import Derived.Test.YtcafpgpahbplaaaGreatSay
import Derived.ChangeSlices
open Classical renaming propDecidable->acB
open Go renaming FuncId->aaz
open Int renaming toNat_natCast->aam
open List renaming append_assoc->acs,forall_mem_cons->aab,mem_cons->aae,mem_cons_of_mem->aaa,mem_cons_self->aac,mem_singleton->aao,not_mem_nil->aad
noncomputable section
set_option linter.unusedVariables false
set_option linter.unusedSimpArgs false
namespace Go.Alg
abbrev v0:Ex:=.v 0
abbrev v1:Ex:=.v 1
abbrev v2:Ex:=.v 2
abbrev v3:Ex:=.v 3
abbrev v4:Ex:=.v 4
abbrev v5:Ex:=.v 5
abbrev v6:Ex:=.v 6
abbrev v7:Ex:=.v 7
abbrev v8:Ex:=.v 8
abbrev v9:Ex:=.v 9
section
variable {R:Type}[CRing R](ρ:Nat→R)
theorem fN(a b c l r:Ex)(h:l.den ρ=r.den ρ)(hd:eqP a.nf (b+c*(l-r)).nf=true):a.den ρ=b.den ρ:=by
 rw [ak ρ a (b+c*(l-r)) hd]
 show b.den ρ+c.den ρ*(l.den ρ-r.den ρ)=b.den ρ
 rw [h,cL,aq,add_zero]
theorem zb(a b c l r c' l' r':Ex)(h:l.den ρ=r.den ρ)(h':l'.den ρ=r'.den ρ)(hd:eqP a.nf (b+c*(l-r)+c'*(l'-r')).nf=true):a.den ρ=b.den ρ:=by
 rw [ak ρ a (b+c*(l-r)+c'*(l'-r')) hd]
 show b.den ρ+c.den ρ*(l.den ρ-r.den ρ)+c'.den ρ*(l'.den ρ-r'.den ρ)=b.den ρ
 rw [h,h',cL,cL,aq,aq,add_zero,add_zero]
theorem Jl(a b c l r c' l' r' c'' l'' r'':Ex)(h:l.den ρ=r.den ρ)(h':l'.den ρ=r'.den ρ)(h'':l''.den ρ=r''.den ρ)(hd:eqP a.nf (b+c*(l-r)+c'*(l'-r')+c''*(l''-r'')).nf=true):a.den ρ=b.den ρ:=by
 rw [ak ρ a (b+c*(l-r)+c'*(l'-r')+c''*(l''-r'')) hd]
 show b.den ρ+c.den ρ*(l.den ρ-r.den ρ)+c'.den ρ*(l'.den ρ-r'.den ρ)+c''.den ρ*(l''.den ρ-r''.den ρ)=b.den ρ
 rw [h,h',h'',cL,cL,cL,aq,aq,aq,add_zero,add_zero,add_zero]
end
inductive Pt (K:Type) where
 | inf
 | aff (x y:K)
section
variable {K:Type}[CRing K]
def Pt.neg:Pt K→Pt K
 | .inf=>.inf
 | .aff x y=>.aff x (-y)
def sumBy(l x1 y1 x2:K):Pt K:=.aff (l*l-x1-x2) (l*(x1-(l*l-x1-x2))-y1)
open Classical in
def padd:Pt K→Pt K→Pt K
 | .inf,q=>q
 | .aff x y,.inf=>.aff x y
 | .aff x1 y1,.aff x2 y2=>
  if x1=x2 then (if y1≠y2∨y1=0 then .inf else sumBy ((x1*x1+x1*x1+x1*x1)*inv (y1+y1)) x1 y1 x2)
  else sumBy ((y2-y1)*inv (x2-x1)) x1 y1 x2
def On(b:K):Pt K→Prop
 | .inf=>True
 | .aff x y=>y*y=x*x*x+b
structure Ln(b x1 y1 x2 y2 l:K):Prop where
 on:y1*y1=x1*x1*x1+b
 h1:y2=y1+l*(x2-x1)
 e1:l*(y1+y2)=x2*x2+x1*x2+x1*x1
open Classical in
theorem eI(x1 y1 x2 y2:K):padd (.aff x1 y1) (.aff x2 y2)=if x1=x2 then (if y1≠y2∨y1=0 then .inf else sumBy ((x1*x1+x1*x1+x1*x1)*inv (y1+y1)) x1 y1 x2)
  else sumBy ((y2-y1)*inv (x2-x1)) x1 y1 x2:=rfl
theorem b6(p:Pt K):padd .inf p=p:=by cases p<;>rfl
theorem dq(p:Pt K):padd p .inf=p:=by cases p<;>rfl
theorem db{b:K}{p:Pt K}(h:On b p):On b p.neg:=by
 cases p with
 | inf=>trivial
 | aff x y=>
  have h:y*y=x*x*x+b:=h
  show -y*-y=x*x*x+b
  rw [gk,lM,bm];exact h
theorem lm(p:Pt K):p.neg.neg=p:=by
 cases p with
 | inf=>rfl
 | aff x y=>show Pt.aff x (- -y)=_;rw [bm]
end
class Cv(K:Type)[CRing K][IsField K](b:K):Prop where
 two:(1:K)+1≠0
 three:(1:K)+1+1≠0
 bne:b≠0
section
variable {K:Type}[CRing K]{b:K}
theorem sub_ne{x y:K}(h:x≠y):y-x≠0:=fun e=>h (ct.1 e).symm
end
section
variable {K:Type}[CRing K]{b:K}
theorem m5{x y:K}(h:x-y=0):x=y:=ct.1 h
end
section
variable {K:Type}[CRing K][IsField K]{b:K}
theorem zA(C:Cv K b){y:K}(h:y≠0):y+y≠0:=by
 intro e
 have:(1+1)*y=0:=by rw [mL,aP];exact e
 rcases cc.1 this with h2|h2
 ·exact C.two h2
 ·exact h h2
theorem zg8(C:Cv K b){y:K}(h:y+y=0):y=0:=by
 by_cases hy:y=0
 ·exact hy
 ·exact absurd h (zA C hy)
theorem kg(C:Cv K b){y:K}(h:y=-y):y=0:=by
 refine zg8 C ?_
 have:y+y=-y+y:=congrArg (· + y) h
 rw [this,BG]
theorem yx{x1 y1 x2 y2:K}(h1:y1*y1=x1*x1*x1+b)(h2:y2*y2=x2*x2*x2+b)(hx:x1=x2):y2=y1∨y2=-y1:=by
 subst hx
 have:(y2-y1)*(y2+y1)=0:=by
  have:=zb (aZ [x1,y1,y2,b]) ((v2-v1)*(v2+v1)) 0 1 (v2*v2) (v0*v0*v0+v3) (-1) (v1*v1) (v0*v0*v0+v3) h2 h1 (by decide +kernel)
  exact this
 rcases cc.1 this with h|h
 ·exact .inl (ct.1 h)
 ·exact .inr (iF (by rw [add_comm];exact h))
theorem kH(C:Cv K b){x1 y1 x2 y2:K}(h1:y1*y1=x1*x1*x1+b)(h2:y2*y2=x2*x2*x2+b)(hn:¬(x1=x2∧y2=-y1)):∃ l,Ln b x1 y1 x2 y2 l:=by
 by_cases hx:x1=x2
 ·rcases yx h1 h2 hx with hy|hy
  ·subst hx;subst hy
   have Vh:y2≠0:=fun e=>hn ⟨rfl,by rw [e,a_]⟩
   refine ⟨(x1*x1+x1*x1+x1*x1)*inv (y2+y2),h1,?_,?_⟩
   ·rw [cL,aq,add_zero]
   ·rw [mul_assoc,mul_comm (inv _),bs (zA C Vh),mul_one]
  ·exact absurd ⟨hx,hy⟩ hn
 ·have hd:=sub_ne hx
  have hi:=bs hd
  refine ⟨(y2-y1)*inv (x2-x1),h1,?_,?_⟩
  ·exact fN (aZ [x1,y1,x2,y2,inv (x2-x1)]) (v3) (v1+(v3-v1)*v4*(v2-v0)) (-(v3-v1)) ((v2-v0)*v4) 1 hi (by decide +kernel)
  ·refine ch hd ?_
   exact Jl (aZ [x1,y1,x2,y2,inv (x2-x1),b]) ((v2-v0)*((v3-v1)*v4*(v1+v3))) ((v2-v0)*(v2*v2+v0*v2+v0*v0)) ((v3-v1)*(v1+v3)) ((v2-v0)*v4) 1 1 (v3*v3) (v2*v2*v2+v5) (-1) (v1*v1) (v0*v0*v0+v5) hi h2 h1 (by decide +kernel)
theorem dm(C:Cv K b){x1 y1 x2 y2 l:K}(h:Ln b x1 y1 x2 y2 l)(hn:¬(x1=x2∧y2=-y1)):padd (.aff x1 y1) (.aff x2 y2)=sumBy l x1 y1 x2:=by
 rw [eI]
 by_cases hx:x1=x2
 ·subst hx
  have hy:y2=y1:=by rw [h.h1,cL,aq,add_zero]
  subst hy
  have Vh:y2≠0:=fun e=>hn ⟨rfl,by rw [e,a_]⟩
  rw [if_pos rfl,if_neg (by rintro (e | e)<;>contradiction)]
  congr 1
  have hd:=zA C Vh
  refine ch hd ?_
  rw [mul_comm _ (inv _),←mul_assoc,bs hd,aP,mul_comm (y2+y2) l,h.e1]
 ·rw [if_neg hx]
  congr 1
  have hd:=sub_ne hx
  refine ch hd ?_
  rw [mul_comm _ (inv _),←mul_assoc,bs hd,aP]
  exact fN (aZ [x1,y1,x2,y2,l]) (v3-v1) ((v2-v0)*v4) 1 v3 (v1+v4*(v2-v0)) h.h1 (by decide +kernel)
theorem dT(x y:K)(C:Cv K b):padd (.aff x y) (.aff x (-y)) = .inf:=by
 rw [eI]
 rw [if_pos rfl]
 by_cases h:y=-y
 ·rw [if_pos (.inr (kg C h))]
 ·rw [if_pos (.inl h)]
theorem dZ(C:Cv K b)(p:Pt K):padd p p.neg = .inf:=by
 cases p with
 | inf=>rfl
 | aff x y=>exact dT x y C
end
section
variable {K:Type}[CRing K]{b:K}
theorem Ln.symm{x1 y1 x2 y2 l:K}(h:Ln b x1 y1 x2 y2 l):Ln b x2 y2 x1 y1 l:=by
 refine ⟨?_,?_,?_⟩
 ·exact Jl (aZ [x1,y1,x2,y2,l,b]) (v3*v3) (v2*v2*v2+v5) 1 (v1*v1) (v0*v0*v0+v5) (v2-v0) (v4*(v1+v3)) (v2*v2+v0*v2+v0*v0) (v3+v1) v3 (v1+v4*(v2-v0)) h.on h.e1 h.h1 (by decide +kernel)
 ·exact fN (aZ [x1,y1,x2,y2,l,b]) v1 (v3+v4*(v0-v2)) (-1) v3 (v1+v4*(v2-v0)) h.h1 (by decide +kernel)
 ·exact fN (aZ [x1,y1,x2,y2,l,b]) (v4*(v3+v1)) (v0*v0+v2*v0+v2*v2) 1 (v4*(v1+v3)) (v2*v2+v0*v2+v0*v0) h.e1 (by decide +kernel)
end
section
variable {K:Type}[CRing K]{b:K}
theorem ua{x1 y1 x2 y2 l:K}(h:Ln b x1 y1 x2 y2 l):sumBy l x2 y2 x1=sumBy l x1 y1 x2:=by
 unfold sumBy
 have hx:l*l-x2-x1=l*l-x1-x2:=ak (aZ [x1,x2,l]) (v2*v2-v1-v0) (v2*v2-v0-v1) (by decide +kernel)
 rw [hx]
 congr 1
 exact fN (aZ [x1,y1,x2,y2,l]) (v4*(v2-(v4*v4-v0-v2))-v3) (v4*(v0-(v4*v4-v0-v2))-v1) (-1) v3 (v1+v4*(v2-v0)) h.h1 (by decide +kernel)
end
section
variable {K:Type}[CRing K][IsField K]{b:K}
theorem bI(C:Cv K b){p q:Pt K}(hp:On b p)(hq:On b q):padd p q=padd q p:=by
 cases p with
 | inf=>rw [b6,dq]
 | aff x1 y1=>cases q with
  | inf=>rw [b6,dq]
  | aff x2 y2=>
   by_cases hn:x1=x2∧y2=-y1
   ·obtain ⟨rfl,rfl⟩:=hn
    have:=dT x1 (-y1) C
    rw [bm] at this
    rw [dT x1 y1 C,this]
   ·obtain ⟨l,hl⟩:=kH C hp hq hn
    have hn':¬(x2=x1∧y1=-y2):=fun e=>hn ⟨e.1.symm,by rw [e.2,bm]⟩
    rw [dm C hl hn,dm C hl.symm hn',ua hl]
end
section
variable {K:Type}[CRing K]{b:K}
theorem Ln.third{x1 y1 x2 y2 l:K}(h:Ln b x1 y1 x2 y2 l):On b (sumBy l x1 y1 x2):=by
 show (l*(x1-(l*l-x1-x2))-y1)*(l*(x1-(l*l-x1-x2))-y1)=(l*l-x1-x2)*(l*l-x1-x2)*(l*l-x1-x2)+b
 have e2:l*(y1+(y1+l*(x2-x1)))=x2*x2+x1*x2+x1*x1:=by rw [←h.h1];exact h.e1
 exact zb (aZ [x1,y1,x2,l,b]) ((v3*(v0-(v3*v3-v0-v2))-v1)*(v3*(v0-(v3*v3-v0-v2))-v1)) ((v3*v3-v0-v2)*(v3*v3-v0-v2)*(v3*v3-v0-v2)+v4) 1 (v1*v1) (v0*v0*v0+v4) ((v3*v3-v0-v2)-v0) (v3*(v1+(v1+v3*(v2-v0)))) (v2*v2+v0*v2+v0*v0) h.on e2 (by decide +kernel)
end
section
variable {K:Type}[CRing K][IsField K]{b:K}
theorem fL(C:Cv K b){p q:Pt K}(hp:On b p)(hq:On b q):On b (padd p q):=by
 cases p with
 | inf=>rw [b6];exact hq
 | aff x1 y1=>cases q with
  | inf=>rw [dq];exact hp
  | aff x2 y2=>
   by_cases hn:x1=x2∧y2=-y1
   ·obtain ⟨rfl,rfl⟩:=hn
    rw [dT x1 y1 C];trivial
   ·obtain ⟨l,hl⟩:=kH C hp hq hn
    rw [dm C hl hn];exact hl.third
end
section
variable {K:Type}[CRing K]{b:K}
theorem Ln.back{x1 y1 x2 y2 l:K}(h:Ln b x1 y1 x2 y2 l):Ln b (l*l-x1-x2) (l*(x1-(l*l-x1-x2))-y1) x2 (-y2) (-l):=by
 refine ⟨h.third,?_,?_⟩
 ·exact fN (aZ [x1,y1,x2,y2,l]) (-v3) ((v4*(v0-(v4*v4-v0-v2))-v1)+-v4*(v2-(v4*v4-v0-v2))) (-1) v3 (v1+v4*(v2-v0)) h.h1 (by decide +kernel)
 ·exact zb (aZ [x1,y1,x2,y2,l]) (-v4*((v4*(v0-(v4*v4-v0-v2))-v1)+-v3)) (v2*v2+(v4*v4-v0-v2)*v2+(v4*v4-v0-v2)*(v4*v4-v0-v2)) 1 (v4*(v1+v3)) (v2*v2+v0*v2+v0*v0) 0 v3 (v1+v4*(v2-v0)) h.e1 h.h1 (by decide +kernel)
end
section
variable {K:Type}[CRing K][IsField K]{b:K}
theorem ka(C:Cv K b){p q:Pt K}(hp:On b p)(hq:On b q):padd (padd p q) q.neg=p:=by
 cases p with
 | inf=>rw [b6];exact dZ C q
 | aff x1 y1=>cases q with
  | inf=>rw [dq];exact dq _
  | aff x2 y2=>
   by_cases hn:x1=x2∧y2=-y1
   ·obtain ⟨rfl,rfl⟩:=hn
    rw [dT x1 y1 C,b6]
    show Pt.aff x1 (- -y1)=_
    rw [bm]
   ·obtain ⟨l,hl⟩:=kH C hp hq hn
    rw [dm C hl hn]
    have hb:=hl.back
    have hn2:¬(l*l-x1-x2=x2∧-y2=-(l*(x1-(l*l-x1-x2))-y1)):=by
     rintro ⟨e1,e2⟩
     have hy:l*(x1-(l*l-x1-x2))-y1=y2:=by rw [←bm (l*(x1-(l*l-x1-x2))-y1),←e2,bm]
     have hh:=hb.h1
     have he:=hb.e1
     rw [hy,e1] at hh he
     rw [cL,aq,add_zero] at hh
     have Vh:y2=0:=kg C hh.symm
     rw [Vh,a_,add_zero,aq] at he
     have h3:(1+1+1)*(x2*x2)=0:=fN (aZ [x2]) ((1+1+1)*(v0*v0)) 0 (-1) 0 (v0*v0+v0*v0+v0*v0) he (by decide +kernel)
     rcases cc.1 h3 with h3|h3
     ·exact C.three h3
     ·have hx:x2=0:=iv h3
      have hq:y2*y2=x2*x2*x2+b:=hq
      rw [hx,Vh,aS,aS,bG] at hq
      exact C.bne hq.symm
    show padd (.aff _ _) (.aff x2 (-y2))=_
    rw [dm C hb hn2]
    unfold sumBy
    congr 1
    ·exact ak (aZ [x1,x2,l]) (-v2*-v2-(v2*v2-v0-v1)-v1) v0 (by decide +kernel)
    ·exact ak (aZ [x1,y1,x2,l]) (-v3*((v3*v3-v0-v2)-(-v3*-v3-(v3*v3-v0-v2)-v2))-(v3*(v0-(v3*v3-v0-v2))-v1)) v1 (by decide +kernel)
theorem Ln.next{x1 y1 x2 y2 x3 y3 l m a:K}(h:Ln b x1 y1 x2 y2 l)(k:Ln b x2 y2 x3 y3 m)(hx:x1≠x3)(ha:a*(x3-x1)=m-l):
  a*(y3+(y1+l*(x3-x1)))=x3-(l*l-x1-x2):=by
 refine ch (sub_ne hx) ?_
 have e1:=h.h1
 have e2:=k.h1
 have hk:=k.e1
 rw [e2] at hk
 have hh:=h.e1
 rw [e2]
 have e3:y1=y2+l*(x1-x2):=h.symm.h1
 rw [e3] at hh ⊢
 exact Jl (aZ [x1,x2,y2,x3,l,m,a]) ((v3-v0)*(v6*((v2+v5*(v3-v1))+((v2+v4*(v0-v1))+v4*(v3-v0))))) ((v3-v0)*(v3-(v4*v4-v0-v1)))
  ((v2+v5*(v3-v1))+((v2+v4*(v0-v1))+v4*(v3-v0))) (v6*(v3-v0)) (v5-v4) 1 (v5*(v2+(v2+v5*(v3-v1)))) (v3*v3+v1*v3+v1*v1) (-1) (v4*((v2+v4*(v0-v1))+v2)) (v1*v1+v0*v1+v0*v0) ha hk hh (by decide +kernel)
theorem Ln.next2{x1 y1 x2 y2 x3 y3 l m a:K}(h:Ln b x1 y1 x2 y2 l)(k:Ln b x2 y2 x3 y3 m)(hx:x1≠x3)(ha:a*(x3-x1)=m-l)
  (hS:¬(l*l-x1-x2=x3∧y3=-(l*(x1-(l*l-x1-x2))-y1))):a≠0∧Ln b (l*l-x1-x2) (l*(x1-(l*l-x1-x2))-y1) x3 y3 (inv a-l):=by
 have st:=h.next k hx ha
 have a0:a≠0:=by
  intro e
  apply hS
  rw [e,aS] at st ha
  have e1:x3=l*l-x1-x2:=ct.1 st.symm
  have e2:m=l:=ct.1 ha.symm
  refine ⟨e1.symm,?_⟩
  rw [←e1,k.h1,e2,h.h1]
  exact ak (aZ [x1,y1,x2,x3,l]) (v1+v4*(v2-v0)+v4*(v3-v2)) (-(v4*(v0-v3)-v1)) (by decide +kernel)
 refine ⟨a0,?_⟩
 have hi:=bs a0
 generalize inv a=i at hi ⊢
 have r1:y3+(y1+l*(x3-x1))=i*(x3-(l*l-x1-x2)):=by
  rw [←st]
  exact fN (aZ [a,i,y3+(y1+l*(x3-x1))]) v2 (v1*(v0*v2)) (-v2) (v0*v1) 1 hi (by decide +kernel)
 have hS3:On b (sumBy l x1 y1 x2):=h.third
 have hS3:(l*(x1-(l*l-x1-x2))-y1)*(l*(x1-(l*l-x1-x2))-y1)=(l*l-x1-x2)*(l*l-x1-x2)*(l*l-x1-x2)+b:=hS3
 have h3:y3=(l*(x1-(l*l-x1-x2))-y1)+(i-l)*(x3-(l*l-x1-x2)):=
  fN (aZ [x1,y1,x3,y3,l,i,l*l-x1-x2]) v3 ((v4*(v0-v6)-v1)+(v5-v4)*(v2-v6)) 1 (v3+(v1+v4*(v2-v0))) (v5*(v2-v6)) r1 (by decide +kernel)
 refine ⟨hS3,h3,?_⟩
 have hC:=k.symm.on
 by_cases hxs:l*l-x1-x2=x3
 ·have hy:y3=l*(x1-x3)-y1:=by
   rw [hxs,cL,aq,add_zero] at h3;exact h3
  rw [hxs,←hy]
  have hh:=h.e1
  have k1:y3+y3=a*(x3-x1)*(x3-x2):=by
   have e1:=h.h1
   have e2:=k.h1
   have:y3+y3=y3-(y1+l*(x3-x1)):=fN (aZ [x1,y1,x3,y3,l]) (v3+v3) (v3-(v1+v4*(v2-v0))) 1 v3 (v4*(v0-v2)-v1) hy (by decide +kernel)
   rw [this,ha,e2,e1]
   exact ak (aZ [x1,y1,x2,x3,l,m]) (v1+v4*(v2-v0)+v5*(v3-v2)-(v1+v4*(v3-v0))) ((v5-v4)*(v3-v2)) (by decide +kernel)
  have k2:x3*x3+x3*x3+x3*x3+(y3+y3)*l=(x3-x1)*(x3-x2):=by
   rw [h.h1] at hh
   have ey:y1=-y3-l*(x3-x1):=fN (aZ [x1,y1,x3,y3,l]) v1 (-v3-v4*(v2-v0)) 1 v3 (v4*(v0-v2)-v1) hy (by decide +kernel)
   rw [ey] at hh
   exact zb (aZ [x1,x2,x3,y3,l]) (v2*v2+v2*v2+v2*v2+(v3+v3)*v4) ((v2-v0)*(v2-v1)) (-1) (v4*((-v3-v4*(v2-v0))+((-v3-v4*(v2-v0))+v4*(v1-v0)))) (v1*v1+v0*v1+v0*v0)
    (-(v2+v2-v0-v1)) (v4*v4-v0-v1) v2 hh hxs (by decide +kernel)
  refine ch a0 ?_
  exact Jl (aZ [x1,x2,x3,y3,l,a,i]) (v5*((v6-v4)*(v3+v3))) (v5*(v2*v2+v2*v2+v2*v2)) (v3+v3) (v5*v6) 1 1 (v3+v3) (v5*(v2-v0)*(v2-v1)) (-v5) (v2*v2+v2*v2+v2*v2+(v3+v3)*v4) ((v2-v0)*(v2-v1)) hi k1 k2 (by decide +kernel)
 ·generalize l*(x1-(l*l-x1-x2))-y1=ys at *
  generalize l*l-x1-x2=xs at *
  refine ch (sub_ne hxs) ?_
  exact Jl (aZ [xs,ys,x3,y3,i-l,b]) ((v2-v0)*(v4*(v1+v3))) ((v2-v0)*(v2*v2+v0*v2+v0*v0)) (-(v1+v3)) v3 (v1+v4*(v2-v0)) 1 (v3*v3) (v2*v2*v2+v5) (-1) (v1*v1) (v0*v0*v0+v5) h3 hC hS3 (by decide +kernel)
end
section
variable {K:Type}[CRing K]{b:K}
theorem pX{x1 y1 x2 y2:K}:(Pt.aff x2 y2=(Pt.aff x1 y1).neg)↔(x1=x2∧y2=-y1):=by
 constructor
 ·intro h
  injection h with e1 e2
  exact ⟨e1.symm,e2⟩
 ·rintro ⟨rfl,rfl⟩;rfl
end
section
variable {K:Type}[CRing K][IsField K]{b:K}
theorem pD(C:Cv K b){p q:Pt K}(hp:On b p)(hq:On b q):padd (padd p q.neg) q=p:=by
 have:=ka C hp (db hq)
 rwa [lm] at this
theorem pY(C:Cv K b){p q:Pt K}(hp:On b p)(hq:On b q):(padd p q).neg=padd p.neg q.neg:=by
 cases p with
 | inf=>rw [b6];exact (b6 _).symm
 | aff x1 y1=>cases q with
  | inf=>rw [dq];exact (dq _).symm
  | aff x2 y2=>
   by_cases hn:x1=x2∧y2=-y1
   ·obtain ⟨rfl,rfl⟩:=hn
    rw [dT x1 y1 C]
    have:=dT x1 (-y1) C
    exact this.symm
   ·obtain ⟨l,hl⟩:=kH C hp hq hn
    rw [dm C hl hn]
    have l6:Ln b x1 (-y1) x2 (-y2) (-l):=by
     refine ⟨db (p:=.aff x1 y1) hp,?_,?_⟩
     ·exact fN (aZ [x1,y1,x2,y2,l]) (-v3) (-v1+-v4*(v2-v0)) (-1) v3 (v1+v4*(v2-v0)) hl.h1 (by decide +kernel)
     ·exact fN (aZ [x1,y1,x2,y2,l]) (-v4*(-v1+-v3)) (v2*v2+v0*v2+v0*v0) 1 (v4*(v1+v3)) (v2*v2+v0*v2+v0*v0) hl.e1 (by decide +kernel)
    have hn':¬(x1=x2∧-y2=- -y1):=fun e=>hn ⟨e.1,by rw [←bm y2,e.2,bm]⟩
    show _=padd (.aff x1 (-y1)) (.aff x2 (-y2))
    rw [dm C l6 hn']
    unfold sumBy
    show Pt.aff _ _=Pt.aff _ _
    congr 1
    ·exact ak (aZ [x1,x2,l]) (v2*v2-v0-v1) (-v2*-v2-v0-v1) (by decide +kernel)
    ·exact ak (aZ [x1,y1,x2,l]) (-(v3*(v0-(v3*v3-v0-v2))-v1)) (-v3*(v0-(-v3*-v3-v0-v2)) - -v1) (by decide +kernel)
theorem ep(C:Cv K b){p q r:Pt K}(hp:On b p)(hq:On b q)(hr:On b r):padd (padd p q) r=padd p (padd q r):=by
 cases p with
 | inf=>rw [b6,b6]
 | aff x1 y1=>cases q with
  | inf=>rw [b6,dq]
  | aff x2 y2=>cases r with
   | inf=>rw [dq,dq]
   | aff x3 y3=>
    by_cases n1:Pt.aff x2 y2=(Pt.aff x1 y1).neg
    ·rw [n1,dZ C,b6,bI C (db hp) hr,bI C hp (fL C hr (db hp)),pD C hr hp]
    by_cases n2:Pt.aff x3 y3=(Pt.aff x2 y2).neg
    ·rw [n2,dZ C,dq,ka C hp hq]
    by_cases n3:Pt.aff x3 y3=(padd (.aff x1 y1) (.aff x2 y2)).neg
    ·have e:padd (Pt.aff x2 y2) (.aff x3 y3)=(Pt.aff x1 y1).neg:=by
      rw [n3,bI C hp hq,pY C hq hp,bI C hq (fL C (db hq) (db hp)),bI C (db hq) (db hp)]
      exact pD C (db hp) hq
     rw [e,n3,dZ C,dZ C]
    by_cases n4:Pt.aff x1 y1=(padd (.aff x2 y2) (.aff x3 y3)).neg
    ·have e:padd (Pt.aff x1 y1) (.aff x2 y2)=(Pt.aff x3 y3).neg:=by
      rw [n4,pY C hq hr,bI C (db hq) (db hr)]
      exact pD C (db hr) hq
     have e2:padd (Pt.aff x2 y2) (.aff x3 y3)=(Pt.aff x1 y1).neg:=by rw [n4,lm]
     rw [e,e2,dZ C,bI C (db hr) hr,dZ C]
    by_cases hx:x1=x3
    ·rcases yx hp hr hx with hy|hy
     ·subst hx;subst hy
      rw [bI C hp hq,bI C hp (fL C hq hp)]
     ·have e:Pt.aff x3 y3=(Pt.aff x1 y1).neg:=pX.2 ⟨hx,hy⟩
      rw [e,bI C hp hq,ka C hq hp,bI C hp (fL C hq (db hp)),pD C hq hp]
    ·obtain ⟨l,hl⟩:=kH C hp hq (fun e=>n1 (pX.2 e))
     obtain ⟨m,hm⟩:=kH C hq hr (fun e=>n2 (pX.2 e))
     have n1':=fun e=>n1 (pX.2 e)
     have n2':=fun e=>n2 (pX.2 e)
     rw [dm C hl n1'] at n3 ⊢
     rw [dm C hm n2'] at n4 ⊢
     have hd:inv (x3-x1)*(x3-x1)=1:=by rw [mul_comm];exact bs (sub_ne hx)
     have ha:(m-l)*inv (x3-x1)*(x3-x1)=m-l:=by rw [mul_assoc,hd,mul_one]
     generalize (m-l)*inv (x3-x1)=a at ha
     have hS:¬(l*l-x1-x2=x3∧y3=-(l*(x1-(l*l-x1-x2))-y1)):=fun e=>n3 (pX.2 e)
     obtain ⟨a0,L1⟩:=hl.next2 hm hx ha hS
     rw [←ua hm] at n4 ⊢
     have hD:¬(m*m-x3-x2=x1∧y1=-(m*(x3-(m*m-x3-x2))-y3)):=fun e=>n4 (pX.2 e)
     have ha':a*(x1-x3)=l-m:=fN (aZ [a,x1,x3,l,m]) (v0*(v1-v2)) (v3-v4) (-1) (v0*(v2-v1)) (v4-v3) ha (by decide +kernel)
     obtain ⟨_,L2⟩:=hm.symm.next2 hl.symm (fun e=>hx e.symm) ha' hD
     have hi:=bs a0
     have p1:padd (sumBy l x1 y1 x2) (.aff x3 y3)=sumBy (inv a-l) (l*l-x1-x2) (l*(x1-(l*l-x1-x2))-y1) x3:=dm C L1 hS
     have p2:padd (sumBy m x3 y3 x2) (.aff x1 y1)=sumBy (inv a-m) (m*m-x3-x2) (m*(x3-(m*m-x3-x2))-y3) x1:=dm C L2 hD
     rw [p1,bI C hp hm.symm.third,p2]
     have rel:inv a*(m-l)=x3-x1:=by
      rw [←ha]
      exact fN (aZ [a,inv a,x1,x3]) (v1*(v0*(v3-v2))) (v3-v2) (v3-v2) (v0*v1) 1 hi (by decide +kernel)
     have e3:y3=y1+l*(x2-x1)+m*(x3-x2):=by rw [←hl.h1,←hm.h1]
     generalize inv a=i at rel
     unfold sumBy
     rw [e3]
     congr 1
     ·exact fN (aZ [i,l,m,x1,x2,x3]) ((v0-v1)*(v0-v1)-(v1*v1-v3-v4)-v5) ((v0-v2)*(v0-v2)-(v2*v2-v5-v4)-v3) (1+1) (v0*(v2-v1)) (v5-v3) rel (by decide +kernel)
     ·exact fN (aZ [i,l,m,x1,x2,x3,y1])
       ((v0-v1)*((v1*v1-v3-v4)-((v0-v1)*(v0-v1)-(v1*v1-v3-v4)-v5))-(v1*(v3-(v1*v1-v3-v4))-v6))
       ((v0-v2)*((v2*v2-v5-v4)-((v0-v2)*(v0-v2)-(v2*v2-v5-v4)-v3))-(v2*(v5-(v2*v2-v5-v4))-(v6+v1*(v4-v3)+v2*(v5-v4))))
       (v1+v2-v0-v0-v0) (v0*(v2-v1)) (v5-v3) rel (by decide +kernel)
def smul:Nat→Pt K→Pt K
 | 0,_=>.inf
 | n+1,p=>padd (smul n p) p
theorem dN(C:Cv K b){p:Pt K}(hp:On b p)(n:Nat):On b (smul n p):=by
 induction n with
 | zero=>trivial
 | succ n ih=>exact fL C ih hp
theorem rA(C:Cv K b){p:Pt K}(hp:On b p)(m n:Nat):smul (m+n) p=padd (smul m p) (smul n p):=by
 induction n with
 | zero=>exact (dq _).symm
 | succ n ih=>
  show padd (smul (m+n) p) p=padd (smul m p) (padd (smul n p) p)
  rw [ih,ep C (dN C hp m) (dN C hp n) hp]
end
section
variable {K:Type}[CRing K]{b:K}
theorem jZ(n:Nat):smul n (.inf:Pt K) = .inf:=by
 induction n with
 | zero=>rfl
 | succ n ih=>show padd (smul n .inf) .inf=_;rw [ih];rfl
end
section
variable {K:Type}[CRing K]{b:K}
theorem eF(p:Pt K):smul 1 p=p:=b6 p
end
section
variable {K:Type}[CRing K][IsField K]{b:K}
theorem ji(C:Cv K b){p:Pt K}(hp:On b p)(m n:Nat):smul (m*n) p=smul m (smul n p):=by
 induction m with
 | zero=>rw [Nat.zero_mul];rfl
 | succ m ih=>rw [Nat.succ_mul,rA C hp,ih];rfl
theorem pJ(C:Cv K b){p q:Pt K}(hp:On b p)(hq:On b q)(n:Nat):smul n (padd p q)=padd (smul n p) (smul n q):=by
 induction n with
 | zero=>rfl
 | succ n ih=>
  show padd (smul n (padd p q)) (padd p q)=padd (padd (smul n p) p) (padd (smul n q) q)
  have h1:=dN C hp n
  have h2:=dN C hq n
  rw [ih,ep C h1 h2 (fL C hp hq),ep C h1 hp (fL C h2 hq),←ep C h2 hp hq,bI C h2 hp,ep C hp h2 hq]
theorem vG(C:Cv K b){p:Pt K}(hp:On b p)(n:Nat):smul n p.neg=(smul n p).neg:=by
 induction n with
 | zero=>rfl
 | succ n ih=>
  show padd (smul n p.neg) p.neg=(padd (smul n p) p).neg
  rw [ih,pY C (dN C hp n) hp]
theorem gb(C:Cv K b){p:Pt K}(hp:On b p)(n:Nat):smul (2*n) p=padd (smul n p) (smul n p):=by
 rw [Nat.two_mul,rA C hp]
structure Jc(K:Type) where
 x:K
 y:K
 z:K
def Fe(f:Jc K):Jc K:=⟨(((f.x*f.x)+(f.x*f.x)+(f.x*f.x))*((f.x*f.x)+(f.x*f.x)+(f.x*f.x))-((((f.x*(f.y*f.y))+(f.x*(f.y*f.y)))+((f.x*(f.y*f.y))+(f.x*(f.y*f.y))))+(((f.x*(f.y*f.y))+(f.x*(f.y*f.y)))+((f.x*(f.y*f.y))+(f.x*(f.y*f.y)))))),(((f.x*f.x)+(f.x*f.x)+(f.x*f.x))*((((f.x*(f.y*f.y))+(f.x*(f.y*f.y)))+((f.x*(f.y*f.y))+(f.x*(f.y*f.y))))-(((f.x*f.x)+(f.x*f.x)+(f.x*f.x))*((f.x*f.x)+(f.x*f.x)+(f.x*f.x))-((((f.x*(f.y*f.y))+(f.x*(f.y*f.y)))+((f.x*(f.y*f.y))+(f.x*(f.y*f.y))))+(((f.x*(f.y*f.y))+(f.x*(f.y*f.y)))+((f.x*(f.y*f.y))+(f.x*(f.y*f.y)))))))-(((((f.y*f.y)*(f.y*f.y))+((f.y*f.y)*(f.y*f.y)))+(((f.y*f.y)*(f.y*f.y))+((f.y*f.y)*(f.y*f.y))))+((((f.y*f.y)*(f.y*f.y))+((f.y*f.y)*(f.y*f.y)))+(((f.y*f.y)*(f.y*f.y))+((f.y*f.y)*(f.y*f.y)))))),((f.y*f.z)+(f.y*f.z))⟩
def U_(f:Jc K)(qx qy:K):Jc K:=⟨((qy*((f.z*f.z)*f.z)-f.y)*(qy*((f.z*f.z)*f.z)-f.y)-(((qx*(f.z*f.z)-f.x)*(qx*(f.z*f.z)-f.x))*(qx*(f.z*f.z)-f.x))-((f.x*((qx*(f.z*f.z)-f.x)*(qx*(f.z*f.z)-f.x)))+(f.x*((qx*(f.z*f.z)-f.x)*(qx*(f.z*f.z)-f.x))))),((qy*((f.z*f.z)*f.z)-f.y)*((f.x*((qx*(f.z*f.z)-f.x)*(qx*(f.z*f.z)-f.x)))-((qy*((f.z*f.z)*f.z)-f.y)*(qy*((f.z*f.z)*f.z)-f.y)-(((qx*(f.z*f.z)-f.x)*(qx*(f.z*f.z)-f.x))*(qx*(f.z*f.z)-f.x))-((f.x*((qx*(f.z*f.z)-f.x)*(qx*(f.z*f.z)-f.x)))+(f.x*((qx*(f.z*f.z)-f.x)*(qx*(f.z*f.z)-f.x))))))-f.y*(((qx*(f.z*f.z)-f.x)*(qx*(f.z*f.z)-f.x))*(qx*(f.z*f.z)-f.x))),(f.z*(qx*(f.z*f.z)-f.x))⟩
open Classical in
def w_(f:Jc K)(qx qy:K):Jc K:=
 if f.z=0 then ⟨qx,qy,1⟩
 else if qx*(f.z*f.z)-f.x=0 then (if qy*(f.z*f.z*f.z)-f.y=0 then Fe f else ⟨0,0,0⟩)
 else U_ f qx qy
def Wi(f:Jc K):Pt K→Prop
 | .inf=>f.z=0
 | .aff x y=>f.z≠0∧f.x=x*(f.z*f.z)∧f.y=y*(f.z*f.z*f.z)
open Classical in
def Po(f:Jc K):Pt K:=if f.z=0 then .inf else .aff (f.x*(inv f.z*inv f.z)) (f.y*(inv f.z*inv f.z*inv f.z))
theorem yF{f:Jc K}{p:Pt K}(h:Wi f p):Po f=p:=by
 unfold Po
 cases p with
 | inf=>exact if_pos h
 | aff x y=>
  obtain ⟨h1,h2,h3⟩:=h
  have hi:=bs h1
  rw [if_neg h1,h2,h3]
  congr 1
  ·exact fN (aZ [x,f.z,inv f.z]) (v0*(v1*v1)*(v2*v2)) v0 (v0*(v1*v2+1)) (v1*v2) 1 hi (by decide +kernel)
  ·exact fN (aZ [y,f.z,inv f.z]) (v0*(v1*v1*v1)*(v2*v2*v2)) v0 (v0*(v1*v2*(v1*v2)+v1*v2+1)) (v1*v2) 1 hi (by decide +kernel)
theorem pM(C:Cv K b){f:Jc K}{p:Pt K}(hp:On b p)(h:Wi f p):Wi (Fe f) (padd p p):=by
 cases p with
 | inf=>
  have h:f.z=0:=h
  show f.y*f.z+f.y*f.z=0
  rw [h,aq,add_zero]
 | aff x y=>
  obtain ⟨h1,h2,h3⟩:=h
  by_cases hy:y=0
  ·subst hy
   rw [eI,if_pos rfl,if_pos (.inr rfl)]
   show f.y*f.z+f.y*f.z=0
   rw [h3,aS,aS,add_zero]
  ·have hn:¬(x=x∧y=-y):=fun e=>hy (kg C e.2)
   obtain ⟨l,hl⟩:=kH C hp hp hn
   rw [dm C hl hn]
   have e1:l*(y+y)=x*x+x*x+x*x:=hl.e1
   obtain ⟨fx,fy,z⟩:=f
   dsimp only at h1 h2 h3
   subst h2;subst h3
   refine ⟨?_,?_,?_⟩
   ·show y*(z*z*z)*z+y*(z*z*z)*z≠0
    exact zA C (bo (bo hy (bo (bo h1 h1) h1)) h1)
   ·exact fN (aZ [x,y,z,l]) ((((v0*(v2*v2))*(v0*(v2*v2)))+((v0*(v2*v2))*(v0*(v2*v2)))+((v0*(v2*v2))*(v0*(v2*v2))))*(((v0*(v2*v2))*(v0*(v2*v2)))+((v0*(v2*v2))*(v0*(v2*v2)))+((v0*(v2*v2))*(v0*(v2*v2))))-(((((v0*(v2*v2))*((v1*(v2*v2*v2))*(v1*(v2*v2*v2))))+((v0*(v2*v2))*((v1*(v2*v2*v2))*(v1*(v2*v2*v2)))))+(((v0*(v2*v2))*((v1*(v2*v2*v2))*(v1*(v2*v2*v2))))+((v0*(v2*v2))*((v1*(v2*v2*v2))*(v1*(v2*v2*v2))))))+((((v0*(v2*v2))*((v1*(v2*v2*v2))*(v1*(v2*v2*v2))))+((v0*(v2*v2))*((v1*(v2*v2*v2))*(v1*(v2*v2*v2)))))+(((v0*(v2*v2))*((v1*(v2*v2*v2))*(v1*(v2*v2*v2))))+((v0*(v2*v2))*((v1*(v2*v2*v2))*(v1*(v2*v2*v2)))))))) ((v3*v3-v0-v0)*((((v1*(v2*v2*v2))*v2)+((v1*(v2*v2*v2))*v2))*(((v1*(v2*v2*v2))*v2)+((v1*(v2*v2*v2))*v2)))) (-((v2*v2*v2*v2*v2*v2*v2*v2)*((1+1+1)*((v0*v0))+(1+1)*(v1*v3)))) (v3*(v1+v1)) (v0*v0+v0*v0+v0*v0) e1 (by decide +kernel)
   ·exact fN (aZ [x,y,z,l]) ((((v0*(v2*v2))*(v0*(v2*v2)))+((v0*(v2*v2))*(v0*(v2*v2)))+((v0*(v2*v2))*(v0*(v2*v2))))*(((((v0*(v2*v2))*((v1*(v2*v2*v2))*(v1*(v2*v2*v2))))+((v0*(v2*v2))*((v1*(v2*v2*v2))*(v1*(v2*v2*v2)))))+(((v0*(v2*v2))*((v1*(v2*v2*v2))*(v1*(v2*v2*v2))))+((v0*(v2*v2))*((v1*(v2*v2*v2))*(v1*(v2*v2*v2))))))-((((v0*(v2*v2))*(v0*(v2*v2)))+((v0*(v2*v2))*(v0*(v2*v2)))+((v0*(v2*v2))*(v0*(v2*v2))))*(((v0*(v2*v2))*(v0*(v2*v2)))+((v0*(v2*v2))*(v0*(v2*v2)))+((v0*(v2*v2))*(v0*(v2*v2))))-(((((v0*(v2*v2))*((v1*(v2*v2*v2))*(v1*(v2*v2*v2))))+((v0*(v2*v2))*((v1*(v2*v2*v2))*(v1*(v2*v2*v2)))))+(((v0*(v2*v2))*((v1*(v2*v2*v2))*(v1*(v2*v2*v2))))+((v0*(v2*v2))*((v1*(v2*v2*v2))*(v1*(v2*v2*v2))))))+((((v0*(v2*v2))*((v1*(v2*v2*v2))*(v1*(v2*v2*v2))))+((v0*(v2*v2))*((v1*(v2*v2*v2))*(v1*(v2*v2*v2)))))+(((v0*(v2*v2))*((v1*(v2*v2*v2))*(v1*(v2*v2*v2))))+((v0*(v2*v2))*((v1*(v2*v2*v2))*(v1*(v2*v2*v2)))))))))-((((((v1*(v2*v2*v2))*(v1*(v2*v2*v2)))*((v1*(v2*v2*v2))*(v1*(v2*v2*v2))))+(((v1*(v2*v2*v2))*(v1*(v2*v2*v2)))*((v1*(v2*v2*v2))*(v1*(v2*v2*v2)))))+((((v1*(v2*v2*v2))*(v1*(v2*v2*v2)))*((v1*(v2*v2*v2))*(v1*(v2*v2*v2))))+(((v1*(v2*v2*v2))*(v1*(v2*v2*v2)))*((v1*(v2*v2*v2))*(v1*(v2*v2*v2))))))+(((((v1*(v2*v2*v2))*(v1*(v2*v2*v2)))*((v1*(v2*v2*v2))*(v1*(v2*v2*v2))))+(((v1*(v2*v2*v2))*(v1*(v2*v2*v2)))*((v1*(v2*v2*v2))*(v1*(v2*v2*v2)))))+((((v1*(v2*v2*v2))*(v1*(v2*v2*v2)))*((v1*(v2*v2*v2))*(v1*(v2*v2*v2))))+(((v1*(v2*v2*v2))*(v1*(v2*v2*v2)))*((v1*(v2*v2*v2))*(v1*(v2*v2*v2)))))))) ((v3*(v0-(v3*v3-v0-v0))-v1)*((((v1*(v2*v2*v2))*v2)+((v1*(v2*v2*v2))*v2))*(((v1*(v2*v2*v2))*v2)+((v1*(v2*v2*v2))*v2))*(((v1*(v2*v2*v2))*v2)+((v1*(v2*v2*v2))*v2)))) ((v2*v2*v2*v2*v2*v2*v2*v2*v2*v2*v2*v2)*((1+1+1+1+1+1+1+1+1)*((v0*v0*v0*v0))+-((1+1+1+1+1+1+1+1+1+1+1+1))*(v0*(v1*v1))+(1+1+1+1)*((v1*v1)*(v3*v3))+(1+1+1+1+1+1)*(v1*v3*(v0*v0)))) (v3*(v1+v1)) (v0*v0+v0*v0+v0*v0) e1 (by decide +kernel)
theorem IC(C:Cv K b){f:Jc K}{p:Pt K}{qx qy:K}(hp:On b p)(hq:On b (.aff qx qy))(h:Wi f p):Wi (w_ f qx qy) (padd p (.aff qx qy)):=by
 unfold w_
 cases p with
 | inf=>
  have h:f.z=0:=h
  rw [if_pos h,b6]
  exact ⟨bB,by show qx=qx*(1*1);rw [mul_one,mul_one],by show qy=qy*(1*1*1);rw [mul_one,mul_one,mul_one]⟩
 | aff x y=>
  obtain ⟨h1,h2,h3⟩:=id h
  rw [if_neg h1]
  have zz:f.z*f.z≠0:=bo h1 h1
  have hx:qx*(f.z*f.z)-f.x=(qx-x)*(f.z*f.z):=by
   rw [h2];exact ak (aZ [x,f.z,qx]) (v2*(v1*v1)-v0*(v1*v1)) ((v2-v0)*(v1*v1)) (by decide +kernel)
  have hy:qy*(f.z*f.z*f.z)-f.y=(qy-y)*(f.z*f.z*f.z):=by
   rw [h3];exact ak (aZ [y,f.z,qy]) (v2*(v1*v1*v1)-v0*(v1*v1*v1)) ((v2-v0)*(v1*v1*v1)) (by decide +kernel)
  by_cases e:x=qx
  ·subst e
   rw [if_pos (by rw [hx,cL,aS])]
   rcases yx hp hq rfl with e2|e2
   ·subst e2
    rw [if_pos (by rw [hy,cL,aS])]
    exact pM C hp h
   ·by_cases Vh:qy=y
    ·subst Vh
     rw [if_pos (by rw [hy,cL,aS])]
     exact pM C hp h
    ·have:qy*(f.z*f.z*f.z)-f.y≠0:=by
      rw [hy]
      exact bo (fun e=>Vh (ct.1 e)) (bo zz h1)
     rw [if_neg this,e2,dT x y C]
     rfl
  ·have h0:qx*(f.z*f.z)-f.x≠0:=by
    rw [hx];exact bo (sub_ne e) zz
   rw [if_neg h0]
   have hn:¬(x=qx∧qy=-y):=fun h=>e h.1
   obtain ⟨l,hl⟩:=kH C hp hq hn
   rw [dm C hl hn]
   have e1:=hl.h1
   obtain ⟨fx,fy,z⟩:=f
   dsimp only at h1 h2 h3
   subst h2;subst h3
   refine ⟨?_,?_,?_⟩
   ·exact bo h1 h0
   ·exact fN (aZ [x,y,z,l,qx,qy]) ((v5*((v2*v2)*v2)-(v1*(v2*v2*v2)))*(v5*((v2*v2)*v2)-(v1*(v2*v2*v2)))-(((v4*(v2*v2)-(v0*(v2*v2)))*(v4*(v2*v2)-(v0*(v2*v2))))*(v4*(v2*v2)-(v0*(v2*v2))))-(((v0*(v2*v2))*((v4*(v2*v2)-(v0*(v2*v2)))*(v4*(v2*v2)-(v0*(v2*v2)))))+((v0*(v2*v2))*((v4*(v2*v2)-(v0*(v2*v2)))*(v4*(v2*v2)-(v0*(v2*v2))))))) ((v3*v3-v0-v4)*((v2*(v4*(v2*v2)-(v0*(v2*v2))))*(v2*(v4*(v2*v2)-(v0*(v2*v2)))))) (-((v2*v2*v2*v2*v2*v2)*(v1+-(v5)+v0*v3+-(v3*v4)))) v5 (v1+v3*(v4-v0)) e1 (by decide +kernel)
   ·exact fN (aZ [x,y,z,l,qx,qy]) ((v5*((v2*v2)*v2)-(v1*(v2*v2*v2)))*(((v0*(v2*v2))*((v4*(v2*v2)-(v0*(v2*v2)))*(v4*(v2*v2)-(v0*(v2*v2)))))-((v5*((v2*v2)*v2)-(v1*(v2*v2*v2)))*(v5*((v2*v2)*v2)-(v1*(v2*v2*v2)))-(((v4*(v2*v2)-(v0*(v2*v2)))*(v4*(v2*v2)-(v0*(v2*v2))))*(v4*(v2*v2)-(v0*(v2*v2))))-(((v0*(v2*v2))*((v4*(v2*v2)-(v0*(v2*v2)))*(v4*(v2*v2)-(v0*(v2*v2)))))+((v0*(v2*v2))*((v4*(v2*v2)-(v0*(v2*v2)))*(v4*(v2*v2)-(v0*(v2*v2))))))))-(v1*(v2*v2*v2))*(((v4*(v2*v2)-(v0*(v2*v2)))*(v4*(v2*v2)-(v0*(v2*v2))))*(v4*(v2*v2)-(v0*(v2*v2))))) ((v3*(v0-(v3*v3-v0-v4))-v1)*((v2*(v4*(v2*v2)-(v0*(v2*v2))))*(v2*(v4*(v2*v2)-(v0*(v2*v2))))*(v2*(v4*(v2*v2)-(v0*(v2*v2)))))) (-((v2*v2*v2*v2*v2*v2*v2*v2*v2)*((v1*v1)+(v5*v5)+-((v4*v4*v4))+-((1+1))*((v0*v0*v0))+(v0*v0)*(v3*v3)+(v3*v3)*(v4*v4)+-((1+1))*(v1*v5)+(1+1+1)*(v4*(v0*v0))+v0*v1*v3+v3*v4*v5+-(v0*v3*v5)+-(v1*v3*v4)+-((1+1))*(v0*v4*(v3*v3))))) v5 (v1+v3*(v4-v0)) e1 (by decide +kernel)
end
end Go.Alg
namespace Go.Proofs.YtcafpgpahbplaaaGreat
open Go Go.Eng Go.RowKit Go.Wd Go.Alg
structure Cd(A:Type) where
 av:A→AV
 vl:A→Value
 rd:AV→Option A
 val:∀ ρ x,(av x).val ρ=some (vl x)
 ok:∀ {x:AV} {a:A},rd x=some a→∀ {ρ:Rho} {v:Value},x.val ρ=some v→v=vl a
structure Rs(B:Type) where
 sv:B→SV
 vl:B→Value
 val:∀ ρ x,(sv x).val ρ=some (vl x)
def kV(A:Type)[Nm A]:Cd A:=⟨wN,wv,asN A,gr,fun h=>fun hv=>qv h hv⟩
theorem ad:∀ q∈([]:List Prop),q:=fun q h=>by cases h
theorem aa{p:Prop}{l:List Prop}(h:p)(k:∀ q∈l,q):∀ q∈p::l,q:=by
 intro q hq
 rcases aae.1 hq with rfl|hq
 ·exact h
 ·exact k q hq
def wP{A:Type}[Nm A](x:A×Bool):AV:=⟨true,(Nm.toL x.1).map (It.w 6)++[.v (.bool x.2)]⟩
def i_{A:Type}[Nm A](x:A×Bool):Value:=.agg (((Nm.toL x.1).map (au 6)).flatten++[Value.bool x.2]).toArray
theorem Kf{ρ:Rho}{l m:List It}{vs us:List Value}(h:conc ρ l=some vs)(k:conc ρ m=some us):conc ρ (l++m)=some (vs++us):=by
 induction l generalizing vs with
 | nil=>cases h;exact k
 | cons i l ih=>
  obtain ⟨a,b,ha,hb,rfl⟩:=cz h
  rw [List.cons_append,en ha (ih hb),acs]
theorem jO{A:Type}[Nm A](ρ:Rho)(x:A×Bool):(wP x).val ρ=some (i_ x):=by
 have:=Kf (s8 ρ (Nm.toL x.1)) (m:=[.v (.bool x.2)]) (us:=[Value.bool x.2]) rfl
 simp only [wP,i_,AV.val,this]
def zcX:List It→Option (List It×Bool)
 | []=>none
 | i::l=>match l with
  | []=>match i with
   | .v (.bool b)=>some ([],b)
   | _=>none
  | j::m=>match zcX (j::m) with
   | some (r,b)=>some (i::r,b)
   | none=>none
theorem zll:∀ (l m:List It) (b:Bool),zcX l=some (m,b)→l=m++[.v (.bool b)]:=by
 intro l
 induction l with
 | nil=>intro m b h;cases h
 | cons i l ih=>
  intro m b h
  cases l with
  | nil=>
   unfold zcX at h
   simp only at h
   split at h
   ·cases h;rfl
   ·cases h
  | cons j l=>
   unfold zcX at h
   simp only at h
   split at h
   ·rename_i r b' hr
    cases h
    rw [ih _ _ hr];rfl
   ·cases h
def asP(A:Type)[Nm A](x:AV):Option (A×Bool):=match x.agg with
 | true=>match zcX x.its with
  | some (m,b)=>match ZM (Nm.k A) m with
   | some r=>some (Nm.ofL r,b)
   | none=>none
  | none=>none
 | false=>none
theorem Zx{ρ:Rho}{m:List It}{b:Bool}{vs:List Value}(h:conc ρ (m++[.v (.bool b)])=some vs):∃ us,conc ρ m=some us∧vs=us++[Value.bool b]:=by
 induction m generalizing vs with
 | nil=>cases h;exact ⟨[],rfl,rfl⟩
 | cons i m ih=>
  obtain ⟨a,c,ha,hc,rfl⟩:=cz h
  obtain ⟨us,h1,rfl⟩:=ih hc
  exact ⟨a++us,en ha h1,by rw [acs]⟩
theorem zyT{A:Type}[Nm A]{x:AV}{a:A×Bool}(h:asP A x=some a){ρ:Rho}{v:Value}(hv:x.val ρ=some v):v=i_ a:=by
 unfold asP at h
 split at h
 ·rename_i hx
  split at h
  ·rename_i m b hm
   split at h
   ·rename_i r hr
    cases h
    obtain ⟨vs,h1,h2⟩:=AV.cells hv
    rw [zll _ _ _ hm] at h1
    obtain ⟨us,h3,rfl⟩:=Zx h1
    obtain ⟨h4,rfl⟩:=V5 _ _ _ hr h3
    rcases h2 with ⟨_,rfl⟩|⟨h5,_⟩
    ·unfold i_;rw [Nm.to_of r h4]
    ·rw [hx] at h5;cases h5
   ·cases h
  ·cases h
 ·cases h
def dV(A:Type)[Nm A]:Cd (A×Bool):=⟨wP,i_,asP A,jO,fun h=>fun hv=>zyT h hv⟩
def pp(n:Int):AV:=⟨false,[.v (.int .i64 n)]⟩
theorem so(ρ:Rho)(n:Int):(pp n).val ρ=some (.int .i64 n):=AV.val_v (ρ:=ρ) (x:=.int .i64 n) rfl
def zyU(x:AV):Option Int:=match x with
 | ⟨false,[.v (.int .i64 n)]⟩=>some n
 | _=>none
theorem zpl{x:AV}{a:Int}(h:zyU x=some a){ρ:Rho}{v:Value}(hv:x.val ρ=some v):v = .int .i64 a:=by
 unfold zyU at h
 split at h
 ·cases h
  have e:=so ρ a
  unfold pp at e
  rw [e] at hv
  cases hv;rfl
 ·cases h
def tj:Cd Int:=⟨pp,Value.int .i64,zyU,so,fun h=>fun hv=>zpl h hv⟩
def cY(b:Bool):AV:=⟨false,[.v (.bool b)]⟩
theorem ga(ρ:Rho)(b:Bool):(cY b).val ρ=some (.bool b):=AV.val_v (ρ:=ρ) (x:=.bool b) rfl
def zyV(x:AV):Option Bool:=match x with
 | ⟨false,[.v (.bool b)]⟩=>some b
 | _=>none
theorem zpm{x:AV}{a:Bool}(h:zyV x=some a){ρ:Rho}{v:Value}(hv:x.val ρ=some v):v = .bool a:=by
 unfold zyV at h
 split at h
 ·cases h
  have e:=ga ρ a
  unfold cY at e
  rw [e] at hv
  cases hv;rfl
 ·cases h
def AG:Cd Bool:=⟨cY,Value.bool,zyV,ga,fun h=>fun hv=>zpm h hv⟩
def Cd.rs{A:Type}(c:Cd A):Rs A:=⟨fun x=>.one (c.av x),c.vl,fun ρ x=>c.val ρ x⟩
def tI{A B:Type}(c:Cd A)(d:Cd B):Rs (A×B):=⟨fun x=>.tup [c.av x.1,d.av x.2],fun x=>.tuple #[c.vl x.1,d.vl x.2],fun ρ x=>by
 simp only [SV.val,ay,c.val,d.val]⟩
def zcC{R:Type}(r:Rs R)(f:aaz)(g:R):Row where
 f:=f
 ans:=fun
  | []=>some (r.sv g,[])
  | _=>none
def jb{A R:Type}(c:Cd A)(r:Rs R)(f:aaz)(g:A→R):Row where
 f:=f
 ans:=fun
  | [x]=>match c.rd x with
   | some a=>some (r.sv (g a),[])
   | none=>none
  | _=>none
def C1{A B R:Type}(c:Cd A)(d:Cd B)(r:Rs R)(f:aaz)(g:A→B→R):Row where
 f:=f
 ans:=fun
  | [x,y]=>match c.rd x,d.rd y with
   | some a,some b=>some (r.sv (g a b),[])
   | _,_=>none
  | _=>none
def Uc{A B D R:Type}(c:Cd A)(d:Cd B)(e:Cd D)(r:Rs R)(f:aaz)(g:A→B→D→R):Row where
 f:=f
 ans:=fun
  | [x,y,z]=>match c.rd x,d.rd y,e.rd z with
   | some a,some b,some k=>some (r.sv (g a b k),[])
   | _,_,_=>none
  | _=>none
theorem zcB{R:Type}{r:Rs R}{f:aaz}{g:R}(h:bj Tryz.prog f [] (r.vl g)):bE Tryz.prog (zcC r f g):=by
 intro args s ob ha ax ρ vs hv
 unfold zcC at ha
 simp only at ha
 split at ha
 ·cases ha;cases hv;exact ⟨_,r.val _ _,h⟩
 ·cases ha
theorem cW{A R:Type}{c:Cd A}{r:Rs R}{f:aaz}{g:A→R}(h:∀ a,bj Tryz.prog f [c.vl a] (r.vl (g a))):bE Tryz.prog (jb c r f g):=by
 intro args s ob ha ax ρ vs hv
 unfold jb at ha
 simp only at ha
 split at ha
 ·split at ha
  ·rename_i a hn
   cases ha
   obtain ⟨v1,us,h1,h2,rfl⟩:=aj hv
   cases h2
   rw [c.ok hn h1]
   exact ⟨_,r.val _ _,h a⟩
  ·cases ha
 ·cases ha
theorem rG{A B R:Type}{c:Cd A}{d:Cd B}{r:Rs R}{f:aaz}{g:A→B→R}(h:∀ a b,bj Tryz.prog f [c.vl a,d.vl b] (r.vl (g a b))):bE Tryz.prog (C1 c d r f g):=by
 intro args s ob ha ax ρ vs hv
 unfold C1 at ha
 simp only at ha
 split at ha
 ·split at ha
  ·rename_i a b hn hm
   cases ha
   obtain ⟨v1,us,h1,h2,rfl⟩:=aj hv
   obtain ⟨v2,ov,h3,h4,rfl⟩:=aj h2
   cases h4
   rw [c.ok hn h1,d.ok hm h3]
   exact ⟨_,r.val _ _,h a b⟩
  ·cases ha
 ·cases ha
theorem L7{A B D R:Type}{c:Cd A}{d:Cd B}{e:Cd D}{r:Rs R}{f:aaz}{g:A→B→D→R}(h:∀ a b k,bj Tryz.prog f [c.vl a,d.vl b,e.vl k] (r.vl (g a b k))):bE Tryz.prog (Uc c d e r f g):=by
 intro args s ob ha ax ρ vs hv
 unfold Uc at ha
 simp only at ha
 split at ha
 ·split at ha
  ·rename_i a b k hn hm hk
   cases ha
   obtain ⟨v1,us,h1,h2,rfl⟩:=aj hv
   obtain ⟨v2,ov,h3,h4,rfl⟩:=aj h2
   obtain ⟨v3,zQc,h5,h6,rfl⟩:=aj h4
   cases h6
   rw [c.ok hn h1,d.ok hm h3,e.ok hk h5]
   exact ⟨_,r.val _ _,h a b k⟩
  ·cases ha
 ·cases ha
def tJ{A R:Type}(c:Cd A)(r:Rs R)(f:aaz)(g:A→R)(k:A→Prop):Row where
 f:=f
 ans:=fun
  | [x]=>match c.rd x with
   | some a=>some (r.sv (g a),[k a])
   | none=>none
  | _=>none
def L6{A B R:Type}(c:Cd A)(d:Cd B)(r:Rs R)(f:aaz)(g:A→B→R)(k:A→B→Prop):Row where
 f:=f
 ans:=fun
  | [x,y]=>match c.rd x,d.rd y with
   | some a,some b=>some (r.sv (g a b),[k a b])
   | _,_=>none
  | _=>none
theorem lU{A R:Type}{c:Cd A}{r:Rs R}{f:aaz}{g:A→R}{k:A→Prop}(h:∀ a,k a→bj Tryz.prog f [c.vl a] (r.vl (g a))):bE Tryz.prog (tJ c r f g k):=by
 intro args s ob ha ax ρ vs hv
 unfold tJ at ha
 simp only at ha
 split at ha
 ·split at ha
  ·rename_i a hn
   cases ha
   obtain ⟨v1,us,h1,h2,rfl⟩:=aj hv
   cases h2
   rw [c.ok hn h1]
   exact ⟨_,r.val _ _,h a (ax _ (aao.2 rfl))⟩
  ·cases ha
 ·cases ha
theorem C0{A B R:Type}{c:Cd A}{d:Cd B}{r:Rs R}{f:aaz}{g:A→B→R}{k:A→B→Prop}(h:∀ a b,k a b→bj Tryz.prog f [c.vl a,d.vl b] (r.vl (g a b))):bE Tryz.prog (L6 c d r f g k):=by
 intro args s ob ha ax ρ vs hv
 unfold L6 at ha
 simp only at ha
 split at ha
 ·split at ha
  ·rename_i a b hn hm
   cases ha
   obtain ⟨v1,us,h1,h2,rfl⟩:=aj hv
   obtain ⟨v2,ov,h3,h4,rfl⟩:=aj h2
   cases h4
   rw [c.ok hn h1,d.ok hm h3]
   exact ⟨_,r.val _ _,h a b (ax _ (aao.2 rfl))⟩
  ·cases ha
 ·cases ha
theorem pP{T:CallT}(hT:ag Tryz.prog T){f:aaz}{args:List AV}{vs:List Value}{hints:List (Nat×Bool)}{A:Type}(c:Cd A){x:AV}{a y:A}{ob:List Prop}(h:aK T f args hints=some (.one x,ob))(hrd:c.rd x=some a)(ax:∀ p∈ob,p)
  (hv:ay rho0 args=some vs) (he:a=y):bj Tryz.prog f vs (c.vl y):=
 bi hT h ax hv fun ρ u hu=>by
  rw [←he]
  exact c.ok hrd hu
def Gx{A R:Type}(c:Cd A)(r:Rs R)(f:aaz)(g:A→Nat→R):CallT:=fun f' args m _=>match f'==f with
 | true=>match args with
  | [x,y]=>match CM x m,c.rd y with
   | some (len,n,ob),some a=>some { val:=r.sv (g a (n%pw len)),wr:=[],news:=[],ob:=ob }
   | _,_=>none
  | _=>none
 | false=>none
theorem L0{A R:Type}{c:Cd A}{r:Rs R}{f:aaz}{g:A→Nat→R}(h:∀ a,AW Tryz.prog f (fun s=>[s,c.vl a]) (fun len n=>r.vl (g a (n%pw len))))(h0:∀ a,bj Tryz.prog f [.slice none 0 0,c.vl a] (r.vl (g a 0))):ag Tryz.prog (Gx c r f g):=by
 intro f' args m nid out af ax ρ w vs hv hM df
 unfold Gx at af
 split at af
 ·rename_i hf
  rw [beq_iff_eq] at hf
  subst hf
  split at af
  ·rename_i x y
   split at af
   ·rename_i len n ob a hs ha
    cases af
    obtain ⟨v1,us,h1,h2,rfl⟩:=aj hv
    obtain ⟨v2,ov,h3,h4,rfl⟩:=aj h2
    cases h4
    rw [c.ok ha h3]
    have fin:∀ (u:Value) (w':World),u=r.vl (g a (n%pw len))∧Below w.heap.size w w'→∃ ρ',Ext ρ w ρ' w'∧(r.sv (g a (n%pw len))).val ρ'=some u∧Mem ρ' (aX m (ia ([]++[]))) w':=by
     rintro u w' ⟨rfl,hb⟩
     exact ⟨ρ,Ext.of_below hb,r.val _ _,hM.of_below hb⟩
    rcases vJ hs ax hM h1 with ⟨rfl,rfl,rfl⟩|⟨b,o,cap,rfl,hlen,jX⟩
    ·exact (h0 a w).mono fun u w' hu=>fin u w' hu
    ·exact (h a b o len cap n hlen w jX).mono fun u w' hu=>fin u w' hu
   ·cases af
  ·cases af
 ·cases af
theorem ah{T:CallT}(hT:ag Tryz.prog T){f:aaz}{args:List AV}{vs:List Value}{hints:List (Nat×Bool)}{R:Type}(r:Rs R){x y:R}{ob:List Prop}(h:aK T f args hints=some (r.sv x,ob))(ax:∀ p∈ob,p)
  (hv:ay rho0 args=some vs) (he:x=y):bj Tryz.prog f vs (r.vl y):=
 bi hT h ax hv fun ρ u hu=>by
  rw [r.val] at hu
  cases hu
  rw [he]
theorem kA{T:CallT}(hT:ag Tryz.prog T){hf:aaz→List (Nat×Bool)}{f:aaz}{args:List AV}{vs:List Value}{R:Type}(r:Rs R){x y:R}{ob:List Prop}(h:CR T hf f args=some (r.sv x,ob))(ax:∀ p∈ob,p)
  (hv:ay rho0 args=some vs) (he:x=y):bj Tryz.prog f vs (r.vl y):=
 E1 hT h ax hv fun ρ u hu=>by
  rw [r.val] at hu
  cases hu
  rw [he]
theorem ir{A:Type}(c:Cd A)(a:A):ay rho0 [c.av a]=some [c.vl a]:=by simp only [ay,c.val]
theorem ri{A B:Type}(c:Cd A)(d:Cd B)(a:A)(b:B):ay rho0 [c.av a,d.av b]=some [c.vl a,d.vl b]:=by simp only [ay,c.val,d.val]
def D4(T:CallT)(l:List (Nat×SV)):CallT:=fun f args m nid=>match T f args m nid with
 | some out=>match Eng.look l nid with
  | some s=>some { out with val:=s,ob:=(∀ ρ,out.val.val ρ=s.val ρ)::out.ob }
  | none=>some out
 | none=>none
theorem zo{P:Program}{T:CallT}(h:ag P T)(l:List (Nat×SV)):ag P (D4 T l):=by
 intro f args m nid out af ax ρ w vs hv hM df
 unfold D4 at af
 split at af
 ·rename_i o ho
  split at af
  ·rename_i s hs
   cases af
   refine (h f args m nid o ho (fun p hp=>ax p (aaa _ hp)) ρ w vs hv hM df).mono ?_
   rintro u w' ⟨ρ',h1,h2,h3⟩
   refine ⟨ρ',h1,?_,h3⟩
   rw [←h2]
   exact (ax _ aac ρ').symm
  ·cases af
   exact h f args m nid _ ho ax ρ w vs hv hM df
 ·cases af
end Go.Proofs.YtcafpgpahbplaaaGreat
namespace Go.Proofs.YtcafpgpahbplaaaGreat
open Go Go.Eng Go.RowKit Go.Wd Go.Alg Go.Pr
def zyI(n:Nat)(k:Int):Int:=Eng.bits .and .u64 ((O1.word64 n (0+(IntKind.i64.wrap (k.tdiv 64)).toNat*1)).fdiv (2^min (IntKind.u64.wrap (k.tmod 64)).toNat IntKind.u64.bits)) 1
theorem Ad(k:Nat):IntKind.u64.wrap ((k:Int).tmod 64)=((k%64:Nat):Int):=by
 rw [yc];exact bH (by omega)
theorem zo8(n:Nat){k:Nat}(hk:k<9223372036854775808):zyI n (k:Int)=((n/2^k%2:Nat):Int):=by
 have h:=BY n hk
 unfold O1 at h
 unfold zyI
 rw [Ad]
 rw [yc] at h
 exact h
def obW(len n:Nat)(i:Int)(b:Bool):List Prop:=[i≥0↔true=true,0≤IntKind.i64.wrap (i.tdiv 64)∧IntKind.i64.wrap (i.tdiv 64)<(len:Int),0+(IntKind.i64.wrap (i.tdiv 64)).toNat*1<len,0≤IntKind.u64.wrap (i.tmod 64),zyI n i=1↔b=true]
def obZ(len n:Nat)(i:Int)(b:Bool):List Prop:=[i≥0↔true=true,0≤IntKind.i64.wrap (i.tdiv 64)∧IntKind.i64.wrap (i.tdiv 64)<(len:Int),0+(IntKind.i64.wrap (i.tdiv 64)).toNat*1<len,0≤i.tmod 64,O1 n i=0↔(!b)=true]
theorem zLc{len n j:Nat}(h:len<4294967296)(hj:j<64*len){b:Bool}(hb:n/2^j%2=1↔b=true):∀ p∈obW len n (j:Int) b,p:=by
 intro p hp
 unfold obW at hp
 rw [vf (by omega),Ad,zo8 _ (by omega)] at hp
 rcases aae.1 hp with rfl|hp
 ·exact ⟨fun _=>rfl,fun _=>by omega⟩
 rcases aae.1 hp with rfl|hp
 ·omega
 rcases aae.1 hp with rfl|hp
 ·rw [aam];omega
 rcases aae.1 hp with rfl|hp
 ·omega
 rcases aae.1 hp with rfl|hp
 ·rw [←hb];omega
 ·cases hp
theorem IX{len n j:Nat}(h:len<4294967296)(hj:j<64*len){b:Bool}(hb:n/2^j%2=1↔b=true):∀ p∈obZ len n (j:Int) b,p:=by
 intro p hp
 unfold obZ at hp
 rw [vf (by omega),yc,BY _ (by omega)] at hp
 rcases aae.1 hp with rfl|hp
 ·exact ⟨fun _=>rfl,fun _=>by omega⟩
 rcases aae.1 hp with rfl|hp
 ·omega
 rcases aae.1 hp with rfl|hp
 ·rw [aam];omega
 rcases aae.1 hp with rfl|hp
 ·omega
 rcases aae.1 hp with rfl|hp
 ·cases b with
  | true=>
   have:=hb.2 rfl
   exact ⟨fun e=>by omega,fun e=>by cases e⟩
  | false=>
   have:¬n/2^j%2=1:=fun e=>by cases hb.1 e
   exact ⟨fun e=>rfl,fun e=>by omega⟩
 ·cases hp
def iT(len:Nat):Int:=IntKind.i64.wrap (Wk len-1)
theorem zfn{len:Nat}(h:len<4294967296):iT len=((64*len:Nat):Int)-1:=by
 unfold iT
 rw [EE h,bq (by omega) (by omega)]
def vM:Code→Code
 | .scope c=>c
 | c=>c
theorem Ey{E:Eng}(hE:∀ t d,E.tab t=some d→TyOk Tryz.prog t d)(cP:ag Tryz.prog E.call){L:Code}{S:Type}(st:Int→S→St)(ks:List Nat)(hk1:1∈ks)
  (hk:∀ i s,aw (st i s) ks=true) (hb:∀ i s,∀ id∈ks,∃ l,(st i s).blk id=some l) {len n:Nat} (hlen:len<4294967296) (f g:S→S) (I:Nat→S→Prop) {nid kx:Nat} {hx h0 h1:List (Nat×Bool)}
  (zEb:∀ i s,probe E 100 L (st i s) nid hx ((st i s).map (·.1))=some (kx+2,[i≥0↔false=true],(st i s).map fun p=>some p.2))
  (ob:Int→Bool→S→List Prop) (ax:∀ (j:Nat) (b:Bool) (s:S),j<64*len→I (j+1) s→(n/2^j%2=1↔b=true)→∀ p∈ob (j:Int) b s,p)
  (hzero:∀ i s,probe E 100 L (st i s) nid h0 ((st (IntKind.i64.wrap (i-1)) (f s)).map (·.1))=some (0,ob i false s,(st (IntKind.i64.wrap (i-1)) (f s)).map fun p=>some p.2))
  (uD:∀ i s,probe E 100 L (st i s) nid h1 ((st (IntKind.i64.wrap (i-1)) (g (f s))).map (·.1))=some (0,ob i true s,(st (IntKind.i64.wrap (i-1)) (g (f s))).map fun p=>some p.2))
  (hI0:∀ j s,j<64*len→I (j+1) s→n%pw len/2^j%2=0→I j (f s)) (hI1:∀ j s,j<64*len→I (j+1) s→n%pw len/2^j%2=1→I j (g (f s)))
  {b o:Nat} {w0:World} {Q:Exit→Act→World→Prop} (hQ:∀ s a w,I 0 s→At E.N (kw b o) w0 (st (-1) s) a w→Q (.exit kx) a w) {s0:S} (hs:I (64*len) s0) {a:Act} {w:World}
  (hA:At E.N (kw b o) w0 (st (((64*len:Nat):Int)-1) s0) a w):(Code.loop L).wp Tryz.prog Q a w:=by
 refine dG (w0:=w0) (dL:=kw b o) (N:=E.N) (ι:=Nat×S) (fun x=>x.1≤64*len∧I x.1 x.2) (fun x=>st ((x.1:Int)-1) x.2) (fun x=>x.1) ?_ (64*len,s0) ⟨Nat.le_refl _,hs⟩ a w hA
 rintro ⟨j,s⟩ ⟨hj,hI⟩ a w hA
 have hj:j≤64*len:=hj
 have hI:I j s:=hI
 have hA:At E.N (kw b o) w0 (st ((j:Int)-1) s) a w:=hA
 rcases Nat.eq_zero_or_pos j with hz|zwV
 ·subst hz
  refine At.probe (E:=E) an hE cP (zEb _ s) (fun p hp=>?_) hA ks (hb _ _) (hk _ _) (dp hk1) fun a' w' bY=>hQ s a' w' hI bY
  rw [aao] at hp
  subst hp
  exact br (by omega)
 ·obtain ⟨k,rfl⟩:∃ k,j=k+1:=⟨j-1,by omega⟩
  have ei:((k+1:Nat):Int)-1=(k:Int):=by omega
  rw [ei] at hA
  have hw:IntKind.i64.wrap ((k:Int)-1)=(k:Int)-1:=bq (by omega) (by omega)
  have RL:=VY n (len:=len) (k:=k) (by omega)
  rcases Nat.mod_two_eq_zero_or_one (n%pw len/2^k) with e|e
  ·refine At.probe (E:=E) an hE cP (hzero _ s) (ax k false s (by omega) hI (by rw [RL,e];exact br (by omega))) hA ks (hb _ _) (hk _ _) (dp hk1) fun a' w' bY=>⟨(k,f s),⟨by show k≤_;omega,hI0 k s (by omega) hI e⟩,by show k<k+1;omega,?_⟩
   rw [hw] at bY
   exact bY
  ·refine At.probe (E:=E) an hE cP (uD _ s) (ax k true s (by omega) hI (by rw [RL,e];exact bD rfl)) hA ks (hb _ _) (hk _ _) (dp hk1) fun a' w' bY=>⟨(k,g (f s)),⟨by show k≤_;omega,hI1 k s (by omega) hI e⟩,by show k<k+1;omega,?_⟩
   rw [hw] at bY
   exact bY
abbrev jz(z:F):Nat:=z.val
theorem mc(z:F):φ (jz z)=z:=cM z
theorem u_{x y:F}(h:jz x=jz y):x=y:=by rw [←mc x,h,mc]
theorem zER{x y:F}{b:Bool}(h:x=y↔b=true):dJ (jz x) (jz y) b:=ej (CL x) (CL y) ⟨fun e=>h.1 (u_ e),fun e=>by rw [h.2 e]⟩
abbrev A1:=Nat×Nat
abbrev P1:=A1×Bool
abbrev J1:=Nat×Nat×Nat
def b1:F:=φ 4
theorem oi:Cv F b1 where
 two h:=by
  have:jz ((1:F)+1)=jz 0:=by rw [h]
  revert this
  decide +kernel
 three h:=by
  have:jz ((1:F)+1+1)=jz 0:=by rw [h]
  revert this
  decide +kernel
 bne h:=by
  have:jz b1=jz 0:=by rw [h]
  revert this
  decide +kernel
def bO(x:P1):Pt F:=match x.2 with
 | true=>.inf
 | false=>.aff (φ x.1.1) (φ x.1.2)
def gJ(p:Pt F):P1:=match p with
 | .inf=>((0,0),true)
 | .aff x y=>((jz x,jz y),false)
theorem tV(p:Pt F):bO (gJ p)=p:=by
 cases p with
 | inf=>rfl
 | aff x y=>show Pt.aff (φ (jz x)) (φ (jz y))=_;rw [mc,mc]
def im(f:J1):Jc F:=⟨φ f.1,φ f.2.1,φ f.2.2⟩
def AY(f:Jc F):J1:=(jz f.x,jz f.y,jz f.z)
theorem HE(f:Jc F):im (AY f)=f:=by
 unfold im AY
 rw [mc,mc,mc]
theorem B8:(0:Nat)=jz 0:=by decide +kernel
theorem zqB:(1:Nat)=jz 1:=by decide +kernel
theorem zad:φ 0=0:=by rw [B8,mc]
theorem zAI:φ 1=1:=by rw [zqB,mc]
def RdJ1(f:J1):Prop:=AY (im f)=f
def e_(x:P1):Bool:=@decide (On b1 (bO x)) (acB _)
theorem gS(x:P1):e_ x=true↔On b1 (bO x):=by unfold e_;exact @decide_eq_true_iff _ (acB _)
theorem Mj{x:P1}(h:¬On b1 (bO x)):e_ x=false:=by
 cases e:e_ x with
 | false=>rfl
 | true=>exact absurd ((gS x).1 e) h
def Z7:CallT:=aA pL
theorem ot:ag Tryz.prog Z7:=ap lj
theorem DV(x:A1):aK Z7 87 [wP (x,true)] []=some (.one (wP ((0,0),true)),[]):=by kernel_rfl
theorem DW(x:A1):aK Z7 87 [wP (x,false)] []=some (.one (wP ((fV x.1,fV x.2),false)),[]):=by kernel_rfl
theorem Hb(x:P1):bj Tryz.prog 87 [i_ x] (i_ (gJ (bO x))):=by
 obtain ⟨x,b⟩:=x
 cases b with
 | true=>exact ah ot (dV A1).rs (DV x) (fun _ h=>by cases h) (ir (dV _) _) rfl
 | false=>exact ah ot (dV A1).rs (DW x) (fun _ h=>by cases h) (ir (dV _) _) rfl
theorem RV(x:A1):aK Z7 24 [wP (x,true)] []=some (vB true,[]):=by kernel_rfl
def zvn(x:A1)(h:Bool):Prop:=dJ (ao x.2 x.2) (bZ (ao (ao x.1 x.1) x.1) 4) h
theorem RW(x:A1):∀ h:Bool,aK Z7 24 [wP (x,false)] [(21,h)]=some (vB h,[zvn x h])
 | true=>by kernel_rfl
 | false=>by kernel_rfl
theorem zlv{x:A1}{h:Bool}(e:On b1 (.aff (φ x.1) (φ x.2))↔h=true):zvn x h:=by
 unfold zvn
 simp only [ao,bZ]
 refine zER ?_
 rw [mc,mc]
 exact e
theorem sH{T:CallT}(hT:ag Tryz.prog T){f:aaz}{args:List AV}{vs:List Value}{hints:List (Nat×Bool)}{b c:Bool}{ob:List Prop}(h:aK T f args hints=some (vB b,ob))(ax:∀ p∈ob,p)(hv:ay rho0 args=some vs)(he:b=c):bj Tryz.prog f vs (.bool c):=
 ah hT AG.rs h ax hv he
theorem cQ{p:Prop}(h:p):∀ q∈[p],q:=fun q hq=>by rw [aao] at hq;subst hq;exact h
theorem Vt(x:P1):bj Tryz.prog 24 [i_ x] (.bool (e_ x)):=by
 obtain ⟨x,b⟩:=x
 cases b with
 | true=>exact sH ot (RV x) (fun _ h=>by cases h) (ir (dV _) _) (((gS (x,true)).2 trivial).symm)
 | false=>exact sH ot (RW x (e_ (x,false))) (cQ (zlv (gS (x,false)).symm)) (ir (dV _) _) rfl
def Iv:List Row:=jb (dV A1) (dV A1).rs 87 (fun x=>gJ (bO x))::jb (dV A1) AG.rs 24 e_::pL
theorem Gt:∀ r∈Iv,bE Tryz.prog r:=by
 simp only [Iv,aab]
 exact ⟨cW Hb,cW Vt,lj⟩
def TA1:CallT:=aA Iv
theorem ziH:ag Tryz.prog TA1:=ap Gt
theorem NB(x:A1):aK TA1 96 [wP (x,true)] []=some (.one (wP ((0,du 0),true)),[]):=by kernel_rfl
theorem NC(x:A1):aK TA1 96 [wP (x,false)] []=some (.one (wP ((fV x.1,du (fV x.2)),false)),[]):=by kernel_rfl
theorem zvO:du 0=0:=by
 unfold du
 rw [zad,a_];exact B8.symm
theorem zxo(x:P1):bj Tryz.prog 96 [i_ x] (i_ (gJ (bO x).neg)):=by
 obtain ⟨x,b⟩:=x
 cases b with
 | true=>
  refine ah ziH (dV A1).rs (NB x) (fun _ h=>by cases h) (ir (dV _) _) ?_
  rw [zvO];rfl
 | false=>
  refine ah ziH (dV A1).rs (NC x) (fun _ h=>by cases h) (ir (dV _) _) ?_
  simp only [du,fV,mc];rfl
def Pm(f:J1):J1:=AY (Fe (im f))
theorem JO(f:J1):aK Z7 88 [wN f] []=some (.one (wN (((lS (ao (bZ (bZ (ao f.1 f.1) (ao f.1 f.1)) (ao f.1 f.1)) (bZ (bZ (ao f.1 f.1) (ao f.1 f.1)) (ao f.1 f.1))) (bZ (bZ (bZ (ao f.1 (ao f.2.1 f.2.1)) (ao f.1 (ao f.2.1 f.2.1))) (bZ (ao f.1 (ao f.2.1 f.2.1)) (ao f.1 (ao f.2.1 f.2.1)))) (bZ (bZ (ao f.1 (ao f.2.1 f.2.1)) (ao f.1 (ao f.2.1 f.2.1))) (bZ (ao f.1 (ao f.2.1 f.2.1)) (ao f.1 (ao f.2.1 f.2.1)))))),(lS (ao (bZ (bZ (ao f.1 f.1) (ao f.1 f.1)) (ao f.1 f.1)) (lS (bZ (bZ (ao f.1 (ao f.2.1 f.2.1)) (ao f.1 (ao f.2.1 f.2.1))) (bZ (ao f.1 (ao f.2.1 f.2.1)) (ao f.1 (ao f.2.1 f.2.1)))) (lS (ao (bZ (bZ (ao f.1 f.1) (ao f.1 f.1)) (ao f.1 f.1)) (bZ (bZ (ao f.1 f.1) (ao f.1 f.1)) (ao f.1 f.1))) (bZ (bZ (bZ (ao f.1 (ao f.2.1 f.2.1)) (ao f.1 (ao f.2.1 f.2.1))) (bZ (ao f.1 (ao f.2.1 f.2.1)) (ao f.1 (ao f.2.1 f.2.1)))) (bZ (bZ (ao f.1 (ao f.2.1 f.2.1)) (ao f.1 (ao f.2.1 f.2.1))) (bZ (ao f.1 (ao f.2.1 f.2.1)) (ao f.1 (ao f.2.1 f.2.1)))))))) (bZ (bZ (bZ (ao (ao f.2.1 f.2.1) (ao f.2.1 f.2.1)) (ao (ao f.2.1 f.2.1) (ao f.2.1 f.2.1))) (bZ (ao (ao f.2.1 f.2.1) (ao f.2.1 f.2.1)) (ao (ao f.2.1 f.2.1) (ao f.2.1 f.2.1)))) (bZ (bZ (ao (ao f.2.1 f.2.1) (ao f.2.1 f.2.1)) (ao (ao f.2.1 f.2.1) (ao f.2.1 f.2.1))) (bZ (ao (ao f.2.1 f.2.1) (ao f.2.1 f.2.1)) (ao (ao f.2.1 f.2.1) (ao f.2.1 f.2.1)))))),(bZ (ao f.2.1 f.2.2) (ao f.2.1 f.2.2))):J1)),[]):=by kernel_rfl
theorem zfZ(f:J1):bj Tryz.prog 88 [wv f] (wv (Pm f)):=by
 refine ah ot (kV J1).rs (JO f) (fun _ h=>by cases h) (ir (kV _) _) ?_
 unfold Pm AY Fe im
 simp only [ao,bZ,lS,mc]
open Classical in
def pl1(f:J1)(q:P1):J1:=if φ f.2.2=0 then (q.1.1,q.1.2,1) else AY (w_ (im f) (φ q.1.1) (φ q.1.2))
theorem zaj(f:J1)(q:P1):im (pl1 f q)=w_ (im f) (φ q.1.1) (φ q.1.2):=by
 unfold pl1
 split
 ·rename_i h
  unfold w_
  rw [if_pos (show (im f).z=0 from h)]
  unfold im
  rw [zAI]
 ·rw [HE]
def Is:List Row:=jk 88 Pm::Iv
theorem Gr:∀ r∈Is,bE Tryz.prog r:=by
 simp only [Is,aab]
 exact ⟨da zfZ,Gt⟩
def TB1:CallT:=aA Is
theorem uT:ag Tryz.prog TB1:=ap Gr
def sQ(f:J1)(q:P1):Nat:=lS (ao q.1.1 (ao f.2.2 f.2.2)) f.1
def XM(f:J1)(q:P1):Nat:=lS (ao q.1.2 (ao (ao f.2.2 f.2.2) f.2.2)) f.2.1
theorem JS(f:J1)(q:P1):aK TB1 89 [wN f,wP q] [(17,true)]=some (.one ⟨true,(Nm.toL q.1).map (It.w 6)++E7⟩,[dJ f.2.2 (0:Nat) true]):=by kernel_rfl
theorem JR(f:J1)(q:P1):aK TB1 89 [wN f,wP q] [(17,false),(49,true),(53,true)]=some (.one (wN (Pm f)),[dJ f.2.2 (0:Nat) false,dJ (sQ f q) 0 true,dJ (XM f q) 0 true]):=by kernel_rfl
theorem JQ(f:J1)(q:P1):aK TB1 89 [wN f,wP q] [(17,false),(49,true),(53,false),(60,true)]=some (.one (wN ((0,0,0):J1)),[dJ f.2.2 (0:Nat) false,dJ (sQ f q) 0 true,dJ (XM f q) 0 false,dJ (sQ f q) 0 true]):=by kernel_rfl
theorem JP(f:J1)(q:P1):aK TB1 89 [wN f,wP q] [(17,false),(49,false),(60,false)] =
  some (.one (wN (((lS (lS (ao (XM f q) (XM f q)) (ao (ao (sQ f q) (sQ f q)) (sQ f q))) (bZ (ao f.1 (ao (sQ f q) (sQ f q))) (ao f.1 (ao (sQ f q) (sQ f q))))),(lS (ao (XM f q) (lS (ao f.1 (ao (sQ f q) (sQ f q))) (lS (lS (ao (XM f q) (XM f q)) (ao (ao (sQ f q) (sQ f q)) (sQ f q))) (bZ (ao f.1 (ao (sQ f q) (sQ f q))) (ao f.1 (ao (sQ f q) (sQ f q))))))) (ao f.2.1 (ao (ao (sQ f q) (sQ f q)) (sQ f q)))),(ao f.2.2 (sQ f q))):J1)),[dJ f.2.2 (0:Nat) false,dJ (sQ f q) 0 false,dJ (sQ f q) 0 false]):=by kernel_rfl
theorem zxU{x:F}{b:Bool}(h:x=0↔b=true):dJ (jz x) (0:Nat) b:=by
 have:dJ (jz x) (jz 0) b:=zER h
 rw [←B8] at this
 exact this
theorem AP{x:Nat}{b:Bool}(hx:jz (φ x)=x)(h:φ x=0↔b=true):dJ x (0:Nat) b:=by
 have:=zxU h
 rwa [hx] at this
theorem RdJ1.z{f:J1}(h:RdJ1 f):jz (φ f.2.2)=f.2.2:=congrArg (fun t:J1=>t.2.2) h
theorem znp(f:J1)(q:P1)(hf:RdJ1 f):bj Tryz.prog 89 [wv f,i_ q] (wv (pl1 f q)):=by
 have hv:=ri (kV J1) (dV A1) f q
 have hz:=hf.z
 have hh:φ (sQ f q)=φ q.1.1*(φ f.2.2*φ f.2.2)-φ f.1:=by
  unfold sQ
  simp only [ao,lS,mc]
 have hr:φ (XM f q)=φ q.1.2*(φ f.2.2*φ f.2.2*φ f.2.2)-φ f.2.1:=by
  unfold XM
  simp only [ao,lS,mc]
 have eh:∀ {b:Bool},(φ (sQ f q)=0↔b=true)→dJ (sQ f q) (0:Nat) b:=fun h=>AP (congrArg jz (mc _)) h
 have er:∀ {b:Bool},(φ (XM f q)=0↔b=true)→dJ (XM f q) (0:Nat) b:=fun h=>AP (congrArg jz (mc _)) h
 unfold pl1
 by_cases h0:φ f.2.2=0
 ·rw [if_pos h0]
  exact pP uT (kV J1) (a:=(q.1.1,q.1.2,1)) (JS f q) (by kernel_rfl) (cQ (AP hz (bD h0))) hv rfl
 ·rw [if_neg h0]
  unfold w_
  rw [if_neg (show ¬(im f).z=0 from h0)]
  by_cases h1:φ (sQ f q)=0
  ·rw [if_pos (show φ q.1.1*((im f).z*(im f).z)-(im f).x=0 from hh.symm.trans h1)]
   by_cases h2:φ (XM f q)=0
   ·rw [if_pos (show φ q.1.2*((im f).z*(im f).z*(im f).z)-(im f).y=0 from hr.symm.trans h2)]
    refine ah uT (kV J1).rs (JR f q) ?_ hv rfl
    simp only [aab,aad,false_imp_iff,implies_true,and_true]
    exact ⟨AP hz (br h0),eh (bD h1),er (bD h2)⟩
   ·rw [if_neg (show ¬φ q.1.2*((im f).z*(im f).z*(im f).z)-(im f).y=0 from fun e=>h2 (hr.trans e))]
    refine ah uT (kV J1).rs (JQ f q) ?_ hv ?_
    ·simp only [aab,aad,false_imp_iff,implies_true,and_true]
     exact ⟨AP hz (br h0),eh (bD h1),er (br h2),eh (bD h1)⟩
    ·unfold AY
     rw [B8]
  ·rw [if_neg (show ¬φ q.1.1*((im f).z*(im f).z)-(im f).x=0 from fun e=>h1 (hh.trans e))]
   refine ah uT (kV J1).rs (JP f q) ?_ hv ?_
   ·simp only [aab,aad,false_imp_iff,implies_true,and_true]
    exact ⟨AP hz (br h0),eh (br h1),eh (br h1)⟩
   ·unfold AY U_ im sQ XM
    simp only [ao,lS,bZ,mc]
theorem Fv(f:J1):aK TB1 90 [wN f] [(7,true)]=some (.one (wP ((0,0),true)),[dJ f ((0,0,0):J1) true]):=by kernel_rfl
theorem Fu(f:J1):aK TB1 90 [wN f] [(7,false),(12,true)]=some (.one (wP ((0,0),true)),[dJ f ((0,0,0):J1) false,dJ f.2.2 (0:Nat) true]):=by kernel_rfl
theorem Ft(f:J1):aK TB1 90 [wN f] [(7,false),(12,false)] =
  some (.one (wP ((ao f.1 (ao (gW f.2.2) (gW f.2.2)),ao f.2.1 (ao (ao (gW f.2.2) (gW f.2.2)) (gW f.2.2))),false)),[dJ f ((0,0,0):J1) false,dJ f.2.2 (0:Nat) false]):=by kernel_rfl
theorem zBJ(f:Jc F):Sm (AY f):=lh (CL _) (lh (CL _) (CL _))
theorem zxZ{f:J1}(hf:RdJ1 f){b:Bool}(h:f=(0,0,0)↔b=true):dJ f ((0,0,0):J1) b:=by
 have e:((0,0,0):J1)=AY ⟨0,0,0⟩:=by
  unfold AY
  rw [B8]
 refine ej (by rw [←hf];exact zBJ _) (by rw [e];exact zBJ _) h
theorem zf1(f:J1)(hf:RdJ1 f):bj Tryz.prog 90 [wv f] (i_ (gJ (Po (im f)))):=by
 have hv:=ir (kV J1) f
 unfold Po
 by_cases h0:φ f.2.2=0
 ·rw [if_pos (show (im f).z=0 from h0)]
  by_cases hz:f=(0,0,0)
  ·exact ah uT (dV A1).rs (Fv f) (cQ (zxZ hf (bD hz))) hv rfl
  ·refine ah uT (dV A1).rs (Fu f) ?_ hv rfl
   simp only [aab,aad,false_imp_iff,implies_true,and_true]
   exact ⟨zxZ hf (br hz),AP hf.z (bD h0)⟩
 ·rw [if_neg (show ¬(im f).z=0 from h0)]
  have hz:f≠(0,0,0):=fun e=>h0 (by rw [e];exact zad)
  refine ah uT (dV A1).rs (Ft f) ?_ hv ?_
  ·simp only [aab,aad,false_imp_iff,implies_true,and_true]
   exact ⟨zxZ hf (br hz),AP hf.z (br h0)⟩
  ·unfold gJ im
   simp only [ao,gW,mc]
end Go.Proofs.YtcafpgpahbplaaaGreat
namespace Go.Proofs.YtcafpgpahbplaaaGreat
open Go Go.Eng Go.RowKit Go.Wd Go.ChangeShapes Go.WideShapes Go.Alg
def j9(T:CallT)(f:aaz)(args:List AV)(m:St)(hints:List (Nat×Bool)):Option (SV×List Prop):=match fJ f with
 | some d=>match rF bh (jw bh T fJ 1000 6) 1000 d args m 16 hints with
  | some o=>some (o.val,o.ob)
  | none=>none
 | none=>none
theorem tQ{T:CallT}(hT:ag Tryz.prog T){f:aaz}{args:List AV}{m:St}{hints:List (Nat×Bool)}{s:SV}{ob:List Prop}(h:j9 T f args m hints=some (s,ob))(ax:∀ p∈ob,p){ρ:Rho}{w:World}(hM:Mem ρ m w)
  (cv:∀ c,¬Own ρ c) {vs:List Value} (hv:ay ρ args=some vs) {v:Value} (hval:∀ ρ u,s.val ρ=some u→u=v):cX Tryz.prog f vs.toArray v w:=by
 unfold j9 at h
 split at h
 ·rename_i d hd
  split at h
  ·rename_i o ho
   cases h
   refine (fB an ab (dd an ab hT aB 1000 6) (aB _ _ hd) ho ax hv hM).mono ?_
   rintro e w' ⟨u,rfl,ρ',hE,hu,_⟩
   exact ⟨by rw [hval ρ' u hu],hE.below cv⟩
  ·cases h
 ·cases h
def Rd:List Int→Nat
 | []=>0
 | z::l=>z.toNat+Rd l*18446744073709551616
theorem Cb:∀ (l:List Int),(∀ z∈l,0≤z∧z<18446744073709551616)→au l.length (Rd l)=l.map (Value.int .u64):=by
 intro l
 induction l with
 | nil=>intro _;rfl
 | cons z l ih=>
  intro h
  have hz:=h z aac
  show au (l.length+1) (z.toNat+Rd l*18446744073709551616)=_
  rw [Cc (by omega),ih fun y hy=>h y (aaa _ hy),Int.toNat_of_nonneg hz.1];rfl
section
variable {P:Program}{H:Type}{enc:TypeId×Value→H}
theorem fo(b o i:Nat):(⟨b,o,none⟩:Addr).add i=⟨b,o+i,none⟩:=by
 unfold Addr.add
 split
 ·rename_i h;subst h;rfl
 ·rfl
theorem zb1{w:World}{b:Nat}{x:TypeId×Nat}(h:w.shape? b=some x):b<w.heap.size:=by
 unfold World.shape? at h
 split at h
 ·rename_i c e r hb
  exact (Array.getElem?_eq_some_iff.1 hb).1
 ·cases h
theorem X5{W:World}{base:Nat}{t e:TypeId}{a:Addr}{len cap:Nat}(ht:P.underlying t=some (.slice e))(hv:Value.okWide P W .any base t (.slice (some a) len cap)):a=⟨a.block,a.off,none⟩∧a.block<W.heap.size∧len≤cap:=by
 simp only [Value.okWide,ht,Cell.okWide,Cell.ok] at hv
 obtain ⟨h1,_,_,h2,row,cells,h3,_⟩:=hv
 refine ⟨?_,zb1 h3,h1⟩
 cases a
 simp only at h2
 subst h2;rfl
end
end Go.Proofs.YtcafpgpahbplaaaGreat
