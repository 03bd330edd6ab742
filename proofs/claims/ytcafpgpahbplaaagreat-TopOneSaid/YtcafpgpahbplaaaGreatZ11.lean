/-
 The proof, part 11 of 25.
-/
import Derived.Test.YtcafpgpahbplaaaGreatZ08
import Derived.Test.YtcafpgpahbplaaaGreatZ10
import Derived.Test.YtcafpgpahbplaaaGreatZ09
open Bool renaming and_eq_true->aaf
open Nat renaming beq->aaK,beq_eq->ada
noncomputable section
set_option linter.unusedVariables false
set_option linter.unusedSimpArgs false
namespace Go.Alg
section
variable {K:Type}[CRing K]
def kn(l x1 y1 x y:K):K:=l*x1-y1-l*x+y
open Classical in
def ell:Pt K→Pt K→K→K→K
 | .aff x1 y1,.aff x2 y2,x,y=>
  if x1=x2 then (if y1≠y2∨y1=0 then x1-x else kn ((x1*x1+x1*x1+x1*x1)*inv (y1+y1)) x1 y1 x y)
  else kn ((y2-y1)*inv (x2-x1)) x1 y1 x y
 | _,_,_,_=>1
open Classical in
theorem qc(x1 y1 x2 y2 x y:K):ell (.aff x1 y1) (.aff x2 y2) x y =
  if x1=x2 then (if y1≠y2∨y1=0 then x1-x else kn ((x1*x1+x1*x1+x1*x1)*inv (y1+y1)) x1 y1 x y)
  else kn ((y2-y1)*inv (x2-x1)) x1 y1 x y:=rfl
theorem nY(p:Pt K)(x y:K):ell p .inf x y=1:=by cases p<;>rfl
theorem nV(p:Pt K)(x y:K):ell .inf p x y=1:=by cases p<;>rfl
variable {b:K}
theorem zee{x1 y1 x2 y2 l:K}(h:Ln b x1 y1 x2 y2 l)(x y:K):kn l x2 y2 x y=kn l x1 y1 x y:=
 fN (aZ [x1,y1,x2,y2,l,x,y]) (v4*v2-v3-v4*v5+v6) (v4*v0-v1-v4*v5+v6) (-1) v3 (v1+v4*(v2-v0)) h.h1 (by decide +kernel)
theorem Jk(l x1 y1 x2 x y:K):kn l x1 y1 x y=y+(l*(x1-(l*l-x1-x2))-y1)-l*(x-(l*l-x1-x2)):=
 ak (aZ [x1,y1,x2,l,x,y]) (v3*v0-v1-v3*v4+v5) (v5+(v3*(v0-(v3*v3-v0-v2))-v1)-v3*(v4-(v3*v3-v0-v2))) (by decide +kernel)
theorem FW{l k xD yD x y:K}(hD:yD*yD=xD*xD*xD+b)(hP:y*y=x*x*x+b):
  (y+yD-l*(x-xD))*kn k xD yD x y=(x-xD)*(x*x-(l+k)*y+(xD+l*k)*x+(xD*xD+(l-k)*yD-l*k*xD)):=
 zb (aZ [l,k,xD,yD,x,y,b]) ((v5+v3-v0*(v4-v2))*(v1*v2-v3-v1*v4+v5)) ((v4-v2)*(v4*v4-(v0+v1)*v5+(v2+v0*v1)*v4+(v2*v2+(v0-v1)*v3-v0*v1*v2))) 1 (v5*v5) (v4*v4*v4+v6) (-1) (v3*v3) (v2*v2*v2+v6) hP hD (by decide +kernel)
theorem Fa{x1 y1 x2 y2 x3 y3 l m i x y:K}(h:Ln b x1 y1 x2 y2 l)(k:Ln b x2 y2 x3 y3 m)(rel:i*(m-l)=x3-x1)(hP:y*y=x*x*x+b):
  kn l x1 y1 x y*kn (i-l) (l*l-x1-x2) (l*(x1-(l*l-x1-x2))-y1) x y*(x-(m*m-x2-x3)) =
  kn m x2 y2 x y*kn (i-m) (m*m-x2-x3) (m*(x2-(m*m-x2-x3))-y2) x y*(x-(l*l-x1-x2)):=by
 have hD:(l*(x1-(l*l-x1-x2))-y1)*(l*(x1-(l*l-x1-x2))-y1)=(l*l-x1-x2)*(l*l-x1-x2)*(l*l-x1-x2)+b:=h.third
 have hE:(m*(x2-(m*m-x2-x3))-y2)*(m*(x2-(m*m-x2-x3))-y2)=(m*m-x2-x3)*(m*m-x2-x3)*(m*m-x2-x3)+b:=k.third
 rw [Jk l x1 y1 x2,Jk m x2 y2 x3,FW hD hP,FW hE hP]
 have e1:l*(y1+(y1+l*(x2-x1)))=x2*x2+x1*x2+x1*x1:=by rw [←h.h1];exact h.e1
 have e2:m*((y1+l*(x2-x1))+((y1+l*(x2-x1))+m*(x3-x2)))=x3*x3+x2*x3+x2*x2:=by rw [←h.h1,←k.h1];exact k.e1
 have hc:(l*l-x1-x2)*(l*l-x1-x2)+(l-(i-l))*(l*(x1-(l*l-x1-x2))-y1)-l*(i-l)*(l*l-x1-x2) =
   (m*m-x2-x3)*(m*m-x2-x3)+(m-(i-m))*(m*(x2-(m*m-x2-x3))-y2)-m*(i-m)*(m*m-x2-x3):=by
  rw [h.h1]
  exact Jl (aZ [x1,y1,x2,x3,l,m,i])
   ((v4*v4-v0-v2)*(v4*v4-v0-v2)+(v4-(v6-v4))*(v4*(v0-(v4*v4-v0-v2))-v1)-v4*(v6-v4)*(v4*v4-v0-v2))
   ((v5*v5-v2-v3)*(v5*v5-v2-v3)+(v5-(v6-v5))*(v5*(v2-(v5*v5-v2-v3))-(v1+v4*(v2-v0)))-v5*(v6-v5)*(v5*v5-v2-v3))
   v2 (v6*(v5-v4)) (v3-v0) (-1) (v4*(v1+(v1+v4*(v2-v0)))) (v2*v2+v0*v2+v0*v0) 1 (v5*((v1+v4*(v2-v0))+((v1+v4*(v2-v0))+v5*(v3-v2)))) (v3*v3+v2*v3+v2*v2) rel e1 e2 (by decide +kernel)
 have hx:l*l-x1-x2+l*(i-l)=m*m-x2-x3+m*(i-m):=
  fN (aZ [x1,x2,x3,l,m,i]) (v3*v3-v0-v1+v3*(v5-v3)) (v4*v4-v1-v2+v4*(v5-v4)) (-1) (v5*(v4-v3)) (v2-v0) rel (by decide +kernel)
 have hi:l+(i-l)=m+(i-m):=ak (aZ [l,m,i]) (v0+(v2-v0)) (v1+(v2-v1)) (by decide +kernel)
 rw [hc,hx,hi]
 generalize m*m-x2-x3=p
 generalize l*l-x1-x2=q
 generalize x*x-(m+(i-m))*y+(p+m*(i-m))*x+(p*p+(m-(i-m))*(m*(x2-p)-y2)-m*(i-m)*p)=n
 exact ak (aZ [x,p,q,n]) ((v0-v2)*v3*(v0-v1)) ((v0-v1)*v3*(v0-v2)) (by decide +kernel)
theorem zax{x1 y1 x2 y2 l:K}(h:Ln b x1 y1 x2 y2 l):x1*x2+x1*(l*l-x1-x2)+x2*(l*l-x1-x2)=-(l*(y1-l*x1)+l*(y1-l*x1)):=by
 have e1:l*(y1+(y1+l*(x2-x1)))=x2*x2+x1*x2+x1*x1:=by rw [←h.h1];exact h.e1
 exact fN (aZ [x1,y1,x2,l]) (v0*v2+v0*(v3*v3-v0-v2)+v2*(v3*v3-v0-v2)) (-(v3*(v1-v3*v0)+v3*(v1-v3*v0))) 1 (v3*(v1+(v1+v3*(v2-v0)))) (v2*v2+v0*v2+v0*v0) e1 (by decide +kernel)
theorem zaw{x1 y1 x2 y2 l:K}(h:Ln b x1 y1 x2 y2 l):x1*x2*(l*l-x1-x2)=(y1-l*x1)*(y1-l*x1)-b:=by
 have e1:l*(y1+(y1+l*(x2-x1)))=x2*x2+x1*x2+x1*x1:=by rw [←h.h1];exact h.e1
 exact zb (aZ [x1,y1,x2,l,b]) (v0*v2*(v3*v3-v0-v2)) ((v1-v3*v0)*(v1-v3*v0)-v4) v0 (v3*(v1+(v1+v3*(v2-v0)))) (v2*v2+v0*v2+v0*v0) (-1) (v1*v1) (v0*v0*v0+v4) e1 h.on (by decide +kernel)
theorem Hj(d e a1 a2 a3:K):(d*a1+e)*(d*a2+e)*(d*a3+e)=d*d*d*(a1*a2*a3)+d*d*e*(a1*a2+a1*a3+a2*a3)+d*e*e*(a1+a2+a3)+e*e*e:=
 ak (aZ [d,e,a1,a2,a3]) ((v0*v2+v1)*(v0*v3+v1)*(v0*v4+v1)) (v0*v0*v0*(v2*v3*v4)+v0*v0*v1*(v2*v3+v2*v4+v3*v4)+v0*v1*v1*(v2+v3+v4)+v1*v1*v1) (by decide +kernel)
theorem Rn{x1 y1 x2 y2 l p1 q1 p2 q2 k:K}(h:Ln b x1 y1 x2 y2 l)(g:Ln b p1 q1 p2 q2 k):
  kn l x1 y1 p1 q1*kn l x1 y1 p2 q2*kn l x1 y1 (k*k-p1-p2) (-(k*(p1-(k*k-p1-p2))-q1)) =
  -(kn k p1 q1 x1 y1*kn k p1 q1 x2 y2*kn k p1 q1 (l*l-x1-x2) (-(l*(x1-(l*l-x1-x2))-y1))):=by
 have a1:kn l x1 y1 p1 q1=(k-l)*p1+((q1-k*p1)-(y1-l*x1)):=ak (aZ [x1,y1,l,p1,q1,k]) (v2*v0-v1-v2*v3+v4) ((v5-v2)*v3+((v4-v5*v3)-(v1-v2*v0))) (by decide +kernel)
 have a2:kn l x1 y1 p2 q2=(k-l)*p2+((q1-k*p1)-(y1-l*x1)):=by
  rw [g.h1]
  exact ak (aZ [x1,y1,l,p1,q1,k,p2]) (v2*v0-v1-v2*v6+(v4+v5*(v6-v3))) ((v5-v2)*v6+((v4-v5*v3)-(v1-v2*v0))) (by decide +kernel)
 have a3:kn l x1 y1 (k*k-p1-p2) (-(k*(p1-(k*k-p1-p2))-q1))=(k-l)*(k*k-p1-p2)+((q1-k*p1)-(y1-l*x1)):=by
  generalize k*k-p1-p2=p3
  exact ak (aZ [x1,y1,l,p1,q1,k,p3]) (v2*v0-v1-v2*v6+-(v5*(v3-v6)-v4)) ((v5-v2)*v6+((v4-v5*v3)-(v1-v2*v0))) (by decide +kernel)
 have c1:kn k p1 q1 x1 y1=-((k-l)*x1+((q1-k*p1)-(y1-l*x1))):=ak (aZ [x1,y1,l,p1,q1,k]) (v5*v3-v4-v5*v0+v1) (-((v5-v2)*v0+((v4-v5*v3)-(v1-v2*v0)))) (by decide +kernel)
 have c2:kn k p1 q1 x2 y2=-((k-l)*x2+((q1-k*p1)-(y1-l*x1))):=by
  rw [h.h1]
  exact ak (aZ [x1,y1,l,p1,q1,k,x2]) (v5*v3-v4-v5*v6+(v1+v2*(v6-v0))) (-((v5-v2)*v6+((v4-v5*v3)-(v1-v2*v0)))) (by decide +kernel)
 have c3:kn k p1 q1 (l*l-x1-x2) (-(l*(x1-(l*l-x1-x2))-y1))=-((k-l)*(l*l-x1-x2)+((q1-k*p1)-(y1-l*x1))):=by
  generalize l*l-x1-x2=x3
  exact ak (aZ [x1,y1,l,p1,q1,k,x3]) (v5*v3-v4-v5*v6+-(v2*(v0-v6)-v1)) (-((v5-v2)*v6+((v4-v5*v3)-(v1-v2*v0)))) (by decide +kernel)
 rw [a1,a2,a3,c1,c2,c3]
 have zLj:∀ u v w:K,-(-u*-v*-w)=u*v*w:=fun u v w=>ak (aZ [u,v,w]) (-(-v0*-v1*-v2)) (v0*v1*v2) (by decide +kernel)
 rw [zLj,Hj,Hj,zax h,zaw h,zax g,zaw g]
 have s1:p1+p2+(k*k-p1-p2)=k*k:=ak (aZ [p1,p2,k]) (v0+v1+(v2*v2-v0-v1)) (v2*v2) (by decide +kernel)
 have t1:x1+x2+(l*l-x1-x2)=l*l:=ak (aZ [x1,x2,l]) (v0+v1+(v2*v2-v0-v1)) (v2*v2) (by decide +kernel)
 rw [s1,t1]
 generalize q1-k*p1=f
 generalize y1-l*x1=n
 exact ak (aZ [k,l,f,n,b])
  ((v0-v1)*(v0-v1)*(v0-v1)*(v2*v2-v4)+(v0-v1)*(v0-v1)*(v2-v3)*-(v0*v2+v0*v2)+(v0-v1)*(v2-v3)*(v2-v3)*(v0*v0)+(v2-v3)*(v2-v3)*(v2-v3))
  ((v0-v1)*(v0-v1)*(v0-v1)*(v3*v3-v4)+(v0-v1)*(v0-v1)*(v2-v3)*-(v1*v3+v1*v3)+(v0-v1)*(v2-v3)*(v2-v3)*(v1*v1)+(v2-v3)*(v2-v3)*(v2-v3)) (by decide +kernel)
end
structure Halves(K:Type)[CRing K](T S V:K→Prop):Prop where
 ts:∀ a,T a→S a
 t1:T 1
 tadd:∀ a c,T a→T c→T (a+c)
 tneg:∀ a,T a→T (-a)
 tmul:∀ a c,T a→T c→T (a*c)
 tinv:∀ a,T a→T (inv a)
 s1:S 1
 sadd:∀ a c,S a→S c→S (a+c)
 sneg:∀ a,S a→S (-a)
 smul:∀ a c,S a→S c→S (a*c)
 sinv:∀ a,S a→S (inv a)
 vadd:∀ a c,V a→V c→V (a+c)
 vneg:∀ a,V a→V (-a)
 sv:∀ a c,S a→V c→V (a*c)
 vv:∀ a c,V a→V c→S (a*c)
 vinv:∀ a,V a→V (inv a)
 none:∀ a,S a→V a→a=0
structure Kills(K:Type)[CRing K](S:K→Prop)(G:K→K):Prop where
 mul:∀ a c,G (a*c)=G a*G c
 one:∀ a,S a→a≠0→G a=1
def TPt{K:Type}(T:K→Prop):Pt K→Prop
 | .inf=>True
 | .aff x y=>T x∧T y
structure Far{K:Type}[CRing K](T S V:K→Prop)(b x y:K):Prop where
 on:y*y=x*x*x+b
 xs:S x
 xt:¬T x
 yv:V y
 y0:y≠0
section
variable {K:Type}[CRing K]{T S V:K→Prop}
theorem Halves.tsub(H:Halves K T S V){a c:K}(ha:T a)(hc:T c):T (a-c):=H.tadd _ _ ha (H.tneg _ hc)
theorem Halves.ssub(H:Halves K T S V){a c:K}(ha:S a)(hc:S c):S (a-c):=H.sadd _ _ ha (H.sneg _ hc)
theorem Halves.vsub(H:Halves K T S V){a c:K}(ha:V a)(hc:V c):V (a-c):=H.vadd _ _ ha (H.vneg _ hc)
theorem Halves.vs(H:Halves K T S V){a c:K}(ha:V a)(hc:S c):V (a*c):=by rw [mul_comm];exact H.sv _ _ hc ha
end
section
variable {K:Type}[CRing K]{b:K}{T S V:K→Prop}{G:K→K}
theorem Kills.inv2(k:Kills K S G){a c:K}(h:S (a*c))(h0:a*c≠0):G a*G c=1:=by rw [←k.mul];exact k.one _ h h0
end
section
variable {K:Type}[CRing K]{b:K}{T S V:K→Prop}{G:K→K}
theorem Kills.eqv(k:Kills K S G){u v s t:K}(e:u*s=v*t)(hs:S s)(ht:S t)(s0:s≠0)(t0:t≠0):G u=G v:=by
 have:=congrArg G e
 rw [k.mul,k.mul,k.one s hs s0,k.one t ht t0,mul_one,mul_one] at this
 exact this
end
section
variable {K:Type}[CRing K]{b:K}{T S V:K→Prop}{G:K→K}
theorem Far.neg(H:Halves K T S V){x y:K}(h:Far T S V b x y):Far T S V b x (-y):=
 ⟨by rw [gk,lM,bm];exact h.on,h.xs,h.xt,H.vneg _ h.yv,fun e=>h.y0 (by rw [←bm y,e,a_])⟩
end
section
variable {K:Type}[CRing K]{b:K}{T S V:K→Prop}{G:K→K}
theorem Far.add_ne(H:Halves K T S V){x y c:K}(h:Far T S V b x y)(hc:S c):y+c≠0:=fun e=>h.y0 (H.none y (by
 have:y=-c:=by rw [←add_zero y,←add_neg c,←add_assoc,e,bG]
 rw [this];exact H.sneg _ hc) h.yv)
end
section
variable {K:Type}[CRing K]{b:K}{T S V:K→Prop}{G:K→K}
theorem Far.sub_ne(H:Halves K T S V){x y d:K}(h:Far T S V b x y)(hd:T d):x-d≠0:=fun e=>h.xt (by rw [ct.1 e];exact hd)
end
section
variable {K:Type}[CRing K]{b:K}{T S V:K→Prop}{G:K→K}
theorem Far.ne_sub(H:Halves K T S V){x y d:K}(h:Far T S V b x y)(hd:T d):d-x≠0:=fun e=>h.xt (by rw [←ct.1 e];exact hd)
end
section
variable {K:Type}[CRing K][IsField K]{b:K}{T S V:K→Prop}{G:K→K}
theorem Far.pair(H:Halves K T S V)(k:Kills K S G){x y c:K}(h:Far T S V b x y)(hc:S c):G (y+c)*G (y-c)=1:=by
 have e:(y+c)*(y-c)=y*y-c*c:=ak (aZ [y,c]) ((v0+v1)*(v0-v1)) (v0*v0-v1*v1) (by decide +kernel)
 refine k.inv2 ?_ (bo (h.add_ne H hc) (h.add_ne H (H.sneg _ hc)))
 rw [e]
 exact H.ssub (H.vv _ _ h.yv h.yv) (H.smul _ _ hc hc)
theorem Kills.neg(H:Halves K T S V)(k:Kills K S G)(C:Cv K b)(a:K):G (-a)=G a:=by
 have h1:S (-(1:K)):=H.sneg _ H.s1
 have h0 : -(1:K)≠0:=fun e=>bB (R:=K) (by rw [←bm (1:K),e,a_])
 have : -a=-1*a:=by rw [gk,aP]
 rw [this,k.mul,k.one _ h1 h0,aP]
theorem Ln.slope(C:Cv K b){x1 y1 x2 y2 l:K}(h:Ln b x1 y1 x2 y2 l)(hn:¬(x1=x2∧y2=-y1)):(x1=x2∧y2=y1∧y1≠0∧l=(x1*x1+x1*x1+x1*x1)*inv (y1+y1))∨(x1≠x2∧l=(y2-y1)*inv (x2-x1)):=by
 by_cases hx:x1=x2
 ·subst hx
  have hy:y2=y1:=by rw [h.h1,cL,aq,add_zero]
  subst hy
  have Vh:y2≠0:=fun e=>hn ⟨rfl,by rw [e,a_]⟩
  have hd:=zA C Vh
  refine .inl ⟨rfl,rfl,Vh,ch hd ?_⟩
  rw [mul_comm _ (_*inv _),mul_assoc,mul_comm (inv _),bs hd,mul_one,mul_comm _ l,h.e1]
 ·have hd:=Alg.sub_ne hx
  refine .inr ⟨hx,ch hd ?_⟩
  rw [mul_comm _ (_*inv _),mul_assoc,mul_comm (inv _),bs hd,mul_one]
  exact fN (aZ [x1,y1,x2,y2,l]) ((v2-v0)*v4) (v3-v1) (-1) v3 (v1+v4*(v2-v0)) h.h1 (by decide +kernel)
theorem gY(C:Cv K b){x1 y1 x2 y2 l:K}(h:Ln b x1 y1 x2 y2 l)(hn:¬(x1=x2∧y2=-y1))(x y:K):ell (.aff x1 y1) (.aff x2 y2) x y=kn l x1 y1 x y:=by
 rw [qc]
 rcases h.slope C hn with ⟨h1,h2,h3,h4⟩|⟨h1,h2⟩
 ·rw [if_pos h1,if_neg (by rintro (e | e);exact e h2.symm;exact h3 e),h4]
 ·rw [if_neg h1,h2]
theorem BU(C:Cv K b)(x1 y1 x y:K):ell (.aff x1 y1) (.aff x1 (-y1)) x y=x1-x:=by
 rw [qc,if_pos rfl]
 by_cases h:y1=-y1
 ·rw [if_pos (.inr (kg C h))]
 ·rw [if_pos (.inl h)]
theorem ju(C:Cv K b){A B:Pt K}(hA:On b A)(hB:On b B)(x y:K):ell A B x y=ell B A x y:=by
 cases A with
 | inf=>rw [nY,nV]
 | aff x1 y1=>cases B with
  | inf=>rw [nY,nV]
  | aff x2 y2=>
   by_cases hn:x1=x2∧y2=-y1
   ·obtain ⟨rfl,rfl⟩:=hn
    have:=BU C x1 (-y1) x y
    rw [bm] at this
    rw [BU C,this]
   ·obtain ⟨l,hl⟩:=kH C hA hB hn
    have hn':¬(x2=x1∧y1=-y2):=fun e=>hn ⟨e.1.symm,by rw [e.2,bm]⟩
    rw [gY C hl hn,gY C hl.symm hn',zee hl]
theorem Ln.inT(H:Halves K T S V)(C:Cv K b){x1 y1 x2 y2 l:K}(h:Ln b x1 y1 x2 y2 l)(hn:¬(x1=x2∧y2=-y1))(h1:T x1)(h2:T y1)(h3:T x2)(h4:T y2):T l:=by
 rcases h.slope C hn with ⟨_,_,_,e⟩|⟨_,e⟩
 ·rw [e]
  exact H.tmul _ _ (H.tadd _ _ (H.tadd _ _ (H.tmul _ _ h1 h1) (H.tmul _ _ h1 h1)) (H.tmul _ _ h1 h1)) (H.tinv _ (H.tadd _ _ h2 h2))
 ·rw [e]
  exact H.tmul _ _ (H.tsub h4 h2) (H.tinv _ (H.tsub h3 h1))
end
section
variable {K:Type}[CRing K]{b:K}{T S V:K→Prop}{G:K→K}
theorem TPt.neg(H:Halves K T S V){A:Pt K}(h:TPt T A):TPt T A.neg:=by
 cases A with
 | inf=>trivial
 | aff x y=>exact ⟨h.1,H.tneg _ h.2⟩
end
section
variable {K:Type}[CRing K]{b:K}{T S V:K→Prop}{G:K→K}
theorem TPt.sumBy(H:Halves K T S V){l x1 y1 x2:K}(hl:T l)(h1:T x1)(h2:T y1)(h3:T x2):TPt T (sumBy l x1 y1 x2):=by
 have hx:T (l*l-x1-x2):=H.tsub (H.tsub (H.tmul _ _ hl hl) h1) h3
 exact ⟨hx,H.tsub (H.tmul _ _ hl (H.tsub h1 hx)) h2⟩
end
section
variable {K:Type}[CRing K][IsField K]{b:K}{T S V:K→Prop}{G:K→K}
theorem TPt.add(H:Halves K T S V)(C:Cv K b){A B:Pt K}(hA:On b A)(hB:On b B)(tA:TPt T A)(tB:TPt T B):TPt T (padd A B):=by
 cases A with
 | inf=>rw [b6];exact tB
 | aff x1 y1=>cases B with
  | inf=>rw [dq];exact tA
  | aff x2 y2=>
   by_cases hn:x1=x2∧y2=-y1
   ·obtain ⟨rfl,rfl⟩:=hn
    rw [dT x1 y1 C];trivial
   ·obtain ⟨l,hl⟩:=kH C hA hB hn
    rw [dm C hl hn]
    exact TPt.sumBy H (hl.inT H C hn tA.1 tA.2 tB.1 tB.2) tA.1 tA.2 tB.1
theorem eP(H:Halves K T S V)(k:Kills K S G){x y:K}{A B:Pt K}(h:A = .inf∨B = .inf):G (ell A B x y)=1:=by
 have:G 1=1:=k.one _ H.s1 bB
 rcases h with rfl|rfl
 ·rw [nV];exact this
 ·rw [nY];exact this
variable (H:Halves K T S V)(k:Kills K S G)(C:Cv K b){x y:K}(f:Far T S V b x y)
include H k C f
theorem c8{A:Pt K}(tA:TPt T A):G (ell A A.neg x y)=1:=by
 cases A with
 | inf=>exact eP H k (.inl rfl)
 | aff x1 y1=>
  show G (ell (.aff x1 y1) (.aff x1 (-y1)) x y)=1
  rw [BU C]
  exact k.one _ (H.ssub (H.ts _ tA.1) f.xs) (f.ne_sub H tA.1)
theorem qa{A B:Pt K}(hA:On b A)(hB:On b B)(tA:TPt T A)(tB:TPt T B):G (ell A B x y)*G (ell A B x (-y))=1:=by
 have f':=f.neg H
 cases A with
 | inf=>rw [eP H k (.inl rfl),eP H k (.inl rfl),mul_one]
 | aff x1 y1=>cases B with
  | inf=>rw [eP H k (.inr rfl),eP H k (.inr rfl),mul_one]
  | aff x2 y2=>
   by_cases hn:x1=x2∧y2=-y1
   ·obtain ⟨rfl,rfl⟩:=hn
    rw [show (Pt.aff x1 (-y1))=(Pt.aff x1 y1).neg from rfl,c8 H k C f tA,c8 H k C f' tA,mul_one]
   ·obtain ⟨l,hl⟩:=kH C hA hB hn
    have tl:=hl.inT H C hn tA.1 tA.2 tB.1 tB.2
    rw [gY C hl hn,gY C hl hn]
    have hc:S (l*x1-y1-l*x):=H.ssub (H.ssub (H.smul _ _ (H.ts _ tl) (H.ts _ tA.1)) (H.ts _ tA.2)) (H.smul _ _ (H.ts _ tl) f.xs)
    have e1:kn l x1 y1 x y=y+(l*x1-y1-l*x):=add_comm _ _
    have e2:kn l x1 y1 x (-y)=-(y-(l*x1-y1-l*x)):=ak (aZ [l,x1,y1,x,y]) (v0*v1-v2-v0*v3+-v4) (-(v4-(v0*v1-v2-v0*v3))) (by decide +kernel)
    rw [e1,e2,k.neg H C]
    exact f.pair H k hc
theorem D9{A B:Pt K}(hA:On b A)(hB:On b B)(tA:TPt T A)(tB:TPt T B):G (ell A.neg B.neg x y)=G (ell A B x (-y)):=by
 have f':=f.neg H
 cases A with
 | inf=>rw [eP H k (A:=Pt.inf.neg) (.inl rfl),eP H k (.inl rfl)]
 | aff x1 y1=>cases B with
  | inf=>rw [eP H k (B:=Pt.inf.neg) (.inr rfl),eP H k (.inr rfl)]
  | aff x2 y2=>
   by_cases hn:x1=x2∧y2=-y1
   ·obtain ⟨rfl,rfl⟩:=hn
    rw [show (Pt.aff x1 (-y1))=(Pt.aff x1 y1).neg from rfl,c8 H k C f (TPt.neg H tA),c8 H k C f' tA]
   ·obtain ⟨l,hl⟩:=kH C hA hB hn
    have l6:Ln b x1 (-y1) x2 (-y2) (-l):=by
     refine ⟨db (p:=.aff x1 y1) hl.on,?_,?_⟩
     ·rw [hl.h1];exact ak (aZ [y1,l,x1,x2]) (-(v0+v1*(v3-v2))) (-v0+-v1*(v3-v2)) (by decide +kernel)
     ·rw [←hl.e1];exact ak (aZ [y1,l,y2]) (-v1*(-v0+-v2)) (v1*(v0+v2)) (by decide +kernel)
    have hn':¬(x1=x2∧-y2=- -y1):=fun e=>hn ⟨e.1,by rw [←bm y2,e.2,bm]⟩
    show G (ell (.aff x1 (-y1)) (.aff x2 (-y2)) x y)=_
    rw [gY C l6 hn',gY C hl hn,←k.neg H C]
    congr 1
    exact ak (aZ [l,x1,y1,x,y]) (-(-v0*v1 - -v2 - -v0*v3+v4)) (v0*v1-v2-v0*v3+-v4) (by decide +kernel)
theorem o9{A B:Pt K}(hA:On b A)(hB:On b B)(tA:TPt T A)(tB:TPt T B):G (ell A B x y)*G (ell (padd A B) B.neg x y)=1:=by
 have f':=f.neg H
 cases A with
 | inf=>rw [b6,eP H k (.inl rfl),c8 H k C f tB,mul_one]
 | aff x1 y1=>cases B with
  | inf=>rw [eP H k (.inr rfl),eP H k (B:=Pt.inf.neg) (.inr rfl),mul_one]
  | aff x2 y2=>
   by_cases hn:x1=x2∧y2=-y1
   ·obtain ⟨rfl,rfl⟩:=hn
    rw [dT x1 y1 C,eP H k (A:=.inf) (.inl rfl),show (Pt.aff x1 (-y1))=(Pt.aff x1 y1).neg from rfl,c8 H k C f tA,mul_one]
   ·obtain ⟨l,hl⟩:=kH C hA hB hn
    have hn2:¬(l*l-x1-x2=x2∧-y2=-(l*(x1-(l*l-x1-x2))-y1)):=by
     rintro ⟨e1,e2⟩
     have hp:padd (.aff x1 y1) (.aff x2 y2) = .aff x2 y2:=by
      rw [dm C hl hn]
      unfold sumBy
      rw [e1,←bm y2,e2,bm,e1]
     have:=ka C hA hB
     rw [hp,dZ C] at this
     cases this
    rw [dm C hl hn]
    show G (ell (.aff x1 y1) (.aff x2 y2) x y)*G (ell (.aff _ _) (.aff x2 (-y2)) x y)=1
    rw [gY C hl.back hn2,←qa H k C f hA hB tA tB,gY C hl hn]
    congr 1
    rw [gY C hl hn,Jk l x1 y1 x2 x (-y),←k.neg H C]
    congr 1
    generalize l*l-x1-x2=p
    exact ak (aZ [l,x1,y1,x,y,p]) (-(-v0*v5-(v0*(v1-v5)-v2) - -v0*v3+v4)) (-v4+(v0*(v1-v5)-v2)-v0*(v3-v5)) (by decide +kernel)
theorem Hf{A B D:Pt K}(hA:On b A)(hB:On b B)(hD:On b D)(tA:TPt T A)(tB:TPt T B)(tD:TPt T D):
  G (ell A B x y)*G (ell (padd A B) D x y)=G (ell B D x y)*G (ell A (padd B D) x y):=by
 have hAB:=fL C hA hB
 have hBD:=fL C hB hD
 have tAB:=TPt.add H C hA hB tA tB
 have tBD:=TPt.add H C hB hD tB tD
 have one:=@eP K _ _ T S V G H k x y
 by_cases hS:padd A B=D.neg
 ·have e1:G (ell (padd A B) D x y)=1:=by
   rw [hS,ju C (db hD) hD];exact c8 H k C f tD
  have e2:padd B D=A.neg:=by
   have:D=(padd A B).neg:=by rw [hS,lm]
   rw [this,pY C hA hB,bI C (db hA) (db hB),←ep C hB (db hB) (db hA),dZ C,b6]
  rw [e1,e2,c8 H k C f tA,mul_one,mul_one]
  have h1:=o9 H k C f hB hA tB tA
  rw [bI C hB hA,hS] at h1
  have h2:G (ell B D x y)*G (ell D.neg A.neg x y)=1:=by
   rw [D9 H k C f hD hA tD tA]
   have h3:=o9 H k C f hB hD tB tD
   rw [e2] at h3
   have h4:G (ell A.neg D.neg x y)=G (ell D A x (-y)):=by rw [D9 H k C f hA hD tA tD,ju C hA hD]
   rw [h4] at h3
   exact h3
  rw [ju C hA hB]
  have h5:G (ell B A x y)*(G (ell B D x y)*G (ell D.neg A.neg x y))=G (ell B D x y)*(G (ell B A x y)*G (ell D.neg A.neg x y)):=by
   rw [←mul_assoc,mul_comm (G (ell B A x y)),mul_assoc]
  rw [h1,h2,mul_one,mul_one] at h5
  exact h5
 cases A with
 | inf=>rw [b6,one (.inl rfl),one (.inl rfl),aP,mul_one]
 | aff x1 y1=>
 cases B with
 | inf=>rw [b6,dq,one (.inr rfl),one (.inl rfl)]
 | aff x2 y2=>
 cases D with
 | inf=>rw [dq,one (.inr rfl),one (.inr rfl),aP,mul_one]
 | aff x3 y3=>
 by_cases n1:x1=x2∧y2=-y1
 ·obtain ⟨rfl,rfl⟩:=n1
  rw [dT x1 y1 C,one (A:=.inf) (.inl rfl),show (Pt.aff x1 (-y1))=(Pt.aff x1 y1).neg from rfl,c8 H k C f tA,mul_one]
  have:=o9 H k C f hD (db hA) tD (TPt.neg H tA)
  rw [lm] at this
  rw [ju C (db hA) hD,bI C (db hA) hD,ju C hA (fL C hD (db hA)),this]
 by_cases n2:x2=x3∧y3=-y2
 ·obtain ⟨rfl,rfl⟩:=n2
  rw [dT x2 y2 C,one (B:=.inf) (.inr rfl),show (Pt.aff x2 (-y2))=(Pt.aff x2 y2).neg from rfl,c8 H k C f tB,mul_one]
  exact o9 H k C f hA hB tA tB
 by_cases n3:x1=x3
 ·rcases yx hA hD n3 with n4|n4
  ·subst n3;subst n4
   rw [ju C hAB hA,ju C hA hB,bI C hA hB]
  ·subst n3;subst n4
   have h1:=o9 H k C f hB hA tB tA
   have h2:=o9 H k C f hB (db hA) tB (TPt.neg H tA)
   rw [lm] at h2
   rw [bI C hA hB,ju C hA hB,show (Pt.aff x1 (-y1))=(Pt.aff x1 y1).neg from rfl,h1,ju C hA (fL C hB (db hA)),h2]
 obtain ⟨l,hl⟩:=kH C hA hB n1
 obtain ⟨m,hm⟩:=kH C hB hD n2
 have hd:=Alg.sub_ne n3
 obtain ⟨a,ha⟩:∃ a,a*(x3-x1)=m-l:=⟨(m-l)*inv (x3-x1),by rw [mul_assoc,mul_comm (inv _),bs hd,mul_one]⟩
 have hp1:=dm C hl n1
 have hp2:=dm C hm n2
 have hS1:¬(l*l-x1-x2=x3∧y3=-(l*(x1-(l*l-x1-x2))-y1)):=by
  rintro ⟨e1,e2⟩
  apply hS
  rw [hp1]
  show Pt.aff (l*l-x1-x2) (l*(x1-(l*l-x1-x2))-y1) = .aff x3 (-y3)
  rw [e2,bm,e1]
 obtain ⟨a0,hn1⟩:=hl.next2 hm n3 ha hS1
 have ha':a*(x1-x3)=l-m:=fN (aZ [x1,x3,l,m,a]) (v4*(v0-v1)) (v2-v3) (-1) (v4*(v1-v0)) (v3-v2) ha (by decide +kernel)
 have sE:=ua hm
 have hS2:¬(m*m-x3-x2=x1∧y1=-(m*(x3-(m*m-x3-x2))-y3)):=by
  rintro ⟨e1,e2⟩
  apply hS
  have hE:padd (.aff x2 y2) (.aff x3 y3)=(Pt.aff x1 y1).neg:=by
   rw [hp2,←sE]
   show Pt.aff (m*m-x3-x2) (m*(x3-(m*m-x3-x2))-y3) = .aff x1 (-y1)
   rw [e2,bm,e1]
  have:=ka C hA hB
  have h2:padd (padd (.aff x1 y1) (.aff x2 y2)) (.aff x3 y3) = .inf:=by rw [ep C hA hB hD,hE,dZ C]
  have h3:=ka C hAB hD
  rw [h2,b6] at h3
  exact h3.symm
 obtain ⟨_,hn2⟩:=hm.symm.next2 hl.symm (fun e=>n3 e.symm) ha' hS2
 have c1:m*m-x3-x2=m*m-x2-x3:=by
  have:=sE;unfold sumBy at this;exact (Pt.aff.inj this).1
 have c2:m*(x3-(m*m-x3-x2))-y3=m*(x2-(m*m-x2-x3))-y2:=by
  have:=sE;unfold sumBy at this;exact (Pt.aff.inj this).2
 rw [c2,c1] at hn2
 have nn1:¬(l*l-x1-x2=x3∧y3=-(l*(x1-(l*l-x1-x2))-y1)):=hS1
 have nn2:¬(m*m-x2-x3=x1∧y1=-(m*(x2-(m*m-x2-x3))-y2)):=by rw [←c2,←c1];exact hS2
 have hi:=bs a0
 rw [ju C hA hBD,hp1,hp2,gY C hl n1,gY C hm n2]
 show G (kn l x1 y1 x y)*G (ell (.aff (l*l-x1-x2) (l*(x1-(l*l-x1-x2))-y1)) (.aff x3 y3) x y)=G (kn m x2 y2 x y)*G (ell (.aff (m*m-x2-x3) (m*(x2-(m*m-x2-x3))-y2)) (.aff x1 y1) x y)
 rw [gY C hn1 nn1,gY C hn2 nn2,←k.mul,←k.mul]
 have rel:inv a*(m-l)=x3-x1:=by
  rw [←ha,←mul_assoc,mul_comm (inv _),hi,aP]
 refine k.eqv (Fa hl hm rel f.on) ?_ ?_ ?_ ?_
 ·rw [hp2] at tBD;exact H.ssub f.xs (H.ts _ tBD.1)
 ·rw [hp1] at tAB;exact H.ssub f.xs (H.ts _ tAB.1)
 ·rw [hp2] at tBD;exact f.sub_ne H tBD.1
 ·rw [hp1] at tAB;exact f.sub_ne H tAB.1
theorem zgH{A B D E:Pt K}(hA:On b A)(hB:On b B)(hD:On b D)(hE:On b E)(tA:TPt T A)(tB:TPt T B)(tD:TPt T D)(tE:TPt T E):
  G (ell A B x y)*G (ell D E x y)*G (ell (padd A B) (padd D E) x y)=G (ell A D x y)*G (ell B E x y)*G (ell (padd A D) (padd B E) x y):=by
 have half:∀ {A B D E:Pt K},On b A→On b B→On b D→On b E→TPt T A→TPt T B→TPt T D→TPt T E →
   G (ell A B x y)*G (ell D E x y)*G (ell (padd A B) (padd D E) x y)=G (ell B D x y)*G (ell (padd B D) E x y)*G (ell A (padd B (padd D E)) x y):=by
  intro A B D E hA hB hD hE tA tB tD tE
  have h1:=Hf H k C f hA hB (fL C hD hE) tA tB (TPt.add H C hD hE tD tE)
  have h2:=Hf H k C f hB hD hE tB tD tE
  rw [mul_comm (G (ell A B x y)),mul_assoc,h1,←mul_assoc,←h2]
 rw [half hA hB hD hE tA tB tD tE,half hA hD hB hE tA tD tB tE,ju C hB hD,bI C hB hD]
 congr 2
 rw [←ep C hB hD hE,←ep C hD hB hE,bI C hB hD]
end
def zik{K:Type}[CRing K](g:K→K→K):Pt K→K
 | .inf=>1
 | .aff x y=>g x y
def Ny{K:Type}[CRing K]:Pt K→Prop
 | .inf=>True
 | .aff _ y=>y≠0
section
variable {K:Type}[CRing K][IsField K]{b:K}{T S V:K→Prop}{G:K→K}
theorem Near.pair(H:Halves K T S V)(k:Kills K S G){y c:K}(hy:S y)(y0:y≠0)(hc:V c):G (y+c)*G (y-c)=1:=by
 have ne:∀ {c:K},V c→y+c≠0:=fun {c} hc e=>y0 (H.none y hy (by
  have:y=-c:=by rw [←add_zero y,←add_neg c,←add_assoc,e,bG]
  rw [this];exact H.vneg _ hc))
 have e:(y+c)*(y-c)=y*y-c*c:=ak (aZ [y,c]) ((v0+v1)*(v0-v1)) (v0*v0-v1*v1) (by decide +kernel)
 refine k.inv2 ?_ (bo (ne hc) (ne (H.vneg _ hc)))
 rw [e]
 exact H.ssub (H.smul _ _ hy hy) (H.vv _ _ hc hc)
theorem Ln.inV(H:Halves K T S V)(C:Cv K b){p1 q1 p2 q2 g:K}(h:Ln b p1 q1 p2 q2 g)(hn:¬(p1=p2∧q2=-q1))(f1:Far T S V b p1 q1)(f2:Far T S V b p2 q2):V g:=by
 rcases h.slope C hn with ⟨_,_,_,e⟩|⟨_,e⟩
 ·rw [e]
  exact H.sv _ _ (H.sadd _ _ (H.sadd _ _ (H.smul _ _ f1.xs f1.xs) (H.smul _ _ f1.xs f1.xs)) (H.smul _ _ f1.xs f1.xs)) (H.vinv _ (H.vadd _ _ f1.yv f1.yv))
 ·rw [e]
  exact H.vs (H.vsub f2.yv f1.yv) (H.sinv _ (H.ssub f2.xs f1.xs))
variable (H:Halves K T S V)(k:Kills K S G)(C:Cv K b)
include H k C
theorem N9{p1 q1 g x y:K}(hg:V g)(f1:Far T S V b p1 q1)(hx:T x)(hy:T y)(y0:y≠0):G (kn g p1 q1 x y)*G (kn g p1 q1 x (-y))=1:=by
 have hc:V (g*p1-q1-g*x):=H.vsub (H.vsub (H.vs hg f1.xs) f1.yv) (H.vs hg (H.ts _ hx))
 have e1:kn g p1 q1 x y=y+(g*p1-q1-g*x):=add_comm _ _
 have e2:kn g p1 q1 x (-y)=-(y-(g*p1-q1-g*x)):=ak (aZ [g,p1,q1,x,y]) (v0*v1-v2-v0*v3+-v4) (-(v4-(v0*v1-v2-v0*v3))) (by decide +kernel)
 rw [e1,e2,k.neg H C]
 exact Near.pair H k (H.ts _ hy) y0 hc
theorem zgG{p1 q1 p2 q2 p3 q3:K}(f1:Far T S V b p1 q1)(f2:Far T S V b p2 q2)(f3:Far T S V b p3 q3)(hp:padd (.aff p1 q1) (.aff p2 q2) = .aff p3 q3){A B:Pt K}(hA:On b A)(hB:On b B)(tA:TPt T A)(tB:TPt T B)(nA:Ny A)(nB:Ny B)(nS:Ny (padd A B)):
  G (ell A B p1 q1)*G (ell A B p2 q2)*zik (fun x y=>G (ell (.aff p1 q1) (.aff p2 q2) x y)) (padd A B) =
  G (ell A B p3 q3)*(zik (fun x y=>G (ell (.aff p1 q1) (.aff p2 q2) x y)) A*zik (fun x y=>G (ell (.aff p1 q1) (.aff p2 q2) x y)) B):=by
 have hn:¬(p1=p2∧q2=-q1):=by
  rintro ⟨rfl,rfl⟩
  rw [dT p1 q1 C] at hp
  cases hp
 obtain ⟨g,hg⟩:=kH C f1.on f2.on hn
 have vg:=hg.inV H C hn f1 f2
 have em:(fun x y=>G (ell (.aff p1 q1) (.aff p2 q2) x y))=fun x y=>G (kn g p1 q1 x y):=by
  funext x y;rw [gY C hg hn]
 rw [em]
 rw [dm C hg hn] at hp
 unfold sumBy at hp
 obtain ⟨e1,e2⟩:=Pt.aff.inj hp
 cases A with
 | inf=>rw [b6,eP H k (.inl rfl),eP H k (.inl rfl),eP H k (.inl rfl),aP,aP,show zik (fun x y=>G (kn g p1 q1 x y)) Pt.inf=1 from rfl,aP,aP]
 | aff x1 y1=>cases B with
  | inf=>
   rw [dq,eP H k (.inr rfl),eP H k (.inr rfl),eP H k (.inr rfl),aP,aP]
   show _=1*(_*1)
   rw [mul_one,aP]
  | aff x2 y2=>
   by_cases hm:x1=x2∧y2=-y1
   ·obtain ⟨rfl,rfl⟩:=hm
    rw [dT x1 y1 C,show (Pt.aff x1 (-y1))=(Pt.aff x1 y1).neg from rfl,c8 H k C f1 tA,c8 H k C f2 tA,c8 H k C f3 tA]
    show (1:K)*1*1=1*(G (kn g p1 q1 x1 y1)*G (kn g p1 q1 x1 (-y1)))
    rw [N9 H k C vg f1 tA.1 tA.2 nA,mul_one,mul_one]
   ·obtain ⟨l,hl⟩:=kH C hA hB hm
    have tS:=TPt.add H C hA hB tA tB
    have key:=congrArg G (Rn hl hg)
    rw [e2,e1,k.neg H C,k.mul,k.mul,k.mul,k.mul] at key
    have RG:=qa H k C f3 hA hB tA tB
    rw [dm C hl hm] at nS tS ⊢
    have hS:=N9 H k C vg f1 tS.1 tS.2 nS
    rw [gY C hl hm,gY C hl hm] at RG
    rw [gY C hl hm,gY C hl hm,gY C hl hm]
    show G (kn l x1 y1 p1 q1)*G (kn l x1 y1 p2 q2)*G (kn g p1 q1 (l*l-x1-x2) (l*(x1-(l*l-x1-x2))-y1))=G (kn l x1 y1 p3 q3)*(G (kn g p1 q1 x1 y1)*G (kn g p1 q1 x2 y2))
    generalize G (kn g p1 q1 (l*l-x1-x2) (l*(x1-(l*l-x1-x2))-y1))=d at hS ⊢
    generalize G (kn g p1 q1 (l*l-x1-x2) (-(l*(x1-(l*l-x1-x2))-y1)))=d' at key hS
    generalize G (kn l x1 y1 p3 (-q3))=t' at key RG
    generalize G (kn l x1 y1 p3 q3)=t at RG ⊢
    generalize G (kn l x1 y1 p1 q1)=u1 at key ⊢
    generalize G (kn l x1 y1 p2 q2)=u2 at key ⊢
    generalize G (kn g p1 q1 x1 y1)=w1 at key ⊢
    generalize G (kn g p1 q1 x2 y2)=w2 at key ⊢
    exact Jl (aZ [u1,u2,d,t,w1,w2,d',t']) (v0*v1*v2) (v3*(v4*v5)) (v3*v2) (v0*v1*v7) (v4*v5*v6) (v3*v4*v5) (v2*v6) 1 (-(v0*v1*v2)) (v3*v7) 1 key hS RG (by decide +kernel)
end
end Go.Alg
namespace Go.Alg
section
variable {K L:Type}[CRing K][CRing L]
structure Emb(h:K→L):Prop where
 add:∀ x y,h (x+y)=h x+h y
 mul:∀ x y,h (x*y)=h x*h y
 neg:∀ x,h (-x)=-h x
 one:h 1=1
 inj:∀ x y,h x=h y→x=y
variable {h:K→L}
theorem Emb.sub(H:Emb h)(x y:K):h (x-y)=h x-h y:=by rw [j6,H.add,H.neg,←j6]
theorem Emb.zero(H:Emb h):h 0=0:=by rw [←cL (1:K),H.sub,cL]
theorem Emb.eq0(H:Emb h){x:K}:h x=0↔x=0:=⟨fun e=>H.inj _ _ (by rw [e,H.zero]),fun e=>by rw [e,H.zero]⟩
theorem Emb.eq(H:Emb h){x y:K}:h x=h y↔x=y:=⟨H.inj _ _,fun e=>by rw [e]⟩
def l9(h:K→L):Pt K→Pt L
 | .inf=>.inf
 | .aff x y=>.aff (h x) (h y)
theorem Emb.neg_pt(H:Emb h)(p:Pt K):l9 h p.neg=(l9 h p).neg:=by
 cases p with
 | inf=>rfl
 | aff x y=>show Pt.aff (h x) (h (-y)) = .aff (h x) (-h y);rw [H.neg]
theorem Emb.on(H:Emb h){b:K}(p:Pt K):On (h b) (l9 h p)↔On b p:=by
 cases p with
 | inf=>exact Iff.rfl
 | aff x y=>
  show h y*h y=h x*h x*h x+h b↔y*y=x*x*x+b
  rw [←H.mul,←H.mul,←H.mul,←H.add,H.eq]
end
section
variable {K L:Type}[CRing K][CRing L][IsField K][IsField L]{h:K→L}
theorem Emb.inv(H:Emb h)(x:K):h (Alg.inv x)=Alg.inv (h x):=by
 by_cases e:x=0
 ·rw [e,iQ,H.zero,iQ]
 ·exact (nk (by rw [←H.mul,bs e,H.one])).symm
open Classical in
theorem Emb.padd(H:Emb h)(p q:Pt K):l9 h (Alg.padd p q)=Alg.padd (l9 h p) (l9 h q):=by
 cases p with
 | inf=>rw [b6];exact (b6 _).symm
 | aff x1 y1=>cases q with
  | inf=>rw [dq];exact (dq _).symm
  | aff x2 y2=>
   show l9 h (Alg.padd (.aff x1 y1) (.aff x2 y2))=Alg.padd (.aff (h x1) (h y1)) (.aff (h x2) (h y2))
   rw [eI,eI]
   have hs:∀ l,l9 h (sumBy l x1 y1 x2)=sumBy (h l) (h x1) (h y1) (h x2):=by
    intro l
    unfold sumBy
    show Pt.aff _ _=Pt.aff _ _
    simp only [H.sub,H.mul]
   by_cases e:x1=x2
   ·rw [if_pos e,if_pos (H.eq.2 e)]
    by_cases e2:y1≠y2∨y1=0
    ·rw [if_pos e2,if_pos (e2.elim (fun k=>.inl fun k'=>k (H.inj _ _ k')) fun k=>.inr (H.eq0.2 k))];rfl
    ·rw [if_neg e2,if_neg (fun k=>e2 (k.elim (fun k=>.inl fun k'=>k (H.eq.2 k')) fun k=>.inr (H.eq0.1 k))),hs]
     simp only [H.mul,H.add,H.inv]
   ·rw [if_neg e,if_neg (fun k=>e (H.inj _ _ k)),hs]
    simp only [H.mul,H.sub,H.inv]
end
section
variable {K:Type}[CRing K]
def T5(u:K):Pt K→Pt K
 | .inf=>.inf
 | .aff x y=>.aff (x*(u*u)) (y*(u*u*u))
theorem zuw{b u:K}{p:Pt K}(h:On b p):On (b*(u*u*(u*u)*(u*u))) (T5 u p):=by
 cases p with
 | inf=>trivial
 | aff x y=>
  have h:y*y=x*x*x+b:=h
  show y*(u*u*u)*(y*(u*u*u))=x*(u*u)*(x*(u*u))*(x*(u*u))+b*(u*u*(u*u)*(u*u))
  exact fN (aZ [x,y,u,b]) (v1*(v2*v2*v2)*(v1*(v2*v2*v2))) (v0*(v2*v2)*(v0*(v2*v2))*(v0*(v2*v2))+v3*(v2*v2*(v2*v2)*(v2*v2))) (v2*v2*(v2*v2)*(v2*v2)) (v1*v1) (v0*v0*v0+v3) h (by decide +kernel)
end
section
variable {K:Type}[CRing K][IsField K]
theorem jq{a b c:K}(h:c≠0):a*c=b*c↔a=b:=⟨fun e=>ch h (by rw [mul_comm c,mul_comm c];exact e),fun e=>by rw [e]⟩
open Classical in
theorem zci{u:K}(hu:u≠0)(p q:Pt K):T5 u (padd p q)=padd (T5 u p) (T5 u q):=by
 have h2:u*u≠0:=bo hu hu
 have h3:u*u*u≠0:=bo h2 hu
 have i1:=bs hu
 cases p with
 | inf=>rw [b6];exact (b6 _).symm
 | aff x1 y1=>cases q with
  | inf=>rw [dq];exact (dq _).symm
  | aff x2 y2=>
   show T5 u (padd (.aff x1 y1) (.aff x2 y2))=padd (.aff (x1*(u*u)) (y1*(u*u*u))) (.aff (x2*(u*u)) (y2*(u*u*u)))
   rw [eI,eI]
   have hs:∀ l,T5 u (sumBy l x1 y1 x2)=sumBy (l*u) (x1*(u*u)) (y1*(u*u*u)) (x2*(u*u)):=by
    intro l
    unfold sumBy
    show Pt.aff _ _=Pt.aff _ _
    have e1:(l*l-x1-x2)*(u*u)=l*u*(l*u)-x1*(u*u)-x2*(u*u):=ak (aZ [l,x1,x2,u]) ((v0*v0-v1-v2)*(v3*v3)) (v0*v3*(v0*v3)-v1*(v3*v3)-v2*(v3*v3)) (by decide +kernel)
    rw [←e1]
    congr 1
    generalize l*l-x1-x2=t
    exact ak (aZ [l,x1,t,y1,u]) ((v0*(v1-v2)-v3)*(v4*v4*v4)) (v0*v4*(v1*(v4*v4)-v2*(v4*v4))-v3*(v4*v4*v4)) (by decide +kernel)
   have sl:∀ a d:K,a*inv d*u=a*(u*u*u)*inv (d*(u*u)):=by
    intro a d
    rw [kL,kL]
    exact fN (aZ [a,inv d,u,inv u]) (v0*v1*v2) (v0*(v2*v2*v2)*(v1*(v3*v3))) (-(v0*v1*v2*(v2*v3+1))) (v2*v3) 1 i1 (by decide +kernel)
   have sl2:∀ a d:K,a*inv d*u=a*(u*u*(u*u))*inv (d*(u*u*u)):=by
    intro a d
    rw [kL,kL,kL]
    exact fN (aZ [a,inv d,u,inv u]) (v0*v1*v2) (v0*(v2*v2*(v2*v2))*(v1*(v3*v3*v3))) (-(v0*v1*v2*(v2*v3*(v2*v3)+v2*v3+1))) (v2*v3) 1 i1 (by decide +kernel)
   by_cases e:x1=x2
   ·rw [if_pos e,if_pos ((jq h2).2 e)]
    by_cases e2:y1≠y2∨y1=0
    ·rw [if_pos e2,if_pos (e2.elim (fun k=>.inl fun k'=>k ((jq h3).1 k')) fun k=>.inr (by rw [k,aS]))];rfl
    ·rw [if_neg e2,if_neg (fun k=>e2 (k.elim (fun k=>.inl fun k'=>k ((jq h3).2 k')) fun k=>.inr ((cc.1 k).resolve_right h3))),hs,sl2]
     congr 2
     ·exact ak (aZ [x1,u]) ((v0*v0+v0*v0+v0*v0)*(v1*v1*(v1*v1))) (v0*(v1*v1)*(v0*(v1*v1))+v0*(v1*v1)*(v0*(v1*v1))+v0*(v1*v1)*(v0*(v1*v1))) (by decide +kernel)
     ·rw [mL]
   ·rw [if_neg e,if_neg (fun k=>e ((jq h2).1 k)),hs,sl]
    congr 2
    ·exact ak (aZ [y1,y2,u]) ((v1-v0)*(v2*v2*v2)) (v1*(v2*v2*v2)-v0*(v2*v2*v2)) (by decide +kernel)
    ·congr 1
     exact ak (aZ [x1,x2,u]) ((v1-v0)*(v2*v2)) (v1*(v2*v2)-v0*(v2*v2)) (by decide +kernel)
end
section
variable {K L:Type}[CRing K][CRing L][IsField K][IsField L]{h:K→L}
open Classical in
theorem Emb.ell(H:Emb h)(p q:Pt K)(x y:K):Alg.ell (l9 h p) (l9 h q) (h x) (h y)=h (Alg.ell p q x y):=by
 cases p with
 | inf=>rw [nV,show l9 h Pt.inf = .inf from rfl,nV,H.one]
 | aff x1 y1=>cases q with
  | inf=>rw [nY,show l9 h Pt.inf = .inf from rfl,nY,H.one]
  | aff x2 y2=>
   show Alg.ell (.aff (h x1) (h y1)) (.aff (h x2) (h y2)) (h x) (h y)=_
   rw [qc,qc]
   have hs:∀ l,h (kn l x1 y1 x y)=kn (h l) (h x1) (h y1) (h x) (h y):=by
    intro l
    unfold kn
    simp only [H.sub,H.mul,H.add]
   by_cases e:x1=x2
   ·rw [if_pos e,if_pos (H.eq.2 e)]
    by_cases e2:y1≠y2∨y1=0
    ·rw [if_pos e2,if_pos (e2.elim (fun k=>.inl fun k'=>k (H.inj _ _ k')) fun k=>.inr (H.eq0.2 k)),H.sub]
    ·rw [if_neg e2,if_neg (fun k=>e2 (k.elim (fun k=>.inl fun k'=>k (H.eq.2 k')) fun k=>.inr (H.eq0.1 k))),hs]
     simp only [H.mul,H.add,H.inv]
   ·rw [if_neg e,if_neg (fun k=>e (H.inj _ _ k)),hs]
    simp only [H.mul,H.sub,H.inv]
end
section
variable {K:Type}[CRing K][IsField K]
open Classical in
theorem zkN{u:K}(hu:u≠0)(p q:Pt K)(x y:K):ell (T5 u p) (T5 u q) (x*(u*u)) (y*(u*u*u))=ell p q x y∨ell (T5 u p) (T5 u q) (x*(u*u)) (y*(u*u*u))=ell p q x y*(u*u) ∨
  ell (T5 u p) (T5 u q) (x*(u*u)) (y*(u*u*u))=ell p q x y*(u*u*u):=by
 have h2:u*u≠0:=bo hu hu
 have h3:u*u*u≠0:=bo h2 hu
 have i1:=bs hu
 cases p with
 | inf=>left;rw [nV];exact nV _ _ _
 | aff x1 y1=>cases q with
  | inf=>left;rw [nY];exact nY _ _ _
  | aff x2 y2=>
   right
   show ell (.aff (x1*(u*u)) (y1*(u*u*u))) (.aff (x2*(u*u)) (y2*(u*u*u))) _ _=_∨ell (.aff (x1*(u*u)) (y1*(u*u*u))) (.aff (x2*(u*u)) (y2*(u*u*u))) _ _=_
   rw [qc,qc]
   have hs:∀ l,kn (l*u) (x1*(u*u)) (y1*(u*u*u)) (x*(u*u)) (y*(u*u*u))=kn l x1 y1 x y*(u*u*u):=fun l=>
    ak (aZ [l,x1,y1,x,y,u]) (v0*v5*(v1*(v5*v5))-v2*(v5*v5*v5)-v0*v5*(v3*(v5*v5))+v4*(v5*v5*v5)) ((v0*v1-v2-v0*v3+v4)*(v5*v5*v5)) (by decide +kernel)
   have sl:∀ a d:K,a*inv d*u=a*(u*u*u)*inv (d*(u*u)):=by
    intro a d
    rw [kL,kL]
    exact fN (aZ [a,inv d,u,inv u]) (v0*v1*v2) (v0*(v2*v2*v2)*(v1*(v3*v3))) (-(v0*v1*v2*(v2*v3+1))) (v2*v3) 1 i1 (by decide +kernel)
   have sl2:∀ a d:K,a*inv d*u=a*(u*u*(u*u))*inv (d*(u*u*u)):=by
    intro a d
    rw [kL,kL,kL]
    exact fN (aZ [a,inv d,u,inv u]) (v0*v1*v2) (v0*(v2*v2*(v2*v2))*(v1*(v3*v3*v3))) (-(v0*v1*v2*(v2*v3*(v2*v3)+v2*v3+1))) (v2*v3) 1 i1 (by decide +kernel)
   by_cases e:x1=x2
   ·rw [if_pos e,if_pos ((jq h2).2 e)]
    by_cases e2:y1≠y2∨y1=0
    ·rw [if_pos e2,if_pos (e2.elim (fun k=>.inl fun k'=>k ((jq h3).1 k')) fun k=>.inr (by rw [k,aS]))]
     left
     exact ak (aZ [x1,x,u]) (v0*(v2*v2)-v1*(v2*v2)) ((v0-v1)*(v2*v2)) (by decide +kernel)
    ·rw [if_neg e2,if_neg (fun k=>e2 (k.elim (fun k=>.inl fun k'=>k ((jq h3).2 k')) fun k=>.inr ((cc.1 k).resolve_right h3))),←hs,sl2]
     right
     congr 2
     ·exact ak (aZ [x1,u]) (v0*(v1*v1)*(v0*(v1*v1))+v0*(v1*v1)*(v0*(v1*v1))+v0*(v1*v1)*(v0*(v1*v1))) ((v0*v0+v0*v0+v0*v0)*(v1*v1*(v1*v1))) (by decide +kernel)
     ·rw [mL]
   ·rw [if_neg e,if_neg (fun k=>e ((jq h2).1 k)),←hs,sl]
    right
    congr 2
    ·exact ak (aZ [y1,y2,u]) (v1*(v2*v2*v2)-v0*(v2*v2*v2)) ((v1-v0)*(v2*v2*v2)) (by decide +kernel)
    ·congr 1
     exact ak (aZ [x1,x2,u]) (v1*(v2*v2)-v0*(v2*v2)) ((v1-v0)*(v2*v2)) (by decide +kernel)
end
end Go.Alg
namespace Go.Proofs.YtcafpgpahbplaaaGreat
open Go Go.Eng Go.RowKit Go.Wd Go.Alg Go.Pr
theorem mm2{R:Type}[CRing R](a b c d:R):a*b*(c*d)=a*c*(b*d):=ak (aZ [a,b,c,d]) (v0*v1*(v2*v3)) (v0*v2*(v1*v3)) (by decide +kernel)
theorem mm3{R:Type}[CRing R](a b c d e f:R):a*b*(c*d)*(e*f)=a*c*e*(b*d*f):=ak (aZ [a,b,c,d,e,f]) (v0*v1*(v2*v3)*(v4*v5)) (v0*v2*v4*(v1*v3*v5)) (by decide +kernel)
theorem ztl{R:Type}[CRing R]{k:R}(x:R):(KZ x*(wG*wG):Quad (Cub R k) ⟨0,1,0⟩)=⟨⟨0,x,0⟩,⟨0,0,0⟩⟩:=by
 rw [w2G,m8]
 simp only [aq,mul_one]
theorem ztk{R:Type}[CRing R]{k:R}(x:R):(KZ x*(wG*wG*wG):Quad (Cub R k) ⟨0,1,0⟩)=⟨⟨0,0,0⟩,⟨0,x,0⟩⟩:=by
 rw [w3G,m8]
 simp only [aq,mul_one]
theorem lm1{R:Type}[CRing R](L X Y A B W:R):L*X-Y-L*(A*W)+B=L*X-Y+-(L*A*W)+B:=ak (aZ [L,X,Y,A,B,W]) (v0*v1-v2-v0*(v3*v5)+v4) (v0*v1-v2+-(v0*v3*v5)+v4) (by decide +kernel)
theorem lm2(a b c:F2):up a+-(⟨⟨0,b,0⟩,⟨0,0,0⟩⟩:dv)+⟨⟨0,0,0⟩,⟨0,c,0⟩⟩=⟨⟨a,-b,0⟩,⟨0,c,0⟩⟩:=by
 refine Quad.ext' (Cub.ext' ?_ ?_ ?_) (Cub.ext' ?_ ?_ ?_)
 ·show a+-0+0=a;rw [a_,add_zero,add_zero]
 ·show 0+-b+0=-b;rw [add_zero,bG]
 ·show (0:F2)+-0+0=0;rw [a_,add_zero,add_zero]
 ·show (0:F2)+-0+0=0;rw [a_,add_zero,add_zero]
 ·show 0+-0+c=c;rw [a_,add_zero,bG]
 ·show (0:F2)+-0+0=0;rw [a_,add_zero,add_zero]
theorem lm3(a b c:F2)(h:c=-b):up a-(⟨⟨0,b,0⟩,⟨0,0,0⟩⟩:dv)=⟨⟨a,c,0⟩,⟨0,0,0⟩⟩:=by
 subst h
 refine Quad.ext' (Cub.ext' ?_ ?_ ?_) (Cub.ext' ?_ ?_ ?_)
 ·show a+-0=a;rw [a_,add_zero]
 ·show 0+-b=-b;rw [bG]
 all_goals (show (0:F2)+-0=0;rw [a_,add_zero])
def xP:Nat:=0xd201000000010000
def xl:Nat:=0x396c8c005555e1568c00aaab0000aaab
def ZU(z:dv):dv:=pow z xP
def gF(f:dv):dv:=f.conj*inv f
def q8(g:dv):dv:=qR 2 g*g
def bF(a:dv):dv:=(ZU a).conj*qR 1 a
def cF(b:dv):dv:=ZU (ZU b)*qR 2 b*b.conj
def mJ(f:dv):dv:=cF (bF (pow (q8 (gF f)) xl))*q8 (gF f)
theorem sg(k:Nat)(z:dv):qR k z=pow z (pN^k):=by
 induction k with
 | zero=>rw [Nat.pow_zero,ft];rfl
 | succ k ih=>show σ (qR k z)=_;rw [ih,←nr,←cC,Nat.pow_succ]
theorem nx(z:dv):z.conj=pow z (pN^6):=by rw [←σ6,sg]
def zlr:Nat:=pN^12-1
theorem Uo{z:dv}(h:z≠0):pow z zlr=1:=by
 have e:=sg 12 z
 rw [zjf] at e
 have e2:pN^12=zlr+1:=by decide +kernel
 rw [e2,aC] at e
 refine (ch h ?_).symm
 rw [mul_one,mul_comm];exact e
theorem zm0{z:dv}(h:z≠0):inv z=pow z (pN^12-2):=by
 refine nk ?_
 rw [mul_comm,←aC,show pN^12-2+1=zlr by decide +kernel]
 exact Uo h
def eG:Nat:=pN^6+(pN^12-2)
def eH(n:Nat):Nat:=n*pN^2+n
def eB(n:Nat):Nat:=n*xP*pN^6+n*pN^1
def eC(n:Nat):Nat:=n*xP*xP+n*pN^2+n*pN^6
def zx4:Nat:=eC (eB (eH eG*xl))+eH eG
theorem zgm{z:dv}(h:z≠0):mJ z=pow z zx4:=by
 have e1:gF z=pow z eG:=by unfold gF eG;rw [zm0 h,nx,ed]
 have e2:∀ n,q8 (pow z n)=pow z (eH n):=by intro n;unfold q8 eH;rw [sg,←cC,ed]
 have e3:∀ n,bF (pow z n)=pow z (eB n):=by intro n;unfold bF eB ZU;rw [sg,nx,←cC,←cC,←cC,ed,Nat.mul_assoc n xP]
 have e4:∀ n,cF (pow z n)=pow z (eC n):=by intro n;unfold cF eC ZU;rw [sg,nx,←cC,←cC,←cC,←cC,ed,ed,Nat.mul_assoc n xP]
 unfold mJ zx4
 rw [e1,e2,←cC,e3,e4,←ed]
def rP:Nat:=0x73eda753299d7d483339d80809a1d80553bda402fffe5bfeffffffff00000001
theorem zx3:zx4*rP%zlr=0:=by decide +kernel
theorem zxN{z:dv}(h:z≠0):pow (mJ z) rP=1:=by
 rw [zgm h,←cC]
 obtain ⟨m,hm⟩:=Nat.dvd_of_mod_eq_zero zx3
 rw [hm,cC,Uo h,fT]
theorem El:(1:dv).conj=1:=Quad.ext' rfl a_
theorem HB(k:Nat):qR k 1=1:=by rw [sg,fT]
theorem HI(a c:dv):ZU (a*c)=ZU a*ZU c:=wO a c _
theorem zxl(a c:dv):gF (a*c)=gF a*gF c:=by
 unfold gF
 rw [pe,kL,mm2]
theorem zxa(a c:dv):q8 (a*c)=q8 a*q8 c:=by
 unfold q8
 rw [B7,mm2]
theorem zyM(a c:dv):bF (a*c)=bF a*bF c:=by
 unfold bF
 rw [HI,pe,B7,mm2]
theorem zyy(a c:dv):cF (a*c)=cF a*cF c:=by
 unfold cF
 rw [HI,HI,pe,B7,mm3]
theorem xr(a c:dv):mJ (a*c)=mJ a*mJ c:=by
 unfold mJ
 rw [zxl,zxa,wO,zyM,zyy,mm2]
theorem N8{z:dv}(h:gF z=1):mJ z=1:=by
 have h1:q8 1=1:=by unfold q8;rw [HB,aP]
 have h2:ZU 1=1:=fT _
 have h3:bF 1=1:=by unfold bF;rw [h2,El,HB,aP]
 have h4:cF 1=1:=by unfold cF;rw [h2,h2,El,HB,aP,aP]
 unfold mJ
 rw [h,h1,fT,h3,h4,aP]
theorem sT{z:dv}(h:z.b=0)(h0:z≠0):mJ z=1:=by
 refine N8 ?_
 have e:z.conj=z:=Quad.ext' rfl (by show -z.b=z.b;rw [h,a_])
 unfold gF
 rw [e,bs h0]
theorem Y5:mJ 0=0:=by
 have e:gF 0=0:=by unfold gF;rw [iQ,aq]
 have e2:q8 0=0:=by unfold q8;rw [aq]
 unfold mJ
 rw [e,e2,aq]
theorem znH{z:dv}(h:z≠0):mJ z≠0:=by
 intro e
 have:=xr z (inv z)
 rw [bs h,e,aS] at this
 have h1:mJ 1=1:=sT rfl bB
 rw [h1] at this
 exact bB this
theorem Y6(z:dv)(n:Nat):mJ (pow z n)=pow (mJ z) n:=by
 induction n with
 | zero=>exact sT rfl bB
 | succ n ih=>rw [aC,xr,ih,←aC]
def Sp(z:dv):Prop:=z.b=0
def Vp(z:dv):Prop:=z.a=0
def Tp(z:dv):Prop:=∃ t:F2,z=up t
theorem bQ:Emb up where
 add x y:=by
  unfold up KZ
  refine Quad.ext' (Cub.ext' rfl ?_ ?_) (Cub.ext' ?_ ?_ ?_)<;>exact (add_zero 0).symm
 mul x y:=(Ck x y).symm
 neg x:=by
  unfold up KZ
  refine Quad.ext' (Cub.ext' rfl ?_ ?_) (Cub.ext' ?_ ?_ ?_)<;>exact a_.symm
 one:=rfl
 inj x y h:=congrArg (fun z:dv=>z.a.a) h
theorem Q3{R:Type}[CRing R][IsField R]{c:R}[IsField (Quad R c)](s:R):inv (⟨s,0⟩:Quad R c)=⟨inv s,0⟩:=by
 by_cases h:s=0
 ·subst h
  rw [show (⟨0,0⟩:Quad R c)=0 from rfl,iQ,iQ];rfl
 ·exact nk (by rw [Quad.coe_mul,bs h];rfl)
theorem Q0{R:Type}[CRing R][IsField R]{c:R}[IsField (Quad R c)](hc:c≠0)(s:R):inv (⟨0,s⟩:Quad R c)=⟨0,inv (c*s)⟩:=by
 by_cases h:s=0
 ·subst h
  rw [show (⟨0,0⟩:Quad R c)=0 from rfl,iQ,aq,iQ];rfl
 ·refine nk (Quad.ext' ?_ ?_)
  ·show 0*0+c*(s*inv (c*s))=1
   rw [aq,bG,←mul_assoc,bs (bo hc h)]
  ·show 0*inv (c*s)+s*0=0
   rw [aS,aq,add_zero]
theorem zA5:vv≠0:=fun e=>Di 0 (by rw [e,aq])
theorem p5:Halves dv Tp Sp Vp where
 ts a h:=by obtain ⟨t,rfl⟩:=h;rfl
 t1:=⟨1,rfl⟩
 tadd a c h k:=by obtain ⟨t,rfl⟩:=h;obtain ⟨s,rfl⟩:=k;exact ⟨t+s,(bQ.add _ _).symm⟩
 tneg a h:=by obtain ⟨t,rfl⟩:=h;exact ⟨-t,(bQ.neg _).symm⟩
 tmul a c h k:=by obtain ⟨t,rfl⟩:=h;obtain ⟨s,rfl⟩:=k;exact ⟨t*s,(bQ.mul _ _).symm⟩
 tinv a h:=by obtain ⟨t,rfl⟩:=h;exact ⟨inv t,(bQ.inv _).symm⟩
 s1:=rfl
 sadd a c h k:=by show a.b+c.b=0;rw [show a.b=0 from h,show c.b=0 from k,add_zero]
 sneg a h:=by show -a.b=0;rw [show a.b=0 from h,a_]
 smul a c h k:=by show a.a*c.b+a.b*c.a=0;rw [show a.b=0 from h,show c.b=0 from k,aq,aS,add_zero]
 sinv a h:=by
  have:a=⟨a.a,0⟩:=Quad.ext' rfl h
  rw [this,Q3];rfl
 vadd a c h k:=by show a.a+c.a=0;rw [show a.a=0 from h,show c.a=0 from k,add_zero]
 vneg a h:=by show -a.a=0;rw [show a.a=0 from h,a_]
 sv a c h k:=by show a.a*c.a+vv*(a.b*c.b)=0;rw [show a.b=0 from h,show c.a=0 from k,aq,aS,aq,add_zero]
 vv a c h k:=by show a.a*c.b+a.b*c.a=0;rw [show a.a=0 from h,show c.a=0 from k,aq,aS,add_zero]
 vinv a h:=by
  have:a=⟨0,a.b⟩:=Quad.ext' h rfl
  rw [this,Q0 zA5];rfl
 none a h k:=Quad.ext' k h
def GF(z:dv):dv:=mJ z.conj
theorem BX{z:dv}(h:z≠0):z.conj≠0:=fun e=>h (by rw [←qh z,e];exact Quad.ext' rfl a_)
theorem gq:Kills dv Sp GF where
 mul a c:=by unfold GF;rw [pe,xr]
 one a h h0:=by
  unfold GF
  exact sT (by show -a.b=0;rw [show a.b=0 from h,a_]) (BX h0)
theorem zzF(z:dv)(n:Nat):GF (pow z n)=pow (GF z) n:=by
 unfold GF
 rw [show (pow z n).conj=pow z.conj n by rw [nx,nx,←cC,←cC,Nat.mul_comm],Y6]
theorem zIW{z:dv}(h:z≠0):pow (GF z) rP=1:=zxN (BX h)
theorem zsX{z:dv}(h:z≠0):GF z≠0:=znH (BX h)
theorem zIU(z:dv):GF (σ z)=pow (GF z) pN:=by rw [←nr,zzF]
theorem zBb:up b2=up (PG b1)*(ww*ww*(ww*ww)*(ww*ww)):=by
 have e:ww*ww*(ww*ww)*(ww*ww)=pow ww 6:=by
  rw [aC,aC,aC,aC,aC,ft]
  exact ak (aZ [ww]) (v0*v0*(v0*v0)*(v0*v0)) (v0*v0*v0*v0*v0*v0) (by decide +kernel)
 rw [e,ww6,Ck]
 exact congrArg up (fR (by decide +kernel))
def EN(z:F):dv:=up (PG z)
theorem vh:Emb PG where
 add x y:=Quad.ext' rfl (add_zero 0).symm
 mul x y:=by
  refine Quad.ext' ?_ ?_
  ·show x*y=x*y+-1*(0*0)
   rw [aq,aq,add_zero]
  ·show 0=x*0+0*y
   rw [aq,aS,add_zero]
 neg x:=Quad.ext' rfl a_.symm
 one:=rfl
 inj x y h:=congrArg Quad.a h
theorem HP:Emb EN where
 add x y:=by unfold EN;rw [vh.add,bQ.add]
 mul x y:=by unfold EN;rw [vh.mul,bQ.mul]
 neg x:=by unfold EN;rw [vh.neg,bQ.neg]
 one:=rfl
 inj x y h:=vh.inj _ _ (bQ.inj _ _ h)
theorem zA0:ww≠0:=by
 intro e
 have:=congrArg (fun z:dv=>z.b.a) e
 exact bB (R:=F2) this
def xw(x:F):dv:=EN x*(ww*ww)
def yw(y:F):dv:=EN y*(ww*ww*ww)
def PK:Pt F→Pt dv
 | .inf=>.inf
 | .aff x y=>.aff (xw x) (yw y)
theorem HS(p:Pt F):PK p=T5 ww (l9 EN p):=by cases p<;>rfl
theorem zjM(p q:Pt F):PK (padd p q)=padd (PK p) (PK q):=by
 rw [HS,HS,HS,HP.padd,zci zA0]
abbrev b12:dv:=up b2
theorem zvI(x:F):EN x=up (PG x):=rfl
theorem ztp{p:Pt F}(h:On b1 p):On b12 (PK p):=by
 have h1:=zuw (u:=ww) ((HP.on p).2 h)
 have e:EN b1*(ww*ww*(ww*ww)*(ww*ww))=b12:=by rw [zvI];exact zBb.symm
 rw [e,←HS] at h1
 exact h1
theorem jf{A:Pt F2}(h:On b2 A):On b12 (l9 up A):=(bQ.on A).2 h
theorem Sx:Cv dv b12 where
 two:=fun e=>ic.two (bQ.inj _ _ (by rw [bQ.add,bQ.one,bQ.zero];exact e))
 three:=fun e=>ic.three (bQ.inj _ _ (by rw [bQ.add,bQ.add,bQ.one,bQ.zero];exact e))
 bne:=fun e=>ic.bne (bQ.inj _ _ (by rw [bQ.zero];exact e))
theorem Tx(k:F2):up k*(ww*ww)=⟨⟨0,k,0⟩,⟨0,0,0⟩⟩:=by
 exact ztl k
theorem zaP(k:F2):up k*(ww*ww*ww)=⟨⟨0,0,0⟩,⟨0,k,0⟩⟩:=by
 exact ztk k
theorem zxO{px py:F}(h:On b1 (.aff px py))(hx:px≠0)(hy:py≠0):Far Tp Sp Vp b12 (xw px) (yw py) where
 on:=ztp h
 xs:=by unfold xw EN;rw [Tx];rfl
 xt:=by
  rintro ⟨t,e⟩
  unfold xw EN at e
  rw [Tx] at e
  have:=congrArg (fun z:dv=>z.a.b.a) e
  exact hx this
 yv:=by unfold yw EN;rw [zaP];rfl
 y0:=by
  intro e
  unfold yw EN at e
  rw [zaP] at e
  have:=congrArg (fun z:dv=>z.b.b.a) e
  exact hy this
theorem iu(A:Pt F2):TPt Tp (l9 up A):=by
 cases A with
 | inf=>trivial
 | aff x y=>exact ⟨⟨x,rfl⟩,⟨y,rfl⟩⟩
theorem zef(l x y:F2)(px py:F):Rm l x y px py=kn (up l) (up x) (up y) (xw px) (yw py):=by
 unfold kn
 have e:up l*up x-up y-up l*xw px+yw py=up (l*x-y)+-(up (l*PG px)*(ww*ww))+yw py:=by
  rw [bQ.sub,bQ.mul,bQ.mul]
  unfold xw EN
  generalize up l=L
  generalize up x=X
  generalize up y=Y
  generalize up (PG px)=A
  generalize yw py=B
  exact lm1 L X Y A B (ww*ww)
 rw [e]
 unfold yw EN
 rw [Tx,zaP]
 exact (lm2 (l*x-y) (l*PG px) (PG py)).symm
open Classical in
theorem TU(A B:Pt F2)(px py:F):Qf A B (.aff px py)=ell (l9 up A) (l9 up B) (xw px) (yw py):=by
 cases A with
 | inf=>rw [zq8];rfl
 | aff x1 y1=>cases B with
  | inf=>rw [zq9];rfl
  | aff x2 y2=>
   rw [pG]
   show _=ell (.aff (up x1) (up y1)) (.aff (up x2) (up y2)) (xw px) (yw py)
   rw [qc]
   by_cases e:x1=x2
   ·rw [if_pos e,if_pos (bQ.eq.2 e)]
    by_cases e2:y1≠y2∨y1=0
    ·rw [if_pos e2,if_pos (e2.elim (fun k=>.inl fun k'=>k (bQ.inj _ _ k')) fun k=>.inr (bQ.eq0.2 k))]
     unfold rf xw EN
     rw [Tx]
     exact (lm3 x1 (PG px) (PG (-px)) (vh.neg px)).symm
    ·rw [if_neg e2,if_neg (fun k=>e2 (k.elim (fun k=>.inl fun k'=>k (bQ.eq.2 k')) fun k=>.inr (bQ.eq0.1 k))),zef]
     simp only [bQ.mul,bQ.add,bQ.inv]
   ·rw [if_neg e,if_neg (fun k=>e (bQ.inj _ _ k)),zef]
    simp only [bQ.mul,bQ.sub,bQ.inv]
end Go.Proofs.YtcafpgpahbplaaaGreat
namespace Go.Alg
section
variable {K:Type}[CRing K]
def Va(tz:K→Bool)(f:Jc K)(qx qy:K):Jc K:=match tz f.z with
 | true=>⟨qx,qy,1⟩
 | false=>match tz (qx*(f.z*f.z)-f.x) with
  | true=>match tz (qy*(f.z*f.z*f.z)-f.y) with
   | true=>Fe f
   | false=>⟨0,0,0⟩
  | false=>U_ f qx qy
theorem zeO{tz:K→Bool}(ht:∀ x,tz x=true↔x=0)(f:Jc K)(qx qy:K):Va tz f qx qy=w_ f qx qy:=by
 unfold Va w_
 have hf:∀ x,tz x=false→¬x=0:=fun x h e=>by have:=(ht x).2 e;rw [h] at this;cases this
 cases h1:tz f.z with
 | true=>rw [if_pos ((ht _).1 h1)]
 | false=>
  rw [if_neg (hf _ h1)]
  cases h2:tz (qx*(f.z*f.z)-f.x) with
  | true=>
   rw [if_pos ((ht _).1 h2)]
   cases h3:tz (qy*(f.z*f.z*f.z)-f.y) with
   | true=>rw [if_pos ((ht _).1 h3)]
   | false=>rw [if_neg (hf _ h3)]
  | false=>rw [if_neg (hf _ h2)]
def Fc(tz:K→Bool)(m:Nat)(qx qy:K):Nat→Jc K→Jc K
 | 0,s=>s
 | j+1,s=>Fc tz m qx qy j (match aaK (m/2^j%2) 1 with
  | true=>Va tz (Fe s) qx qy
  | false=>Fe s)
end
theorem JF(m j:Nat):m/2^j=2*(m/2^(j+1))+m/2^j%2:=by
 have:m/2^(j+1)=m/2^j/2:=by rw [Nat.pow_succ,Nat.div_div_eq_div_mul]
 omega
section
variable {K:Type}[CRing K][IsField K]{b:K}
theorem zeN(C:Cv K b){tz:K→Bool}(ht:∀ x,tz x=true↔x=0){m:Nat}{qx qy:K}(hq:On b (.aff qx qy)):∀ j s,Wi s (smul (m/2^j) (.aff qx qy))→Wi (Fc tz m qx qy j s) (smul m (.aff qx qy)):=by
 intro j
 induction j with
 | zero=>intro s h;rw [Nat.pow_zero,Nat.div_one] at h;exact h
 | succ j ih=>
  intro s h
  refine ih _ ?_
  have hd:=pM C (dN C hq _) h
  rw [←gb C hq] at hd
  have e:=JF m j
  rcases Nat.mod_two_eq_zero_or_one (m/2^j) with h0|h0
  ·have hb:aaK (m/2^j%2) 1=false:=by rw [h0];rfl
   rw [hb,e,h0]
   exact hd
  ·have hb:aaK (m/2^j%2) 1=true:=by rw [h0];rfl
   rw [hb,e,h0]
   show Wi (Va tz (Fe s) qx qy) (padd (smul (2*(m/2^(j+1))) _) _)
   rw [zeO ht]
   exact IC C (dN C hq _) hq hd
theorem BJ(C:Cv K b){tz:K→Bool}(ht:∀ x,tz x=true↔x=0){m:Nat}{qx qy:K}(hq:On b (.aff qx qy))(g:Nat)(hg:m<2^g):Wi (Fc tz m qx qy g ⟨0,0,0⟩) (smul m (.aff qx qy)):=by
 refine zeN C ht hq g _ ?_
 rw [Nat.div_eq_of_lt hg]
 exact rfl
theorem wZ(C:Cv K b){tz:K→Bool}(ht:∀ x,tz x=true↔x=0){m:Nat}{qx qy:K}(hq:On b (.aff qx qy))(g:Nat)(hg:m<2^g)(h:tz (Fc tz m qx qy g ⟨0,0,0⟩).z=true):smul m (.aff qx qy) = .inf:=by
 have hr:=BJ C ht hq g hg
 have hz:=(ht _).1 h
 cases hs:smul m (.aff qx qy) with
 | inf=>rfl
 | aff x y=>rw [hs] at hr;exact absurd hz hr.1
theorem zmX(C:Cv K b){tz:K→Bool}(ht:∀ x,tz x=true↔x=0){m:Nat}{qx qy:K}(hq:On b (.aff qx qy))(g:Nat)(hg:m<2^g)(h:tz (Fc tz m qx qy g ⟨0,0,0⟩).z=false):smul m (.aff qx qy)≠.inf:=by
 intro e
 have hr:=BJ C ht hq g hg
 rw [e] at hr
 have:=(ht _).2 hr
 rw [h] at this;cases this
def jis(tz:K→Bool)(f:Jc K)(x y:K):Bool:=!(tz f.z)&&(tz (f.x-x*(f.z*f.z))&&tz (f.y-y*(f.z*f.z*f.z)))
theorem gO(C:Cv K b){tz:K→Bool}(ht:∀ x,tz x=true↔x=0){m:Nat}{qx qy x y:K}(hq:On b (.aff qx qy))(g:Nat)(hg:m<2^g)(h:jis tz (Fc tz m qx qy g ⟨0,0,0⟩) x y=true):smul m (.aff qx qy) = .aff x y:=by
 have hr:=BJ C ht hq g hg
 generalize Fc tz m qx qy g ⟨0,0,0⟩=f at h hr
 unfold jis at h
 rw [aaf,aaf,Bool.not_eq_true',ht,ht] at h
 obtain ⟨h1,h2,h3⟩:=h
 have hz:f.z≠0:=fun e=>by have:=(ht _).2 e;rw [h1] at this;cases this
 have JC:Wi f (.aff x y):=⟨hz,m5 h2,m5 h3⟩
 rw [←yF hr,yF JC]
end
end Go.Alg
namespace Go.Proofs.YtcafpgpahbplaaaGreat
open Go Go.Eng Go.RowKit Go.Wd Go.Alg Go.Pr
def tz1(x:F):Bool:=aaK x.val 0
def TC(x:F2):Bool:=aaK x.a.val 0&&aaK x.b.val 0
theorem j5(x:F):tz1 x=true↔x=0:=by
 unfold tz1
 rw [ada]
 exact ⟨fun h=>u_ (h.trans B8),fun h=>by rw [h];exact B8.symm⟩
theorem fq(x:F2):TC x=true↔x=0:=by
 unfold TC
 rw [aaf,ada,ada]
 constructor
 ·intro h
  exact fR (by rw [←u9];exact Prod.ext h.1 h.2)
 ·intro h
  subst h
  have:dr 0=(0,0):=u9.symm
  exact ⟨congrArg Prod.fst this,congrArg Prod.snd this⟩
def bx1:F:=φ dj.1.1
def by1:F:=φ dj.1.2
def bx2:F2:=ar gI.1.1
def by2:F2:=ar gI.1.2
theorem zBW:aO<2^255:=by decide +kernel
theorem zpf:smul aO (bO dj) = .inf:=wZ oi j5 O7 255 zBW (by decide +kernel)
theorem zpe:smul aO (ιP2 gI) = .inf:=wZ ic fq j4 255 zBW (by decide +kernel)
end Go.Proofs.YtcafpgpahbplaaaGreat
namespace Go.Alg
section
variable {K:Type}[CRing K]
structure Hm(b:K)(s:K→K)(u v:K):Prop where
 add:∀ x y,s (x+y)=s x+s y
 mul:∀ x y,s (x*y)=s x*s y
 neg:∀ x,s (-x)=-s x
 inj:∀ x y,s x=s y→x=y
 une:u≠0
 uv:v*v=u*u*u
 bb:u*u*u*s b=b
def ZY(s:K→K)(u v:K):Pt K→Pt K
 | .inf=>.inf
 | .aff x y=>.aff (s x*u) (s y*v)
variable {b u v:K}{s:K→K}
theorem Hm.sub(H:Hm b s u v)(x y:K):s (x-y)=s x-s y:=by
 rw [j6,H.add,H.neg,←j6]
theorem zdJ(a x y:K):a*(x-y)=a*x-a*y:=ak (aZ [a,x,y]) (v0*(v1-v2)) (v0*v1-v0*v2) (by decide +kernel)
variable [IsField K]
theorem nR{a x y:K}(ha:a≠0)(h:x*a=y*a):x=y:=ch ha (by rw [mul_comm a x,mul_comm a y];exact h)
theorem Hm.vne(H:Hm b s u v):v≠0:=by
 intro h
 have:=H.uv
 rw [h,aS] at this
 have h2:=this.symm
 rcases cc.1 h2 with h3|h3
 ·rcases cc.1 h3 with h4|h4<;>exact H.une h4
 ·exact H.une h3
theorem Hm.on(H:Hm b s u v)(p:Pt K):On b (ZY s u v p)↔On b p:=by
 cases p with
 | inf=>exact Iff.rfl
 | aff x y=>
  show s y*v*(s y*v)=s x*u*(s x*u)*(s x*u)+b↔y*y=x*x*x+b
  have e1:s y*v*(s y*v)=u*u*u*s (y*y):=by
   rw [H.mul,←H.uv]
   exact ak (aZ [s y,v]) (v0*v1*(v0*v1)) (v1*v1*(v0*v0)) (by decide +kernel)
  have e2:s x*u*(s x*u)*(s x*u)+b=u*u*u*s (x*x*x+b):=by
   rw [H.add,H.mul,H.mul,mul_add,H.bb]
   exact congrArg (· + b) (ak (aZ [s x,u]) (v0*v1*(v0*v1)*(v0*v1)) (v1*v1*v1*(v0*v0*v0)) (by decide +kernel))
  rw [e1,e2]
  constructor
  ·intro h
   refine H.inj _ _ ?_
   have h0:u*u*u≠0:=by
    rw [←H.uv]
    intro h
    rcases cc.1 h with h4|h4<;>exact H.vne h4
   have:=congrArg (fun z=>z-u*u*u*s (x*x*x+b)) h
   simp only [cL,←zdJ] at this
   rcases cc.1 this with h3|h3
   ·exact absurd h3 h0
   ·exact ct.1 h3
  ·intro h;rw [h]
theorem Hm.ln(H:Hm b s u v){x1 y1 x2 y2 l:K}(h:Ln b x1 y1 x2 y2 l):Ln b (s x1*u) (s y1*v) (s x2*u) (s y2*v) (s l*(v*inv u)):=by
 have hm:u*inv u=1:=bs H.une
 have hmv:v*inv u*v=u*u:=by
  have:v*inv u*v=v*v*inv u:=ak (aZ [v,inv u]) (v0*v1*v0) (v0*v0*v1) (by decide +kernel)
  rw [this,H.uv]
  have:u*u*u*inv u=u*u*(u*inv u):=ak (aZ [u,inv u]) (v0*v0*v0*v1) (v0*v0*(v0*v1)) (by decide +kernel)
  rw [this,hm,mul_one]
 have hmu:v*inv u*u=v:=by
  have:v*inv u*u=v*(u*inv u):=ak (aZ [v,inv u,u]) (v0*v1*v2) (v0*(v2*v1)) (by decide +kernel)
  rw [this,hm,mul_one]
 refine ⟨?_,?_,?_⟩
 ·exact (H.on (.aff x1 y1)).2 h.on
 ·have e:=congrArg s h.h1
  rw [H.add,H.mul,H.sub] at e
  rw [e]
  exact fN (aZ [s y1,s l,s x1,s x2,v,inv u,u]) ((v0+v1*(v3-v2))*v4) (v0*v4+v1*(v4*v5)*(v3*v6-v2*v6)) (-(v1*(v3-v2))) (v4*v5*v6) v4 hmu (by decide +kernel)
 ·have e:=congrArg s h.e1
  rw [H.mul,H.add,H.add,H.add,H.mul,H.mul,H.mul] at e
  exact zb (aZ [s y1,s y2,s l,s x1,s x2,v,inv u,u]) (v2*(v5*v6)*(v0*v5+v1*v5)) (v4*v7*(v4*v7)+v3*v7*(v4*v7)+v3*v7*(v3*v7)) (v2*(v0+v1)) (v5*v6*v5) (v7*v7) (v7*v7) (v2*(v0+v1)) (v4*v4+v3*v4+v3*v3) hmv e (by decide +kernel)
theorem Hm.mp_add(C:Cv K b)(H:Hm b s u v){p q:Pt K}(hp:On b p)(hq:On b q):ZY s u v (padd p q)=padd (ZY s u v p) (ZY s u v q):=by
 cases p with
 | inf=>rw [b6];exact (b6 _).symm
 | aff x1 y1=>
  cases q with
  | inf=>rw [dq];exact (dq _).symm
  | aff x2 y2=>
   by_cases hn:x1=x2∧y2=-y1
   ·obtain ⟨rfl,rfl⟩:=hn
    rw [dT x1 y1 C]
    show Pt.inf=padd (.aff (s x1*u) (s y1*v)) (.aff (s x1*u) (s (-y1)*v))
    rw [H.neg,gk,dT _ _ C]
   ·obtain ⟨l,hl⟩:=kH C hp hq hn
    have hn':¬(s x1*u=s x2*u∧s y2*v=-(s y1*v)):=by
     rintro ⟨e1,e2⟩
     refine hn ⟨H.inj _ _ (nR H.une e1),?_⟩
     rw [←gk,←H.neg] at e2
     exact H.inj _ _ (nR H.vne e2)
    rw [dm C hl hn]
    show ZY s u v (sumBy l x1 y1 x2)=padd (.aff (s x1*u) (s y1*v)) (.aff (s x2*u) (s y2*v))
    rw [dm C (H.ln hl) hn']
    have hm:u*inv u=1:=bs H.une
    have hmm:v*inv u*(v*inv u)=u:=by
     have:v*inv u*(v*inv u)=v*v*(inv u*inv u):=ak (aZ [v,inv u]) (v0*v1*(v0*v1)) (v0*v0*(v1*v1)) (by decide +kernel)
     rw [this,H.uv]
     have:u*u*u*(inv u*inv u)=u*(u*inv u)*(u*inv u):=ak (aZ [u,inv u]) (v0*v0*v0*(v1*v1)) (v0*(v0*v1)*(v0*v1)) (by decide +kernel)
     rw [this,hm,mul_one,mul_one]
    have hmu:v*inv u*u=v:=by
     have:v*inv u*u=v*(u*inv u):=ak (aZ [v,inv u,u]) (v0*v1*v2) (v0*(v2*v1)) (by decide +kernel)
     rw [this,hm,mul_one]
    have ex:s (l*l-x1-x2)*u=s l*(v*inv u)*(s l*(v*inv u))-s x1*u-s x2*u:=by
     rw [H.sub,H.sub,H.mul]
     exact fN (aZ [s l,s x1,s x2,v,inv u,u]) ((v0*v0-v1-v2)*v5) (v0*(v3*v4)*(v0*(v3*v4))-v1*v5-v2*v5) (-(v0*v0)) (v3*v4*(v3*v4)) v5 hmm (by decide +kernel)
    unfold sumBy
    show Pt.aff _ _=Pt.aff _ _
    rw [←ex]
    refine congrArg _ ?_
    rw [H.sub,H.mul,H.sub]
    exact fN (aZ [s l,s x1,s (l*l-x1-x2),s y1,v,inv u,u]) ((v0*(v1-v2)-v3)*v4) (v0*(v4*v5)*(v1*v6-v2*v6)-v3*v4) (-(v0*(v1-v2))) (v4*v5*v6) v4 hmu (by decide +kernel)
theorem Hm.mp_smul(C:Cv K b)(H:Hm b s u v){p:Pt K}(hp:On b p)(n:Nat):ZY s u v (smul n p)=smul n (ZY s u v p):=by
 induction n with
 | zero=>rfl
 | succ n ih=>
  show ZY s u v (padd (smul n p) p)=padd (smul n (ZY s u v p)) (ZY s u v p)
  rw [H.mp_add C (dN C hp n) hp,ih]
end
end Go.Alg
namespace Go.Proofs.YtcafpgpahbplaaaGreat
open Go Go.Eng Go.RowKit Go.Wd Go.Alg Go.Pr
theorem Em{R:Type}[CRing R]{c:R}(x:Quad R c):x.conj.conj=x:=Quad.ext' rfl (bm _)
theorem Zw{R:Type}[CRing R]{c:R}(x y:Quad R c):(x*y).conj=x.conj*y.conj:=Quad.ext'
 (ak (aZ [x.a,x.b,y.a,y.b,c]) (x0*x2+x4*(x1*x3)) (x0*x2+x4*(-x1*-x3)) (by decide +kernel)) (ak (aZ [x.a,x.b,y.a,y.b,c]) (-(x0*x3+x1*x2)) (x0*-x3+-x1*x2) (by decide +kernel))
theorem hm1:Hm b1 (fun x:F=>x) (φ zsI) 1 where
 add _ _:=rfl
 mul _ _:=rfl
 neg _:=rfl
 inj _ _ h:=h
 une h:=by
  have:jz (φ zsI)=jz 0:=by rw [h]
  revert this
  decide +kernel
 uv:=u_ (by decide +kernel)
 bb:=u_ (by decide +kernel)
theorem hm2:Hm b2 (fun x:F2=>x.conj) (ar psX) (ar psY) where
 add x y:=Quad.ext' rfl (nQ x.b y.b)
 mul x y:=Zw x y
 neg x:=rfl
 inj x y h:=by
  have:=congrArg Quad.conj h
  rwa [Em,Em] at this
 une h:=by
  have:dr (ar psX)=dr 0:=by rw [h]
  revert this
  decide +kernel
 uv:=fR (by decide +kernel)
 bb:=fR (by decide +kernel)
theorem II(p:Pt F2):psiP p=ZY (fun x:F2=>x.conj) (ar psX) (ar psY) p:=by cases p<;>rfl
theorem IG(p:Pt F2):On b2 (psiP p)↔On b2 p:=by rw [II];exact hm2.on p
theorem Me{p:Pt F2}(hp:On b2 p)(n:Nat):psiP (smul n p)=smul n (psiP p):=by rw [II,II];exact hm2.mp_smul ic hp n
section
variable {K:Type}[CRing K][IsField K]{b:K}
structure Tor(b:K)(r:Nat)(p:Pt K):Prop where
 on:On b p
 tor:smul r p = .inf
theorem Tor.add(C:Cv K b){r:Nat}{p q:Pt K}(hp:Tor b r p)(hq:Tor b r q):Tor b r (padd p q):=⟨fL C hp.on hq.on,by rw [pJ C hp.on hq.on,hp.tor,hq.tor];rfl⟩
theorem Tor.smul(C:Cv K b){r:Nat}{p:Pt K}(hp:Tor b r p)(n:Nat):Tor b r (Alg.smul n p):=⟨dN C hp.on n,by rw [←ji C hp.on,Nat.mul_comm,ji C hp.on,hp.tor,jZ]⟩
theorem Tor.neg(C:Cv K b){r:Nat}{p:Pt K}(hp:Tor b r p):Tor b r p.neg:=⟨db hp.on,by rw [vG C hp.on,hp.tor];rfl⟩
end
section
variable {K:Type}[CRing K]{b:K}
theorem Tor.inf{r:Nat}:Tor b r .inf:=⟨trivial,jZ r⟩
end
theorem kM(p:P1):eV p=true↔Tor b1 aO (bO p):=(M1 p).trans ⟨fun h=>⟨h.1,h.2⟩,fun h=>⟨h.1,h.2⟩⟩
theorem gX(p:P2):dW p=true↔Tor b2 aO (ιP2 p):=(MY p).trans ⟨fun h=>⟨h.1,h.2⟩,fun h=>⟨h.1,h.2⟩⟩
theorem dX:Tor b1 aO (bO dj):=⟨O7,zpf⟩
theorem ph:Tor b2 aO (ιP2 gI):=⟨j4,zpe⟩
end Go.Proofs.YtcafpgpahbplaaaGreat
