/-
 The proof, part 1 of 25.
-/
open Bool renaming and_eq_true->aaf
open Classical renaming byContradiction->aa3
open Int renaming negOfNat->aec,subNatNat->ad8
open Nat renaming beq->aaK,dvd_trans->acK,eq_of_beq_eq_true->aas,gcd->acD,gcd_dvd_left->adj,gcd_dvd_right->adb,le_of_dvd->aca,mod_eq_of_lt->aah,mod_eq_zero_of_dvd->acE,mod_mod_of_dvd->ac7,mul_add->abB,pow_succ->aa9,sub_zero->aco,zero_mod->abg
set_option linter.unusedVariables false
set_option linter.unusedSimpArgs false
namespace Go.Pr
def Prime(p:Nat):Prop:=2≤p∧∀ d,d ∣ p→d=1∨d=p
theorem Prime.two_le{p:Nat}(h:Prime p):2≤p:=h.1
theorem Prime.coprime{p a:Nat}(h:Prime p)(ha:¬p ∣ a):Nat.Coprime p a:=by
 rcases h.2 (acD p a) (adj p a) with e|e
 ·exact e
 ·exact absurd (e ▸ adb p a) ha
theorem Prime.dvd_mul{p a b:Nat}(h:Prime p)(hd:p ∣ a*b):p ∣ a∨p ∣ b:=by
 by_cases ha:p ∣ a
 ·exact .inl ha
 ·exact .inr ((h.coprime ha).dvd_of_dvd_mul_left hd)
theorem p9:∀ n,2≤n→∃ r,Prime r∧r ∣ n:=by
 intro n
 induction n using Nat.strongRecOn with
 | ind n ih=>
  intro hn
  by_cases h:Prime n
  ·exact ⟨n,h,Nat.dvd_refl n⟩
  ·have:∃ d,d ∣ n∧d≠1∧d≠n:=by
    refine aa3 fun hc=>h ⟨hn,fun d hd=>?_⟩
    refine aa3 fun h2=>hc ⟨d,hd,fun e=>h2 (.inl e),fun e=>h2 (.inr e)⟩
   obtain ⟨d,hd,h1,h2⟩:=this
   have zwV:0<n:=by omega
   have hle:=aca zwV hd
   have hd0:0<d:=Nat.pos_of_dvd_of_pos hd zwV
   obtain ⟨r,hr,hrd⟩:=ih d (by omega) (by omega)
   exact ⟨r,hr,acK hrd hd⟩
end Go.Pr
namespace Go.Alg
class Ops(R:Type) where
 zero:R
 one:R
 add:R→R→R
 mul:R→R→R
 neg:R→R
instance (priority:=low){R:Type}[Ops R]:Add R:=⟨Ops.add⟩
instance (priority:=low){R:Type}[Ops R]:Mul R:=⟨Ops.mul⟩
instance (priority:=low){R:Type}[Ops R]:Neg R:=⟨Ops.neg⟩
instance (priority:=low){R:Type}[Ops R]:Sub R:=⟨fun a b=>Ops.add a (Ops.neg b)⟩
instance (priority:=low){R:Type}[Ops R]:OfNat R 0:=⟨Ops.zero⟩
instance (priority:=low){R:Type}[Ops R]:OfNat R 1:=⟨Ops.one⟩
class CRing(R:Type) extends Ops R where
 add_comm:∀ a b:R,a+b=b+a
 add_assoc:∀ a b c:R,a+b+c=a+(b+c)
 add_zero:∀ a:R,a+0=a
 add_neg:∀ a:R,a+-a=0
 mul_comm:∀ a b:R,a*b=b*a
 mul_assoc:∀ a b c:R,a*b*c=a*(b*c)
 mul_one:∀ a:R,a*1=a
 mul_add:∀ a b c:R,a*(b+c)=a*b+a*c
section basics
variable {R:Type}[CRing R]
theorem add_comm(a b:R):a+b=b+a:=CRing.add_comm a b
theorem add_assoc(a b c:R):a+b+c=a+(b+c):=CRing.add_assoc a b c
theorem add_zero(a:R):a+0=a:=CRing.add_zero a
theorem bG(a:R):0+a=a:=by rw [add_comm,add_zero]
theorem add_neg(a:R):a+-a=0:=CRing.add_neg a
theorem BG(a:R): -a+a=0:=by rw [add_comm,add_neg]
theorem mul_comm(a b:R):a*b=b*a:=CRing.mul_comm a b
theorem mul_assoc(a b c:R):a*b*c=a*(b*c):=CRing.mul_assoc a b c
theorem mul_one(a:R):a*1=a:=CRing.mul_one a
theorem aP(a:R):1*a=a:=by rw [mul_comm,mul_one]
theorem mul_add(a b c:R):a*(b+c)=a*b+a*c:=CRing.mul_add a b c
theorem mL(a b c:R):(a+b)*c=a*c+b*c:=by rw [mul_comm,mul_add,mul_comm c,mul_comm c]
theorem lP(a b c:R):a+(b+c)=b+(a+c):=by rw [←add_assoc,add_comm a b,add_assoc]
theorem ef(a b c:R):a*(b*c)=b*(a*c):=by rw [←mul_assoc,mul_comm a b,mul_assoc]
theorem mj{a b c:R}(h:a+b=a+c):b=c:=by
 have : -a+(a+b)=-a+(a+c):=by rw [h]
 rwa [←add_assoc,←add_assoc,BG,bG,bG] at this
theorem aq(a:R):a*0=0:=by
 have:a*0+a*0=a*0+0:=by rw [←mul_add,add_zero,add_zero]
 exact mj this
theorem aS(a:R):0*a=0:=by rw [mul_comm,aq]
theorem iF{a b:R}(h:a+b=0):b=-a:=mj (h.trans (add_neg a).symm)
theorem bm(a:R): - -a=a:=(iF (BG a)).symm
theorem a_ : -(0:R)=0:=(iF (add_zero 0)).symm
theorem gk(a b:R): -a*b=-(a*b):=iF (by rw [←mL,add_neg,aS])
theorem lM(a b:R):a*-b=-(a*b):=by rw [mul_comm,gk,mul_comm]
theorem nQ(a b:R): -(a+b)=-a+-b:=(iF (by rw [add_assoc,lP b,←add_assoc,add_neg,bG,add_neg])).symm
theorem j6(a b:R):a-b=a+-b:=rfl
theorem cL(a:R):a-a=0:=add_neg a
theorem ct{a b:R}:a-b=0↔a=b:=by
 constructor
 ·intro h
  have:a+-b=0:=h
  have h2:=iF (a:=-b) (b:=a) (by rw [add_comm];exact this)
  rw [h2,bm]
 ·intro h;rw [h];exact cL b
end basics
end Go.Alg
namespace Go.Alg
section casts
variable {R:Type}[CRing R]
def kU:Nat→R
 | 0=>0
 | n+1=>kU n+1
def int:Int→R
 | .ofNat n=>kU n
 | .negSucc n=>-(kU (n+1))
theorem sM(a b:Nat):(kU (a+b):R)=kU a+kU b:=by
 induction b with
 | zero=>exact (add_zero _).symm
 | succ b ih=>show kU (a+b)+1=kU a+(kU b+1);rw [ih,add_assoc]
theorem wM(a b:Nat):(kU (a*b):R)=kU a*kU b:=by
 induction b with
 | zero=>exact (aq _).symm
 | succ b ih=>rw [Nat.mul_succ,sM,ih];show _=kU a*(kU b+1);rw [mul_add,mul_one]
theorem Vd(a b:Nat):(int (ad8 a b):R)=kU a+-kU b:=by
 unfold ad8
 split
 ·rename_i h
  have e:a=a-b+b:=by omega
  show kU (a-b)=_
  rw [e,sM,Nat.add_sub_cancel,add_assoc,add_neg,add_zero]
 ·rename_i k h
  have e:b=a+(k+1):=by omega
  show -(kU (k+1))=_
  rw [e,sM a (k+1),nQ,←add_assoc,add_neg,bG]
theorem JA(a b:Int):(int (a+b):R)=int a+int b:=by
 cases a with
 | ofNat m=>cases b with
  | ofNat n=>exact sM m n
  | negSucc n=>exact Vd m (n+1)
 | negSucc m=>cases b with
  | ofNat n=>show int (ad8 n (m+1))=_;rw [Vd,add_comm];rfl
  | negSucc n=>
   show -(kU (m+n+1+1))=-(kU (m+1))+-(kU (n+1))
   rw [←nQ,←sM,show m+n+1+1=m+1+(n+1) by omega]
theorem xd(n:Nat):(int (aec n):R)=-(kU n):=by
 cases n with
 | zero=>show kU 0=-(kU 0);exact a_.symm
 | succ n=>rfl
theorem zm4(a b:Int):(int (a*b):R)=int a*int b:=by
 cases a with
 | ofNat m=>cases b with
  | ofNat n=>exact wM m n
  | negSucc n=>show int (aec (m*(n+1)))=kU m*-(kU (n+1));rw [xd,wM,lM]
 | negSucc m=>cases b with
  | ofNat n=>show int (aec ((m+1)*n))=-(kU (m+1))*kU n;rw [xd,wM,gk]
  | negSucc n=>show kU ((m+1)*(n+1))=-(kU (m+1))*-(kU (n+1));rw [wM,gk,lM,bm]
theorem zm3(a:Int):(int (-a):R)=-(int a):=by
 have:(int (a+-a):R)=int a+int (-a):=JA a (-a)
 rw [Int.add_right_neg] at this
 exact iF this.symm
theorem DJ:(int 0:R)=0:=rfl
theorem Ve:(int 1:R)=1:=bG 1
end casts
inductive Ex where
 | v (i:Nat)
 | zero
 | one
 | add (a b:Ex)
 | mul (a b:Ex)
 | neg (a:Ex)
instance :Ops Ex:=⟨.zero,.one,.add,.mul,.neg⟩
def Ex.den{R:Type}[Ops R](ρ:Nat→R):Ex→R
 | .v i=>ρ i
 | .zero=>Ops.zero
 | .one=>Ops.one
 | .add a b=>Ops.add (a.den ρ) (b.den ρ)
 | .mul a b=>Ops.mul (a.den ρ) (b.den ρ)
 | .neg a=>Ops.neg (a.den ρ)
def zor:List Nat→List Nat→Ordering
 | [],[]=>.eq
 | [],_::_=>.lt
 | _::_,[]=>.gt
 | a::l,b::m=>match aaK a b with
  | true=>zor l m
  | false=>match Nat.blt a b with
   | true=>.lt
   | false=>.gt
theorem zoq:∀ l m,zor l m = .eq→l=m:=by
 intro l
 induction l with
 | nil=>intro m h;cases m with
  | nil=>rfl
  | cons b m=>cases h
 | cons a l ih=>intro m h;cases m with
  | nil=>cases h
  | cons b m=>
   simp only [zor] at h
   split at h
   ·rename_i e;rw [aas e,ih m h]
   ·split at h<;>cases h
def zfc(i:Nat):List Nat→List Nat
 | []=>[i]
 | j::l=>match Nat.blt j i with
  | true=>j::zfc i l
  | false=>i::j::l
def zl4(l m:List Nat):List Nat:=l.foldr zfc m
abbrev po:=List (Int×List Nat)
def isZ(c:Int):Bool:=match c with
 | .ofNat 0=>true
 | _=>false
theorem Rx{c:Int}(h:isZ c=true):c=0:=by
 unfold isZ at h
 split at h
 ·rfl
 ·cases h
def ins(c:Int)(m:List Nat):po→po
 | []=>match isZ c with
  | true=>[]
  | false=>[(c,m)]
 | (d,k)::p=>match zor m k with
  | .eq=>match isZ (c+d) with
   | true=>p
   | false=>(c+d,k)::p
  | .lt=>match isZ c with
   | true=>(d,k)::p
   | false=>(c,m)::(d,k)::p
  | .gt=>(d,k)::ins c m p
def zy8(p q:po):po:=p.foldr (fun t r=>ins t.1 t.2 r) q
def zl0(c:Int)(m:List Nat)(q r:po):po:=q.foldr (fun t r=>ins (c*t.1) (zl4 m t.2) r) r
def zvV(p q:po):po:=p.foldr (fun t r=>zl0 t.1 t.2 q r) []
def zvQ(p:po):po:=p.map fun t=>(-t.1,t.2)
def Ex.nf:Ex→po
 | .v i=>[(1,[i])]
 | .zero=>[]
 | .one=>[(1,[])]
 | .add a b=>zy8 a.nf b.nf
 | .mul a b=>zvV a.nf b.nf
 | .neg a=>zvQ a.nf
def eqM:List Nat→List Nat→Bool
 | [],[]=>true
 | a::l,b::m=>aaK a b&&eqM l m
 | _,_=>false
def eqI:Int→Int→Bool
 | .ofNat a,.ofNat b=>aaK a b
 | .negSucc a,.negSucc b=>aaK a b
 | _,_=>false
def eqP:po→po→Bool
 | [],[]=>true
 | (c,l)::p,(d,m)::q=>eqI c d&&(eqM l m&&eqP p q)
 | _,_=>false
theorem zxX:∀ l m,eqM l m=true→l=m:=by
 intro l
 induction l with
 | nil=>intro m h;cases m with
  | nil=>rfl
  | cons b m=>cases h
 | cons a l ih=>intro m h;cases m with
  | nil=>cases h
  | cons b m=>
   simp only [eqM,aaf] at h
   rw [aas h.1,ih m h.2]
theorem zx0:∀ a b,eqI a b=true→a=b:=by
 intro a b h
 cases a<;>cases b<;>simp only [eqI] at h<;>first | (rw [aas h]) | cases h
theorem zxV:∀ p q,eqP p q=true→p=q:=by
 intro p
 induction p with
 | nil=>intro q h;cases q with
  | nil=>rfl
  | cons b m=>cases h
 | cons a l ih=>intro q h;cases q with
  | nil=>cases h
  | cons b m=>
   obtain ⟨c,k⟩:=a
   obtain ⟨d,n⟩:=b
   simp only [eqP,aaf] at h
   rw [zx0 _ _ h.1,zxX _ _ h.2.1,ih m h.2.2]
section sound
variable {R:Type}[CRing R](ρ:Nat→R)
def zy(l:List Nat):R:=l.foldr (fun i r=>ρ i*r) 1
def oh(p:po):R:=p.foldr (fun t r=>int t.1*zy ρ t.2+r) 0
theorem zx(i:Nat)(l:List Nat):zy ρ (i::l)=ρ i*zy ρ l:=rfl
theorem jF(t:Int×List Nat)(p:po):oh ρ (t::p)=int t.1*zy ρ t.2+oh ρ p:=rfl
theorem zgT(i:Nat)(l:List Nat):zy ρ (zfc i l)=ρ i*zy ρ l:=by
 induction l with
 | nil=>rfl
 | cons j l ih=>
  simp only [zfc]
  split
  ·rw [zx,ih,zx,ef]
  ·rfl
theorem zgS(l m:List Nat):zy ρ (zl4 l m)=zy ρ l*zy ρ m:=by
 induction l with
 | nil=>exact (aP _).symm
 | cons i l ih=>
  show zy ρ (zfc i (zl4 l m))=_
  rw [zgT,ih,zx,mul_assoc]
theorem VI(c:Int)(m:List Nat)(p:po):oh ρ (ins c m p)=int c*zy ρ m+oh ρ p:=by
 induction p with
 | nil=>
  simp only [ins]
  split
  ·rename_i h;rw [Rx h,DJ,aS,bG]
  ·rfl
 | cons t p ih=>
  obtain ⟨d,k⟩:=t
  simp only [ins]
  split
  ·rename_i h
   have e:=zoq _ _ h
   subst e
   split
   ·rename_i h2
    rw [jF,←add_assoc,←mL,←JA,Rx h2,DJ,aS,bG]
   ·rw [jF,jF,←add_assoc,←mL,←JA]
  ·split
   ·rename_i h2;rw [Rx h2,DJ,aS,bG]
   ·rfl
  ·rw [jF,ih,jF,lP]
theorem zgU(p q:po):oh ρ (zy8 p q)=oh ρ p+oh ρ q:=by
 induction p with
 | nil=>exact (bG _).symm
 | cons t p ih=>
  show oh ρ (ins t.1 t.2 (zy8 p q))=_
  rw [VI,ih,jF,add_assoc]
theorem zgQ(c:Int)(m:List Nat)(q r:po):oh ρ (zl0 c m q r)=int c*zy ρ m*oh ρ q+oh ρ r:=by
 induction q with
 | nil=>show oh ρ r=_*0+_;rw [aq,bG]
 | cons t q ih=>
  show oh ρ (ins (c*t.1) (zl4 m t.2) (zl0 c m q r))=_
  rw [VI,ih,jF,zgS,zm4,mul_add,add_assoc]
  congr 1
  rw [mul_assoc,mul_assoc,ef (int t.1)]
theorem zgR(p q:po):oh ρ (zvV p q)=oh ρ p*oh ρ q:=by
 induction p with
 | nil=>exact (aS _).symm
 | cons t p ih=>
  show oh ρ (zl0 t.1 t.2 q (zvV p q))=_
  rw [zgQ,ih,jF,mL]
theorem zgP(p:po):oh ρ (zvQ p)=-(oh ρ p):=by
 induction p with
 | nil=>exact a_.symm
 | cons t p ih=>
  show int (-t.1)*zy ρ t.2+oh ρ (zvQ p)=_
  rw [ih,zm3,gk,jF,nQ]
theorem zgO(e:Ex):e.den ρ=oh ρ e.nf:=by
 induction e with
 | v i=>show ρ i=int 1*(ρ i*1)+0;rw [Ve,aP,mul_one,add_zero]
 | zero=>rfl
 | one=>show (1:R)=int 1*1+0;rw [Ve,aP,add_zero]
 | add a b iha ihb=>show a.den ρ+b.den ρ=_;rw [iha,ihb];exact (zgU ρ _ _).symm
 | mul a b iha ihb=>show a.den ρ*b.den ρ=_;rw [iha,ihb];exact (zgR ρ _ _).symm
 | neg a ih=>show -(a.den ρ)=_;rw [ih];exact (zgP ρ _).symm
theorem ak(a b:Ex)(h:eqP a.nf b.nf=true):a.den ρ=b.den ρ:=by
 rw [zgO,zgO,zxV _ _ h]
end sound
def aZ{R:Type}[Ops R]:List R→Nat→R
 | [],_=>Ops.zero
 | a::_,0=>a
 | _::l,i+1=>aZ l i
end Go.Alg
namespace Go.Alg
structure Z(n:Nat) where
 val:Nat
 lt:val<n
theorem Z.ext{n:Nat}{a b:Z n}(h:a.val=b.val):a=b:=by
 cases a;cases b;cases h;rfl
class Pos(n:Nat):Prop where
 pos:0<n
def Z.of(n:Nat)[Pos n](k:Nat):Z n:=⟨k%n,Nat.mod_lt _ Pos.pos⟩
instance (priority:=low){n:Nat}[Pos n]:Ops (Z n) where
 zero:=Z.of n 0
 one:=Z.of n 1
 add a b:=Z.of n (a.val+b.val)
 mul a b:=Z.of n (a.val*b.val)
 neg a:=Z.of n (n-a.val)
theorem Z.of_val{n:Nat}[Pos n](a:Z n):Z.of n a.val=a:=Z.ext (aah a.lt)
theorem Z.of_eq{n:Nat}[Pos n]{a b:Nat}:Z.of n a=Z.of n b↔a%n=b%n:=⟨fun h=>congrArg Z.val h,fun h=>Z.ext h⟩
theorem Z.of_add{n:Nat}[Pos n](a b:Nat):Z.of n (a+b)=Z.of n a+Z.of n b:=Z.ext (Nat.add_mod a b n)
theorem Z.of_mul{n:Nat}[Pos n](a b:Nat):Z.of n (a*b)=Z.of n a*Z.of n b:=Z.ext (Nat.mul_mod a b n)
theorem Z.of_n{n:Nat}[Pos n]:Z.of n n=0:=Z.ext (by show n%n=0%n;rw [Nat.mod_self,abg])
theorem Z.neg_def{n:Nat}[Pos n](a:Z n): -a=Z.of n (n-a.val):=rfl
instance {n:Nat}[Pos n]:CRing (Z n) where
 add_comm a b:=Z.ext (by show (a.val+b.val)%n=(b.val+a.val)%n;rw [Nat.add_comm])
 add_assoc a b c:=by rw [←Z.of_val a,←Z.of_val b,←Z.of_val c,←Z.of_add,←Z.of_add,←Z.of_add,←Z.of_add,Nat.add_assoc]
 add_zero a:=by
  show a+Z.of n 0=a
  rw [←Z.of_val a,←Z.of_add,Nat.add_zero]
 add_neg a:=by
  rw [Z.neg_def,←Z.of_val a,←Z.of_add]
  have:=a.lt
  rw [Z.of_val,show a.val+(n-a.val)=n by omega,Z.of_n]
 mul_comm a b:=Z.ext (by show a.val*b.val%n=b.val*a.val%n;rw [Nat.mul_comm])
 mul_assoc a b c:=by rw [←Z.of_val a,←Z.of_val b,←Z.of_val c,←Z.of_mul,←Z.of_mul,←Z.of_mul,←Z.of_mul,Nat.mul_assoc]
 mul_one a:=by
  show a*Z.of n 1=a
  rw [←Z.of_val a,←Z.of_mul,Nat.mul_one]
 mul_add a b c:=by rw [←Z.of_val a,←Z.of_val b,←Z.of_val c,←Z.of_add,←Z.of_mul,←Z.of_mul,←Z.of_mul,←Z.of_add,abB]
end Go.Alg
namespace Go.Alg
open Go.Pr
section pows
variable {R:Type}[CRing R]
def pow(a:R):Nat→R
 | 0=>1
 | n+1=>pow a n*a
theorem vX(a:R):pow a 0=1:=rfl
theorem aC(a:R)(n:Nat):pow a (n+1)=pow a n*a:=rfl
theorem ft(a:R):pow a 1=a:=aP a
theorem ed(a:R)(m n:Nat):pow a (m+n)=pow a m*pow a n:=by
 induction n with
 | zero=>exact (mul_one _).symm
 | succ n ih=>show pow a (m+n)*a=_;rw [ih,aC,mul_assoc]
theorem cC(a:R)(m n:Nat):pow a (m*n)=pow (pow a m) n:=by
 induction n with
 | zero=>rfl
 | succ n ih=>rw [Nat.mul_succ,ed,ih,aC]
theorem fT(n:Nat):pow (1:R) n=1:=by
 induction n with
 | zero=>rfl
 | succ n ih=>rw [aC,ih,mul_one]
theorem B9{n:Nat}(h:n≠0):pow (0:R) n=0:=by
 cases n with
 | zero=>exact absurd rfl h
 | succ n=>rw [aC,aq]
theorem wO(a b:R)(n:Nat):pow (a*b) n=pow a n*pow b n:=by
 induction n with
 | zero=>exact (mul_one _).symm
 | succ n ih=>rw [aC,aC,aC,ih,mul_assoc,mul_assoc,ef (pow b n)]
def sum(f:Nat→R):Nat→R
 | 0=>0
 | n+1=>sum f n+f n
theorem zka(f g:Nat→R)(n:Nat):sum (fun k=>f k+g k) n=sum f n+sum g n:=by
 induction n with
 | zero=>exact (add_zero _).symm
 | succ n ih=>show sum _ n+(f n+g n)=sum f n+f n+(sum g n+g n);rw [ih,add_assoc,add_assoc,lP (sum g n)]
theorem TJ(f:Nat→R)(c:R)(n:Nat):c*sum f n=sum (fun k=>c*f k) n:=by
 induction n with
 | zero=>exact aq c
 | succ n ih=>show c*(sum f n+f n)=_+_;rw [mul_add,ih]
theorem F1{f g:Nat→R}(n:Nat)(h:∀ k,k<n→f k=g k):sum f n=sum g n:=by
 induction n with
 | zero=>rfl
 | succ n ih=>show sum f n+f n=sum g n+g n;rw [ih fun k hk=>h k (by omega),h n (by omega)]
theorem yg(f:Nat→R)(n:Nat):sum f (n+1)=f 0+sum (fun k=>f (k+1)) n:=by
 induction n with
 | zero=>exact add_comm _ _
 | succ n ih=>show sum f (n+1)+f (n+1)=_;rw [ih,add_assoc];rfl
theorem zbx{f:Nat→R}(n:Nat)(h:∀ k,k<n→f k=0):sum f n=0:=by
 induction n with
 | zero=>rfl
 | succ n ih=>show sum f n+f n=0;rw [ih fun k hk=>h k (by omega),h n (by omega),add_zero]
end pows
def choose:Nat→Nat→Nat
 | _,0=>1
 | 0,_+1=>0
 | n+1,k+1=>choose n k+choose n (k+1)
theorem ma(n:Nat):choose n 0=1:=by cases n<;>rfl
theorem Ep:∀ n k,n<k→choose n k=0:=by
 intro n
 induction n with
 | zero=>intro k h;cases k with
  | zero=>omega
  | succ k=>rfl
 | succ n ih=>intro k h;cases k with
  | zero=>omega
  | succ k=>show choose n k+choose n (k+1)=0;rw [ih k (by omega),ih (k+1) (by omega)]
theorem OM(n:Nat):choose n n=1:=by
 induction n with
 | zero=>rfl
 | succ n ih=>show choose n n+choose n (n+1)=1;rw [ih,Ep n (n+1) (by omega)]
theorem FL:∀ n k,(k+1)*choose (n+1) (k+1)=(n+1)*choose n k:=by
 intro n
 induction n with
 | zero=>intro k;cases k with
  | zero=>rfl
  | succ k=>show (k+2)*(choose 0 (k+1)+choose 0 (k+2))=1*choose 0 (k+1);simp [choose]
 | succ n ih=>
  intro k
  show (k+1)*(choose (n+1) k+choose (n+1) (k+1))=(n+2)*choose (n+1) k
  rw [abB,ih k]
  cases k with
  | zero=>rw [ma,ma];omega
  | succ k=>
   have:=ih k
   show (k+2)*choose (n+1) (k+1)+(n+1)*choose n (k+1)=(n+2)*choose (n+1) (k+1)
   have e:choose (n+1) (k+1)=choose n k+choose n (k+1):=rfl
   have h1:(k+2)*choose (n+1) (k+1)=(k+1)*choose (n+1) (k+1)+choose (n+1) (k+1):=by rw [show k+2=k+1+1 from rfl,Nat.add_mul (k+1),Nat.one_mul]
   have h2:(n+2)*choose (n+1) (k+1)=(n+1)*choose (n+1) (k+1)+choose (n+1) (k+1):=by rw [show n+2=n+1+1 from rfl,Nat.add_mul (n+1),Nat.one_mul]
   have h3:(n+1)*choose (n+1) (k+1)=(n+1)*choose n k+(n+1)*choose n (k+1):=by rw [e,abB]
   omega
theorem IJ{p k:Nat}(hp:Prime p)(h0:0<k)(h1:k<p):p ∣ choose p k:=by
 obtain ⟨q,rfl⟩:∃ q,p=q+1:=⟨p-1,by omega⟩
 obtain ⟨j,rfl⟩:∃ j,k=j+1:=⟨k-1,by omega⟩
 have h:=FL q j
 have hd:q+1 ∣ (j+1)*choose (q+1) (j+1):=⟨choose q j,h⟩
 rcases hp.dvd_mul hd with e|e
 ·have:=aca (by omega) e;omega
 ·exact e
section bin
variable {R:Type}[CRing R]
def yd(a b:R)(n k:Nat):R:=kU (choose n k)*(pow a k*pow b (n-k))
theorem zib(a b:R)(n:Nat):pow (a+b) n=sum (yd a b n) (n+1):=by
 induction n with
 | zero=>show (1:R)=0+(kU 1)*(1*1);rw [bG,mul_one,mul_one];exact (bG _).symm
 | succ n ih=>
  rw [aC,ih,mul_comm,mL,TJ,TJ,yg (yd a b (n+1)) (n+1)]
  have e1:sum (fun k=>yd a b (n+1) (k+1)) (n+1)=sum (fun k=>a*yd a b n k) (n+1)+sum (fun k=>kU (choose n (k+1))*(pow a (k+1)*pow b (n-k))) (n+1):=by
   rw [←zka]
   refine F1 _ fun k hk=>?_
   show kU (choose n k+choose n (k+1))*(pow a (k+1)*pow b (n+1-(k+1)))=_
   rw [sM,mL,show n+1-(k+1)=n-k by omega]
   congr 1
   unfold yd
   rw [aC,ef a,mul_comm (pow a k) a,mul_assoc]
  have e2:sum (fun k=>b*yd a b n k) (n+1)=yd a b (n+1) 0+sum (fun k=>kU (choose n (k+1))*(pow a (k+1)*pow b (n-k))) (n+1):=by
   rw [yg (fun k=>b*yd a b n k) n]
   show _=_+(sum _ n+kU (choose n (n+1))*_)
   rw [Ep n (n+1) (by omega)]
   show _=_+(sum _ n+0*_)
   rw [aS,add_zero]
   congr 1
   ·unfold yd
    rw [ma,ma,vX,aco,aco,aC,aP,aP,ef b,mul_comm b]
   ·refine F1 _ fun k hk=>?_
    show b*(kU (choose n (k+1))*(pow a (k+1)*pow b (n-(k+1))))=_
    have:n-k=n-(k+1)+1:=by omega
    rw [this,aC b,ef b,ef b,mul_comm b]
  rw [e1,e2,lP]
theorem zlW{p c:Nat}(h0:(kU p:R)=0)(h:p ∣ c):(kU c:R)=0:=by
 obtain ⟨d,rfl⟩:=h
 rw [wM,h0,aS]
theorem VF{p:Nat}(hp:Prime p)(h0:(kU p:R)=0)(a b:R):pow (a+b) p=pow a p+pow b p:=by
 obtain ⟨q,rfl⟩:∃ q,p=q+1:=⟨p-1,by have:=hp.two_le;omega⟩
 rw [zib]
 show sum (yd a b (q+1)) (q+1)+yd a b (q+1) (q+1)=_
 rw [yg,zbx q fun k hk=>?_]
 ·unfold yd
  rw [ma,OM,add_zero,vX,Nat.sub_self,aco,vX,add_comm]
  show kU 1*_+kU 1*_=_
  have e:(kU 1:R)=1:=bG 1
  rw [e,aP,aP,aP,mul_one]
 ·unfold yd
  rw [zlW h0 (IJ hp (by omega) (by omega)),aS]
end bin
end Go.Alg
namespace Go.Pr
open Go.Alg
theorem iy{p:Nat}(h:Prime p):0<p:=by have:=h.two_le;omega
theorem zdI{n:Nat}[Pos n](k:Nat):(kU k:Z n)=Z.of n k:=by
 induction k with
 | zero=>rfl
 | succ k ih=>show kU k+1=_;rw [ih,Z.of_add];rfl
theorem zgo{p:Nat}(hp:Prime p)[Pos p]:∀ k,pow (Z.of p k) p=Z.of p k:=by
 intro k
 induction k with
 | zero=>exact B9 (by have:=hp.two_le;omega)
 | succ k ih=>
  rw [Z.of_add,VF hp (by rw [zdI,Z.of_n]),ih]
  congr 1
  exact fT p
theorem jn{n:Nat}[Pos n]{k:Nat}:Z.of n k=0↔n ∣ k:=by
 constructor
 ·intro h
  have:k%n=0%n:=congrArg Z.val h
  rw [abg] at this
  exact Nat.dvd_of_mod_eq_zero this
 ·intro h
  refine Z.ext ?_
  show k%n=0%n
  rw [acE h,abg]
theorem pZ{p:Nat}(hp:Prime p)[Pos p](a:Z p)(ha:a≠0):a*pow a (p-2)=1:=by
 have h2:=hp.two_le
 have hf:pow a p=a:=by have:=zgo hp a.val;rwa [Z.of_val] at this
 have e:a*(a*pow a (p-2)-1)=0:=by
  rw [j6,mul_add,lM,mul_one,←mul_assoc]
  have:pow a p=a*a*pow a (p-2):=by
   have e:pow a p=pow a (p-2+1+1):=congrArg (pow a) (by omega)
   rw [e,aC,aC,mul_comm _ a,mul_comm _ a,mul_assoc]
  rw [←this,hf,add_neg]
 have hd:∀ x y:Z p,x*y=0→x=0∨y=0:=by
  intro x y h
  rw [←Z.of_val x,←Z.of_val y,←Z.of_mul,jn] at h
  rcases hp.dvd_mul h with h|h
  ·left;rw [←Z.of_val x];exact jn.2 h
  ·right;rw [←Z.of_val y];exact jn.2 h
 rcases hd _ _ e with h|h
 ·exact absurd h ha
 ·exact ct.1 h
theorem zlk{n:Nat}[Pos n]{b:Z n}(m k:Nat)(h1:pow b m=1)(h2:pow b k=1):pow b (acD m k)=1:=by
 induction m,k using Nat.gcd.induction with
 | H0 k=>rw [Nat.gcd_zero_left];exact h2
 | H1 m k hm ih=>
  rw [Nat.gcd_rec]
  refine ih ?_ h1
  have e:=Nat.div_add_mod k m
  have:pow b k=pow b (m*(k/m))*pow b (k%m):=by rw [←ed,e]
  rw [this,cC,h1,fT,aP] at h2
  exact h2
def zcW(n:Nat):Nat→Nat→Nat→Nat→Nat
 | 0,_,_,acc=>acc
 | f+1,a,e,acc=>zcW n f (a*a%n) (e/2) (match aaK (e%2) 1 with
  | true=>acc*a%n
  | false=>acc)
theorem zdm{n:Nat}[Pos n](k:Nat):Z.of n (k%n)=Z.of n k:=Z.ext (Nat.mod_mod k n)
theorem GD{n:Nat}[Pos n]:∀ f a e acc,e<2^f→Z.of n (zcW n f a e acc)=Z.of n acc*pow (Z.of n a) e:=by
 intro f
 induction f with
 | zero=>intro a e acc h;simp at h;subst h;exact (mul_one _).symm
 | succ f ih=>
  intro a e acc h
  rw [zcW,ih _ _ _ (by rw [aa9] at h;omega),zdm,Z.of_mul]
  have e2:pow (Z.of n a*Z.of n a) (e/2)=pow (Z.of n a) (2*(e/2)):=by rw [cC,aC,ft]
  rw [e2]
  by_cases hb:e%2=1
  ·have:aaK (e%2) 1=true:=by rw [hb];rfl
   rw [this]
   show Z.of n (acc*a%n)*_=_
   have e3:pow (Z.of n a) e=pow (Z.of n a) (1+2*(e/2)):=congrArg _ (by omega)
   rw [zdm,Z.of_mul,e3,ed,ft,mul_assoc]
  ·have:aaK (e%2) 1=false:=by rw [show e%2=0 by omega];rfl
   rw [this]
   have e3:pow (Z.of n a) e=pow (Z.of n a) (2*(e/2)):=congrArg _ (by omega)
   rw [e3]
theorem zvs{n r:Nat}[Pos n][Pos r](h:r ∣ n){a b:Nat}(e:Z.of n a=Z.of n b):Z.of r a=Z.of r b:=by
 rw [Z.of_eq] at e ⊢
 rw [←ac7 a h,e,ac7 b h]
theorem Da{N Q b g:Nat}(hN:1<N)(hQ:Prime Q)(hg:Q<2^g)
  (h1:zcW N g b Q 1=1) (h2:acD (b+(N-1)) N=1) {r:Nat} (hr:Prime r) (hd:r ∣ N):Q ∣ r-1:=by
 haveI:Pos N:=⟨by omega⟩
 haveI:Pos r:=⟨iy hr⟩
 have JC:=hr.two_le
 have e1:pow (Z.of r b) Q=1:=by
  rw [←aP (pow (Z.of r b) Q)]
  have:=GD (n:=N) g b Q 1 hg
  rw [h1] at this
  have k:=GD (n:=r) g b Q 1 hg
  have zD0:∀ (m:Nat) (x:Nat),pow (Z.of N x) m=Z.of N (x^m)∧pow (Z.of r x) m=Z.of r (x^m):=by
   intro m x
   induction m with
   | zero=>exact ⟨rfl,rfl⟩
   | succ m ih=>exact ⟨by rw [aC,ih.1,←Z.of_mul,aa9],by rw [aC,ih.2,←Z.of_mul,aa9]⟩
  rw [(zD0 Q b).1,←Z.of_mul] at this
  show Z.of r 1*_=Z.of r 1
  rw [(zD0 Q b).2,←Z.of_mul]
  exact (zvs hd this).symm
 have kN:Z.of r b≠1:=by
  intro e
  have:Z.of r b=Z.of r 1:=e
  have h3:r ∣ b+(N-1):=by
   apply jn.1
   rw [Z.of_add,this,←Z.of_add,show 1+(N-1)=N by omega]
   exact jn.2 hd
  have:=Nat.dvd_gcd h3 hd
  rw [h2] at this
  have:=aca (by omega) this
  omega
 have h0:Z.of r b≠0:=by
  intro e
  rw [e,B9 (by have:=hQ.two_le;omega)] at e1
  have:(0:Nat)%r=1%r:=congrArg Z.val e1
  rw [abg,aah (by omega)] at this
  omega
 have e2:pow (Z.of r b) (r-1)=1:=by
  have:=pZ hr _ h0
  have e:pow (Z.of r b) (r-1)=pow (Z.of r b) (1+(r-2)):=congrArg _ (by omega)
  rw [e,ed,ft];exact this
 have e3:=zlk Q (r-1) e1 e2
 rcases hQ.2 _ (adj Q (r-1)) with e|e
 ·rw [e,ft] at e3;exact absurd e3 kN
 ·rw [←e];exact adb _ _
theorem kC{N F:Nat}(hN:1<N)(hF:N≤F*F)(h:∀ r,Prime r→r ∣ N→F<r):Prime N:=by
 refine ⟨hN,fun d hd=>?_⟩
 refine aa3 fun hc=>?_
 have hd1:d≠1:=fun e=>hc (.inl e)
 have hdN:d≠N:=fun e=>hc (.inr e)
 obtain ⟨e,rfl⟩:=hd
 have d0:d≠0:=by rintro rfl;simp at hN
 have e0:e≠0:=by rintro rfl;simp at hN
 have e1:e≠1:=by rintro rfl;simp at hdN
 obtain ⟨r,hr,hrd⟩:=p9 d (by omega)
 obtain ⟨s,hs,uY⟩:=p9 e (by omega)
 have k1:=h r hr (acK hrd (Nat.dvd_mul_right d e))
 have k2:=h s hs (acK uY (Nat.dvd_mul_left e d))
 have l1:=aca (by omega) hrd
 have l2:=aca (by omega) uY
 have:F*F<d*e:=Nat.mul_lt_mul'' (by omega) (by omega)
 omega
def BE(N:Nat):Nat→Bool
 | 0=>true
 | k+1=>match aaK (N%(k+2)) 0 with
  | true=>false
  | false=>BE N k
theorem I5{N:Nat}:∀ k,BE N k=true→∀ d,2≤d→d<k+2→¬d ∣ N:=by
 intro k
 induction k with
 | zero=>intro _ d h1 h2;omega
 | succ k ih=>
  intro h d h1 h2 hd
  rw [BE] at h
  split at h
  ·cases h
  ·rename_i e
   by_cases hk:d=k+2
   ·subst hk
    have:N%(k+2)=0:=acE hd
    rw [this] at e
    cases e
   ·exact ih h d h1 (by omega) hd
theorem b_{N k:Nat}(hN:1<N)(hF:N≤(k+1)*(k+1))(h:BE N k=true):Prime N:=
 kC hN hF fun r hr hd=>Nat.lt_of_not_le fun hle=>I5 k h r hr.two_le (by omega) hd
theorem eU{N Q b g:Nat}(hN:1<N)(hQ:Prime Q)(hg:Q<2^g)(h1:zcW N g b Q 1=1)(h2:acD (b+(N-1)) N=1)(hF:N≤Q*Q):Prime N:=
 kC hN hF fun r hr hd=>by
  have h:=Da hN hQ hg h1 h2 hr hd
  have h2:=hr.two_le
  have:=aca (by omega) h
  omega
theorem XO{N Q S:Nat}(hN:1<N)(hc:acD Q S=1)(h1:∀ r,Prime r→r ∣ N→Q ∣ r-1)(h2:∀ r,Prime r→r ∣ N→S ∣ r-1)(hF:N≤(Q*S)*(Q*S)):Prime N:=
 kC hN hF fun r hr hd=>by
  have h3:Q*S ∣ r-1:=Nat.Coprime.mul_dvd_of_dvd_of_dvd hc (h1 r hr hd) (h2 r hr hd)
  have h4:=hr.two_le
  have:=aca (by omega) h3
  omega
end Go.Pr
namespace Go.Pr
theorem q5:Prime 421987:=b_ (k:=650) (by decide +kernel) (by decide +kernel) (by decide +kernel)
theorem q6:Prime 755057:=b_ (k:=869) (by decide +kernel) (by decide +kernel) (by decide +kernel)
theorem q4:Prime 13090036741:=eU (Q:=421987) (b:=9676538530) (g:=19) (by decide +kernel) q5 (by decide +kernel) (by decide +kernel) (by decide +kernel) (by decide +kernel)
theorem q3:Prime 3819663927398918131021:=XO (Q:=13090036741) (S:=755057) (by decide +kernel) (by decide +kernel)
 (fun _ hr hd=>Da (N:=3819663927398918131021) (b:=2236669622039346762846) (g:=34) (by decide +kernel) q4 (by decide +kernel) (by decide +kernel) (by decide +kernel) hr hd)
 (fun _ hr hd=>Da (N:=3819663927398918131021) (b:=3072291452636436773356) (g:=20) (by decide +kernel) q6 (by decide +kernel) (by decide +kernel) (by decide +kernel) hr hd) (by decide +kernel)
theorem q2:Prime 1125266252156850182658904441386709967:=eU (Q:=3819663927398918131021) (b:=569094264676275985966734733593272495) (g:=72) (by decide +kernel) q3 (by decide +kernel) (by decide +kernel) (by decide +kernel) (by decide +kernel)
theorem q1:Prime 15778400344354997994418419698270088123916926905054652752758194827714659:=eU (Q:=1125266252156850182658904441386709967) (b:=584602478677671312863650330581164049005241475155695537731613712292485) (g:=120) (by decide +kernel) q2 (by decide +kernel) (by decide +kernel) (by decide +kernel) (by decide +kernel)
theorem zlf:Prime 4002409555221667393417789825735904156556882819939007885332058136124031650490837864442687629129015664037894272559787:=eU (Q:=15778400344354997994418419698270088123916926905054652752758194827714659) (b:=3857652229587791131170562170362777322661165158253241750951056708149380781976590789690115968560841332125271833377494) (g:=234) (by decide +kernel) q1 (by decide +kernel) (by decide +kernel) (by decide +kernel) (by decide +kernel)
end Go.Pr
namespace Go.Alg
structure Quad(R:Type)(c:R) where
 a:R
 b:R
theorem Quad.ext'{R:Type}{c:R}{x y:Quad R c}(h1:x.a=y.a)(h2:x.b=y.b):x=y:=by
 cases x;cases y;cases h1;cases h2;rfl
instance (priority:=low){R:Type}[Ops R]{c:R}:Ops (Quad R c) where
 zero:=⟨0,0⟩
 one:=⟨1,0⟩
 add x y:=⟨x.a+y.a,x.b+y.b⟩
 mul x y:=⟨x.a*y.a+c*(x.b*y.b),x.a*y.b+x.b*y.a⟩
 neg x:=⟨-x.a,-x.b⟩
structure Cub(R:Type)(k:R) where
 a:R
 b:R
 c:R
theorem Cub.ext'{R:Type}{k:R}{x y:Cub R k}(h1:x.a=y.a)(h2:x.b=y.b)(h3:x.c=y.c):x=y:=by
 cases x;cases y;cases h1;cases h2;cases h3;rfl
instance (priority:=low){R:Type}[Ops R]{k:R}:Ops (Cub R k) where
 zero:=⟨0,0,0⟩
 one:=⟨1,0,0⟩
 add x y:=⟨x.a+y.a,x.b+y.b,x.c+y.c⟩
 mul x y:=⟨x.a*y.a+k*(x.b*y.c+x.c*y.b),x.a*y.b+x.b*y.a+k*(x.c*y.c),x.a*y.c+x.b*y.b+x.c*y.a⟩
 neg x:=⟨-x.a,-x.b,-x.c⟩
abbrev q(i j k:Nat):Quad Ex (.v k):=⟨.v i,.v j⟩
abbrev t(i j l k:Nat):Cub Ex (.v k):=⟨.v i,.v j,.v l⟩
instance {R:Type}[CRing R]{c:R}:CRing (Quad R c) where
 add_comm x y:=Quad.ext' (add_comm x.a y.a) (add_comm x.b y.b)
 add_assoc x y z:=Quad.ext' (add_assoc x.a y.a z.a) (add_assoc x.b y.b z.b)
 add_zero x:=Quad.ext' (add_zero x.a) (add_zero x.b)
 add_neg x:=Quad.ext' (add_neg x.a) (add_neg x.b)
 mul_comm x y:=Quad.ext'
  (ak (aZ [x.a,x.b,y.a,y.b,c]) (q 0 1 4*q 2 3 4).a (q 2 3 4*q 0 1 4).a (by decide +kernel))
  (ak (aZ [x.a,x.b,y.a,y.b,c]) (q 0 1 4*q 2 3 4).b (q 2 3 4*q 0 1 4).b (by decide +kernel))
 mul_assoc x y z:=Quad.ext'
  (ak (aZ [x.a,x.b,y.a,y.b,z.a,z.b,c]) (q 0 1 6*q 2 3 6*q 4 5 6).a (q 0 1 6*(q 2 3 6*q 4 5 6)).a (by decide +kernel))
  (ak (aZ [x.a,x.b,y.a,y.b,z.a,z.b,c]) (q 0 1 6*q 2 3 6*q 4 5 6).b (q 0 1 6*(q 2 3 6*q 4 5 6)).b (by decide +kernel))
 mul_one x:=Quad.ext'
  (ak (aZ [x.a,x.b,c]) (q 0 1 2*1).a (.v 0) (by decide +kernel))
  (ak (aZ [x.a,x.b,c]) (q 0 1 2*1).b (.v 1) (by decide +kernel))
 mul_add x y z:=Quad.ext'
  (ak (aZ [x.a,x.b,y.a,y.b,z.a,z.b,c]) (q 0 1 6*(q 2 3 6+q 4 5 6)).a (q 0 1 6*q 2 3 6+q 0 1 6*q 4 5 6).a (by decide +kernel))
  (ak (aZ [x.a,x.b,y.a,y.b,z.a,z.b,c]) (q 0 1 6*(q 2 3 6+q 4 5 6)).b (q 0 1 6*q 2 3 6+q 0 1 6*q 4 5 6).b (by decide +kernel))
instance {R:Type}[CRing R]{k:R}:CRing (Cub R k) where
 add_comm x y:=Cub.ext' (add_comm x.a y.a) (add_comm x.b y.b) (add_comm x.c y.c)
 add_assoc x y z:=Cub.ext' (add_assoc x.a y.a z.a) (add_assoc x.b y.b z.b) (add_assoc x.c y.c z.c)
 add_zero x:=Cub.ext' (add_zero x.a) (add_zero x.b) (add_zero x.c)
 add_neg x:=Cub.ext' (add_neg x.a) (add_neg x.b) (add_neg x.c)
 mul_comm x y:=Cub.ext'
  (ak (aZ [x.a,x.b,x.c,y.a,y.b,y.c,k]) (t 0 1 2 6*t 3 4 5 6).a (t 3 4 5 6*t 0 1 2 6).a (by decide +kernel))
  (ak (aZ [x.a,x.b,x.c,y.a,y.b,y.c,k]) (t 0 1 2 6*t 3 4 5 6).b (t 3 4 5 6*t 0 1 2 6).b (by decide +kernel))
  (ak (aZ [x.a,x.b,x.c,y.a,y.b,y.c,k]) (t 0 1 2 6*t 3 4 5 6).c (t 3 4 5 6*t 0 1 2 6).c (by decide +kernel))
 mul_assoc x y z:=Cub.ext'
  (ak (aZ [x.a,x.b,x.c,y.a,y.b,y.c,z.a,z.b,z.c,k]) (t 0 1 2 9*t 3 4 5 9*t 6 7 8 9).a (t 0 1 2 9*(t 3 4 5 9*t 6 7 8 9)).a (by decide +kernel))
  (ak (aZ [x.a,x.b,x.c,y.a,y.b,y.c,z.a,z.b,z.c,k]) (t 0 1 2 9*t 3 4 5 9*t 6 7 8 9).b (t 0 1 2 9*(t 3 4 5 9*t 6 7 8 9)).b (by decide +kernel))
  (ak (aZ [x.a,x.b,x.c,y.a,y.b,y.c,z.a,z.b,z.c,k]) (t 0 1 2 9*t 3 4 5 9*t 6 7 8 9).c (t 0 1 2 9*(t 3 4 5 9*t 6 7 8 9)).c (by decide +kernel))
 mul_one x:=Cub.ext'
  (ak (aZ [x.a,x.b,x.c,k]) (t 0 1 2 3*1).a (.v 0) (by decide +kernel))
  (ak (aZ [x.a,x.b,x.c,k]) (t 0 1 2 3*1).b (.v 1) (by decide +kernel))
  (ak (aZ [x.a,x.b,x.c,k]) (t 0 1 2 3*1).c (.v 2) (by decide +kernel))
 mul_add x y z:=Cub.ext'
  (ak (aZ [x.a,x.b,x.c,y.a,y.b,y.c,z.a,z.b,z.c,k]) (t 0 1 2 9*(t 3 4 5 9+t 6 7 8 9)).a (t 0 1 2 9*t 3 4 5 9+t 0 1 2 9*t 6 7 8 9).a (by decide +kernel))
  (ak (aZ [x.a,x.b,x.c,y.a,y.b,y.c,z.a,z.b,z.c,k]) (t 0 1 2 9*(t 3 4 5 9+t 6 7 8 9)).b (t 0 1 2 9*t 3 4 5 9+t 0 1 2 9*t 6 7 8 9).b (by decide +kernel))
  (ak (aZ [x.a,x.b,x.c,y.a,y.b,y.c,z.a,z.b,z.c,k]) (t 0 1 2 9*(t 3 4 5 9+t 6 7 8 9)).c (t 0 1 2 9*t 3 4 5 9+t 0 1 2 9*t 6 7 8 9).c (by decide +kernel))
section
variable {R:Type}[CRing R]
open Classical in
noncomputable def inv(a:R):R:=if h:∃ b,a*b=1 then h.choose else 0
theorem DG{a b c:R}(h1:a*b=1)(h2:a*c=1):b=c:=by
 rw [←mul_one b,←h2,←mul_assoc,mul_comm b a,h1,aP]
theorem nk{a b:R}(h:a*b=1):inv a=b:=by
 unfold inv
 have hx:∃ b,a*b=1:=⟨b,h⟩
 rw [dif_pos hx]
 exact DG hx.choose_spec h
theorem MR{a:R}(h:¬∃ b,a*b=1):inv a=0:=by unfold inv;rw [dif_neg h]
theorem Rg{a:R}(h:∃ b,a*b=1):a*inv a=1:=by
 obtain ⟨b,hb⟩:=h
 rw [nk hb];exact hb
class IsField(R:Type)[CRing R]:Prop where
 ne:(1:R)≠0
 ex:∀ a:R,a≠0→∃ b,a*b=1
variable [IsField R]
theorem bB:(1:R)≠0:=IsField.ne
theorem bs{a:R}(h:a≠0):a*inv a=1:=Rg (IsField.ex a h)
theorem iQ:inv (0:R)=0:=MR fun ⟨b,hb⟩=>bB (R:=R) (by rw [←hb,aS])
theorem cc{a b:R}:a*b=0↔a=0∨b=0:=by
 constructor
 ·intro h
  by_cases ha:a=0
  ·exact .inl ha
  ·refine .inr ?_
   have:inv a*(a*b)=0:=by rw [h,aq]
   rwa [←mul_assoc,mul_comm (inv a),bs ha,aP] at this
 ·rintro (rfl|rfl)
  ·exact aS b
  ·exact aq a
theorem bo{a b:R}(ha:a≠0)(hb:b≠0):a*b≠0:=fun h=>by rcases cc.1 h with h | h<;>contradiction
theorem kL(a b:R):inv (a*b)=inv a*inv b:=by
 by_cases ha:a=0
 ·rw [ha,aS,iQ,aS]
 by_cases hb:b=0
 ·rw [hb,aq,iQ,aq]
 refine nk ?_
 rw [mul_assoc,ef b,←mul_assoc,bs ha,bs hb,mul_one]
theorem ch{a b c:R}(ha:a≠0)(h:a*b=a*c):b=c:=by
 have:inv a*(a*b)=inv a*(a*c):=by rw [h]
 rwa [←mul_assoc,←mul_assoc,mul_comm (inv a),bs ha,aP,aP] at this
end
end Go.Alg
namespace Go.Alg
abbrev x0:Ex:=.v 0
abbrev x1:Ex:=.v 1
abbrev x2:Ex:=.v 2
abbrev x3:Ex:=.v 3
abbrev x4:Ex:=.v 4
abbrev x5:Ex:=.v 5
abbrev x6:Ex:=.v 6
abbrev x7:Ex:=.v 7
section
variable {R:Type}[CRing R]{c k:R}
def Quad.conj(x:Quad R c):Quad R c:=⟨x.a,-x.b⟩
def Quad.norm(x:Quad R c):R:=x.a*x.a-c*(x.b*x.b)
theorem Quad.mul_conj(x:Quad R c):x*x.conj=⟨x.norm,0⟩:=Quad.ext'
 (ak (aZ [x.a,x.b,c]) (x0*x0+x2*(x1*-x1)) (x0*x0-x2*(x1*x1)) (by decide +kernel))
 (ak (aZ [x.a,x.b,c]) (x0*-x1+x1*x0) 0 (by decide +kernel))
def Cub.cof(x:Cub R k):Cub R k:=⟨x.a*x.a-k*(x.b*x.c),k*(x.c*x.c)-x.a*x.b,x.b*x.b-x.a*x.c⟩
def Cub.norm(x:Cub R k):R:=x.a*x.cof.a+k*(x.c*x.cof.b+x.b*x.cof.c)
theorem Cub.mul_cof(x:Cub R k):x*x.cof=⟨x.norm,0,0⟩:=Cub.ext'
 (ak (aZ [x.a,x.b,x.c,k]) (x0*(x0*x0-x3*(x1*x2))+x3*(x1*(x1*x1-x0*x2)+x2*(x3*(x2*x2)-x0*x1))) (x0*(x0*x0-x3*(x1*x2))+x3*(x2*(x3*(x2*x2)-x0*x1)+x1*(x1*x1-x0*x2))) (by decide +kernel))
 (ak (aZ [x.a,x.b,x.c,k]) (x0*(x3*(x2*x2)-x0*x1)+x1*(x0*x0-x3*(x1*x2))+x3*(x2*(x1*x1-x0*x2))) 0 (by decide +kernel))
 (ak (aZ [x.a,x.b,x.c,k]) (x0*(x1*x1-x0*x2)+x1*(x3*(x2*x2)-x0*x1)+x2*(x0*x0-x3*(x1*x2))) 0 (by decide +kernel))
theorem Quad.coe_mul(s t:R):(⟨s,0⟩:Quad R c)*⟨t,0⟩=⟨s*t,0⟩:=Quad.ext'
 (ak (aZ [s,t,c]) (x0*x1+x2*(0*0)) (x0*x1) (by decide +kernel)) (ak (aZ [s,t,c]) (x0*0+0*x1) 0 (by decide +kernel))
theorem Cub.coe_mul(s t:R):(⟨s,0,0⟩:Cub R k)*⟨t,0,0⟩=⟨s*t,0,0⟩:=Cub.ext'
 (ak (aZ [s,t,k]) (x0*x1+x2*(0*0+0*0)) (x0*x1) (by decide +kernel)) (ak (aZ [s,t,k]) (x0*0+0*x1+x2*(0*0)) 0 (by decide +kernel)) (ak (aZ [s,t,k]) (x0*0+0*0+0*x1) 0 (by decide +kernel))
variable [IsField R]
theorem iv{a:R}(h:a*a=0):a=0:=by rcases cc.1 h with h | h<;>exact h
theorem Quad.norm_ne(h:∀ t:R,t*t≠c){x:Quad R c}(hx:x≠0):x.norm≠0:=by
 intro h0
 by_cases hb:x.b=0
 ·refine hx (Quad.ext' ?_ hb)
  unfold norm at h0
  rw [hb,aq,aq,j6,a_,add_zero] at h0
  exact iv h0
 ·have h1:x.a*x.a=c*(x.b*x.b):=ct.1 h0
  refine h (x.a*inv x.b) ?_
  have e:x.a*inv x.b*(x.a*inv x.b)=x.a*x.a*(inv x.b*inv x.b):=ak (aZ [x.a,inv x.b]) (x0*x1*(x0*x1)) (x0*x0*(x1*x1)) (by decide +kernel)
  have e2:c*(x.b*x.b)*(inv x.b*inv x.b)=c*((x.b*inv x.b)*(x.b*inv x.b)):=ak (aZ [c,x.b,inv x.b]) (x0*(x1*x1)*(x2*x2)) (x0*((x1*x2)*(x1*x2))) (by decide +kernel)
  rw [e,h1,e2,bs hb,mul_one,mul_one]
theorem Quad.inv_ex(h:∀ t:R,t*t≠c){x:Quad R c}(hx:x≠0):x*(x.conj*⟨inv x.norm,0⟩)=1:=by
 rw [←mul_assoc,mul_conj,coe_mul,bs (norm_ne h hx)];rfl
theorem ur(h:∀ t:R,t*t≠c):IsField (Quad R c) where
 ne e:=bB (R:=R) (congrArg Quad.a e)
 ex _ hx:=⟨_,Quad.inv_ex h hx⟩
theorem Quad.inv_eq'(h:∀ t:R,t*t≠c)(x:Quad R c):inv x=x.conj*⟨inv x.norm,0⟩:=by
 haveI:=ur h
 by_cases hx:x=0
 ·subst hx
  rw [iQ]
  have:(0:Quad R c).conj=0:=Quad.ext' rfl a_
  rw [this,aS]
 ·exact nk (inv_ex h hx)
theorem Cub.norm_ne(h:∀ t:R,t*t*t≠k){x:Cub R k}(hx:x≠0):x.norm≠0:=by
 intro h0
 have hk:k≠0:=fun e=>h 0 (by rw [e,aq])
 have root:∀ s t:R,t≠0→s*s*s=k*(t*t*t)→False:=by
  intro s t ht e
  refine h (s*inv t) ?_
  have e1:s*inv t*(s*inv t)*(s*inv t)=s*s*s*(inv t*inv t*inv t):=ak (aZ [s,inv t]) (x0*x1*(x0*x1)*(x0*x1)) (x0*x0*x0*(x1*x1*x1)) (by decide +kernel)
  have e2:k*(t*t*t)*(inv t*inv t*inv t)=k*((t*inv t)*(t*inv t)*(t*inv t)):=ak (aZ [k,t,inv t]) (x0*(x1*x1*x1)*(x2*x2*x2)) (x0*((x1*x2)*(x1*x2)*(x1*x2))) (by decide +kernel)
  rw [e1,e,e2,bs ht,mul_one,mul_one,mul_one]
 have e0:k*(x.cof.c*x.cof.c*x.cof.c)-x.cof.b*x.cof.b*x.cof.b=x.norm*(x.b*x.b*x.b-k*(x.c*x.c*x.c)):=
  ak (aZ [x.a,x.b,x.c,k]) (x3*((x1*x1-x0*x2)*(x1*x1-x0*x2)*(x1*x1-x0*x2))-(x3*(x2*x2)-x0*x1)*(x3*(x2*x2)-x0*x1)*(x3*(x2*x2)-x0*x1))
   ((x0*(x0*x0-x3*(x1*x2))+x3*(x2*(x3*(x2*x2)-x0*x1)+x1*(x1*x1-x0*x2)))*(x1*x1*x1-x3*(x2*x2*x2))) (by decide +kernel)
 rw [h0,aS] at e0
 have hC:x.cof.c=0:=by
  refine aa3 fun hn=>root x.cof.b x.cof.c hn (ct.1 e0).symm
 have hB:x.cof.b=0:=by
  rw [hC,aq,aq] at e0
  have:x.cof.b*x.cof.b*x.cof.b=0:=(ct.1 e0).symm
  rcases cc.1 this with h|h
  ·exact iv h
  ·exact h
 have hA:x.a*x.cof.a=0:=by
  unfold norm at h0
  rw [hB,hC,aq,aq,add_zero,aq,add_zero] at h0
  exact h0
 have h1:k*(x.c*x.c)=x.a*x.b:=ct.1 hB
 have h2:x.b*x.b=x.a*x.c:=ct.1 hC
 have fin:x.c=0→x.b=0→x.a=0→False:=fun hc hb ha=>hx (Cub.ext' ha hb hc)
 rcases cc.1 hA with ha|ha
 ·have hb:x.b=0:=iv (by rw [h2,ha,aS])
  have hc:x.c=0:=iv (by
   have:k*(x.c*x.c)=0:=by rw [h1,ha,aS]
   exact (cc.1 this).resolve_left hk)
  exact fin hc hb ha
 ·have h3:x.a*x.a=k*(x.b*x.c):=ct.1 ha
  by_cases hc:x.c=0
  ·have hb:x.b=0:=iv (by rw [h2,hc,aq])
   have bY:x.a=0:=iv (by rw [h3,hc,aq,aq])
   exact fin hc hb bY
  ·refine root x.b x.c hc ?_
   have e1:k*(x.c*x.c*x.c)=k*(x.c*x.c)*x.c:=ak (aZ [k,x.c]) (x0*(x1*x1*x1)) (x0*(x1*x1)*x1) (by decide +kernel)
   have e2:x.a*x.b*x.c=x.a*x.c*x.b:=ak (aZ [x.a,x.b,x.c]) (x0*x1*x2) (x0*x2*x1) (by decide +kernel)
   rw [e1,h1,e2,←h2]
theorem Cub.inv_ex(h:∀ t:R,t*t*t≠k){x:Cub R k}(hx:x≠0):x*(x.cof*⟨inv x.norm,0,0⟩)=1:=by
 rw [←mul_assoc,mul_cof,coe_mul,bs (norm_ne h hx)];rfl
theorem Hk(h:∀ t:R,t*t*t≠k):IsField (Cub R k) where
 ne e:=bB (R:=R) (congrArg Cub.a e)
 ex _ hx:=⟨_,Cub.inv_ex h hx⟩
theorem Cub.inv_eq'(h:∀ t:R,t*t*t≠k)(x:Cub R k):inv x=x.cof*⟨inv x.norm,0,0⟩:=by
 haveI:=Hk h
 by_cases hx:x=0
 ·subst hx
  rw [iQ]
  have z1:(0:R)*0-k*(0*0)=0:=ak (aZ [k]) (0*0-x0*(0*0)) 0 (by decide +kernel)
  have z2:k*(0*0)-(0:R)*0=0:=ak (aZ [k]) (x0*(0*0)-0*0) 0 (by decide +kernel)
  have z3:(0:R)*0-0*0=0:=ak (aZ [k]) (0*0-0*0) 0 (by decide +kernel)
  have:(0:Cub R k).cof=0:=Cub.ext' z1 z2 z3
  rw [this,aS]
 ·exact nk (inv_ex h hx)
end
end Go.Alg
