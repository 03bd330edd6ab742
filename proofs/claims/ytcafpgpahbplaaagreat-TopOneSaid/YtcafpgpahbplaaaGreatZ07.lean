/-
 The proof, part 7 of 25.
-/
import Derived.Test.YtcafpgpahbplaaaGreatZ06
import Derived.Test.YtcafpgpahbplaaaGreatZ01
open Go renaming FuncId->aaz
open Int renaming toNat_natCast->aam
open List renaming append_inj->ael,append_nil->aaP,forall_mem_cons->aab,length_drop->aa1,length_take->abd,mem_cons->aae,mem_cons_of_mem->aaa,mem_cons_self->aac,not_mem_nil->aad
open Nat renaming add_mul->aaD,div_div_eq_div_mul->abj,mod_eq_of_lt->aah,mod_mul_right_div_self->acg,mod_mul_right_mod->acQ,mul_assoc->aaA,pow_add->acb,pow_succ->aa9
open Option.some renaming injEq->aag
noncomputable section
set_option linter.unusedVariables false
set_option linter.unusedSimpArgs false
namespace Go.Proofs.YtcafpgpahbplaaaGreat
open Go Go.Eng Go.RowKit Go.Wd Go.Alg Go.Pr
class Nm(N:Type) where
 k:Nat
 toL:N→List Nat
 ofL:List Nat→N
 len:∀ x,(toL x).length=k
 to_of:∀ l,l.length=k→toL (ofL l)=l
instance :Nm Nat where
 k:=1
 toL n:=[n]
 ofL l:=match l with | []=>0 | n::_=>n
 len _:=rfl
 to_of l h:=by match l,h with | [n],_=>rfl
instance {A B:Type}[Nm A][Nm B]:Nm (A×B) where
 k:=Nm.k A+Nm.k B
 toL x:=Nm.toL x.1++Nm.toL x.2
 ofL l:=(Nm.ofL (l.take (Nm.k A)),Nm.ofL (l.drop (Nm.k A)))
 len x:=by rw [List.length_append,Nm.len,Nm.len]
 to_of l h:=by
  rw [Nm.to_of _ (by rw [abd];omega),Nm.to_of _ (by rw [aa1];omega),List.take_append_drop]
def wN{A:Type}[Nm A](x:A):AV:=⟨true,(Nm.toL x).map (It.w 6)⟩
def wv{A:Type}[Nm A](x:A):Value:=.agg (((Nm.toL x).map (au 6)).flatten).toArray
theorem s8(ρ:Rho)(l:List Nat):conc ρ (l.map (It.w 6))=some ((l.map (au 6)).flatten):=by
 induction l with
 | nil=>rfl
 | cons n l ih=>simp [conc,It.cs,ih]
theorem gr{A:Type}[Nm A](ρ:Rho)(x:A):(wN x).val ρ=some (wv x):=by simp [wN,wv,AV.val,s8]
def asN(A:Type)[Nm A](x:AV):Option A:=match x.agg with
 | true=>match ZM (Nm.k A) x.its with
  | some r=>some (Nm.ofL r)
  | none=>none
 | false=>none
theorem qv{A:Type}[Nm A]{x:AV}{a:A}(h:asN A x=some a){ρ:Rho}{v:Value}(hv:x.val ρ=some v):v=wv a:=by
 unfold asN at h
 split at h
 ·rename_i hx
  split at h
  ·rename_i r hr
   cases h
   obtain ⟨vs,h1,h2⟩:=AV.cells hv
   obtain ⟨h3,rfl⟩:=V5 _ _ _ hr h1
   rcases h2 with ⟨_,rfl⟩|⟨h4,_⟩
   ·unfold wv;rw [Nm.to_of r h3]
   ·rw [hx] at h4;cases h4
  ·cases h
 ·cases h
def Ub{A:Type}[Nm A](f:aaz)(g:A):Row where
 f:=f
 ans:=fun
  | []=>some (.one (wN g),[])
  | _=>none
def jk{A B:Type}[Nm A][Nm B](f:aaz)(g:A→B):Row where
 f:=f
 ans:=fun
  | [x]=>match asN A x with
   | some a=>some (.one (wN (g a)),[])
   | none=>none
  | _=>none
def mn{A B C:Type}[Nm A][Nm B][Nm C](f:aaz)(g:A→B→C):Row where
 f:=f
 ans:=fun
  | [x,y]=>match asN A x,asN B y with
   | some a,some b=>some (.one (wN (g a b)),[])
   | _,_=>none
  | _=>none
theorem L5{A:Type}[Nm A]{f:aaz}{g:A}(h:bj Tryz.prog f [] (wv g)):bE Tryz.prog (Ub f g):=by
 intro args s ob ha ax ρ vs hv
 unfold Ub at ha
 simp only at ha
 split at ha
 ·cases ha;cases hv;exact ⟨_,gr _ _,h⟩
 ·cases ha
theorem da{A B:Type}[Nm A][Nm B]{f:aaz}{g:A→B}(h:∀ a,bj Tryz.prog f [wv a] (wv (g a))):bE Tryz.prog (jk f g):=by
 intro args s ob ha ax ρ vs hv
 unfold jk at ha
 simp only at ha
 split at ha
 ·split at ha
  ·rename_i a hn
   cases ha
   obtain ⟨v1,us,h1,h2,rfl⟩:=aj hv
   cases h2
   rw [qv hn h1]
   exact ⟨_,gr _ _,h a⟩
  ·cases ha
 ·cases ha
theorem gh{A B C:Type}[Nm A][Nm B][Nm C]{f:aaz}{g:A→B→C}(h:∀ a b,bj Tryz.prog f [wv a,wv b] (wv (g a b))):bE Tryz.prog (mn f g):=by
 intro args s ob ha ax ρ vs hv
 unfold mn at ha
 simp only at ha
 split at ha
 ·split at ha
  ·rename_i a b hn hm
   cases ha
   obtain ⟨v1,us,h1,h2,rfl⟩:=aj hv
   obtain ⟨v2,ov,h3,h4,rfl⟩:=aj h2
   cases h4
   rw [qv hn h1,qv hm h3]
   exact ⟨_,gr _ _,h a b⟩
  ·cases ha
 ·cases ha
theorem aR{T:CallT}(hT:ag Tryz.prog T){f:aaz}{args:List AV}{vs:List Value}{hints:List (Nat×Bool)}{C:Type}[Nm C]{x y:C}{ob:List Prop}(h:aK T f args hints=some (.one (wN x),ob))(ax:∀ p∈ob,p)
  (hv:ay rho0 args=some vs) (he:x=y):bj Tryz.prog f vs (wv y):=
 bi hT h ax hv fun ρ u hu=>by
  have e:(wN x).val ρ=some u:=hu
  rw [gr] at e
  cases e
  rw [he]
theorem zqK:ay rho0 []=some []:=rfl
theorem eE{A:Type}[Nm A](a:A):ay rho0 [wN a]=some [wv a]:=by simp only [ay,gr]
theorem rj{A B:Type}[Nm A][Nm B](a:A)(b:B):ay rho0 [wN a,wN b]=some [wv a,wv b]:=by simp only [ay,gr]
theorem Ci{A B C:Type}[Nm A][Nm B][Nm C](a:A)(b:B)(c:C):ay rho0 [wN a,wN b,wN c]=some [wv a,wv b,wv c]:=by simp only [ay,gr]
def dJ{A:Type}[Nm A](x y:A)(b:Bool):Prop:=aV ((Nm.toL x).map (It.w 6))=aV ((Nm.toL y).map (It.w 6))↔b=true
theorem vY(l:List Nat):aV (l.map (It.w 6))=(l.map (au 6)).flatten:=by
 induction l with
 | nil=>rfl
 | cons n l ih=>simp [aV,ih]
def Sm{A:Type}[Nm A](x:A):Prop:=∀ n∈Nm.toL x,n<M6
theorem zgj:∀ (l m:List Nat),(∀ n∈l,n<M6)→(∀ n∈m,n<M6)→l.length=m.length→(l.map (au 6)).flatten=(m.map (au 6)).flatten→l=m:=by
 intro l
 induction l with
 | nil=>intro m _ _ hl _;cases m with
  | nil=>rfl
  | cons b m=>cases hl
 | cons a l ih=>intro m h1 h2 hl h;cases m with
  | nil=>cases hl
  | cons b m=>
   simp only [List.map_cons,List.flatten_cons] at h
   obtain ⟨e1,e2⟩:=ael h (by simp [kJ])
   have:=sm e1
   have ha:a<pw 6:=h1 a aac
   have hb:b<pw 6:=h2 b aac
   rw [aah ha,aah hb] at this
   rw [this,ih m (fun n hn=>h1 n (aaa _ hn)) (fun n hn=>h2 n (aaa _ hn)) (by simpa using hl) e2]
class NmI(A:Type) extends Nm A where
 inj:∀ x y:A,toL x=toL y→x=y
instance :NmI Nat where
 inj x y h:=by cases h;rfl
instance {A B:Type}[NmI A][NmI B]:NmI (A×B) where
 inj x y h:=by
  obtain ⟨e1,e2⟩:=ael h (by rw [Nm.len,Nm.len])
  exact Prod.ext (NmI.inj _ _ e1) (NmI.inj _ _ e2)
theorem ej{A:Type}[NmI A]{x y:A}{b:Bool}(hx:Sm x)(hy:Sm y)(h:x=y↔b=true):dJ x y b:=by
 unfold dJ
 rw [vY,vY]
 refine ⟨fun e=>h.1 (NmI.inj _ _ (zgj _ _ hx hy (by rw [Nm.len,Nm.len]) e)),fun e=>by rw [h.2 e]⟩
def zON(n:Nat):List (Nat×Bool):=(List.range n).map fun i=>(i,true)
def fV(n:Nat):Nat:=(φ n).val
def bZ(m n:Nat):Nat:=(φ m+φ n).val
def lS(m n:Nat):Nat:=(φ m-φ n).val
def ao(m n:Nat):Nat:=(φ m*φ n).val
def du(n:Nat):Nat:=(-φ n).val
def gW(n:Nat):Nat:=(inv (φ n)).val
theorem iq(n:Nat):wv n = .agg (au 6 n).toArray:=by simp [wv,Nm.toL]
theorem YR(a:Nat):bj Tryz.prog 50 [wv a] (wv (fV a)):=by
 rw [iq,iq,fV,←uo];exact Ui a
theorem zxC(a b:Nat):bj Tryz.prog 20 [wv a,wv b] (wv (bZ a b)):=by
 rw [iq,iq,iq,bZ,←V8];exact O8 a b
theorem zxx(a b:Nat):bj Tryz.prog 67 [wv a,wv b] (wv (lS a b)):=by
 rw [iq,iq,iq,lS,←zkc];exact Lb a b
theorem zxA(a b:Nat):bj Tryz.prog 21 [wv a,wv b] (wv (ao a b)):=by
 rw [iq,iq,iq,ao,←I9];exact Mt a b
theorem zxz(a:Nat):bj Tryz.prog 23 [wv a] (wv (du a)):=by
 rw [iq,iq,du,←UI];exact Mr a
theorem zxB(a:Nat):bj Tryz.prog 64 [wv a] (wv (gW a)):=by
 rw [iq,iq,gW,←zmZ];exact ze7 a (zxg a)
theorem zNf:bj Tryz.prog 56 [] (wv pN):=by
 obtain ⟨v,h1,h2⟩:=zve [] _ _ rfl (fun p hp=>by cases hp) rho0 [] rfl
 have:AV.val rho0 (W6 pN)=some v:=h1
 rw [iY] at this
 cases this
 rw [iq];exact h2
def pL:List Row:=[jk 50 fV,mn 20 bZ,mn 67 lS,mn 21 ao,jk 23 du,jk 64 gW,Ub 56 pN]
theorem lj:∀ r∈pL,bE Tryz.prog r:=by
 simp only [pL,aab,aad,false_imp_iff,implies_true,and_true]
 exact ⟨da YR,gh zxC,gh zxx,gh zxA,da zxz,da zxB,L5 zNf⟩
abbrev F2:=Quad F (-1)
abbrev N2:=Nat×Nat
def ar(x:N2):F2:=⟨φ x.1,φ x.2⟩
def dr(z:F2):N2:=(z.a.val,z.b.val)
theorem bW(z:F2):ar (dr z)=z:=Quad.ext' (cM _) (cM _)
theorem fR{x y:F2}(h:dr x=dr y):x=y:=by rw [←bW x,h,bW]
theorem zto:(1:F)+1≠0:=by
 intro h
 have:(1%pN+1%pN)%pN=0%pN:=congrArg Z.val h
 revert this
 decide +kernel
theorem Mf(t:F):pow t pN=t:=by have:=zgo oP t.val;rwa [Z.of_val] at this
theorem Ay(m:Nat):pow (-1:F) (2*m)=1:=by
 rw [cC]
 have:pow (-1:F) 2=1:=by rw [aC,ft,gk,lM,bm,mul_one]
 rw [this,fT]
theorem I6(t:F):t*t≠-1:=by
 intro h
 obtain ⟨m,hm⟩:∃ m,pN=2*(2*m+1)+1:=⟨pN/4,by decide +kernel⟩
 have h1:=Mf t
 have e:pow t pN=pow t (2*(2*m+1)+1):=congrArg (pow t) hm
 have e2:pow t 2=-1:=by rw [aC,ft];exact h
 rw [e,aC,cC,e2,aC,Ay,aP,gk,aP] at h1
 have h2:t*(1+1)=0:=by
  rw [mul_add,mul_one]
  have:t+t=-t+t:=by rw [h1]
  rw [this,BG]
 rcases cc.1 h2 with h3|h3
 ·rw [h3,aq] at h
  have:(1:F)=0:=by rw [←bm (1:F),←h,a_]
  exact bB this
 ·exact zto h3
instance :IsField F2:=ur I6
def PG(k:F):F2:=⟨k,0⟩
def ξ:F2:=⟨1,1⟩
def aE(x:N2):N2:=dr (ar x)
def bk(x y:N2):N2:=dr (ar x+ar y)
def d_(x y:N2):N2:=dr (ar x-ar y)
def ai(x y:N2):N2:=dr (ar x*ar y)
def gl(x:N2):N2:=dr (-ar x)
def Hn(x:N2):N2:=dr (ar x).conj
def yu(x:N2)(k:Nat):N2:=dr (ar x*PG (φ k))
def bU(x:N2):N2:=dr (inv (ar x))
def Wr(x:N2):N2:=dr (ar x*ξ)
theorem Az{z:F2}{m n:Nat}(h1:m=z.a.val)(h2:n=z.b.val):(m,n)=dr z:=by rw [h1,h2];rfl
def TF:CallT:=aA pL
theorem AU:ag Tryz.prog TF:=ap lj
theorem D3(x:N2):aK TF 61 [wN x] []=some (.one (wN (fV x.1,fV x.2)),[]):=by kernel_rfl
theorem R_(x:N2):bj Tryz.prog 61 [wv x] (wv (aE x)):=aR AU (D3 x) (fun _ h=>by cases h) (eE x) (Az rfl rfl)
theorem N3(x y:N2):aK TF 27 [wN x,wN y] []=some (.one (wN (bZ x.1 y.1,bZ x.2 y.2)),[]):=by kernel_rfl
theorem znF(x y:N2):bj Tryz.prog 27 [wv x,wv y] (wv (bk x y)):=aR AU (N3 x y) (fun _ h=>by cases h) (rj x y) (Az rfl rfl)
theorem NY(x y:N2):aK TF 117 [wN x,wN y] []=some (.one (wN (lS x.1 y.1,lS x.2 y.2)),[]):=by kernel_rfl
theorem znB(x y:N2):bj Tryz.prog 117 [wv x,wv y] (wv (d_ x y)):=aR AU (NY x y) (fun _ h=>by cases h) (rj x y) (Az rfl rfl)
theorem NZ(x:N2):aK TF 30 [wN x] []=some (.one (wN (du x.1,du x.2)),[]):=by kernel_rfl
theorem znC(x:N2):bj Tryz.prog 30 [wv x] (wv (gl x)):=aR AU (NZ x) (fun _ h=>by cases h) (eE x) (Az rfl rfl)
theorem JV(x:N2):aK TF 136 [wN x] []=some (.one (wN (fV x.1,du x.2)),[]):=by kernel_rfl
theorem zf9(x:N2):bj Tryz.prog 136 [wv x] (wv (Hn x)):=aR AU (JV x) (fun _ h=>by cases h) (eE x) (Az rfl rfl)
theorem N0(x y:N2):aK TF 28 [wN x,wN y] []=some (.one (wN (lS (ao x.1 y.1) (ao x.2 y.2),lS (ao (bZ x.1 x.2) (bZ y.1 y.2)) (bZ (ao x.1 y.1) (ao x.2 y.2)))),[]):=by kernel_rfl
theorem znD(x y:N2):bj Tryz.prog 28 [wv x,wv y] (wv (ai x y)):=by
 refine aR AU (N0 x y) (fun _ h=>by cases h) (rj x y) (Az ?_ ?_)
 ·simp only [lS,ao,cM]
  exact congrArg Z.val (ak (aZ [φ x.1,φ x.2,φ y.1,φ y.2]) (x0*x2-x1*x3) (x0*x2+-1*(x1*x3)) (by decide +kernel))
 ·simp only [lS,ao,bZ,cM]
  exact congrArg Z.val (ak (aZ [φ x.1,φ x.2,φ y.1,φ y.2]) ((x0+x1)*(x2+x3)-(x0*x2+x1*x3)) (x0*x3+x1*x2) (by decide +kernel))
theorem Fz(x:N2)(k:Nat):aK TF 135 [wN x,wN k] []=some (.one (wN (ao x.1 k,ao x.2 k)),[]):=by kernel_rfl
theorem YU(x:N2)(k:Nat):bj Tryz.prog 135 [wv x,wv k] (wv (yu x k)):=by
 refine aR AU (Fz x k) (fun _ h=>by cases h) (rj x k) (Az ?_ ?_)
 ·exact congrArg Z.val (ak (aZ [φ x.1,φ x.2,φ k]) (x0*x2) (x0*x2+-1*(x1*0)) (by decide +kernel))
 ·exact congrArg Z.val (ak (aZ [φ x.1,φ x.2,φ k]) (x1*x2) (x0*0+x1*x2) (by decide +kernel))
theorem R9(x:N2):aK TF 156 [wN x] []=some (.one (wN (lS x.1 x.2,bZ x.1 x.2)),[]):=by kernel_rfl
theorem zxF(x:N2):bj Tryz.prog 156 [wv x] (wv (Wr x)):=by
 refine aR AU (R9 x) (fun _ h=>by cases h) (eE x) (Az ?_ ?_)
 ·exact congrArg Z.val (ak (aZ [φ x.1,φ x.2]) (x0-x1) (x0*1+-1*(x1*1)) (by decide +kernel))
 ·exact congrArg Z.val (ak (aZ [φ x.1,φ x.2]) (x0+x1) (x0*1+x1*1) (by decide +kernel))
def Iy:List Row:=jk 61 aE::mn 27 bk::mn 117 d_::jk 30 gl::jk 136 Hn::mn 28 ai::mn 135 yu::jk 156 Wr::pL
theorem Gw:∀ r∈Iy,bE Tryz.prog r:=by
 simp only [Iy,aab]
 exact ⟨da R_,gh znF,gh znB,da znC,da zf9,gh znD,gh YU,da zxF,lj⟩
theorem N1(x:N2):aK (aA Iy) 111 [wN x] []=some (.one (wN (yu (Hn x) (gW (bZ (ao x.1 x.1) (ao x.2 x.2))))),[]):=by kernel_rfl
theorem znE(x:N2):bj Tryz.prog 111 [wv x] (wv (bU x)):=by
 refine aR (ap Gw) (N1 x) (fun _ h=>by cases h) (eE x) ?_
 unfold yu Hn bU
 congr 1
 rw [Quad.inv_eq' I6,bW]
 unfold gW bZ ao
 rw [cM,cM,cM,cM]
 have:(ar x).norm=φ x.1*φ x.1+φ x.2*φ x.2:=ak (aZ [φ x.1,φ x.2]) (x0*x0 - -1*(x1*x1)) (x0*x0+x1*x1) (by decide +kernel)
 rw [this];rfl
def j_:List Row:=jk 111 bU::Iy
theorem fF:∀ r∈j_,bE Tryz.prog r:=by
 simp only [j_,aab]
 exact ⟨da znE,Gw⟩
abbrev F6:=Cub F2 ξ
abbrev N6:=N2×N2×N2
def ow(x:N6):F6:=⟨ar x.1,ar x.2.1,ar x.2.2⟩
def EI(z:F6):N6:=(dr z.a,dr z.b,dr z.c)
theorem to(z:F6):ow (EI z)=z:=Cub.ext' (bW _) (bW _) (bW _)
def nb{R:Type}[Ops R](one:R)(a:R):Nat→Nat→R
 | 0,_=>one
 | n+1,e=>match Nat.beq (e/2^n%2) 1 with
  | true=>nb (Ops.mul (Ops.mul one one) a) a n e
  | false=>nb (Ops.mul one one) a n e
theorem XP{R:Type}[CRing R](a:R):∀ n e (acc:R) k,acc=pow a k→nb acc a n e=pow a (k*2^n+e%2^n):=by
 intro n
 induction n with
 | zero=>intro e acc k h;rw [nb,h,Nat.pow_zero,Nat.mul_one,Nat.mod_one,Nat.add_zero]
 | succ n ih=>
  intro e acc k h
  have hs:acc*acc=pow a (k+k):=by rw [h,ed]
  rw [nb]
  have e1:e%2^(n+1)=e%2^n+2^n*(e/2^n%2):=by rw [aa9,Nat.mod_mul]
  by_cases hb:e/2^n%2=1
  ·have:Nat.beq (e/2^n%2) 1=true:=by rw [hb];rfl
   rw [this]
   show nb (acc*acc*a) a n e=_
   rw [ih e _ (k+k+1) (by rw [aC,hs])]
   congr 1
   rw [e1,hb,aa9,aaD,aaD,←aaA,Nat.mul_two];omega
  ·have h0:e/2^n%2=0:=by omega
   have:Nat.beq (e/2^n%2) 1=false:=by rw [h0];rfl
   rw [this]
   show nb (acc*acc) a n e=_
   rw [ih e _ (k+k) hs]
   congr 1
   rw [e1,h0,aa9,aaD,←aaA,Nat.mul_two];omega
theorem pR{R:Type}[CRing R](a:R)(n e:Nat)(h:e<2^n):nb 1 a n e=pow a e:=by
 rw [XP a n e 1 0 rfl,Nat.zero_mul,Nat.zero_add,aah h]
theorem zdH:(kU pN:F2)=0:=by
 have h1:∀ n:Nat,(kU n:F2)=⟨kU n,0⟩:=by
  intro n
  induction n with
  | zero=>rfl
  | succ n ih=>show kU n+1=_;rw [ih];exact Quad.ext' rfl (add_zero 0)
 rw [h1,zdI,Z.of_n];rfl
theorem zf4(z:F2):pow z pN=z.conj:=by
 have e:z=⟨z.a,0⟩+⟨z.b,0⟩*⟨0,1⟩:=Quad.ext' (ak (aZ [z.a,z.b]) x0 (x0+(x1*0+-1*(0*1))) (by decide +kernel)) (ak (aZ [z.a,z.b]) x1 (0+(x1*1+0*0)) (by decide +kernel))
 have hc:∀ (t:F) (n:Nat),pow (⟨t,0⟩:F2) n=⟨pow t n,0⟩:=by
  intro t n
  induction n with
  | zero=>rfl
  | succ n ih=>rw [aC,ih,Quad.coe_mul];rfl
 have hu:pow (⟨0,1⟩:F2) pN=⟨0,-1⟩:=by
  obtain ⟨m,hm⟩:∃ m,pN=2*(2*m+1)+1:=⟨pN/4,by decide +kernel⟩
  have e:pow (⟨0,1⟩:F2) pN=pow ⟨0,1⟩ (2*(2*m+1)+1):=congrArg (pow _) hm
  have e2:pow (⟨0,1⟩:F2) 2=⟨-1,0⟩:=by
   rw [aC,ft]
   exact Quad.ext' (ak (aZ []) (0*0+-1*(1*1)) (-1) (by decide +kernel)) (ak (aZ []) (0*1+1*0) 0 (by decide +kernel))
  rw [e,aC,cC,e2,hc,aC,Ay]
  exact Quad.ext' (ak (aZ []) (1*-1*0+-1*(0*1)) 0 (by decide +kernel)) (ak (aZ []) (1*-1*1+0*0) (-1) (by decide +kernel))
 have e3:pow z pN=pow (⟨z.a,0⟩+⟨z.b,0⟩*⟨0,1⟩) pN:=congrArg (fun x=>pow x pN) e
 rw [e3,VF oP zdH,wO,hc,hc,Mf,Mf,hu]
 exact Quad.ext' (ak (aZ [z.a,z.b]) (x0+(x1*0+-1*(0*-1))) x0 (by decide +kernel)) (ak (aZ [z.a,z.b]) (0+(x1*-1+0*0)) (-x1) (by decide +kernel))
theorem zu8(z:F2):pow z (pN*pN)=z:=by
 rw [cC,zf4,zf4]
 exact Quad.ext' rfl (bm _)
theorem C9{z:F2}(hz:z≠0):pow z (pN*pN-1)=1:=by
 have h:=zu8 z
 have e:pow z (pN*pN)=pow z (pN*pN-1+1):=congrArg (pow z) (by have:=iz;have:0<pN*pN:=Nat.mul_pos iz iz;omega)
 rw [e,aC] at h
 refine ch hz ?_
 rw [mul_comm,h,mul_one]
def t_:Nat:=(pN*pN-1)/3
def JG:Nat:=(pN*pN-1)/2
theorem FZ:pN*pN-1=3*t_:=by decide +kernel
theorem YL:pN*pN-1=2*JG:=by decide +kernel
theorem Z_:pow ξ t_≠1:=by
 rw [←pR ξ 762 t_ (by decide +kernel)]
 intro h
 have:(nb (1:F2) ξ 762 t_).a.val=(1:F2).a.val:=by rw [h]
 revert this
 decide +kernel
theorem zjg:pow ξ JG≠1:=by
 rw [←pR ξ 762 JG (by decide +kernel)]
 intro h
 have:(nb (1:F2) ξ 762 JG).a.val=(1:F2).a.val:=by rw [h]
 revert this
 decide +kernel
theorem zqz:ξ≠0:=fun h=>by
 have:(1:F)=0:=congrArg Quad.a h
 exact bB this
theorem UG(t:F2):t*t*t≠ξ:=by
 intro h
 have ht:t≠0:=fun e=>zqz (by rw [←h,e,aq])
 apply Z_
 have e:pow t 3=ξ:=by rw [←h,aC,aC,ft]
 rw [←e,←cC,←FZ]
 exact C9 ht
instance :IsField F6:=Hk UG
theorem Yb(t:F2):t*t≠ξ:=by
 intro h
 have ht:t≠0:=fun e=>zqz (by rw [←h,e,aq])
 apply zjg
 have e:pow t 2=ξ:=by rw [←h,aC,ft]
 rw [←e,←cC,←YL]
 exact C9 ht
def vv:F6:=⟨0,1,0⟩
theorem Kc{R:Type}[CRing R]{k:R}(x y:Cub R k):(x*y).norm=x.norm*y.norm:=by
 unfold Cub.norm Cub.cof
 exact ak (aZ [x.a,x.b,x.c,y.a,y.b,y.c,k]) (t 0 1 2 6*t 3 4 5 6 |> fun z=>z.a*(z.a*z.a-x6*(z.b*z.c))+x6*(z.c*(x6*(z.c*z.c)-z.a*z.b)+z.b*(z.b*z.b-z.a*z.c)))
  ((x0*(x0*x0-x6*(x1*x2))+x6*(x2*(x6*(x2*x2)-x0*x1)+x1*(x1*x1-x0*x2)))*(x3*(x3*x3-x6*(x4*x5))+x6*(x5*(x6*(x5*x5)-x3*x4)+x4*(x4*x4-x3*x5)))) (by decide +kernel)
theorem zjr:vv.norm=ξ:=ak (aZ [ξ]) (0*(0*0-x0*(1*0))+x0*(0*(x0*(0*0)-0*1)+1*(1*1-0*0))) x0 (by decide +kernel)
theorem Di(t:F6):t*t≠vv:=by
 intro h
 have:=Kc t t
 rw [h,zjr] at this
 exact Yb _ this.symm
def zcI(x:N6):N6:=EI (ow x)
def Pa(x y:N6):N6:=EI (ow x+ow y)
def WZ(x y:N6):N6:=EI (ow x-ow y)
def uC(x y:N6):N6:=EI (ow x*ow y)
def zdG(x:N6):N6:=EI (-ow x)
def up2(k:F2):F6:=⟨k,0,0⟩
def CO(x:N6)(k:N2):N6:=EI (ow x*up2 (ar k))
def G4(x:N6):N6:=EI (inv (ow x))
def v6(x:N6):N6:=EI (ow x*vv)
theorem Dk{z:F6}{m n k:N2}(h1:m=dr z.a)(h2:n=dr z.b)(h3:k=dr z.c):(m,n,k)=EI z:=by rw [h1,h2,h3];rfl
theorem tp:ar (0,0)=0:=fR (by decide +kernel)
def TF2:CallT:=aA j_
theorem uQ:ag Tryz.prog TF2:=ap fF
theorem DZ(x:N6):aK TF2 143 [wN x] []=some (.one (wN (aE x.1,aE x.2.1,aE x.2.2)),[]):=by kernel_rfl
theorem R8(x:N6):bj Tryz.prog 143 [wv x] (wv (zcI x)):=aR uQ (DZ x) (fun _ h=>by cases h) (eE x) (Dk rfl rfl rfl)
theorem NX(x y:N6):aK TF2 139 [wN x,wN y] []=some (.one (wN (bk x.1 y.1,bk x.2.1 y.2.1,bk x.2.2 y.2.2)),[]):=by kernel_rfl
theorem znA(x y:N6):bj Tryz.prog 139 [wv x,wv y] (wv (Pa x y)):=aR uQ (NX x y) (fun _ h=>by cases h) (rj x y) (Dk rfl rfl rfl)
theorem NV(x y:N6):aK TF2 137 [wN x,wN y] []=some (.one (wN (
  bk (bk (0,0) (ai x.1 y.1)) (Wr (d_ (ai (bk x.2.1 x.2.2) (bk y.2.1 y.2.2)) (bk (ai x.2.1 y.2.1) (ai x.2.2 y.2.2)))),
  bk (bk (0,0) (d_ (ai (bk x.1 x.2.1) (bk y.1 y.2.1)) (bk (ai x.1 y.1) (ai x.2.1 y.2.1)))) (Wr (ai x.2.2 y.2.2)),
  bk (bk (0,0) (d_ (ai (bk x.1 x.2.2) (bk y.1 y.2.2)) (bk (ai x.1 y.1) (ai x.2.2 y.2.2)))) (ai x.2.1 y.2.1))),[]):=by kernel_rfl
theorem zny(x y:N6):bj Tryz.prog 137 [wv x,wv y] (wv (uC x y)):=by
 refine aR uQ (NV x y) (fun _ h=>by cases h) (rj x y) (Dk ?_ ?_ ?_)
 ·simp only [bk,d_,ai,Wr,bW,tp]
  exact congrArg dr (ak (aZ [ar x.1,ar x.2.1,ar x.2.2,ar y.1,ar y.2.1,ar y.2.2,ξ]) (0+x0*x3+((x1+x2)*(x4+x5)-(x1*x4+x2*x5))*x6) (t 0 1 2 6*t 3 4 5 6).a (by decide +kernel))
 ·simp only [bk,d_,ai,Wr,bW,tp]
  exact congrArg dr (ak (aZ [ar x.1,ar x.2.1,ar x.2.2,ar y.1,ar y.2.1,ar y.2.2,ξ]) (0+((x0+x1)*(x3+x4)-(x0*x3+x1*x4))+x2*x5*x6) (t 0 1 2 6*t 3 4 5 6).b (by decide +kernel))
 ·simp only [bk,d_,ai,bW,tp]
  exact congrArg dr (ak (aZ [ar x.1,ar x.2.1,ar x.2.2,ar y.1,ar y.2.1,ar y.2.2,ξ]) (0+((x0+x2)*(x3+x5)-(x0*x3+x2*x5))+x1*x4) (t 0 1 2 6*t 3 4 5 6).c (by decide +kernel))
theorem NT(x y:N6):aK TF2 141 [wN x,wN y] []=some (.one (wN (d_ x.1 y.1,d_ x.2.1 y.2.1,d_ x.2.2 y.2.2)),[]):=by kernel_rfl
theorem znw(x y:N6):bj Tryz.prog 141 [wv x,wv y] (wv (WZ x y)):=aR uQ (NT x y) (fun _ h=>by cases h) (rj x y) (Dk rfl rfl rfl)
theorem NU(x:N6):aK TF2 144 [wN x] []=some (.one (wN (gl x.1,gl x.2.1,gl x.2.2)),[]):=by kernel_rfl
theorem znx(x:N6):bj Tryz.prog 144 [wv x] (wv (zdG x)):=aR uQ (NU x) (fun _ h=>by cases h) (eE x) (Dk rfl rfl rfl)
theorem YT(x:N6):aK TF2 140 [wN x] []=some (.one (wN (Wr x.2.2,aE x.1,aE x.2.1)),[]):=by kernel_rfl
theorem zEL(x:N6):bj Tryz.prog 140 [wv x] (wv (v6 x)):=by
 refine aR uQ (YT x) (fun _ h=>by cases h) (eE x) (Dk ?_ ?_ ?_)
 ·exact congrArg dr (ak (aZ [ar x.1,ar x.2.1,ar x.2.2,ξ]) (x2*x3) (x0*0+x3*(x1*0+x2*1)) (by decide +kernel))
 ·exact congrArg dr (ak (aZ [ar x.1,ar x.2.1,ar x.2.2,ξ]) x0 (x0*1+x1*0+x3*(x2*0)) (by decide +kernel))
 ·exact congrArg dr (ak (aZ [ar x.1,ar x.2.1,ar x.2.2,ξ]) x1 (x0*0+x1*1+x2*0) (by decide +kernel))
def CZ:List Row:=
 jk 143 zcI ::
 mn 139 Pa::mn 141 WZ::jk 144 zdG::mn 137 uC::jk 140 v6::j_
theorem yB:∀ r∈CZ,bE Tryz.prog r:=by
 unfold CZ
 refine aab.2 ⟨da R8,?_⟩
 simp only [aab]
 exact ⟨gh znA,gh znw,da znx,gh zny,da zEL,fF⟩
abbrev dv:=Quad F6 vv
abbrev b9:=N6×N6
def c_(x:b9):dv:=⟨ow x.1,ow x.2⟩
def cr(z:dv):b9:=(EI z.a,EI z.b)
theorem bP(z:dv):c_ (cr z)=z:=Quad.ext' (to _) (to _)
theorem vd{x y:dv}(h:cr x=cr y):x=y:=by rw [←bP x,h,bP]
instance :IsField dv:=ur Di
def lV(x:b9):b9:=cr (c_ x)
def cH(x y:b9):b9:=cr (c_ x*c_ y)
def jv(x:b9):b9:=cr (c_ x).conj
def DF(x:b9):b9:=cr (inv (c_ x))
theorem I8{z:dv}{m n:N6}(h1:m=EI z.a)(h2:n=EI z.b):(m,n)=cr z:=by rw [h1,h2];rfl
def TF6:CallT:=aA CZ
theorem S5:ag Tryz.prog TF6:=ap yB
theorem Bi(x:b9):aK TF6 146 [wN x] []=some (.one (wN (zcI x.1,zcI x.2)),[]):=by kernel_rfl
theorem N4(x:b9):bj Tryz.prog 146 [wv x] (wv (lV x)):=aR S5 (Bi x) (fun _ h=>by cases h) (eE x) (I8 rfl rfl)
theorem FA(x:b9):aK TF6 122 [wN x] []=some (.one (wN (zcI x.1,zdG x.2)),[]):=by kernel_rfl
theorem YV(x:b9):bj Tryz.prog 122 [wv x] (wv (jv x)):=aR S5 (FA x) (fun _ h=>by cases h) (eE x) (I8 rfl rfl)
theorem JY(x y:b9):aK TF6 118 [wN x,wN y] []=some (.one (wN (Pa (uC x.1 y.1) (v6 (uC x.2 y.2)),WZ (uC (Pa x.1 x.2) (Pa y.1 y.2)) (Pa (uC x.1 y.1) (uC x.2 y.2)))),[]):=by kernel_rfl
theorem zgb(x y:b9):bj Tryz.prog 118 [wv x,wv y] (wv (cH x y)):=by
 refine aR S5 (JY x y) (fun _ h=>by cases h) (rj x y) (I8 ?_ ?_)
 ·simp only [Pa,uC,v6,to]
  exact congrArg EI (ak (aZ [ow x.1,ow x.2,ow y.1,ow y.2,vv]) (x0*x2+x1*x3*x4) (x0*x2+x4*(x1*x3)) (by decide +kernel))
 ·simp only [Pa,WZ,uC,to]
  exact congrArg EI (ak (aZ [ow x.1,ow x.2,ow y.1,ow y.2]) ((x0+x1)*(x2+x3)-(x0*x2+x1*x3)) (x0*x3+x1*x2) (by decide +kernel))
def ul:List Row:=
 jk 146 lV ::
 jk 122 jv ::
 mn 118 cH::CZ
theorem oJ:∀ r∈ul,bE Tryz.prog r:=by
 unfold ul
 refine aab.2 ⟨da N4,?_⟩
 refine aab.2 ⟨da YV,?_⟩
 simp only [aab]
 exact ⟨gh zgb,yB⟩
theorem lh{A B:Type}[Nm A][Nm B]{x:A×B}(h1:Sm x.1)(h2:Sm x.2):Sm x:=by
 intro n hn
 rcases List.mem_append.1 hn with h|h
 ·exact h1 n h
 ·exact h2 n h
theorem Tu(z:F):z.val<M6:=Nat.lt_trans z.lt mq
theorem mf(z:F2):Sm (dr z):=by
 intro n hn
 have:n=z.a.val∨n=z.b.val:=by simpa [Nm.toL,dr] using hn
 rcases this with rfl|rfl<;>exact Tu _
theorem zbU(z:F6):Sm (EI z):=lh (mf _) (lh (mf _) (mf _))
theorem Bs(z:dv):Sm (cr z):=lh (zbU _) (zbU _)
theorem CL(z:F):Sm z.val:=by
 intro n hn
 have:n=z.val:=by simpa [Nm.toL] using hn
 rw [this];exact Tu z
theorem znM{x y:F2}{b:Bool}(h:x=y↔b=true):dJ (dr x) (dr y) b:=ej (mf x) (mf y) ⟨fun e=>h.1 (fR e),fun e=>by rw [h.2 e]⟩
theorem bD{p:Prop}(h:p):p↔true=true:=⟨fun _=>rfl,fun _=>h⟩
theorem br{p:Prop}(h:¬p):p↔false=true:=⟨fun e=>absurd e h,fun e=>by cases e⟩
def hF(n:Nat)(fs:List Nat):List (Nat×Bool):=fs.map (fun i=>(i,false))++zON n
theorem zKh:((0,0):N2)=dr 0:=by decide +kernel
theorem zlt:ar (1,0)=1:=fR (by decide +kernel)
theorem Fy(x:N6)(k:N2):aK TF2 158 [wN x,wN k] []=some (.one (wN (ai x.1 k,ai x.2.1 k,ai x.2.2 k)),[]):=by kernel_rfl
theorem Hc(x:N6)(k:N2):bj Tryz.prog 158 [wv x,wv k] (wv (CO x k)):=by
 refine aR uQ (Fy x k) (fun _ h=>by cases h) (rj x k) (Dk ?_ ?_ ?_)
 ·exact congrArg dr (ak (aZ [ar x.1,ar x.2.1,ar x.2.2,ar k,ξ]) (x0*x3) (x0*x3+x4*(x1*0+x2*0)) (by decide +kernel))
 ·exact congrArg dr (ak (aZ [ar x.1,ar x.2.1,ar x.2.2,ar k,ξ]) (x1*x3) (x0*0+x1*x3+x4*(x2*0)) (by decide +kernel))
 ·exact congrArg dr (ak (aZ [ar x.1,ar x.2.1,ar x.2.2,ar k,ξ]) (x2*x3) (x0*0+x1*0+x2*x3) (by decide +kernel))
def Ix:List Row:=mn 158 CO::CZ
theorem QR:∀ r∈Ix,bE Tryz.prog r:=by
 simp only [Ix,aab]
 exact ⟨gh Hc,yB⟩
def Kg(x:N6):N6:=(d_ (ai x.1 x.1) (Wr (ai x.2.1 x.2.2)),d_ (Wr (ai x.2.2 x.2.2)) (ai x.1 x.2.1),d_ (ai x.2.1 x.2.1) (ai x.1 x.2.2))
theorem NW(x:N6):aK (aA Ix) 145 [wN x] []=some (.one (wN (CO (Kg x) (bU (bk (bk (0,0) (ai x.1 (Kg x).1)) (Wr (bk (bk (0,0) (ai x.2.2 (Kg x).2.1)) (ai x.2.1 (Kg x).2.2))))))),[]):=by kernel_rfl
theorem Tk(x:N6):ow (Kg x)=(ow x).cof:=by
 unfold Kg
 refine Cub.ext' ?_ ?_ ?_
 ·show ar (d_ _ _)=_
  simp only [d_,ai,Wr,bW]
  exact ak (aZ [ar x.1,ar x.2.1,ar x.2.2,ξ]) (x0*x0-x1*x2*x3) (x0*x0-x3*(x1*x2)) (by decide +kernel)
 ·show ar (d_ _ _)=_
  simp only [d_,ai,Wr,bW]
  exact ak (aZ [ar x.1,ar x.2.1,ar x.2.2,ξ]) (x2*x2*x3-x0*x1) (x3*(x2*x2)-x0*x1) (by decide +kernel)
 ·show ar (d_ _ _)=_
  simp only [d_,ai,bW];rfl
theorem znz(x:N6):bj Tryz.prog 145 [wv x] (wv (G4 x)):=by
 refine aR (ap QR) (NW x) (fun _ h=>by cases h) (eE x) ?_
 unfold CO G4
 congr 1
 rw [Cub.inv_eq' UG,Tk]
 congr 1
 unfold up2 bU
 rw [bW]
 have hc:ar (Kg x).1=(ow x).cof.a∧ar (Kg x).2.1=(ow x).cof.b∧ar (Kg x).2.2=(ow x).cof.c:=by
  have h:=Tk x
  exact ⟨congrArg Cub.a h,congrArg Cub.b h,congrArg Cub.c h⟩
 simp only [bk,ai,Wr,bW,tp,hc.1,hc.2.1,hc.2.2]
 have:(ow x).norm=0+ar x.1*(ow x).cof.a+(0+ar x.2.2*(ow x).cof.b+ar x.2.1*(ow x).cof.c)*ξ:=
  ak (aZ [ar x.1,ar x.2.1,ar x.2.2,(ow x).cof.a,(ow x).cof.b,(ow x).cof.c,ξ]) (x0*x3+x6*(x2*x4+x1*x5)) (0+x0*x3+(0+x2*x4+x1*x5)*x6) (by decide +kernel)
 rw [this]
def Iw:List Row:=jk 145 G4::mn 158 CO::ul
theorem Gv:∀ r∈Iw,bE Tryz.prog r:=by
 simp only [Iw,aab]
 exact ⟨da znz,gh Hc,oJ⟩
def UE(x:b9):N6:=WZ (uC x.1 x.1) (v6 (uC x.2 x.2))
theorem JZ(x:b9):aK (aA Iw) 123 [wN x] []=some (.one (wN (uC x.1 (G4 (UE x)),zdG (uC x.2 (G4 (UE x))))),[]):=by kernel_rfl
theorem zak(x:b9):ow (UE x)=(c_ x).norm:=by
 unfold UE WZ uC v6
 rw [to,to,to,to]
 exact ak (aZ [ow x.1,ow x.2,vv]) (x0*x0-x1*x1*x2) (x0*x0-x2*(x1*x1)) (by decide +kernel)
theorem zgc(x:b9):bj Tryz.prog 123 [wv x] (wv (DF x)):=by
 refine aR (ap Gv) (JZ x) (fun _ h=>by cases h) (eE x) ?_
 unfold DF
 rw [Quad.inv_eq' Di]
 unfold uC zdG G4
 rw [to,to,zak]
 refine I8 (congrArg EI ?_) (congrArg EI ?_)
 ·exact ak (aZ [ow x.1,ow x.2,inv (c_ x).norm,vv]) (x0*x2) (x0*x2+x3*(-x1*0)) (by decide +kernel)
 ·exact ak (aZ [ow x.1,ow x.2,inv (c_ x).norm,vv]) (-(x1*x2)) (x0*0+-x1*x2) (by decide +kernel)
def Bv:List Row:=
 jk 123 DF::Iw
theorem CY:∀ r∈Bv,bE Tryz.prog r:=by
 unfold Bv
 simp only [aab]
 exact ⟨da zgc,Gv⟩
end Go.Proofs.YtcafpgpahbplaaaGreat
namespace Go.Proofs.YtcafpgpahbplaaaGreat
open Go Go.Eng Go.RowKit Go.Wd
def qQ(w:World)(b o len n:Nat):Prop:=b<w.heap.size∧∀ i v,(au len n)[i]? = some v→w.cell? ⟨b,o+i,none⟩=some v
def AW(P:Program)(f:aaz)(args:Value→List Value)(r:Nat→Nat→Value):Prop:=
 ∀ (b o len cap n:Nat),len<4294967296→∀ w,qQ w b o len n→Invoked P f (args (.slice (some ⟨b,o,none⟩) len cap)).toArray w fun u w'=>u=r len n∧Below w.heap.size w w'
theorem Cc{a:Nat}(ha:a<18446744073709551616)(k n:Nat):au (k+1) (a+n*18446744073709551616) = .int .u64 (a:Int)::au k n:=by
 have h:∀ i,dg (a+n*18446744073709551616) (i+1)=dg n i:=by
  intro i
  unfold dg
  rw [dA,Nat.mul_comm (pw i),←abj]
  congr 2
  omega
 have h0:dg (a+n*18446744073709551616) 0=a:=by
  unfold dg
  rw [gL,Nat.div_one,rp]
  omega
 unfold au
 rw [List.range_succ_eq_map,List.map_cons,List.map_map]
 congr 1
 ·rw [my,h0]
 ·apply List.map_congr_left
  intro i _
  show pv _ (i+1)=pv n i
  rw [my,my,h]
def uB:List It→Option (Nat×List Prop)
 | []=>some (0,[])
 | [.w _ n]=>some (n,[])
 | .v (.int .u64 a)::l=>match uB l with
  | some (n,ob)=>some (a.toNat+n*18446744073709551616,(0≤a∧a<18446744073709551616)::ob)
  | none=>none
 | _=>none
theorem GN:∀ (l:List It) (n:Nat) (ob:List Prop),uB l=some (n,ob)→(∀ p∈ob,p)→∀ {ρ:Rho} {vs:List Value},conc ρ l=some vs→vs=au vs.length n:=by
 intro l
 induction l with
 | nil=>intro n ob h _ ρ vs hv;cases h;cases hv;rfl
 | cons i l ih=>
  intro n ob h ax ρ vs hv
  unfold uB at h
  split at h
  ·rename_i h0;cases h0
  ·rename_i k m h0
   cases h0
   cases h
   simp only [conc,It.cs,aag,aaP] at hv
   rw [←hv,kJ]
  ·rename_i a l' h0
   cases h0
   split at h
   ·rename_i m jW hm
    cases h
    obtain ⟨x,y,hx,hy,rfl⟩:=cz hv
    have hx:x=[.int .u64 a]:=by
     simp only [It.cs,Value.oneCell',aag] at hx
     exact hx.symm
    subst hx
    have hb:=ax _ aac
    have e:=ih m jW hm (fun p hp=>ax p (aaa _ hp)) hy
    have hlt:a.toNat<18446744073709551616:=by omega
    have hc:=Cc hlt y.length m
    show _::y=au (y.length+1) _
    rw [hc,←e,Int.toNat_of_nonneg hb.1]
   ·cases h
  ·cases h
def zit:List It→Option (Nat×Nat)
 | [.w 0 _,.w k n]=>some (k,n)
 | _=>none
theorem zis{B:List It}{k n:Nat}(h:zit B=some (k,n)):∃ z,B=[.w 0 z,.w k n]:=by
 unfold zit at h
 split at h
 ·cases h;exact ⟨_,rfl⟩
 ·cases h
def CM(x:AV)(m:St):Option (Nat×Nat×List Prop):=match x with
 | ⟨false,[.c id _ _ off len]⟩=>match app id&&Nat.ble 1 len,m.blk id with
  | true,some B=>match cut B off len with
   | some its=>match uB its with
    | some (n,ob)=>some (len,n,(len<4294967296)::ob)
    | none=>none
   | none=>none
  | _,_=>none
 | ⟨false,[.s id off len _]⟩=>match m.rblk id with
  | some B=>match zit B with
   | some (k,n)=>some (len,n,[off=0,len=k,len<4294967296])
   | none=>match cut B off len with
    | some its=>match uB its with
     | some (n,ob)=>some (len,n,(len<4294967296)::ob)
     | none=>none
    | none=>none
  | none=>none
 | ⟨false,[.v (.slice none 0 0)]⟩=>some (0,0,[])
 | _=>none
theorem zuX(id:Nat)(q:Nat×Nat):(qo id q).1=q.1:=by unfold qo;split<;>rfl
theorem lC{ρ:Rho}{m:St}{w:World}(hM:Mem ρ m w){id:Nat}{B:List It}(hB:m.blk id=some B){q:Nat×Nat}(hq:ρ.at id=some q):
  ∃ us,conc ρ B=some us∧q.1<w.heap.size∧∀ i v,us[i]? = some v→w.cell? ⟨q.1,q.2+i,none⟩=some v:=by
 obtain ⟨b,o,us,e1,e2,e3⟩:=hM.ok.blk id B hB
 rw [Rho.at_some e1] at hq;cases hq
 refine ⟨us,e2,?_,fun i v hi=>e3.cell hi⟩
 have:(qo id (b,o)).1=b:=by unfold qo;split<;>rfl
 rw [this];exact e3.1
theorem Gd{ρ:Rho}{m:St}{w:World}(hM:Mem ρ m w){id:Nat}{B its:List It}(hB:m.blk id=some B){q:Nat×Nat}(hq:ρ.at id=some q){off len n:Nat}{ob:List Prop}(zfF:cut B off len=some its)(hk:uB its=some (n,ob))(ax:∀ p∈ob,p):
  qQ w q.1 (q.2+off) len n:=by
 obtain ⟨us,e2,e3,hc⟩:=lC hM hB hq
 obtain ⟨h1,h2⟩:=o_ zfF e2
 have e:=GN _ _ _ hk ax h2
 have hl:((us.drop off).take len).length=len:=by rw [abd,aa1];omega
 rw [hl] at e
 refine ⟨e3,fun i v hi=>?_⟩
 rw [←e,List.getElem?_take] at hi
 split at hi
 ·rw [List.getElem?_drop] at hi
  rw [Nat.add_assoc]
  exact hc _ _ hi
 ·cases hi
theorem vJ{x:AV}{m:St}{len n:Nat}{ob:List Prop}(h:CM x m=some (len,n,ob))(ax:∀ p∈ob,p){ρ:Rho}{w:World}(hM:Mem ρ m w){v:Value}(hv:x.val ρ=some v):
  (len=0∧n=0∧v = .slice none 0 0)∨∃ b o cap,v = .slice (some ⟨b,o,none⟩) len cap∧len<4294967296∧qQ w b o len n:=by
 unfold CM at h
 split at h
 ·rename_i id sz adr off l
  split at h
  ·rename_i B AI hB
   rw [Bool.and_eq_true] at AI
   split at h
   ·rename_i its zfF
    split at h
    ·rename_i k jW hk
     cases h
     right
     obtain ⟨q,cap,hq,rfl⟩:=j3 hv AI.1 (Nat.le_of_ble_eq_true AI.2)
     exact ⟨q.1,q.2+off,cap,rfl,ax _ aac,Gd hM hB hq zfF hk (fun p hp=>ax p (aaa _ hp))⟩
    ·cases h
   ·cases h
  ·cases h
 ·rename_i id off l cap
  split at h
  ·rename_i B hB
   have hB:=rJ hB
   split at h
   ·rename_i k n' hk
    cases h
    right
    simp only [aae,aad,or_false,forall_eq_or_imp,forall_eq] at ax
    obtain ⟨rfl,rfl,hlt⟩:=ax
    obtain ⟨z,rfl⟩:=zis hk
    obtain ⟨q,hq,rfl⟩:=aY hv
    obtain ⟨us,e2,e3,hc⟩:=lC hM hB hq
    have e2:us=au len n:=by
     simp only [conc,It.cs,aag,aaP] at e2
     rw [←e2];simp [au]
    subst e2
    exact ⟨q.1,q.2,cap,rfl,hlt,e3,hc⟩
   ·split at h
    ·rename_i its zfF
     split at h
     ·rename_i k jW hk
      cases h
      right
      obtain ⟨q,hq,rfl⟩:=aY hv
      exact ⟨q.1,q.2+off,cap,rfl,ax _ aac,Gd hM hB hq zfF hk (fun p hp=>ax p (aaa _ hp))⟩
     ·cases h
    ·cases h
  ·cases h
 ·cases h
  left
  refine ⟨rfl,rfl,?_⟩
  have e:AV.val ρ ⟨false,[.v (.slice none 0 0)]⟩=some (.slice none 0 0):=AV.val_v (ρ:=ρ) (x:=.slice none 0 0) rfl
  rw [e] at hv
  cases hv;rfl
 ·cases h
def L4{A B:Type}[Nm A][Nm B](f:aaz)(g:A→Nat→B):CallT:=fun f' args m _=>match f'==f with
 | true=>match args with
  | [x,y]=>match asN A x,CM y m with
   | some a,some (len,n,ob)=>some { val:=.one (wN (g a (n%pw len))),wr:=[],news:=[],ob:=ob }
   | _,_=>none
  | _=>none
 | false=>none
theorem L3{A B:Type}[Nm A][Nm B]{f:aaz}{g:A→Nat→B}(h:∀ a,AW Tryz.prog f (fun s=>[wv a,s]) (fun len n=>wv (g a (n%pw len))))(h0:∀ a,bj Tryz.prog f [wv a,.slice none 0 0] (wv (g a 0))):ag Tryz.prog (L4 f g):=by
 intro f' args m nid out af ax ρ w vs hv hM df
 unfold L4 at af
 split at af
 ·rename_i hf
  rw [beq_iff_eq] at hf
  subst hf
  split at af
  ·rename_i x y
   split at af
   ·rename_i a len n ob ha hs
    cases af
    obtain ⟨v1,us,h1,h2,rfl⟩:=aj hv
    obtain ⟨v2,ov,h3,h4,rfl⟩:=aj h2
    cases h4
    rw [qv ha h1]
    have fin:∀ (u:Value) (w':World),u=wv (g a (n%pw len))∧Below w.heap.size w w'→∃ ρ',Ext ρ w ρ' w'∧(SV.one (wN (g a (n%pw len)))).val ρ'=some u∧Mem ρ' (aX m (ia ([]++[]))) w':=by
     rintro u w' ⟨rfl,hb⟩
     exact ⟨ρ,Ext.of_below hb,gr _ _,hM.of_below hb⟩
    rcases vJ hs ax hM h3 with ⟨rfl,rfl,rfl⟩|⟨b,o,cap,rfl,hlen,jX⟩
    ·exact (h0 a w).mono fun u w' hu=>fin u w' hu
    ·exact (h a b o len cap n hlen w jX).mono fun u w' hu=>fin u w' hu
   ·cases af
  ·cases af
 ·cases af
def kw(b o:Nat):Rho:=fun id=>if id=1 then some (b,o) else none
def iZ(len n:Nat):List It:=[.w 0 0,.w len n]
def y_(len n:Nat):St:=[(3,.bl (iZ len n))]
theorem OZ(len n id:Nat):(y_ len n).blk id=if id=1 then some (iZ len n) else none:=by
 unfold St.blk y_
 simp only [Eng.look,beq_iff_eq]
 by_cases h:id=1
 ·subst h;rfl
 ·have e1:¬3=2*id+1:=by omega
  simp only [e1,h,if_false]
theorem j0{w:World}{b o len n:Nat}(h:qQ w b o len n):Mem (kw b o) (y_ len n) w:=by
 refine ⟨⟨fun id l hl=>?_⟩,⟨fun id id' b' o1 o2 _ _ ho _ _ _ _ e1 _=>?_⟩,fun id q hq=>?_⟩
 ·rw [OZ] at hl
  split at hl
  ·rename_i e;cases hl;subst e
   refine ⟨b,o,au len n,by simp [kw],by simp [iZ,conc,It.cs,au],h.1,fun ho=>by simp [own] at ho,fun _ _=>h.2,fun ho=>by simp [app] at ho⟩
  ·cases hl
 ·unfold kw at e1
  split at e1
  ·rename_i e;subst e;simp [own,app] at ho
  ·cases e1
 ·rw [OZ]
  unfold kw at hq
  split at hq
  ·rename_i e;exact ⟨_,if_pos e⟩
  ·cases hq
theorem lL(b o:Nat):∀ c,¬Own (kw b o) c:=by
 rintro c ⟨id,_,ho,hq⟩
 unfold kw at hq
 split at hq
 ·rename_i e;subst e;simp [own,app] at ho
 ·cases hq
theorem Bq(b o len cap:Nat):AV.val (kw b o) ⟨false,[.s 1 0 len cap]⟩=some (.slice (some ⟨b,o,none⟩) len cap):=AV.val_mk (by simp [It.cs,kw])
theorem bq{a:Int}(h1 : -9223372036854775808≤a)(h2:a<9223372036854775808):IntKind.i64.wrap a=a:=by
 have key:∀ b:Int,(if (true&&decide (b%(2^64:Int)≥(2^63:Int)))=true then b%(2^64:Int)-(2^64:Int) else b%(2^64:Int))=if b%18446744073709551616≥9223372036854775808 then b%18446744073709551616-18446744073709551616 else b%18446744073709551616:=by
  intro b
  simp only [Bool.true_and,decide_eq_true_eq]
  rfl
 refine (key a).trans ?_
 split<;>omega
theorem zyH(n:Nat){k:Nat}:dg n (k/64)/2^(k%64)%2=n/2^k%2:=by
 unfold dg pw
 have e:k=64*(k/64)+k%64:=by omega
 have hd:n/2^k=n/2^(64*(k/64))/2^(k%64):=by
  rw [abj,←acb,←e]
 rw [hd]
 generalize n/2^(64*(k/64))=m
 have h64:(2:Nat)^64=2^(k%64)*2*2^(63-k%64):=by
  rw [←aa9,←acb]
  congr 1;omega
 rw [h64,aaA,acg,acQ]
end Go.Proofs.YtcafpgpahbplaaaGreat
namespace Go.Proofs.YtcafpgpahbplaaaGreat
open Go Go.Eng Go.RowKit Go.Wd Go.Alg Go.Pr
def sI(n:Int):Ct:=.sl (vI .i64 n)
def sS(id len cap:Nat):Ct:=.sl (iG (.s id 0 len cap))
def bN{A:Type}[Nm A](x:A):Ct:=.bl ((Nm.toL x).map (It.w 6))
theorem dp{b o:Nat}{l:List Nat}(h:1∈l):∀ id q,kw b o id=some q→id∈l:=by
 intro id q hq
 unfold kw at hq
 split at hq
 ·rename_i e;rw [e];exact h
 ·cases hq
def O1(n:Nat)(k:Int):Int:=Eng.bits .and .u64 ((word64 n (0+(IntKind.i64.wrap (k.tdiv 64)).toNat*1)).fdiv (2^min (k.tmod 64).toNat IntKind.u64.bits)) 1
 where word64 (n i:Nat):Int:=((n/2^(64*i)%2^64:Nat):Int)
theorem ztx(k:Nat):((k:Int).tdiv 64)=((k/64:Nat):Int):=by
 rw [Int.tdiv_eq_ediv_of_nonneg (by omega)];omega
theorem yc(k:Nat):((k:Int).tmod 64)=((k%64:Nat):Int):=by
 rw [Int.tmod_eq_emod_of_nonneg (by omega)];omega
theorem vf{k:Nat}(h:k<9223372036854775808):IntKind.i64.wrap ((k:Int).tdiv 64)=((k/64:Nat):Int):=by
 rw [ztx,bq (by omega) (by omega)]
theorem BY(n:Nat){k:Nat}(hk:k<9223372036854775808):O1 n (k:Int)=((n/2^k%2:Nat):Int):=by
 unfold O1 O1.word64
 have h2:((k:Int).tmod 64).toNat=k%64:=by rw [yc];omega
 rw [vf hk,aam,h2,Nat.zero_add,Nat.mul_one]
 have h3:min (k%64) IntKind.u64.bits=k%64:=by
  have:IntKind.u64.bits=64:=rfl
  rw [this];omega
 rw [h3]
 have h4:(2:Int)^(k%64)=((2^(k%64):Nat):Int):=by simp
 rw [h4,←Int.ofNat_fdiv,Ky]
 have:=zyH n (k:=k)
 unfold dg pw at this
 rw [this]
def zde:List It:=[.v (.int .u64 1),.v (.int .u64 0),.v (.int .u64 0),.v (.int .u64 0),.v (.int .u64 0),.v (.int .u64 0),.w 6 0]
def Wk(len:Nat):Int:=IntKind.i64.wrap (64*(len:Int))
def kP2(len:Nat)(i:Int):Int:=IntKind.i64.wrap (IntKind.i64.wrap (Wk len-1)-i)
def X8(len n:Nat)(N i:Int)(b:Bool):List Prop:=[i<N↔true=true,0≤IntKind.i64.wrap ((kP2 len i).tdiv 64)∧IntKind.i64.wrap ((kP2 len i).tdiv 64)<(len:Int),0+(IntKind.i64.wrap ((kP2 len i).tdiv 64)).toNat*1<len,0≤(kP2 len i).tmod 64,O1 n (kP2 len i)=1↔b=true]
theorem lz(m k:Nat):m/2^k=2*(m/2^(k+1))+m/2^k%2:=by
 rw [aa9,←abj];omega
theorem VY(n:Nat){len k:Nat}(h:k<64*len):n/2^k%2=n%pw len/2^k%2:=by
 unfold pw
 have e:(2:Nat)^(64*len)=2^k*2*2^(64*len-k-1):=by
  rw [←aa9,←acb];congr 1;omega
 rw [e,aaA,acg,acQ]
section
variable {R:Type}[CRing R]
theorem GH(z:R){m k:Nat}(e:m/2^k%2=0):pow z (m/2^k)=pow z (m/2^(k+1))*pow z (m/2^(k+1)):=by
 have h:=lz m k
 rw [e,Nat.add_zero,Nat.two_mul] at h
 rw [h,ed]
theorem GG(z:R){m k:Nat}(e:m/2^k%2=1):pow z (m/2^k)=pow z (m/2^(k+1))*pow z (m/2^(k+1))*z:=by
 have h:=lz m k
 rw [e,Nat.two_mul] at h
 rw [h,aC,ed]
end
theorem EE{len:Nat}(h:len<4294967296):Wk len=((64*len:Nat):Int):=by
 unfold Wk
 rw [bq (by omega) (by omega)];omega
theorem zwu{len j:Nat}(h:len<4294967296)(hj:j<64*len):kP2 len (j:Int)=((64*len-1-j:Nat):Int):=by
 unfold kP2
 rw [EE h,bq (a:=((64*len:Nat):Int)-1) (by omega) (by omega),bq (by omega) (by omega)];omega
theorem BD{len n j:Nat}(h:len<4294967296)(hj:j<64*len){b:Bool}(hb:n/2^(64*len-1-j)%2=1↔b=true):∀ p∈X8 len n (Wk len) (j:Int) b,p:=by
 intro p hp
 unfold X8 at hp
 rw [zwu h hj,vf (by omega),yc,BY _ (by omega),EE h] at hp
 rcases aae.1 hp with rfl|hp
 ·exact ⟨fun _=>rfl,fun _=>by omega⟩
 rcases aae.1 hp with rfl|hp
 ·omega
 rcases aae.1 hp with rfl|hp
 ·rw [aam];omega
 rcases aae.1 hp with rfl|hp
 ·omega
 rcases aae.1 hp with rfl|hp
 ·rw [←hb];omega
 ·cases hp
def E7:List It:=[.v (.int .u64 1),.v (.int .u64 0),.v (.int .u64 0),.v (.int .u64 0),.v (.int .u64 0),.v (.int .u64 0)]
end Go.Proofs.YtcafpgpahbplaaaGreat
