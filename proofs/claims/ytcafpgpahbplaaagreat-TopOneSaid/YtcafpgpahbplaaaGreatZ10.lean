/-
 The proof, part 10 of 25.
-/
import Derived.Test.YtcafpgpahbplaaaGreatZ07
import Derived.Test.YtcafpgpahbplaaaGreatZ09
open Go.Code renaming wp->aaT
open Int renaming emod_emod_of_dvd->ad2,emod_lt_of_pos->aea,tmod_eq_emod_of_nonneg->acV
open List renaming forall_mem_cons->aab,mem_cons->aae,mem_singleton->aao,not_mem_nil->aad,replicate->aap
open Nat renaming beq->aaK,eq_of_beq_eq_true->aas,mod_two_eq_zero_or_one->abF
noncomputable section
set_option linter.unusedVariables false
set_option linter.unusedSimpArgs false
namespace Go.Proofs.YtcafpgpahbplaaaGreat
open Go Go.Eng Go.RowKit Go.Wd Go.Alg Go.Pr
def dQ:Fn1:=match fJ 97 with
 | some d=>d
 | none=>⟨.skip,[],0⟩
theorem zst:FnOk Tryz.prog 97 dQ:=aB _ _ (by kernel_rfl)
def EQ:Eng:={ tab:=bh,call:=jw bh (aA ul) fJ 1000 6,N:=44 }
theorem AS:ag Tryz.prog EQ.call:=dd an ab (ap oJ) aB 1000 6
def cQa:Code:=bJ dQ.body
def cQb:Code:=bJ (aJ dQ.body)
def zyr:Code:=bJ (aJ (aJ dQ.body))
def cQc:Code:=bJ (bJ (aJ (aJ (aJ dQ.body))))
def cQL:Code:=gw (dh (aJ (bJ (aJ (aJ (aJ dQ.body))))))
def cQT:Code:=aJ (aJ (aJ (aJ dQ.body)))
theorem zok:dQ.body = .seq cQa (.seq cQb (.seq zyr (.seq (.seq cQc (.block 0 (.loop cQL))) cQT))):=by kernel_rfl
theorem zhm:dQ.body=gG [cQa,cQb,zyr] (.seq (.seq cQc (.block 0 (.loop cQL))) cQT):=zok
theorem Ei:dQ.ntmps=44:=by kernel_rfl
theorem Sr:dQ.results=[.cell 4 43]:=by kernel_rfl
def zao:b9:=(((0,0),(0,0),(0,0)),((0,0),(0,0),(0,0)))
def stQ(x:b9)(len cap n:Nat)(N i:Int)(bg:Bool)(out:List It):St:=[(2,sS 1 len cap),(4,jy 16),(8,jy 17),(10,jy 22),(12,.sl (vB bg)),(30,sI N),(32,sI i),(3,.bl (iZ len n)),(33,bN x),(35,bN zao),(45,.bl out)]
def vt(x:b9)(len cap n:Nat)(N i:Int)(bg:Bool)(o:b9):St:=stQ x len cap n N i bg ((Nm.toL o).map (It.w 6))
def TW(x:b9)(len cap n:Nat)(out:List It):St:=[(2,sS 1 len cap),(4,jy 16),(8,jy 17),(10,jy 22),(12,.sl (vB false)),(3,.bl (iZ len n)),(33,bN x),(35,bN zao),(45,.bl out)]
def inQ(x:b9)(len cap n:Nat):St:=aW 0 [wN x,⟨false,[.s 1 0 len cap]⟩] (44 - [wN x,(⟨false,[.s 1 0 len cap]⟩:AV)].length)++y_ len n
def mr:List It:=zde++[.w 6 0,.w 6 0,.w 6 0,.w 6 0,.w 6 0,.w 6 0,.w 6 0,.w 6 0,.w 6 0,.w 6 0]
theorem zp1(x:b9)(len cap n:Nat):probes EQ 100 [cQa,cQb,zyr] (inQ x len cap n) 16 [] ((TW x len cap n mr).map (·.1))=some (0,[],(TW x len cap n mr).map fun p=>some p.2):=by kernel_rfl
theorem zzx(x:b9)(len cap n:Nat):probe EQ 100 cQc (TW x len cap n mr) 40 [] ((stQ x len cap n (Wk len) 0 false mr).map (·.1))=some (0,[],(stQ x len cap n (Wk len) 0 false mr).map fun p=>some p.2):=by kernel_rfl
theorem zzy(x:b9)(len cap n:Nat)(N i:Int)(o:b9):∀ bg:Bool,probe EQ 100 cQL (vt x len cap n N i bg o) 40 [(17,false)] ((vt x len cap n N i bg o).map (·.1))=some (2,[i<N↔false=true],(vt x len cap n N i bg o).map fun p=>some p.2)
 | true=>by kernel_rfl
 | false=>by kernel_rfl
theorem zOr(x:b9)(len cap n:Nat)(N i:Int)(o:b9):probe EQ 100 cQL (vt x len cap n N i true o) 40 [(17,true),(32,false),(36,true),(38,true)] ((vt x len cap n N (IntKind.i64.wrap (i+1)) true (cH (cH o o) x)).map (·.1)) =
 some (0,X8 len n N i true,(vt x len cap n N (IntKind.i64.wrap (i+1)) true (cH (cH o o) x)).map fun p=>some p.2):=by kernel_rfl
theorem zOs(x:b9)(len cap n:Nat)(N i:Int)(o:b9):probe EQ 100 cQL (vt x len cap n N i true o) 40 [(17,true),(32,false),(36,true),(38,false)] ((vt x len cap n N (IntKind.i64.wrap (i+1)) true (cH o o)).map (·.1)) =
 some (0,X8 len n N i false,(vt x len cap n N (IntKind.i64.wrap (i+1)) true (cH o o)).map fun p=>some p.2):=by kernel_rfl
theorem zOt(x:b9)(len cap n:Nat)(N i:Int)(o:b9):probe EQ 100 cQL (vt x len cap n N i false o) 40 [(17,true),(32,false),(36,true),(38,true)] ((vt x len cap n N (IntKind.i64.wrap (i+1)) true (cH o x)).map (·.1)) =
 some (0,X8 len n N i true,(vt x len cap n N (IntKind.i64.wrap (i+1)) true (cH o x)).map fun p=>some p.2):=by kernel_rfl
theorem zOu(x:b9)(len cap n:Nat)(N i:Int)(o:b9):probe EQ 100 cQL (vt x len cap n N i false o) 40 [(17,true),(32,false),(36,true),(38,false)] ((vt x len cap n N (IntKind.i64.wrap (i+1)) false o).map (·.1)) =
 some (0,X8 len n N i false,(vt x len cap n N (IntKind.i64.wrap (i+1)) false o).map fun p=>some p.2):=by kernel_rfl
theorem zzv(x:b9)(len cap n:Nat)(N i:Int)(o:b9):∀ bg:Bool,probe EQ 100 cQT (vt x len cap n N i bg o) 40 [] (([(8,jy 17),(3,.bl (iZ len n)),(35,bN o)]:St).map (·.1))=some (1,[],([(8,jy 17),(3,.bl (iZ len n)),(35,bN o)]:St).map fun p=>some p.2)
 | true=>by kernel_rfl
 | false=>by kernel_rfl
def nc(x:b9)(m:Nat):b9:=cr (pow (c_ x) m)
theorem Dy(x:b9)(len cap n:Nat)(N i:Int)(o:b9):∀ bg:Bool,aw (vt x len cap n N i bg o) [1,16,17,22]=true
 | true=>by kernel_rfl
 | false=>by kernel_rfl
theorem zmy(x:b9)(len cap n:Nat)(N i:Int):aw (stQ x len cap n N i false mr) [1,16,17,22]=true:=by kernel_rfl
theorem Hx(x:b9)(len cap n:Nat)(N i:Int)(bg:Bool)(o:List It):∀ id∈[1,16,17,22],∃ l,(stQ x len cap n N i bg o).blk id=some l:=by
 intro id cl
 simp only [aae,aad,or_false] at cl
 rcases cl with rfl|rfl|rfl|rfl<;>exact ⟨_,rfl⟩
theorem zo6(x:b9)(len cap n:Nat)(o:List It):∀ id∈[1,16,17,22],∃ l,(TW x len cap n o).blk id=some l:=by
 intro id cl
 simp only [aae,aad,or_false] at cl
 rcases cl with rfl|rfl|rfl|rfl<;>exact ⟨_,rfl⟩
def O5(q:Nat):Bool:=!(aaK q 0)
theorem zzw{b o:Nat}{w0:World}{x:b9}{len cap n:Nat}(hlen:len<4294967296){Q:Exit→Act→World→Prop}
  (hQ:∀ bg a w,At 44 (kw b o) w0 (vt x len cap n (Wk len) (Wk len) bg (nc x (n%pw len))) a w→Q (.exit 0) a w) {a:Act} {w:World}
  (hA:At 44 (kw b o) w0 (vt x len cap n (Wk len) 0 false (cr 1)) a w):(Code.loop cQL).wp Tryz.prog Q a w:=by
 let m:=n%pw len
 have hm:m<2^(64*len):=Nat.mod_lt _ (Nat.two_pow_pos _)
 refine dG (w0:=w0) (dL:=kw b o) (N:=44) (ι:=Nat) (fun j=>j≤64*len) (fun j=>vt x len cap n (Wk len) (j:Int) (O5 (m/2^(64*len-j))) (cr (pow (c_ x) (m/2^(64*len-j))))) (fun j=>64*len-j) ?_ 0 (Nat.zero_le _) a w ?_
 ·intro j hj a w hA
  have hj:j≤64*len:=hj
  by_cases hlt:j<64*len
  ·have hk:64*len-j=64*len-1-j+1:=by omega
   have RH:64*len-(j+1)=64*len-1-j:=by omega
   have hw:IntKind.i64.wrap ((j:Int)+1)=((j+1:Nat):Int):=by rw [bq (by omega) (by omega)];omega
   have RL:=VY n (len:=len) (k:=64*len-1-j) (by omega)
   have hh:=lz m (64*len-1-j)
   rw [hk] at hA
   by_cases hz:m/2^(64*len-1-j+1)=0
   ·have hb:O5 (m/2^(64*len-1-j+1))=false:=by rw [hz];rfl
    rw [hb,hz] at hA
    rcases abF (m/2^(64*len-1-j)) with e|e
    ·refine At.probe (E:=EQ) an ab AS (zOu x len cap n _ _ _) (BD hlen hlt (by rw [RL];show m/_%2=1↔_;rw [e];exact br (by omega))) hA [1,16,17,22] (Hx _ _ _ _ _ _ _ _) (Dy _ _ _ _ _ _ _ _) (dp (by simp)) fun a' w' bY=>⟨j+1,by omega,by show 64*len-(j+1)<64*len-j;omega,?_⟩
     rw [hw] at bY
     have h0:m/2^(64*len-1-j)=0:=by omega
     rw [RH,h0];exact bY
    ·refine At.probe (E:=EQ) an ab AS (zOt x len cap n _ _ _) (BD hlen hlt (by rw [RL];show m/_%2=1↔_;rw [e];exact bD rfl)) hA [1,16,17,22] (Hx _ _ _ _ _ _ _ _) (Dy _ _ _ _ _ _ _ _) (dp (by simp)) fun a' w' bY=>⟨j+1,by omega,by show 64*len-(j+1)<64*len-j;omega,?_⟩
     rw [hw] at bY
     have h0:m/2^(64*len-1-j)=1:=by omega
     unfold cH at bY
     rw [bP,vX,aP] at bY
     rw [RH,h0,ft];exact bY
   ·have hb:O5 (m/2^(64*len-1-j+1))=true:=by
     unfold O5
     have:aaK (m/2^(64*len-1-j+1)) 0=false:=by
      cases h:aaK (m/2^(64*len-1-j+1)) 0 with
      | false=>rfl
      | true=>exact absurd (aas h) hz
     rw [this];rfl
    rw [hb] at hA
    have tP:O5 (m/2^(64*len-1-j))=true:=by
     unfold O5
     have:aaK (m/2^(64*len-1-j)) 0=false:=by
      cases h:aaK (m/2^(64*len-1-j)) 0 with
      | false=>rfl
      | true=>have:=aas h;omega
     rw [this];rfl
    rcases abF (m/2^(64*len-1-j)) with e|e
    ·refine At.probe (E:=EQ) an ab AS (zOs x len cap n _ _ _) (BD hlen hlt (by rw [RL];show m/_%2=1↔_;rw [e];exact br (by omega))) hA [1,16,17,22] (Hx _ _ _ _ _ _ _ _) (Dy _ _ _ _ _ _ _ _) (dp (by simp)) fun a' w' bY=>⟨j+1,by omega,by show 64*len-(j+1)<64*len-j;omega,?_⟩
     have hs:=GH (c_ x) e
     rw [hw] at bY
     unfold cH at bY
     rw [bP,←hs] at bY
     rw [RH,tP];exact bY
    ·refine At.probe (E:=EQ) an ab AS (zOr x len cap n _ _ _) (BD hlen hlt (by rw [RL];show m/_%2=1↔_;rw [e];exact bD rfl)) hA [1,16,17,22] (Hx _ _ _ _ _ _ _ _) (Dy _ _ _ _ _ _ _ _) (dp (by simp)) fun a' w' bY=>⟨j+1,by omega,by show 64*len-(j+1)<64*len-j;omega,?_⟩
     have hs:=GG (c_ x) e
     rw [hw] at bY
     unfold cH at bY
     rw [bP,bP,←hs] at bY
     rw [RH,tP];exact bY
  ·have Vn:j=64*len:=by omega
   refine At.probe (E:=EQ) an ab AS (zzy x len cap n _ _ _ _) (fun p hp=>?_) hA [1,16,17,22] (Hx _ _ _ _ _ _ _ _) (Dy _ _ _ _ _ _ _ _) (dp (by simp)) fun a' w' bY=>?_
   ·rw [aao] at hp
    subst hp
    rw [EE hlen]
    exact br (by omega)
   ·refine hQ (O5 (m/2^(64*len-j))) a' w' ?_
    have e1:((j:Nat):Int)=Wk len:=by rw [EE hlen,Vn]
    have e2:m/2^(64*len-j)=m:=by rw [Vn,Nat.sub_self,Nat.pow_zero,Nat.div_one]
    rw [e1] at bY
    rw [e2] at bY ⊢
    exact bY
 ·have e:m/2^(64*len-0)=0:=by rw [Nat.sub_zero];exact Nat.div_eq_of_lt hm
  show At 44 (kw b o) w0 (vt x len cap n (Wk len) ((0:Nat):Int) (O5 (m/2^(64*len-0))) (cr (pow (c_ x) (m/2^(64*len-0))))) a w
  rw [e];exact hA
theorem uz:∀ ρ vs,conc ρ mr=some vs→conc ρ ((Nm.toL (cr 1)).map (It.w 6))=some vs:=by
 intro ρ vs h
 have e6:au 6 1=[Value.int .u64 1,.int .u64 0,.int .u64 0,.int .u64 0,.int .u64 0,.int .u64 0]:=by kernel_rfl
 have e:conc ρ mr=some (au 6 1++(aap 11 (au 6 0)).flatten):=by
  rw [e6]
  simp [mr,zde,conc,It.cs,Value.oneCell',aap]
 rw [e] at h
 have e1:Nm.toL (cr 1)=[1,0,0,0,0,0,0,0,0,0,0,0]:=by decide +kernel
 rw [e1]
 cases h
 simp [conc,It.cs,aap]
theorem zuy(x:b9)(len cap n:Nat)(N i:Int):∀ k,match Eng.look (stQ x len cap n N i false mr) k,Eng.look (vt x len cap n N i false (cr 1)) k with | some c,some c'=>SameCt c c' | none,none=>True | _,_=>False:=by
 intro k
 by_cases e1:k=45
 ·subst e1;exact uz
 ·have f1:(45==k)=false:=by simp;omega
  have:Eng.look (stQ x len cap n N i false mr) k=Eng.look (vt x len cap n N i false (cr 1)) k:=by
   simp only [vt,stQ,Eng.look,f1]
   rfl
  rw [this]
  split
  ·rename_i a b e3 e4;rw [e3] at e4;cases e4;exact SameCt.refl _
  ·trivial
  ·rename_i h3 h4;cases h5:Eng.look (vt x len cap n N i false (cr 1)) k with
   | none=>exact h4 h5 h5
   | some c=>exact h3 c c h5 h5
theorem zga(x:b9):AW Tryz.prog 97 (fun s=>[wv x,s]) (fun len n=>wv (nc x (n%pw len))):=by
 intro b o len cap n hlen w jX
 refine .inr ⟨zst.enter _ _,?_⟩
 have hv:ay (kw b o) [wN x,⟨false,[.s 1 0 len cap]⟩]=some [wv x,.slice (some ⟨b,o,none⟩) len cap]:=by simp only [ay,gr,Bq]
 refine (bX (G:=fun xs st=>xs=[wN (nc x (n%pw len))]) ab zst (j0 jX) (by kernel_rfl) hv (by rw [Ei];simp) fun a c9=>?_).mono ?_
 ·rw [Ei] at c9
  have c9:At 44 (kw b o) w (inQ x len cap n) a w:=c9
  rw [Ei,Sr,zhm]
  refine At.probes (E:=EQ) an ab AS (zp1 x len cap n) (fun p hp=>by cases hp) c9 [1,16,17,22] (zo6 _ _ _ _ _) (by kernel_rfl) (dp (by simp)) fun a1 w1 h1=>?_
  show aaT _ _ _ _ _
  refine wp_seq (wp_seq (At.probe (E:=EQ) an ab AS (zzx x len cap n) (fun p hp=>by cases hp) h1 [1,16,17,22] (Hx _ _ _ _ _ _ _ _) (zmy _ _ _ _ _ _) (dp (by simp)) fun a' w' bY=>?_))
  have bY:=bY.same (zuy x len cap n (Wk len) 0)
  show aaT _ _ _ _ _
  refine wp_block (zzw hlen (fun bg a2 w2 h2=>?_) bY)
  show aaT _ _ _ _ _
  refine At.probe (E:=EQ) an ab AS (zzv x len cap n _ _ _ bg) (fun p hp=>by cases hp) h2 [1,17] (fun id cl=>by simp only [aae,aad,or_false] at cl;rcases cl with rfl|rfl<;>exact ⟨_,rfl⟩) (by kernel_rfl) (dp (by simp)) fun a3 w3 h3=>?_
  exact ⟨.inr rfl,_,[wN (nc x (n%pw len))],h3,by kernel_rfl,rfl⟩
 ·rintro e w' ⟨v,rfl,xs,st,ρ',hE,hval,Bg,rfl⟩
  refine ⟨v,rfl,?_,hE.below (lL b o)⟩
  have:(wN (nc x (n%pw len))).val ρ'=some v:=hval
  rw [gr] at this
  cases this;rfl
theorem zm(x:b9):aK (aA ul) 97 [wN x,⟨false,[.v (.slice none 0 0)]⟩] []=some (.one ⟨true,mr⟩,[]):=by kernel_rfl
theorem JX(x:b9):bj Tryz.prog 97 [wv x,.slice none 0 0] (wv (nc x 0)):=by
 have hv:ay rho0 [wN x,⟨false,[.v (.slice none 0 0)]⟩]=some [wv x,.slice none 0 0]:=by
  have e:AV.val rho0 ⟨false,[.v (.slice none 0 0)]⟩=some (.slice none 0 0):=AV.val_v (ρ:=rho0) (x:=.slice none 0 0) rfl
  simp only [ay,gr,e]
 refine bi (ap oJ) (zm x) (fun p hp=>by cases hp) hv fun ρ u hu=>?_
 obtain ⟨vs,h1,h2⟩:=AV.cells (x:=⟨true,mr⟩) (by exact hu)
 have h3:=uz ρ vs h1
 rw [s8] at h3
 rcases h2 with ⟨_,rfl⟩|⟨h2,_⟩
 ·cases h3;rfl
 ·cases h2
theorem JW:ag Tryz.prog (L4 97 nc):=L3 zga JX
def Rm(l x y:F2)(px py:F):dv:=⟨⟨l*x-y,-(l*PG px),0⟩,⟨0,PG py,0⟩⟩
def rf(x:F2)(px:F):dv:=⟨⟨x,PG (-px),0⟩,⟨0,0,0⟩⟩
open Classical in
def Qf:Pt F2→Pt F2→Pt F→dv
 | .aff x1 y1,.aff x2 y2,.aff px py=>
  if x1=x2 then (if y1≠y2∨y1=0 then rf x1 px else Rm ((x1*x1+x1*x1+x1*x1)*inv (y1+y1)) x1 y1 px py)
  else Rm ((y2-y1)*inv (x2-x1)) x1 y1 px py
 | _,_,_=>1
open Classical in
theorem pG(x1 y1 x2 y2:F2)(px py:F):Qf (.aff x1 y1) (.aff x2 y2) (.aff px py)=if x1=x2 then (if y1≠y2∨y1=0 then rf x1 px else Rm ((x1*x1+x1*x1+x1*x1)*inv (y1+y1)) x1 y1 px py)
  else Rm ((y2-y1)*inv (x2-x1)) x1 y1 px py:=rfl
theorem zbJ(t q:Pt F2):Qf t q .inf=1:=by cases t<;>cases q<;>rfl
theorem zq8(q:Pt F2)(p:Pt F):Qf .inf q p=1:=by cases q<;>cases p<;>rfl
theorem zq9(t:Pt F2)(p:Pt F):Qf t .inf p=1:=by cases t<;>cases p<;>rfl
def GS(s:N2)(q:P2)(p:P1):b9:=cr (Rm (ar s) (ar q.1.1) (ar q.1.2) (φ p.1.1) (φ p.1.2))
def Cq(t q:P2)(p:P1):P2×b9:=(pj t q,cr (Qf (ιP2 t) (ιP2 q) (bO p)))
theorem zac(z:F):dr (PG z)=(z.val,0):=by
 show (z.val,(0:F).val)=_
 have:(0:F).val=0:=by decide +kernel
 rw [this]
theorem zji(l x y:F2)(px py:F):cr (Rm l x y px py)=((dr (l*x-y),dr (-(l*PG px)),(0,0)),((0,0),(py.val,0),(0,0))):=by
 unfold Rm cr EI
 dsimp only
 rw [zac,←u9]
theorem zjh(x:F2)(px:F):cr (rf x px)=((dr x,((-px).val,0),(0,0)),((0,0),(0,0),(0,0))):=by
 unfold rf cr EI
 dsimp only
 rw [zac,←u9]
def ZR:CallT:=jV (aA Il) (jV (aA Im) (aA Bv))
theorem xQ:ag Tryz.prog ZR:=aT (ap Gj) (aT (ap Gk) (ap CY))
def lnN(s x y:N2)(px py:Nat):b9:=((d_ (ai s x) y,gl (yu s px),(0,0)),((0,0),(fV py,0),(0,0)))
theorem zwj(s x y:N2)(px py:Nat):lnN s x y px py=cr (Rm (ar s) (ar x) (ar y) (φ px) (φ py)):=by
 rw [zji]
 unfold lnN
 simp only [d_,ai,gl,yu,bW]
 rfl
theorem Bc(s:N2)(q:P2)(p:P1):aK ZR 142 [wN s,wP q,wP p] []=some (.one (wN (lnN s q.1.1 q.1.2 p.1.1 p.1.2)),[]):=by kernel_rfl
theorem Mz(s:N2)(q:P2)(p:P1):bj Tryz.prog 142 [wv s,i_ q,i_ p] (wv (GS s q p)):=by
 refine ah xQ (kV b9).rs (Bc s q p) (fun _ h=>by cases h) ?_ (zwj _ _ _ _ _)
 simp only [ay,gr,jO]
theorem Dn:aK ZR 119 [] []=some (.one ⟨true,mr⟩,[]):=by kernel_rfl
theorem Q8{T:CallT}(hT:ag Tryz.prog T){f:FuncId}(h:aK T f [] []=some (.one ⟨true,mr⟩,[])):bj Tryz.prog f [] (wv (cr 1)):=by
 refine bi hT h (fun p hp=>by cases hp) zqK fun ρ u hu=>?_
 obtain ⟨vs,h1,h2⟩:=AV.cells (x:=⟨true,mr⟩) (by exact hu)
 have h3:=uz ρ vs h1
 rw [s8] at h3
 rcases h2 with ⟨_,rfl⟩|⟨h2,_⟩
 ·cases h3;rfl
 ·cases h2
theorem Rj:bj Tryz.prog 119 [] (wv (cr 1)):=Q8 xQ Dn
def Ip:List Row:=[Ub 119 (cr 1),Uc (kV N2) (dV A2) (dV A1) (kV b9).rs 142 GS]
theorem Gm:∀ r∈Ip,bE Tryz.prog r:=by
 simp only [Ip,aab,aad,false_imp_iff,implies_true,and_true]
 exact ⟨L5 Rj,L7 Mz⟩
def Pb:CallT:=jV (aA Ip) ZR
theorem qA:ag Tryz.prog Pb:=aT (ap Gm) xQ
def jQ:Rs (P2×b9):=tI (dV A2) (kV b9)
def zk5(x:A2):A2:=(aE x.1,aE x.2)
theorem yZ(t q:P2)(x:A1):aK Pb 121 [wP t,wP q,wP (x,true)] []=some (jQ.sv (pj (cS (ιP2 t)) (cS (ιP2 q)),cr 1),[]):=by kernel_rfl
theorem yY(t:A2)(q:P2)(x:A1):aK Pb 121 [wP (t,true),wP q,wP (x,false)] []=some (jQ.sv (pj (cS (ιP2 (t,true))) (cS (ιP2 q)),cr 1),[]):=by kernel_rfl
theorem yX(t q:A2)(x:A1):aK Pb 121 [wP (t,false),wP (q,true),wP (x,false)] []=some (jQ.sv (pj (cS (ιP2 (t,false))) (cS (ιP2 (q,true))),cr 1),[]):=by kernel_rfl
theorem yW(x y:A2)(p:A1):aK Pb 121 [wP (x,false),wP (y,false),wP (p,false)] [(52,false)] =
 some (jQ.sv (ch2 (Xi x y) (aE x.1) (aE x.2) (aE y.1),GS (Xi x y) (zk5 x,false) (p,false)),[dJ (aE x.1) (aE y.1) false]):=by kernel_rfl
theorem yU(x y:A2)(p:A1):aK Pb 121 [wP (x,false),wP (y,false),wP (p,false)] [(52,true),(68,false)] =
 some (jQ.sv ((((0,0),(0,0)),true),((aE x.1,(du p.1,0),(0,0)),((0,0),(0,0),(0,0)))),[dJ (aE x.1) (aE y.1) true,dJ (aE x.2) (aE y.2) false]):=by kernel_rfl
theorem yT(x y:A2)(p:A1):aK Pb 121 [wP (x,false),wP (y,false),wP (p,false)] [(52,true),(68,true),(73,true)] =
 some (jQ.sv ((((0,0),(0,0)),true),((aE x.1,(du p.1,0),(0,0)),((0,0),(0,0),(0,0)))),[dJ (aE x.1) (aE y.1) true,dJ (aE x.2) (aE y.2) true,dJ (aE x.2) (0,0) true]):=by kernel_rfl
theorem yS(x y:A2)(p:A1):aK Pb 121 [wP (x,false),wP (y,false),wP (p,false)] [(52,true),(68,true),(73,false)] =
 some (jQ.sv (ch2 (Xh x) (aE x.1) (aE x.2) (aE y.1),GS (Xh x) (zk5 x,false) (p,false)),[dJ (aE x.1) (aE y.1) true,dJ (aE x.2) (aE y.2) true,dJ (aE x.2) (0,0) false]):=by kernel_rfl
theorem pE{t q:P2}{p:P1}{a:P2}{l:b9}(h1:a=pj t q)(h2:l=cr (Qf (ιP2 t) (ιP2 q) (bO p))):(a,l)=Cq t q p:=by rw [h1,h2];rfl
theorem zW(t q:P2):pj (cS (ιP2 t)) (cS (ιP2 q))=pj t q:=by unfold pj;rw [jN,jN]
theorem KN(x y:A2):ar (Xi x y)=(ar y.2-ar x.2)*inv (ar y.1-ar x.1):=by unfold Xi;simp only [ai,d_,bU,aE,bW]
theorem KM(x:A2):ar (Xh x)=(ar x.1*ar x.1+ar x.1*ar x.1+ar x.1*ar x.1)*inv (ar x.2+ar x.2):=by unfold Xh;simp only [ai,bk,bU,aE,bW]
theorem GR(s:N2)(x:A2)(p:A1):GS s (zk5 x,false) (p,false)=cr (Rm (ar s) (ar x.1) (ar x.2) (φ p.1) (φ p.2)):=by
 unfold GS zk5 aE
 dsimp only
 rw [bW,bW]
theorem zav(x:N2)(p:Nat):((aE x,(du p,0),(0,0)),((0,0),(0,0),(0,0)))=cr (rf (ar x) (φ p)):=by
 rw [zjh];rfl
theorem m7(t q:P2)(p:P1):ay rho0 [wP t,wP q,wP p]=some [i_ t,i_ q,i_ p]:=by simp only [ay,jO]
theorem Mx(t q:P2)(p:P1):bj Tryz.prog 121 [i_ t,i_ q,i_ p] (jQ.vl (Cq t q p)):=by
 have hr:∀ t:N2,ar (aE t)=ar t:=fun t=>bW _
 obtain ⟨p,pb⟩:=p
 cases pb with
 | true=>exact ah qA jQ (yZ t q p) (fun _ h=>by cases h) (m7 _ _ _) (pE (zW t q) (by rw [show bO (p,true) = .inf from rfl,zbJ]))
 | false=>
  obtain ⟨t,tb⟩:=t
  cases tb with
  | true=>exact ah qA jQ (yY t q p) (fun _ h=>by cases h) (m7 _ _ _) (pE (zW _ q) (by rw [show ιP2 (t,true) = .inf from rfl,zq8]))
  | false=>
   obtain ⟨q,qb⟩:=q
   cases qb with
   | true=>exact ah qA jQ (yX t q p) (fun _ h=>by cases h) (m7 _ _ _) (pE (zW _ _) (by rw [show ιP2 (q,true) = .inf from rfl,zq9]))
   | false=>
    have e1:pj (t,false) (q,false)=cS (padd (.aff (ar t.1) (ar t.2)) (.aff (ar q.1) (ar q.2))):=rfl
    have e2:Qf (ιP2 (t,false)) (ιP2 (q,false)) (bO (p,false))=Qf (.aff (ar t.1) (ar t.2)) (.aff (ar q.1) (ar q.2)) (.aff (φ p.1) (φ p.2)):=rfl
    by_cases hx:ar t.1=ar q.1
    ·by_cases hy:ar t.2=ar q.2
     ·by_cases h0:ar t.2=0
      ·refine ah qA jQ (yT t q p) (aa (xu (bD hx)) (aa (xu (bD hy)) (aa (znL (bD h0)) ad))) (m7 _ _ _) (pE ?_ ?_)
       ·rw [e1,eI,if_pos hx,if_pos (.inr h0)];rfl
       ·rw [e2,pG,if_pos hx,if_pos (.inr h0)];exact zav _ _
      ·have hn:¬(ar t.2≠ar q.2∨ar t.2=0):=by rintro (e | e)<;>contradiction
       refine ah qA jQ (yS t q p) (aa (xu (bD hx)) (aa (xu (bD hy)) (aa (znL (br h0)) ad))) (m7 _ _ _) (pE ?_ ?_)
       ·rw [e1,eI,if_pos hx,if_neg hn];exact sj (KM t) (hr _) (hr _) (hr _)
       ·rw [e2,pG,if_pos hx,if_neg hn,GR,KM]
     ·refine ah qA jQ (yU t q p) (aa (xu (bD hx)) (aa (xu (br hy)) ad)) (m7 _ _ _) (pE ?_ ?_)
      ·rw [e1,eI,if_pos hx,if_pos (.inl hy)];rfl
      ·rw [e2,pG,if_pos hx,if_pos (.inl hy)];exact zav _ _
    ·refine ah qA jQ (yW t q p) (aa (xu (br hx)) ad) (m7 _ _ _) (pE ?_ ?_)
     ·rw [e1,eI,if_neg hx];exact sj (KN t q) (hr _) (hr _) (hr _)
     ·rw [e2,pG,if_neg hx,GR,KN]
def Io:List Row:=Uc (dV A2) (dV A2) (dV A1) jQ 121 Cq::Ip
theorem Gl:∀ r∈Io,bE Tryz.prog r:=by
 simp only [Io,aab]
 exact ⟨L7 Mx,Gm⟩
def zG6:CallT:=jV (aA Io) ZR
theorem zpE:ag Tryz.prog zG6:=aT (ap Gl) xQ
end Go.Proofs.YtcafpgpahbplaaaGreat
namespace Go.Proofs.YtcafpgpahbplaaaGreat
open Go Go.Eng Go.RowKit Go.Wd Go.Alg Go.Pr
abbrev SM:=b9×P2
def F4(p:P1)(s:SM)(q:P2):SM:=(cH s.1 (Cq s.2 q p).2,(Cq s.2 q p).1)
def FF(p:P1)(s:SM):SM:=(cH (cH s.1 s.1) (Cq s.2 s.2 p).2,(Cq s.2 s.2 p).1)
def xM:Nat:=0xd201000000010000
def xF(i:Nat):Bool:=aaK (xM/2^i%2) 1
def rH(p:P1)(q:P2)(i:Nat)(s:SM):SM:=match xF i with
 | true=>F4 p (FF p s) q
 | false=>FF p s
def Z0(p:P1)(q:P2):Nat→SM→SM
 | 0,s=>s
 | i+1,s=>Z0 p q i (rH p q i s)
def AB(p:P1)(q:P2):SM:=Z0 p q 63 (cr 1,cS (ιP2 q))
def Ca:b9:=(((0,0),(0,0),(0,0)),((0,0),(0,0),(0,0)))
def nT(p:P1)(q:P2):b9×Int:=match e_ p&&fw q with
 | true=>match p.2 || q.2 with
  | true=>(cr 1,0)
  | false=>(jv (AB p q).1,0)
 | false=>(Ca,120)
def gu:Rs (b9×Int):=tI (kV b9) tj
def dML:Fn1:=match fJ 81 with
 | some d=>d
 | none=>⟨.skip,[],0⟩
theorem zhp:FnOk Tryz.prog 81 dML:=aB _ _ (by kernel_rfl)
def QJ(b c:Bool):List Row:=[tJ (dV A1) AG.rs 24 (fun _=>b) (fun x=>e_ x=b),tJ (dV A2) AG.rs 31 (fun _=>c) (fun x=>fw x=c)]
theorem XB(b c:Bool):∀ r∈QJ b c,bE Tryz.prog r:=by
 simp only [QJ,aab,aad,false_imp_iff,implies_true,and_true]
 exact ⟨lU fun x hx=>by rw [←hx];exact Vt x,lU fun x hx=>by rw [←hx];exact Vs x⟩
def TMo(b c:Bool):CallT:=jV (aA (QJ b c)) zG6
theorem EC(b c:Bool):ag Tryz.prog (TMo b c):=aT (ap (XB b c)) zpE
def Ph:Eng:={ tab:=bh,call:=jw bh (TMo true true) fJ 1000 6,N:=51 }
set_option maxRecDepth 100000 in
theorem r9:ag Tryz.prog Ph.call:=dd an ab (EC true true) aB 1000 6
def zFW:Code:=bJ dML.body
def zhT:Code:=vM (aJ dML.body)
def zFV:Code:=bJ zhT
def zFU:Code:=bJ (aJ zhT)
def zFT:Code:=bJ (aJ (aJ zhT))
def zFS:Code:=bJ (aJ (aJ (aJ zhT)))
def zyu:Code:=aJ (aJ (aJ (aJ zhT)))
def zFR:Code:=bJ (bJ zyu)
def zhU:Code:=gw (dh (aJ (bJ zyu)))
def zFQ:Code:=aJ zyu
theorem zhq:dML.body = .seq zFW (.scope (gG [zFV] (gG [zFU,zFT,zFS] (.seq (.seq zFR (.block 1 (.loop zhU))) zFQ)))):=by kernel_rfl
theorem zJ:dML.ntmps=51:=by kernel_rfl
theorem Ow:dML.results=[.cell 4 43,.tmp 5]:=by kernel_rfl
def zDz(p:A1)(q:A2):St:=aW 0 [wP (p,false),wP (q,false)] (51 - [wP (p,false),wP (q,false)].length)++[]
def Ah(p:A1)(q:A2):St:=[(4,jy 16),(6,jy 17),(8,jy 18),(10,sI 0),(33,Z5 (p,false)),(35,V3 (q,false)),(37,bN Ca)]
def zFr:Ct:=.sl (iG (.f 120 [(44,0),(16,0),(43,0)]))
def Lp(p:A1)(q:A2)(f:List It)(t:P2):St:=[(4,jy 16),(6,jy 17),(8,jy 18),(10,sI 0),(12,jy 43),(14,jy 44),(16,zFr),(33,Z5 (p,false)),(35,V3 (q,false)),(37,bN Ca),(87,.bl f),(89,V3 t)]
def qT(p:A1)(q:A2)(i:Int)(s:SM):St:=[(4,jy 16),(6,jy 17),(8,jy 18),(10,sI 0),(12,jy 43),(14,jy 44),(16,zFr),(18,sI i),(33,Z5 (p,false)),(35,V3 (q,false)),(37,bN Ca),(87,bN s.1),(89,V3 s.2)]
theorem zOy(p:A1)(q:A2):probe Ph 100 zFW (zDz p q) 16 [] ((Ah p q).map (·.1))=some (0,[],(Ah p q).map fun x=>some x.2):=by kernel_rfl
theorem zOx(p:A1)(q:A2):probes Ph 100 [zFV] (Ah p q) 30 [] ((Ah p q).map (·.1))=some (0,[e_ (p,false)=true,fw (q,false)=true],(Ah p q).map fun x=>some x.2):=by kernel_rfl
theorem zOw(p:A1)(q:A2):probes Ph 100 [zFU,zFT,zFS] (Ah p q) 40 [] ((Lp p q ((Nm.toL (cr 1)).map (It.w 6)) (cS (ιP2 (q,false)))).map (·.1))=some (0,[],(Lp p q ((Nm.toL (cr 1)).map (It.w 6)) (cS (ιP2 (q,false)))).map fun x=>some x.2):=by kernel_rfl
theorem zOv(p:A1)(q:A2)(f:b9)(t:P2):probe Ph 100 zFR (Lp p q ((Nm.toL f).map (It.w 6)) t) 80 [] ((qT p q 62 (f,t)).map (·.1))=some (0,[],(qT p q 62 (f,t)).map fun x=>some x.2):=by kernel_rfl
theorem zqa(p:A1)(q:A2)(i:Int)(s:SM):probe Ph 100 zhU (qT p q i s) 100 [(33,false)] ((qT p q i s).map (·.1))=some (3,[i≥0↔false=true],(qT p q i s).map fun x=>some x.2):=by kernel_rfl
def zGx(i:Int):Int:=Eng.bits .and .u64 ((15132376222941642752:Int).fdiv (2^min i.toNat IntKind.u64.bits)) 1
def zvA(i:Int)(b:Bool):List Prop:=[i≥0↔true=true,0≤i,zGx i=0↔(!b)=true]
theorem zp7(p:A1)(q:A2)(i:Int)(s:SM):probe Ph 100 zhU (qT p q i s) 100 [(33,true),(43,true),(45,true)] ((qT p q (IntKind.i64.wrap (i-1)) (FF (p,false) s)).map (·.1))=some (0,zvA i false,(qT p q (IntKind.i64.wrap (i-1)) (FF (p,false) s)).map fun x=>some x.2):=by kernel_rfl
theorem zzA(p:A1)(q:A2)(i:Int)(s:SM):probe Ph 100 zhU (qT p q i s) 100 [(33,true),(43,true),(45,false)] ((qT p q (IntKind.i64.wrap (i-1)) (F4 (p,false) (FF (p,false) s) (q,false))).map (·.1)) =
 some (0,zvA i true,(qT p q (IntKind.i64.wrap (i-1)) (F4 (p,false) (FF (p,false) s) (q,false))).map fun x=>some x.2):=by kernel_rfl
def zgw(f:b9):St:=[(8,jy 18),(10,sI 0),(37,bN f)]
theorem zp8(p:A1)(q:A2)(i:Int)(s:SM):probe Ph 100 zFQ (qT p q i s) 100 [] ((zgw (jv s.1)).map (·.1))=some (1,[],(zgw (jv s.1)).map fun x=>some x.2):=by kernel_rfl
theorem zo9:∀ i:Nat,i<63→(zGx (i:Int)=0↔(!(xF i))=true):=by decide +kernel
theorem Uz{i:Nat}(h:i<63){b:Bool}(hb:xF i=b):∀ x∈zvA (i:Int) b,x:=
 aa (bD (by omega)) (aa (by omega) (aa (by rw [←hb];exact zo9 i h) ad))
theorem Ks(p:A1)(q:A2)(i:Int)(s:SM):∀ id∈[16,17,18,43,44],∃ l,(qT p q i s).blk id=some l:=by
 intro id cl
 simp only [aae,aad,or_false] at cl
 rcases cl with rfl|rfl|rfl|rfl|rfl<;>exact ⟨_,rfl⟩
theorem zoV(p:A1)(q:A2)(f:List It)(t:P2):∀ id∈[16,17,18,43,44],∃ l,(Lp p q f t).blk id=some l:=by
 intro id cl
 simp only [aae,aad,or_false] at cl
 rcases cl with rfl|rfl|rfl|rfl|rfl<;>exact ⟨_,rfl⟩
theorem VW(p:A1)(q:A2):∀ id∈[16,17,18],∃ l,(Ah p q).blk id=some l:=by
 intro id cl
 simp only [aae,aad,or_false] at cl
 rcases cl with rfl|rfl|rfl<;>exact ⟨_,rfl⟩
theorem BI(p:A1)(q:A2)(i:Int)(s:SM):aw (qT p q i s) [16,17,18,43,44]=true:=by kernel_rfl
theorem zev(p:A1)(q:A2)(f:b9)(t:P2):aw (Lp p q ((Nm.toL f).map (It.w 6)) t) [16,17,18,43,44]=true:=by kernel_rfl
theorem ML(p:A1)(q:A2):aw (Ah p q) [16,17,18]=true:=by kernel_rfl
theorem zp9{w0:World}(p:A1)(q:A2){Q:Exit→Act→World→Prop}{s0:SM}(hQ:∀ s a w,s=Z0 (p,false) (q,false) 63 s0→At 51 rho0 w0 (qT p q (-1) s) a w→Q (.exit 1) a w){a:Act}{w:World}
  (hA:At 51 rho0 w0 (qT p q (((63:Nat):Int)-1) s0) a w):(Code.loop zhU).wp Tryz.prog Q a w:=by
 refine dG (w0:=w0) (dL:=rho0) (N:=51) (ι:=Nat×SM) (fun x=>x.1≤63∧Z0 (p,false) (q,false) x.1 x.2=Z0 (p,false) (q,false) 63 s0) (fun x=>qT p q ((x.1:Int)-1) x.2) (fun x=>x.1) ?_ (63,s0) ⟨Nat.le_refl _,rfl⟩ a w hA
 rintro ⟨j,s⟩ ⟨hj,hI⟩ a w hA
 have hj:j≤63:=hj
 have hI:Z0 (p,false) (q,false) j s=Z0 (p,false) (q,false) 63 s0:=hI
 have hA:At 51 rho0 w0 (qT p q ((j:Int)-1) s) a w:=hA
 cases j with
 | zero=>
  exact At.probe (E:=Ph) an ab r9 (zqa p q _ s) (cQ (br (by omega))) hA [16,17,18,43,44] (Ks _ _ _ _) (BI _ _ _ _) (dP _) fun a' w' bY=>hQ s a' w' hI bY
 | succ k=>
  have ei:((k+1:Nat):Int)-1=(k:Int):=by omega
  rw [ei] at hA
  have hw:IntKind.i64.wrap ((k:Int)-1)=(k:Int)-1:=bq (by omega) (by omega)
  cases hb:xF k with
  | false=>
   refine At.probe (E:=Ph) an ab r9 (zp7 p q _ s) (Uz (by omega) hb) hA [16,17,18,43,44] (Ks _ _ _ _) (BI _ _ _ _) (dP _) fun a' w' bY=>⟨(k,FF (p,false) s),⟨by show k≤63;omega,?_⟩,by show k<k+1;omega,?_⟩
   ·rw [←hI]
    show _=Z0 _ _ k (rH _ _ k s)
    unfold rH
    rw [hb]
   ·rw [hw] at bY
    exact bY
  | true=>
   refine At.probe (E:=Ph) an ab r9 (zzA p q _ s) (Uz (by omega) hb) hA [16,17,18,43,44] (Ks _ _ _ _) (BI _ _ _ _) (dP _) fun a' w' bY=>⟨(k,F4 (p,false) (FF (p,false) s) (q,false)),⟨by show k≤63;omega,?_⟩,by show k<k+1;omega,?_⟩
   ·rw [←hI]
    show _=Z0 _ _ k (rH _ _ k s)
    unfold rH
    rw [hb]
   ·rw [hw] at bY
    exact bY
theorem rh(p:P1)(q:P2):ay rho0 [wP p,wP q]=some [i_ p,i_ q]:=by simp only [ay,jO]
theorem Rt(f:b9):aw (zgw f) [18]=true:=by kernel_rfl
theorem zlT:∀ c,¬Own rho0 c:=by
 rintro c ⟨id,_,_,h⟩
 cases h
theorem UQ{p:A1}{q:A2}(hp:e_ (p,false)=true)(hq:fw (q,false)=true):nT (p,false) (q,false)=(jv (AB (p,false) (q,false)).1,0):=by
 unfold nT
 rw [hp,hq];rfl
theorem Jd(p:A1)(q:A2)(hp:e_ (p,false)=true)(hq:fw (q,false)=true):bj Tryz.prog 81 [i_ (p,false),i_ (q,false)] (gu.vl (nT (p,false) (q,false))):=by
 intro w
 refine .inr ⟨zhp.enter _ _,?_⟩
 refine (bX (G:=fun xs st=>xs=[wN (jv (AB (p,false) (q,false)).1),pp 0]) ab zhp (wV w) rfl (rh (p,false) (q,false)) (by rw [zJ];simp) fun a c9=>?_).mono ?_
 ·rw [zJ] at c9
  have c9:At 51 rho0 w (zDz p q) a w:=c9
  rw [zJ,Ow,zhq]
  refine wp_seq (At.probe (E:=Ph) an ab r9 (zOy p q) (fun x hx=>by cases hx) c9 [16,17,18] (VW _ _) (ML _ _) (dP _) fun a1 w1 h1=>?_)
  refine wp_scope_straight (At.probes (E:=Ph) an ab r9 (zOx p q) (aa hp (aa hq ad)) h1 [16,17,18] (VW _ _) (ML _ _) (dP _) fun a2 w2 h2=>?_)
  show aaT _ _ _ _ _
  refine At.probes (E:=Ph) an ab r9 (zOw p q) (fun x hx=>by cases hx) h2 [16,17,18,43,44] (zoV _ _ _ _) (zev _ _ _ _) (dP _) fun a3 w3 h3=>?_
  show aaT _ _ _ _ _
  refine wp_seq (wp_seq (At.probe (E:=Ph) an ab r9 (zOv p q (cr 1) (cS (ιP2 (q,false)))) (fun x hx=>by cases hx) h3 [16,17,18,43,44] (Ks _ _ _ _) (BI _ _ _ _) (dP _) fun a4 w4 h4=>?_))
  show aaT _ _ _ _ _
  refine wp_block (zp9 p q (fun s a5 w5 hs h5=>?_) h4)
  show aaT _ _ _ _ _
  refine At.probe (E:=Ph) an ab r9 (zp8 p q _ s) (fun x hx=>by cases hx) h5 [18] (fun id cl=>by rw [aao] at cl;subst cl;exact ⟨_,rfl⟩) (Rt _) (dP _) fun a6 w6 h6=>?_
  rw [hs] at h6
  exact ⟨.inr rfl,_,_,h6,by kernel_rfl,rfl⟩
 ·rintro e w' ⟨v,rfl,xs,st,ρ',hE,hval,Bg,rfl⟩
  refine ⟨v,rfl,?_,hE.below zlT⟩
  rw [UQ hp hq]
  have e:=gu.val ρ' (jv (AB (p,false) (q,false)).1,0)
  have:(gu.sv (jv (AB (p,false) (q,false)).1,0)).val ρ'=some v:=hval
  rw [e] at this
  cases this;rfl
theorem y7(p:P1)(q:P2):aK (TMo false true) 81 [wP p,wP q] []=some (gu.sv (Ca,120),[e_ p=false]):=by kernel_rfl
theorem y6(p:P1)(q:P2):aK (TMo true false) 81 [wP p,wP q] []=some (gu.sv (Ca,120),[e_ p=true,fw q=false]):=by kernel_rfl
theorem y9(p:A1)(q:P2):aK (TMo true true) 81 [wP (p,true),wP q] []=some (gu.sv (cr 1,0),[e_ (p,true)=true,fw q=true]):=by kernel_rfl
theorem y8(p:A1)(q:A2):aK (TMo true true) 81 [wP (p,false),wP (q,true)] []=some (gu.sv (cr 1,0),[e_ (p,false)=true,fw (q,true)=true]):=by kernel_rfl
theorem UR{p:P1}{q:P2}(h:(e_ p&&fw q)=false):nT p q=(Ca,120):=by
 unfold nT
 rw [h]
theorem Ji{p:P1}{q:P2}(h:(e_ p&&fw q)=true)(k:(p.2 || q.2)=true):nT p q=(cr 1,0):=by
 unfold nT
 rw [h,k]
theorem My(p:P1)(q:P2):bj Tryz.prog 81 [i_ p,i_ q] (gu.vl (nT p q)):=by
 cases hp:e_ p with
 | false=>exact ah (EC false true) gu (y7 p q) (cQ hp) (rh p q) (UR (by rw [hp];rfl)).symm
 | true=>
  cases hq:fw q with
  | false=>exact ah (EC true false) gu (y6 p q) (aa hp (aa hq ad)) (rh p q) (UR (by rw [hp,hq];rfl)).symm
  | true=>
   have hpq:(e_ p&&fw q)=true:=by rw [hp,hq];rfl
   obtain ⟨p,pb⟩:=p
   obtain ⟨q,qb⟩:=q
   cases pb with
   | true=>exact ah (EC true true) gu (y9 p (q,qb)) (aa hp (aa hq ad)) (rh _ _) (Ji hpq rfl).symm
   | false=>
    cases qb with
    | true=>exact ah (EC true true) gu (y8 p q) (aa hp (aa hq ad)) (rh _ _) (Ji hpq rfl).symm
    | false=>exact Jd p q hp hq
def QL:List Row:=C1 (dV A1) (dV A2) gu 81 nT::Io
theorem XC:∀ r∈QL,bE Tryz.prog r:=by
 simp only [QL,aab]
 exact ⟨rG My,Gl⟩
def TMi:CallT:=jV (aA QL) ZR
theorem zzm:ag Tryz.prog TMi:=aT (ap XC) xQ
theorem zvR:(kU pN:F6)=0:=by
 have h1:∀ n:Nat,(kU n:F6)=⟨kU n,0,0⟩:=by
  intro n
  induction n with
  | zero=>rfl
  | succ n ih=>show kU n+1=_;rw [ih];exact Cub.ext' rfl (add_zero 0) (add_zero 0)
 rw [h1,zdH];rfl
theorem UJ:(kU pN:dv)=0:=by
 have h1:∀ n:Nat,(kU n:dv)=⟨kU n,0⟩:=by
  intro n
  induction n with
  | zero=>rfl
  | succ n ih=>show kU n+1=_;rw [ih];exact Quad.ext' rfl (add_zero 0)
 rw [h1,zvR];rfl
section
variable {R:Type}[CRing R]{k:R}
def KZ(x:R):Quad (Cub R k) ⟨0,1,0⟩:=⟨⟨x,0,0⟩,0⟩
def wG:Quad (Cub R k) ⟨0,1,0⟩:=⟨0,1⟩
theorem m8(x a b c d e f:R):(KZ x*⟨⟨a,b,c⟩,⟨d,e,f⟩⟩:Quad (Cub R k) ⟨0,1,0⟩)=⟨⟨x*a,x*b,x*c⟩,⟨x*d,x*e,x*f⟩⟩:=by
 have h:∀ y:Cub R k,(⟨x,0,0⟩:Cub R k)*y=⟨x*y.a,x*y.b,x*y.c⟩:=fun y=>Cub.ext'
  (ak (aZ [x,y.a,y.b,y.c,k]) (x0*x1+x4*(0*x3+0*x2)) (x0*x1) (by decide +kernel)) (ak (aZ [x,y.a,y.b,y.c,k]) (x0*x2+0*x1+x4*(0*x3)) (x0*x2) (by decide +kernel)) (ak (aZ [x,y.a,y.b,y.c,k]) (x0*x3+0*x2+0*x1) (x0*x3) (by decide +kernel))
 refine Quad.ext' ?_ ?_
 ·show (⟨x,0,0⟩:Cub R k)*⟨a,b,c⟩+⟨0,1,0⟩*(0*⟨d,e,f⟩)=_
  rw [aS,aq,add_zero,h]
 ·show (⟨x,0,0⟩:Cub R k)*⟨d,e,f⟩+0*⟨a,b,c⟩=_
  rw [aS,add_zero,h]
theorem Cf(a b c d e f:R):(⟨⟨a,b,c⟩,⟨d,e,f⟩⟩*wG:Quad (Cub R k) ⟨0,1,0⟩)=⟨⟨k*f,d,e⟩,⟨a,b,c⟩⟩:=by
 refine Quad.ext' ?_ ?_
 ·show (⟨a,b,c⟩:Cub R k)*0+⟨0,1,0⟩*(⟨d,e,f⟩*1)=_
  rw [aq,bG,mul_one]
  exact Cub.ext' (ak (aZ [d,e,f,k]) (0*x0+x3*(1*x2+0*x1)) (x3*x2) (by decide +kernel)) (ak (aZ [d,e,f,k]) (0*x1+1*x0+x3*(0*x2)) x0 (by decide +kernel)) (ak (aZ [d,e,f,k]) (0*x2+1*x1+0*x0) x1 (by decide +kernel))
 ·show (⟨a,b,c⟩:Cub R k)*1+⟨d,e,f⟩*0=_
  rw [aq,add_zero,mul_one]
theorem w1G:(wG:Quad (Cub R k) ⟨0,1,0⟩)=⟨⟨0,0,0⟩,⟨1,0,0⟩⟩:=rfl
theorem w2G:(wG*wG:Quad (Cub R k) ⟨0,1,0⟩)=⟨⟨0,1,0⟩,⟨0,0,0⟩⟩:=by
 have:=Cf (k:=k) (0:R) 0 0 1 0 0
 rw [←w1G,aq] at this;exact this
theorem w3G:(wG*wG*wG:Quad (Cub R k) ⟨0,1,0⟩)=⟨⟨0,0,0⟩,⟨0,1,0⟩⟩:=by rw [w2G,Cf,aq]
theorem w4G:(wG*wG*wG*wG:Quad (Cub R k) ⟨0,1,0⟩)=⟨⟨0,0,1⟩,⟨0,0,0⟩⟩:=by rw [w3G,Cf,aq]
theorem w5G:(wG*wG*wG*wG*wG:Quad (Cub R k) ⟨0,1,0⟩)=⟨⟨0,0,0⟩,⟨0,0,1⟩⟩:=by rw [w4G,Cf,aq]
theorem ZJ(z:Quad (Cub R k) ⟨0,1,0⟩):z=KZ z.a.a+KZ z.b.a*wG+KZ z.a.b*(wG*wG)+KZ z.b.b*(wG*wG*wG)+KZ z.a.c*(wG*wG*wG*wG)+KZ z.b.c*(wG*wG*wG*wG*wG):=by
 obtain ⟨⟨a,b,c⟩,⟨d,e,f⟩⟩:=z
 rw [w5G,w4G,w3G,w2G,w1G,m8,m8,m8,m8,m8]
 simp only [aq,mul_one]
 refine Quad.ext' (Cub.ext' ?_ ?_ ?_) (Cub.ext' ?_ ?_ ?_)
 ·show a=a+0+0+0+0+0;simp only [add_zero]
 ·show b=0+0+b+0+0+0;simp only [add_zero,bG]
 ·show c=0+0+0+0+c+0;simp only [add_zero,bG]
 ·show d=0+d+0+0+0+0;simp only [add_zero,bG]
 ·show e=0+0+0+e+0+0;simp only [add_zero,bG]
 ·show f=0+0+0+0+0+f;simp only [bG]
theorem w6G:pow (wG:Quad (Cub R k) ⟨0,1,0⟩) 6=KZ k:=by
 rw [aC,aC,aC,aC,aC,ft,w5G,Cf,mul_one]
 rfl
theorem zjI(x y:R):(KZ x*KZ y:Quad (Cub R k) ⟨0,1,0⟩)=KZ (x*y):=by
 unfold KZ
 rw [Quad.coe_mul,Cub.coe_mul]
end
def up(k:F2):dv:=KZ k
def ww:dv:=wG
theorem Ck(x y:F2):up x*up y=up (x*y):=zjI x y
theorem zjH(x:F2)(n:Nat):up (pow x n)*up x=up (pow x (n+1)):=Ck _ _
theorem zaQ(x:F2)(n:Nat):pow (up x) n=up (pow x n):=by
 induction n with
 | zero=>rfl
 | succ n ih=>rw [aC,ih,zjH]
theorem OT(z:dv):z=up z.a.a+up z.b.a*ww+up z.a.b*(ww*ww)+up z.b.b*(ww*ww*ww)+up z.a.c*(ww*ww*ww*ww)+up z.b.c*(ww*ww*ww*ww*ww):=ZJ z
theorem ww6:pow ww 6=up ξ:=w6G
def Qp:Nat:=(pN-1)/6
def g1:F2:=nb 1 ξ 381 Qp
set_option maxRecDepth 100000 in
theorem zbY:∃ m,pN=6*m+1∧pow ξ m=g1:=⟨Qp,by decide +kernel,(pR ξ 381 Qp (by decide +kernel)).symm⟩
theorem zAZ:pow ww pN=up g1*ww:=by
 obtain ⟨m,hm,hg⟩:=zbY
 have e:pow ww pN=pow ww (6*m+1):=congrArg (pow ww) hm
 rw [e,aC,cC,ww6,zaQ,hg]
def Le(f:Nat→F2)(z:dv):dv:=⟨⟨z.a.a.conj*f 0,z.a.b.conj*f 2,z.a.c.conj*f 4⟩,⟨z.b.a.conj*f 1,z.b.b.conj*f 3,z.b.c.conj*f 5⟩⟩
def pwF(G:F2)(i:Nat):F2:=match i with
 | 0=>1
 | 1=>G
 | 2=>G*G
 | 3=>G*G*G
 | 4=>G*G*G*G
 | _=>G*G*G*G*G
def Sj(i:Nat):F2:=pwF g1 i
def σ(z:dv):dv:=Le Sj z
theorem zns{R:Type}[CRing R](a b c d e f w g:R):
  a+b*(g*w)+c*(g*w*(g*w))+d*(g*w*(g*w)*(g*w))+e*(g*w*(g*w)*(g*w)*(g*w))+f*(g*w*(g*w)*(g*w)*(g*w)*(g*w)) =
  a+b*g*w+c*(g*g)*(w*w)+d*(g*g*g)*(w*w*w)+e*(g*g*g*g)*(w*w*w*w)+f*(g*g*g*g*g)*(w*w*w*w*w):=
 ak (aZ [a,b,c,d,e,f,w,g])
  (x0+x1*(x7*x6)+x2*(x7*x6*(x7*x6))+x3*(x7*x6*(x7*x6)*(x7*x6))+x4*(x7*x6*(x7*x6)*(x7*x6)*(x7*x6))+x5*(x7*x6*(x7*x6)*(x7*x6)*(x7*x6)*(x7*x6)))
  (x0+x1*x7*x6+x2*(x7*x7)*(x6*x6)+x3*(x7*x7*x7)*(x6*x6*x6)+x4*(x7*x7*x7*x7)*(x6*x6*x6*x6)+x5*(x7*x7*x7*x7*x7)*(x6*x6*x6*x6*x6)) (by decide +kernel)
theorem znt{n:Nat}(hp:∀ x y:dv,pow (x+y) n=pow x n+pow y n)(hu:∀ k:F2,pow (up k) n=up k.conj){G:F2}(hw:pow ww n=up G*ww)(z:dv):pow z n=Le (pwF G) z:=by
 have e:pow z n=pow (up z.a.a+up z.b.a*ww+up z.a.b*(ww*ww)+up z.b.b*(ww*ww*ww)+up z.a.c*(ww*ww*ww*ww)+up z.b.c*(ww*ww*ww*ww*ww)) n:=congrArg (fun x=>pow x n) (OT z)
 rw [e]
 simp only [hp,wO,hu,hw]
 rw [OT (Le (pwF G) z)]
 have h2:∀ a b:F2,up (a*b)=up a*up b:=fun a b=>(Ck a b).symm
 simp only [Le,pwF,h2,mul_one]
 generalize up z.a.a.conj=a
 generalize up z.b.a.conj=b
 generalize up z.a.b.conj=c
 generalize up z.b.b.conj=d
 generalize up z.a.c.conj=e
 generalize up z.b.c.conj=f
 generalize ww=w
 generalize up G=g
 exact zns a b c d e f w g
theorem zBa(k:F2):pow (up k) pN=up k.conj:=by rw [zaQ,zf4]
theorem nr(z:dv):pow z pN=σ z:=znt (VF oP UJ) zBa zAZ z
theorem Pw(x y:dv):σ (x+y)=σ x+σ y:=by rw [←nr,←nr,←nr];exact VF oP UJ x y
theorem tU(x y:dv):σ (x*y)=σ x*σ y:=by rw [←nr,←nr,←nr];exact wO x y pN
def qR:Nat→dv→dv
 | 0,z=>z
 | n+1,z=>σ (qR n z)
theorem Bn(m n:Nat)(z:dv):qR (m+n) z=qR m (qR n z):=by
 induction m with
 | zero=>rw [Nat.zero_add];rfl
 | succ m ih=>rw [Nat.add_right_comm];show σ (qR (m+n) z)=σ (qR m (qR n z));rw [ih]
theorem B7(n:Nat)(x y:dv):qR n (x*y)=qR n x*qR n y:=by
 induction n with
 | zero=>rfl
 | succ n ih=>show σ (qR n (x*y))=σ (qR n x)*σ (qR n y);rw [ih,tU]
def scF(f:Nat→F2)(z:dv):dv:=⟨⟨z.a.a*f 0,z.a.b*f 2,z.a.c*f 4⟩,⟨z.b.a*f 1,z.b.b*f 3,z.b.c*f 5⟩⟩
theorem qh{R:Type}[CRing R]{c:R}(x:Quad R c):x.conj.conj=x:=Quad.ext' rfl (bm _)
theorem pe{R:Type}[CRing R]{c:R}(x y:Quad R c):(x*y).conj=x.conj*y.conj:=Quad.ext'
 (ak (aZ [x.a,x.b,y.a,y.b,c]) (x0*x2+x4*(x1*x3)) (x0*x2+x4*(-x1*-x3)) (by decide +kernel)) (ak (aZ [x.a,x.b,y.a,y.b,c]) (-(x0*x3+x1*x2)) (x0*-x3+-x1*x2) (by decide +kernel))
theorem zs0(z:dv):σ (σ z)=scF (fun i=>(Sj i).conj*Sj i) z:=by
 unfold σ Le scF
 simp only [pe,qh,mul_assoc]
theorem T6(f g:Nat→F2)(z:dv):scF f (scF g z)=scF (fun i=>g i*f i) z:=by
 unfold scF
 simp only [mul_assoc]
theorem zJa(f:Nat→F2)(h:∀ i,i<6→f i=1)(z:dv):scF f z=z:=by
 unfold scF
 rw [h 0 (by omega),h 1 (by omega),h 2 (by omega),h 3 (by omega),h 4 (by omega),h 5 (by omega)]
 simp only [mul_one]
def nF(i:Nat):F2:=(Sj i).conj*Sj i
def sgn(i:Nat):F2:=match i%2 with
 | 0=>1
 | _=>-1
theorem nF3:∀ i,i<6→dr (nF i*(nF i*nF i))=dr (sgn i):=by decide +kernel
theorem σ6(z:dv):qR 6 z=z.conj:=by
 show σ (σ (σ (σ (σ (σ z)))))=_
 rw [zs0,zs0,zs0,T6,T6]
 have h:∀ i,i<6→nF i*(nF i*nF i)=sgn i:=fun i hi=>fR (nF3 i hi)
 show scF (fun i=>nF i*(nF i*nF i)) z=_
 have hb:scF (fun i=>nF i*(nF i*nF i)) z=⟨⟨z.a.a*(nF 0*(nF 0*nF 0)),z.a.b*(nF 2*(nF 2*nF 2)),z.a.c*(nF 4*(nF 4*nF 4))⟩,⟨z.b.a*(nF 1*(nF 1*nF 1)),z.b.b*(nF 3*(nF 3*nF 3)),z.b.c*(nF 5*(nF 5*nF 5))⟩⟩:=rfl
 rw [hb]
 rw [h 0 (by omega),h 1 (by omega),h 2 (by omega),h 3 (by omega),h 4 (by omega),h 5 (by omega)]
 have s0:sgn 0=1:=rfl
 have s1:sgn 1=-1:=rfl
 have s2:sgn 2=1:=rfl
 have s3:sgn 3=-1:=rfl
 have s4:sgn 4=1:=rfl
 have s5:sgn 5=-1:=rfl
 rw [s0,s1,s2,s3,s4,s5]
 simp only [mul_one,lM]
 rfl
theorem zjf(z:dv):qR 12 z=z:=by
 rw [show 12=6+6 from rfl,Bn,σ6,σ6]
 exact qh z
theorem zjd(n:Nat)(z:dv):qR n z=qR (n%12) z:=by
 have h:∀ k m:Nat,qR (12*k+m) z=qR m z:=by
  intro k
  induction k with
  | zero=>intro m;rw [Nat.mul_zero,Nat.zero_add]
  | succ k ih=>intro m;rw [show 12*(k+1)+m=12+(12*k+m) by omega,Bn,zjf];exact ih m
 have e:n=12*(n/12)+n%12:=by omega
 conv=>lhs;rw [e]
 exact h _ _
def σI(n:Int)(z:dv):dv:=qR (n%12).toNat z
theorem zje(n:Nat)(z:dv):σI n z=qR n z:=by
 unfold σI
 rw [zjd n]
 congr 1
def iN(n:Int):AV:=⟨false,[.v (.int .i64 n)]⟩
theorem HO(ρ:Rho)(n:Int):(iN n).val ρ=some (.int .i64 n):=AV.val_v (ρ:=ρ) (x:=.int .i64 n) rfl
def tmI(n m:Int):Int:=(IntKind.i64.wrap (n.tmod m+m)).tmod m
theorem PQ{n m:Int}(h0:0<m)(h1:m<1000):tmI n m=n%m:=by
 have a1:=Int.emod_nonneg n (show m≠0 by omega)
 have a2:=aea n h0
 have hm:m.natAbs=m:=by omega
 unfold tmI
 have e1:n.tmod m=n%m∨n.tmod m=n%m-m:=by
  rw [Int.tmod_eq_emod]
  split
  ·left;omega
  ·right;rw [hm]
 rcases e1 with e1|e1
 ·rw [e1,bq (by omega) (by omega),acV (by omega),Int.add_emod_right,ad2 _ (Int.dvd_refl m)]
 ·rw [e1]
  have e:n%m-m+m=n%m:=by omega
  rw [e,bq (by omega) (by omega),acV a1,ad2 _ (Int.dvd_refl m)]
theorem HM(n m:Int):ay rho0 [iN n,iN m]=some [.int .i64 n,.int .i64 m]:=by simp only [ay,HO]
theorem pQ{T:CallT}(hT:ag Tryz.prog T){f:FuncId}{args:List AV}{vs:List Value}{hints:List (Nat×Bool)}{r:Int}{ob:List Prop}(h:aK T f args hints=some (vI .i64 r,ob))(ax:∀ p∈ob,p)
  (hv:ay rho0 args=some vs):bj Tryz.prog f vs (.int .i64 r):=bi hT h ax hv fun ρ u hu=>by
 rw [jg] at hu
 cases hu;rfl
theorem PT(n:Int):aK ni 147 [iN n,iN 2] []=some (vI .i64 (tmI n 2),[]):=by kernel_rfl
theorem PS(n:Int):aK ni 147 [iN n,iN 6] []=some (vI .i64 (tmI n 6),[]):=by kernel_rfl
theorem K7(n:Int):aK ni 147 [iN n,iN 12] []=some (vI .i64 (tmI n 12),[]):=by kernel_rfl
def PR(q:Int→Int→Int):Row where
 f:=147
 ans:=fun
  | [⟨false,[.v (.int .i64 n)]⟩,⟨false,[.v (.int .i64 m)]⟩]=>match m with
   | .ofNat 2=>some (vI .i64 (q n 2),[q n 2=n%2])
   | .ofNat 6=>some (vI .i64 (q n 6),[q n 6=n%6])
   | .ofNat 12=>some (vI .i64 (q n 12),[q n 12=n%12])
   | _=>none
  | _=>none
theorem zaN{ρ:Rho}{n m:Int}{vs:List Value}(h:ay ρ [iN n,iN m]=some vs):vs=[.int .i64 n,.int .i64 m]:=by
 simp only [ay,HO,Option.some.injEq] at h
 exact h.symm
theorem WM(q:Int→Int→Int):bE Tryz.prog (PR q):=by
 intro args s ob ha ax ρ vs hv
 unfold PR at ha
 simp only at ha
 split at ha
 ·rename_i n m
  rw [zaN (n:=n) (m:=m) hv]
  split at ha
  ·cases ha
   have h:=ax _ (aao.2 rfl)
   exact ⟨_,jg _ _ _,by rw [h,←PQ (n:=n) (m:=2) (by omega) (by omega)];exact pQ iM (PT n) (fun _ h=>by cases h) (HM n 2)⟩
  ·cases ha
   have h:=ax _ (aao.2 rfl)
   exact ⟨_,jg _ _ _,by rw [h,←PQ (n:=n) (m:=6) (by omega) (by omega)];exact pQ iM (PS n) (fun _ h=>by cases h) (HM n 6)⟩
  ·cases ha
   have h:=ax _ (aao.2 rfl)
   exact ⟨_,jg _ _ _,by rw [h,←PQ (n:=n) (m:=12) (by omega) (by omega)];exact pQ iM (K7 n) (fun _ h=>by cases h) (HM n 12)⟩
  ·cases ha
 ·cases ha
def zf3(x:b9):b9:=cr (σ (c_ x))
def zEM(i:Nat):N2:=match i with
 | 0=>(1,0)
 | 1=>(0x1904d3bf02bb0667c231beb4202c0d1f0fd603fd3cbd5f4f7b2443d784bab9c4f67ea53d63e7813d8d0775ed92235fb8,0x00fc3e2b36c4e03288e9e902231f9fb854a14787b6c7b36fec0c8ec971f63c5f282d5ac14d6c7ec22cf78a126ddc4af3)
 | 2=>(0,0x1a0111ea397fe699ec02408663d4de85aa0d857d89759ad4897d29650fb85f9b409427eb4f49fffd8bfd00000000aaac)
 | 3=>(0x06af0e0437ff400b6831e36d6bd17ffe48395dabc2d3435e77f76e17009241c5ee67992f72ec05f4c81084fbede3cc09,0x06af0e0437ff400b6831e36d6bd17ffe48395dabc2d3435e77f76e17009241c5ee67992f72ec05f4c81084fbede3cc09)
 | 4=>(0x1a0111ea397fe699ec02408663d4de85aa0d857d89759ad4897d29650fb85f9b409427eb4f49fffd8bfd00000000aaad,0)
 | _=>(0x05b2cfd9013a5fd8df47fa6b48b1e045f39816240c0b8fee8beadf4d8e9c0566c63a3e6e257f87329b18fae980078116,0x144e4211384586c16bd3ad4afa99cc9170df3560e77982d0db45f3536814f0bd5871c1908bd478cd1ee605167ff82995)
theorem znI:∀ i,i<6→dr (ar (zEM i))=dr (Sj i):=by decide +kernel
def TS:CallT:=aA ul
theorem zG3:ag Tryz.prog TS:=ap oJ
def pt(x:N2)(i:Nat):N2:=ai (Hn x) (zEM i)
theorem zbB(x:b9):aK TS 148 [wN x] []=some (.one (wN ((pt x.1.1 0,pt x.1.2.1 2,pt x.1.2.2 4),(pt x.2.1 1,pt x.2.2.1 3,pt x.2.2.2 5))),[]):=by kernel_rfl
theorem W0(x:b9):bj Tryz.prog 148 [wv x] (wv (zf3 x)):=by
 refine aR zG3 (zbB x) (fun _ h=>by cases h) (eE x) ?_
 have e:∀ (y:N2) i,i<6→pt y i=dr ((ar y).conj*Sj i):=by
  intro y i hi
  unfold pt ai Hn
  rw [bW,fR (znI i hi)]
 rw [e _ 0 (by omega),e _ 1 (by omega),e _ 2 (by omega),e _ 3 (by omega),e _ 4 (by omega),e _ 5 (by omega)]
 rfl
def Pp:Nat→b9→b9
 | 0,x=>x
 | k+1,x=>zf3 (Pp k x)
theorem zs2(k:Nat)(x:b9):Pp k (lV x)=cr (qR k (c_ x)):=by
 induction k with
 | zero=>rfl
 | succ k ih=>show zf3 (Pp k (lV x))=cr (σ (qR k (c_ x)));rw [ih];unfold zf3;rw [bP]
def na(q:Int→Int→Int):List Row:=PR q::jk 148 zf3::ul
theorem zcu(q:Int→Int→Int):∀ r∈na q,bE Tryz.prog r:=by
 simp only [na,aab]
 exact ⟨WM q,da W0,oJ⟩
def qk(k:Nat)(_ _:Int):Int:=(k:Int)
theorem zEK(x:b9)(n:Int):aK (aA (na (qk 0))) 124 [wN x,iN n] []=some (.one (wN (Pp 0 (lV x))),[((0:Nat):Int)=n%12]):=by kernel_rfl
theorem zEJ(x:b9)(n:Int):aK (aA (na (qk 1))) 124 [wN x,iN n] []=some (.one (wN (Pp 1 (lV x))),[((1:Nat):Int)=n%12]):=by kernel_rfl
theorem zEI(x:b9)(n:Int):aK (aA (na (qk 2))) 124 [wN x,iN n] []=some (.one (wN (Pp 2 (lV x))),[((2:Nat):Int)=n%12]):=by kernel_rfl
theorem zEH(x:b9)(n:Int):aK (aA (na (qk 3))) 124 [wN x,iN n] []=some (.one (wN (Pp 3 (lV x))),[((3:Nat):Int)=n%12]):=by kernel_rfl
theorem zEG(x:b9)(n:Int):aK (aA (na (qk 4))) 124 [wN x,iN n] []=some (.one (wN (Pp 4 (lV x))),[((4:Nat):Int)=n%12]):=by kernel_rfl
theorem zEF(x:b9)(n:Int):aK (aA (na (qk 5))) 124 [wN x,iN n] []=some (.one (wN (Pp 5 (lV x))),[((5:Nat):Int)=n%12]):=by kernel_rfl
theorem zEE(x:b9)(n:Int):aK (aA (na (qk 6))) 124 [wN x,iN n] []=some (.one (wN (Pp 6 (lV x))),[((6:Nat):Int)=n%12]):=by kernel_rfl
theorem zED(x:b9)(n:Int):aK (aA (na (qk 7))) 124 [wN x,iN n] []=some (.one (wN (Pp 7 (lV x))),[((7:Nat):Int)=n%12]):=by kernel_rfl
theorem zEC(x:b9)(n:Int):aK (aA (na (qk 8))) 124 [wN x,iN n] []=some (.one (wN (Pp 8 (lV x))),[((8:Nat):Int)=n%12]):=by kernel_rfl
theorem zEB(x:b9)(n:Int):aK (aA (na (qk 9))) 124 [wN x,iN n] []=some (.one (wN (Pp 9 (lV x))),[((9:Nat):Int)=n%12]):=by kernel_rfl
theorem zxt(x:b9)(n:Int):aK (aA (na (qk 10))) 124 [wN x,iN n] []=some (.one (wN (Pp 10 (lV x))),[((10:Nat):Int)=n%12]):=by kernel_rfl
theorem zxs(x:b9)(n:Int):aK (aA (na (qk 11))) 124 [wN x,iN n] []=some (.one (wN (Pp 11 (lV x))),[((11:Nat):Int)=n%12]):=by kernel_rfl
theorem R0(x:b9)(n:Int):∀ k,k<12→aK (aA (na (qk k))) 124 [wN x,iN n] []=some (.one (wN (Pp k (lV x))),[(k:Int)=n%12])
 | 0,_=>zEK x n
 | 1,_=>zEJ x n
 | 2,_=>zEI x n
 | 3,_=>zEH x n
 | 4,_=>zEG x n
 | 5,_=>zEF x n
 | 6,_=>zEE x n
 | 7,_=>zED x n
 | 8,_=>zEC x n
 | 9,_=>zEB x n
 | 10,_=>zxt x n
 | 11,_=>zxs x n
def R5(x:b9)(n:Int):b9:=cr (σI n (c_ x))
theorem zjF{A:Type}[Nm A](a:A)(n:Int):ay rho0 [wN a,iN n]=some [wv a,.int .i64 n]:=by simp only [ay,gr,HO]
theorem NK(x:b9)(n:Int):bj Tryz.prog 124 [wv x,.int .i64 n] (wv (R5 x n)):=by
 have h1:=Int.emod_nonneg n (show (12:Int)≠0 by omega)
 have h2:=aea n (show (0:Int)<12 by omega)
 have hk:(((n%12).toNat:Nat):Int)=n%12:=Int.toNat_of_nonneg h1
 refine aR (ap (zcu _)) (R0 x n (n%12).toNat (by omega)) ?_ (zjF x n) ?_
 ·intro p hp
  rw [aao] at hp
  subst hp;exact hk
 ·rw [zs2];rfl
def zcA{A B:Type}[Nm A][Nm B](f:FuncId)(g:A→Int→B):Row where
 f:=f
 ans:=fun
  | [x,⟨false,[.v (.int .i64 n)]⟩]=>match asN A x with
   | some a=>some (.one (wN (g a n)),[])
   | none=>none
  | _=>none
theorem zcz{A B:Type}[Nm A][Nm B]{f:FuncId}{g:A→Int→B}(h:∀ a n,bj Tryz.prog f [wv a,.int .i64 n] (wv (g a n))):bE Tryz.prog (zcA f g):=by
 intro args s ob ha ax ρ vs hv
 unfold zcA at ha
 simp only at ha
 split at ha
 ·rename_i x n
  split at ha
  ·rename_i a hn
   cases ha
   obtain ⟨v1,us,h1,h2,rfl⟩:=aj hv
   obtain ⟨v2,ov,h3,h4,rfl⟩:=aj h2
   cases h4
   have e:AV.val ρ (iN n)=some v2:=h3
   rw [HO] at e
   cases e
   rw [qv hn h1]
   exact ⟨_,gr _ _,h a n⟩
  ·cases ha
 ·cases ha
def Ik:List Row:=zcA 124 R5::Bv
theorem QH:∀ r∈Ik,bE Tryz.prog r:=by
 simp only [Ik,aab]
 exact ⟨zcz NK,CY⟩
def zzl:CallT:=jV (aA Ik) (L4 97 nc)
theorem We:ag Tryz.prog zzl:=aT (ap QH) JW
def ll:b9:=(((1,0),(0,0),(0,0)),((0,0),(0,0),(0,0)))
theorem zls:ll=cr 1:=by decide +kernel
def RP:List Int:=[10088250816726084267,4137836090706223446]
def xWs:List Int:=[15132376222941642752]
def ZT(z:b9):b9:=nc z (ti xWs%pw 1)
def Cn(x:b9):SV:=.one (wN x)
def HX(x y:b9):Prop:=∀ ρ,(Cn x).val ρ=(Cn y).val ρ
def gN(f:b9):b9:=cH (cH ll (jv f)) (DF f)
def hN(g:b9):b9:=cH (cH ll (R5 g 2)) g
def aN(h:b9):b9:=nc h (ti RP%pw 2)
def zyK(a a1:b9):b9:=cH (cH ll (jv a1)) (R5 a 1)
def ccN(b b2:b9):b9:=cH (cH (cH ll b2) (R5 b 2)) (jv b)
def dlN(c h:b9):b9:=cH (cH ll c) h
def baN(a:b9):b9:=zyK a (ZT a)
def cbN(b:b9):b9:=ccN b (ZT (ZT b))
def Si(f:b9):b9:=dlN (cbN (baN (aN (hN (gN f))))) (hN (gN f))
def obX:List Prop:=(1<4294967296)::okW xWs
theorem Ra:∀ p∈obX,p:=aa (by omega) (uA (by decide +kernel))
def YW(g h a a1 b b1 b2 c:b9):List (Nat×SV):=[(24117276,Cn g),(31457308,Cn h),(36,Cn a),(42991620,Cn a1),(48234524,Cn b),(54525956,Cn b1),(55574532,Cn b2),(61866023,Cn c)]
theorem Y4(f g h a a1 b b1 b2 c:b9):aK (D4 zzl (YW g h a a1 b b1 b2 c)) 82 [wN f] [] =
  some (Cn (dlN c h),HX (gN f) g::HX (hN g) h::HX (aN h) a::(2<4294967296)::okW RP++(HX (ZT a) a1::obX++(HX (zyK a a1) b::(HX (ZT b) b1::obX++(HX (ZT b1) b2::obX++[HX (ccN b b2) c]))))):=by kernel_rfl
theorem E4(f:b9):bj Tryz.prog 82 [wv f] (wv (Si f)):=by
 have e:∀ x,HX x x:=fun x ρ=>rfl
 refine aR (zo We _) (Y4 f (gN f) (hN (gN f)) (aN (hN (gN f))) (ZT (aN (hN (gN f)))) (baN (aN (hN (gN f)))) (ZT (baN (aN (hN (gN f))))) (ZT (ZT (baN (aN (hN (gN f)))))) (cbN (baN (aN (hN (gN f)))))) ?_ (eE f) rfl
 exact aa (e _) (aa (e _) (aa (e _) (fQ (aa (by omega) (uA (by decide +kernel))) (fQ (aa (e _) Ra) (aa (e _) (fQ (aa (e _) Ra) (fQ (aa (e _) Ra) (aa (e _) ad))))))))
def Ij(b c:Bool):List Row:=[jk 82 Si,tJ (dV A1) AG.rs 25 (fun _=>b) (fun x=>eV x=b),tJ (dV A2) AG.rs 32 (fun _=>c) (fun x=>dW x=c)]
theorem QG(b c:Bool):∀ r∈Ij b c,bE Tryz.prog r:=by
 simp only [Ij,aab,aad,false_imp_iff,implies_true,and_true]
 exact ⟨da E4,lU fun x hx=>by rw [←hx];exact TL x,lU fun x hx=>by rw [←hx];exact TK x⟩
def ziF(b c:Bool):CallT:=jV (aA (Ij b c)) TMi
theorem B5(b c:Bool):ag Tryz.prog (ziF b c):=aT (ap (QG b c)) zzm
def fW(p:P1)(q:P2):b9:=Si (cH (cH ll ll) (nT p q).1)
def Aw(p:P1)(q:P2):b9×Int:=match eV p&&dW q with
 | true=>(fW p q,0)
 | false=>(Ca,140)
theorem XR(p:P1)(q:P2):aK (ziF true true) 10 [wP p,wP q] []=some (gu.sv (fW p q,0),[eV p=true,dW q=true]):=by kernel_rfl
theorem XT(p:P1)(q:P2)(c:Bool):aK (ziF false c) 10 [wP p,wP q] []=some (gu.sv (Ca,140),[eV p=false]):=by kernel_rfl
theorem XS(p:P1)(q:P2):aK (ziF true false) 10 [wP p,wP q] []=some (gu.sv (Ca,140),[eV p=true,dW q=false]):=by kernel_rfl
theorem IN{p:P1}{q:P2}(h1:eV p=true)(h2:dW q=true):Aw p q=(fW p q,0):=by unfold Aw;rw [h1,h2];rfl
theorem Uq{p:P1}{q:P2}(h:(eV p&&dW q)=false):Aw p q=(Ca,140):=by unfold Aw;rw [h]
theorem IM(p:P1)(q:P2):bj Tryz.prog 10 [i_ p,i_ q] (gu.vl (Aw p q)):=by
 cases h1:eV p with
 | false=>exact ah (B5 false true) gu (XT p q true) (cQ h1) (rh p q) (Uq (by rw [h1];rfl)).symm
 | true=>
  cases h2:dW q with
  | false=>exact ah (B5 true false) gu (XS p q) (aa h1 (aa h2 ad)) (rh p q) (Uq (by rw [h1,h2];rfl)).symm
  | true=>exact ah (B5 true true) gu (XR p q) (aa h1 (aa h2 ad)) (rh p q) (IN h1 h2).symm
end Go.Proofs.YtcafpgpahbplaaaGreat
