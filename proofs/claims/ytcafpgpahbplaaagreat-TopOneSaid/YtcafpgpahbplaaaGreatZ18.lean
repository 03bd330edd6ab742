/-
 The proof, part 18 of 25.
-/
import Derived.Test.YtcafpgpahbplaaaGreatZ17
import Derived.Test.YtcafpgpahbplaaaGreatZ16
import Derived.Test.YtcafpgpahbplaaaGreatZ11
open Bool renaming and_eq_true->aaf
open Nat renaming add_mod->abl,add_sub_cancel->ac6,div_add_mod->aaZ,mod_eq_of_lt->aah,mod_eq_zero_of_dvd->acE,mod_lt->aaH,mul_add->abB,mul_comm->aar,mul_div_cancel_left->adS,succ_mul->abP
open Subtype renaming val->ad3
noncomputable section
set_option linter.unusedVariables false
set_option linter.unusedSimpArgs false
namespace Go.Proofs.YtcafpgpahbplaaaGreat
open Go Go.Eng Go.RowKit Go.Wd Go.Alg Go.Pr
namespace Sh
def Sb(T:CallT)(s1 s2:SV):CallT:=fun f args m nid=>match T f args m nid with
 | some out=>match args with
  | [⟨false,[.c _ _ _ 0 _]⟩]=>some { out with val:=s1,ob:=(∀ ρ,out.val.val ρ=s1.val ρ)::out.ob }
  | _=>some { out with val:=s2,ob:=(∀ ρ,out.val.val ρ=s2.val ρ)::out.ob }
 | none=>none
theorem YY{P:Program}{T:CallT}(h:ag P T)(s1 s2:SV):ag P (Sb T s1 s2):=by
 intro f args m nid out af ax ρ w vs hv hM df
 have key:∀ (o:Out) (s:SV),T f args m nid=some o→out={ o with val:=s,ob:=(∀ ρ,o.val.val ρ=s.val ρ)::o.ob }→Invoked P f vs.toArray w fun v w'=>∃ ρ',Ext ρ w ρ' w'∧out.val.val ρ'=some v∧Mem ρ' (aX m (ia (out.wr++out.news))) w':=by
  rintro o s ho rfl
  refine (h f args m nid o ho (fun p hp=>ax p (List.mem_cons_of_mem _ hp)) ρ w vs hv hM df).mono ?_
  rintro u w' ⟨ρ',h1,h2,h3⟩
  refine ⟨ρ',h1,?_,h3⟩
  rw [←h2]
  exact (ax _ List.mem_cons_self ρ').symm
 unfold Sb at af
 split at af
 ·rename_i o ho
  split at af
  ·cases af;exact key o s1 ho rfl
  ·cases af;exact key o s2 ho rfl
 ·cases af
def Pc(x1 e1 x2 e2:Nat)(y:N2)(i bg on nG:Bool):CallT:=fz (fz (fz (fz (jV (Sb fpT ((tI (kV Nat) tj).sv (x1,(e1:Int))) ((tI (kV Nat) tj).sv (x2,(e2:Int)))) (jV ziE TSb)) 26 (m_.sv (y,i))) 29 (.one (cY bg))) 32 (.one (cY nG))) 31 (.one (cY on))
theorem jU(x1 e1 x2 e2:Nat)(y:N2)(i bg on nG:Bool):ag Tryz.prog (Pc x1 e1 x2 e2 y i bg on nG):=b7 (b7 (b7 (b7 (aT (YY zf7 _ _) (aT B3 EA)) _ _) _ _) _ _) _ _
def dM(b:Bool)(y:N2):N2:=match b with
 | true=>gl y
 | false=>y
def n9(big:Bool)(f:Nat→Int):List Prop:=[((96:Nat):Int)≠IntKind.i64.wrap (48*2)↔false=true,Eng.bits .and .u8 (f 0) 128>0↔true=true,Eng.bits .and .u8 (f 0) 64>0↔false=true,Eng.bits .and .u8 (f 0) 32>0↔big=true]
def gj(g:Nat→Int)(x e:Nat):List Prop:=[∀ ρ,SV.val ρ ((tI (kV Nat) tj).sv (Vu 48 g))=SV.val ρ ((tI (kV Nat) tj).sv (x,(e:Int))),1≤48∧bOk 48 g]
def gA(f:Nat→Int):Nat→Int:=fun i=>(jI 48 f).getD i 0
def gB(f:Nat→Int):Nat→Int:=fun i=>(bn f 48 48).getD i 0
def nO(bg on:Bool)(X y:N2)(i:Bool)(Y:N2):List Prop:=[∀ ρ,SV.val ρ (m_.sv (ym (bk (ai (ai X X) X) (4,4))))=SV.val ρ (m_.sv (y,i)),∀ ρ,SV.val ρ (.one (cY (jx y)))=SV.val ρ (.one (cY bg)),∀ ρ,SV.val ρ (.one (cY (yN (((X,Y),false):P2))))=SV.val ρ (.one (cY on))]
def wF(nG:Bool)(X Y:N2):List Prop:=[∀ ρ,SV.val ρ (.one (cY (dW (((X,Y),false):P2))))=SV.val ρ (.one (cY nG))]
def iX:P2:=(((0,0),(0,0)),false)
theorem Zm(kk x1 x2:Nat)(y:N2)(i:Bool)(f:Nat→Int):cV (Pc x1 41 x2 0 y i true true true) 8 [bT (.s 1 0 96 (kk+96)),wT] (iI 96 f) [] (uZ true)=some (fr.sv (iX,203),n9 true f++gj (gA f) x1 41):=by kernel_rfl
theorem Zk(kk x1 x2:Nat)(y:N2)(i:Bool)(f:Nat→Int):cV (Pc x1 0 x2 41 y i true true true) 8 [bT (.s 1 0 96 (kk+96)),wT] (iI 96 f) [] (uZ true)=some (fr.sv (iX,203),n9 true f++gj (gA f) x1 0++gj (gB f) x2 41):=by kernel_rfl
theorem zn6(kk x1 x2:Nat)(y:N2)(i:Bool)(f:Nat→Int):cV (Pc x1 0 x2 0 y i true true true) 8 [bT (.s 1 0 96 (kk+96)),wT] (iI 96 f) [(55,false)] (uZ true)=some (fr.sv ((((x2,x1),dM false y),false),0),n9 true f++gj (gA f) x1 0++gj (gB f) x2 0++nO true true (x2,x1) y i (dM false y)++wF true (x2,x1) (dM false y)):=by kernel_rfl
theorem Zc(kk x1 x2:Nat)(y:N2)(i:Bool)(f:Nat→Int):cV (Pc x1 0 x2 0 y i true true false) 8 [bT (.s 1 0 96 (kk+96)),wT] (iI 96 f) [(55,false)] (uZ true)=some (fr.sv (iX,205),n9 true f++gj (gA f) x1 0++gj (gB f) x2 0++nO true true (x2,x1) y i (dM false y)++wF false (x2,x1) (dM false y)):=by kernel_rfl
theorem Zg(kk x1 x2:Nat)(y:N2)(i:Bool)(f:Nat→Int):cV (Pc x1 0 x2 0 y i true false false) 8 [bT (.s 1 0 96 (kk+96)),wT] (iI 96 f) [(55,false)] (uZ true)=some (fr.sv (iX,204),n9 true f++gj (gA f) x1 0++gj (gB f) x2 0++nO true false (x2,x1) y i (dM false y)):=by kernel_rfl
theorem zn7(kk x1 x2:Nat)(y:N2)(i:Bool)(f:Nat→Int):cV (Pc x1 0 x2 0 y i false true true) 8 [bT (.s 1 0 96 (kk+96)),wT] (iI 96 f) [(55,true)] (uZ true)=some (fr.sv ((((x2,x1),dM true y),false),0),n9 true f++gj (gA f) x1 0++gj (gB f) x2 0++nO false true (x2,x1) y i (dM true y)++wF true (x2,x1) (dM true y)):=by kernel_rfl
theorem Zd(kk x1 x2:Nat)(y:N2)(i:Bool)(f:Nat→Int):cV (Pc x1 0 x2 0 y i false true false) 8 [bT (.s 1 0 96 (kk+96)),wT] (iI 96 f) [(55,true)] (uZ true)=some (fr.sv (iX,205),n9 true f++gj (gA f) x1 0++gj (gB f) x2 0++nO false true (x2,x1) y i (dM true y)++wF false (x2,x1) (dM true y)):=by kernel_rfl
theorem Zh(kk x1 x2:Nat)(y:N2)(i:Bool)(f:Nat→Int):cV (Pc x1 0 x2 0 y i false false false) 8 [bT (.s 1 0 96 (kk+96)),wT] (iI 96 f) [(55,true)] (uZ true)=some (fr.sv (iX,204),n9 true f++gj (gA f) x1 0++gj (gB f) x2 0++nO false false (x2,x1) y i (dM true y)):=by kernel_rfl
theorem Zn(kk x1 x2:Nat)(y:N2)(i:Bool)(f:Nat→Int):cV (Pc x1 41 x2 0 y i true true true) 8 [bT (.s 1 0 96 (kk+96)),wT] (iI 96 f) [] (uZ false)=some (fr.sv (iX,203),n9 false f++gj (gA f) x1 41):=by kernel_rfl
theorem Zl(kk x1 x2:Nat)(y:N2)(i:Bool)(f:Nat→Int):cV (Pc x1 0 x2 41 y i true true true) 8 [bT (.s 1 0 96 (kk+96)),wT] (iI 96 f) [] (uZ false)=some (fr.sv (iX,203),n9 false f++gj (gA f) x1 0++gj (gB f) x2 41):=by kernel_rfl
theorem zn8(kk x1 x2:Nat)(y:N2)(i:Bool)(f:Nat→Int):cV (Pc x1 0 x2 0 y i true true true) 8 [bT (.s 1 0 96 (kk+96)),wT] (iI 96 f) [(55,true)] (uZ false)=some (fr.sv ((((x2,x1),dM true y),false),0),n9 false f++gj (gA f) x1 0++gj (gB f) x2 0++nO true true (x2,x1) y i (dM true y)++wF true (x2,x1) (dM true y)):=by kernel_rfl
theorem Ze(kk x1 x2:Nat)(y:N2)(i:Bool)(f:Nat→Int):cV (Pc x1 0 x2 0 y i true true false) 8 [bT (.s 1 0 96 (kk+96)),wT] (iI 96 f) [(55,true)] (uZ false)=some (fr.sv (iX,205),n9 false f++gj (gA f) x1 0++gj (gB f) x2 0++nO true true (x2,x1) y i (dM true y)++wF false (x2,x1) (dM true y)):=by kernel_rfl
theorem Zi(kk x1 x2:Nat)(y:N2)(i:Bool)(f:Nat→Int):cV (Pc x1 0 x2 0 y i true false false) 8 [bT (.s 1 0 96 (kk+96)),wT] (iI 96 f) [(55,true)] (uZ false)=some (fr.sv (iX,204),n9 false f++gj (gA f) x1 0++gj (gB f) x2 0++nO true false (x2,x1) y i (dM true y)):=by kernel_rfl
theorem zn9(kk x1 x2:Nat)(y:N2)(i:Bool)(f:Nat→Int):cV (Pc x1 0 x2 0 y i false true true) 8 [bT (.s 1 0 96 (kk+96)),wT] (iI 96 f) [(55,false)] (uZ false)=some (fr.sv ((((x2,x1),dM false y),false),0),n9 false f++gj (gA f) x1 0++gj (gB f) x2 0++nO false true (x2,x1) y i (dM false y)++wF true (x2,x1) (dM false y)):=by kernel_rfl
theorem Zf(kk x1 x2:Nat)(y:N2)(i:Bool)(f:Nat→Int):cV (Pc x1 0 x2 0 y i false true false) 8 [bT (.s 1 0 96 (kk+96)),wT] (iI 96 f) [(55,false)] (uZ false)=some (fr.sv (iX,205),n9 false f++gj (gA f) x1 0++gj (gB f) x2 0++nO false true (x2,x1) y i (dM false y)++wF false (x2,x1) (dM false y)):=by kernel_rfl
theorem Zj(kk x1 x2:Nat)(y:N2)(i:Bool)(f:Nat→Int):cV (Pc x1 0 x2 0 y i false false false) 8 [bT (.s 1 0 96 (kk+96)),wT] (iI 96 f) [(55,false)] (uZ false)=some (fr.sv (iX,204),n9 false f++gj (gA f) x1 0++gj (gB f) x2 0++nO false false (x2,x1) y i (dM false y)):=by kernel_rfl
def tf(f:Nat→Int):Nat→Int:=fun i=>f (48+i)
theorem zr8(f:Nat→Int){i:Nat}(hi:i<48):gB f i=tf f i:=j1 48 48 i hi
theorem zEA(f:Nat→Int){i:Nat}(hi:i<48):gA f i=cn f i:=C5 (by omega) f hi
theorem zxE(f:Nat→Int):Vu 48 (gA f)=if eo (cn f) 48<pN then (eo (cn f) 48,0) else (0,41):=NQ f
theorem zxD(f:Nat→Int):Vu 48 (gB f)=if eo (tf f) 48<pN then (eo (tf f) 48,0) else (0,41):=by
 unfold Vu
 rw [if_pos rfl,lG (g:=tf f) 48 fun i hi=>zr8 f hi]
theorem V4{f:Nat→Int}(h:bOk 96 f):bOk 48 f:=fun i hi=>h i (by omega)
theorem zid{f:Nat→Int}(h:bOk 96 f):bOk 48 (gA f):=fun i hi=>by rw [zEA f hi];exact uL f (V4 h) i hi
theorem zsJ{f:Nat→Int}(h:bOk 96 f):bOk 48 (gB f):=fun i hi=>by rw [zr8 f hi];exact h (48+i) (by omega)
theorem zlJ{f:Nat→Int}(h1:Eng.bits .and .u8 (f 0) 128>0)(h2:¬Eng.bits .and .u8 (f 0) 64>0):∀ p∈n9 (jT f) f,p:=
 aa (br (by decide)) (aa (bD h1) (aa (br h2) (aa (by unfold jT;exact decide_eq_true_iff.symm) ad)))
theorem pU{g:Nat→Int}{x e:Nat}(hb:bOk 48 g)(h:Vu 48 g=(x,(e:Int))):∀ p∈gj g x e,p:=
 aa (fun ρ=>by rw [h]) (aa ⟨by omega,hb⟩ ad)
def uJ(X:N2):N2:=bk (ai (ai X X) X) (4,4)
theorem zdv{bg on i:Bool}{X y Y:N2}(h1:ym (bk (ai (ai X X) X) (4,4))=(y,i))(h2:jx y=bg)(h3:yN (((X,Y),false):P2)=on):∀ p∈nO bg on X y i Y,p:=
 aa (fun ρ=>by rw [h1]) (aa (fun ρ=>by rw [h2]) (aa (fun ρ=>by rw [h3]) ad))
def XN(X Y:N2)(on nG:Bool):P2×Int:=match on,nG with
 | false,_=>(iX,204)
 | true,false=>(iX,205)
 | true,true=>(((X,Y),false),0)
def kY(a:N2):N2:=(ym a).1
def Ef(X:N2)(big:Bool):N2:=dM (jx (kY (uJ X)) != big) (kY (uJ X))
def pt2(X:N2)(big:Bool):P2×Int:=XN X (Ef X big) (yN (((X,Ef X big),false):P2)) (dW (((X,Ef X big),false):P2))
open Classical in
def r8(n:Nat)(f:Nat→Int):P2×Int:=if n≠96 then (iX,200) else if ¬Eng.bits .and .u8 (f 0) 128>0 then (iX,201) else
 if Eng.bits .and .u8 (f 0) 64>0 then (if SZ 96 f (jT f) then ((((0,0),(0,0)),true),0) else (iX,202)) else
 if eo (cn f) 48<pN then (if eo (tf f) 48<pN then pt2 (eo (tf f) 48,eo (cn f) 48) (jT f) else (iX,203)) else (iX,203)
theorem zx6{w:World}{b o kk x1 x2:Nat}{y:N2}{f:Nat→Int}{i big bg on nG:Bool}(hM:Mem (bV b o) (iI 96 f) w)(cv:∀ c,¬Own (bV b o) c)(hv:ay (bV b o) [bT (.s 1 0 96 (kk+96)),wT]=some [.slice (some ⟨b,o,none⟩) 96 (kk+96),.bool true])
  (hD:∀ p∈n9 big f,p) (hF:∀ p∈gj (gA f) x1 0,p) (hG:∀ p∈gj (gB f) x2 0,p) (hO:∀ p∈nO bg on (x2,x1) y i (dM (bg != big) y),p) (hI:∀ p∈wF nG (x2,x1) (dM (bg != big) y),p) :
  cX Tryz.prog 8 #[.slice (some ⟨b,o,none⟩) 96 (kk+96),.bool true] (fr.vl (XN (x2,x1) (dM (bg != big) y) on nG)) w:=by
 cases big<;>cases bg<;>cases on
 ·exact ae (jU _ _ _ _ _ _ _ _ _) (Zj kk x1 x2 y i f) (al (al (al hD hF) hG) hO) hM cv hv (bL fr _)
 ·cases nG
  ·exact ae (jU _ _ _ _ _ _ _ _ _) (Zf kk x1 x2 y i f) (al (al (al (al hD hF) hG) hO) hI) hM cv hv (bL fr _)
  ·exact ae (jU _ _ _ _ _ _ _ _ _) (zn9 kk x1 x2 y i f) (al (al (al (al hD hF) hG) hO) hI) hM cv hv (bL fr _)
 ·exact ae (jU _ _ _ _ _ _ _ _ _) (Zi kk x1 x2 y i f) (al (al (al hD hF) hG) hO) hM cv hv (bL fr _)
 ·cases nG
  ·exact ae (jU _ _ _ _ _ _ _ _ _) (Ze kk x1 x2 y i f) (al (al (al (al hD hF) hG) hO) hI) hM cv hv (bL fr _)
  ·exact ae (jU _ _ _ _ _ _ _ _ _) (zn8 kk x1 x2 y i f) (al (al (al (al hD hF) hG) hO) hI) hM cv hv (bL fr _)
 ·exact ae (jU _ _ _ _ _ _ _ _ _) (Zh kk x1 x2 y i f) (al (al (al hD hF) hG) hO) hM cv hv (bL fr _)
 ·cases nG
  ·exact ae (jU _ _ _ _ _ _ _ _ _) (Zd kk x1 x2 y i f) (al (al (al (al hD hF) hG) hO) hI) hM cv hv (bL fr _)
  ·exact ae (jU _ _ _ _ _ _ _ _ _) (zn7 kk x1 x2 y i f) (al (al (al (al hD hF) hG) hO) hI) hM cv hv (bL fr _)
 ·exact ae (jU _ _ _ _ _ _ _ _ _) (Zg kk x1 x2 y i f) (al (al (al hD hF) hG) hO) hM cv hv (bL fr _)
 ·cases nG
  ·exact ae (jU _ _ _ _ _ _ _ _ _) (Zc kk x1 x2 y i f) (al (al (al (al hD hF) hG) hO) hI) hM cv hv (bL fr _)
  ·exact ae (jU _ _ _ _ _ _ _ _ _) (zn6 kk x1 x2 y i f) (al (al (al (al hD hF) hG) hO) hI) hM cv hv (bL fr _)
theorem zcY(a:N2):ym a=(kY a,(ym a).2):=by unfold kY;exact rfl
theorem zx7{w:World}{b o kk x1 x2:Nat}{f:Nat→Int}{big:Bool}(hM:Mem (bV b o) (iI 96 f) w)(cv:∀ c,¬Own (bV b o) c)(hv:ay (bV b o) [bT (.s 1 0 96 (kk+96)),wT]=some [.slice (some ⟨b,o,none⟩) 96 (kk+96),.bool true])
  (hD:∀ p∈n9 big f,p) (hF:∀ p∈gj (gA f) x1 0,p) (hG:∀ p∈gj (gB f) x2 0,p):cX Tryz.prog 8 #[.slice (some ⟨b,o,none⟩) 96 (kk+96),.bool true] (fr.vl (pt2 (x2,x1) big)) w:=
 zx6 (y:=kY (uJ (x2,x1))) (i:=(ym (uJ (x2,x1))).2) (bg:=jx (kY (uJ (x2,x1)))) hM cv hv hD hF hG (zdv (zcY _) rfl rfl) (aa (fun _=>rfl) ad)
theorem zg0{w:World}{b o kk:Nat}{f:Nat→Int}{big:Bool}(hM:Mem (bV b o) (iI 96 f) w)(cv:∀ c,¬Own (bV b o) c)(hv:ay (bV b o) [bT (.s 1 0 96 (kk+96)),wT]=some [.slice (some ⟨b,o,none⟩) 96 (kk+96),.bool true])
  (hD:∀ p∈n9 big f,p) (hF:∀ p∈gj (gA f) 0 41,p):cX Tryz.prog 8 #[.slice (some ⟨b,o,none⟩) 96 (kk+96),.bool true] (fr.vl (iX,203)) w:=by
 cases big
 ·exact ae (jU _ _ _ _ _ _ _ _ _) (Zn kk 0 0 (0,0) true f) (al hD hF) hM cv hv (bL fr _)
 ·exact ae (jU _ _ _ _ _ _ _ _ _) (Zm kk 0 0 (0,0) true f) (al hD hF) hM cv hv (bL fr _)
theorem zgZ{w:World}{b o kk x1:Nat}{f:Nat→Int}{big:Bool}(hM:Mem (bV b o) (iI 96 f) w)(cv:∀ c,¬Own (bV b o) c)(hv:ay (bV b o) [bT (.s 1 0 96 (kk+96)),wT]=some [.slice (some ⟨b,o,none⟩) 96 (kk+96),.bool true])
  (hD:∀ p∈n9 big f,p) (hF:∀ p∈gj (gA f) x1 0,p) (hG:∀ p∈gj (gB f) 0 41,p):cX Tryz.prog 8 #[.slice (some ⟨b,o,none⟩) 96 (kk+96),.bool true] (fr.vl (iX,203)) w:=by
 cases big
 ·exact ae (jU _ _ _ _ _ _ _ _ _) (Zl kk x1 0 (0,0) true f) (al (al hD hF) hG) hM cv hv (bL fr _)
 ·exact ae (jU _ _ _ _ _ _ _ _ _) (Zk kk x1 0 (0,0) true f) (al (al hD hF) hG) hM cv hv (bL fr _)
theorem FI{w:World}{b o c n:Nat}{f:Nat→Int}(hc:n≤c)(hb:bOk n f)(hs:Stands w b o (gvals .u8 n f)):cX Tryz.prog 8 #[.slice (some ⟨b,o,none⟩) n c,.bool true] (fr.vl (r8 n f)) w:=by
 obtain ⟨hM,cv,hv⟩:=Ka (aD (z:=0)) hs c
 unfold r8
 by_cases hn:n=96
 ·subst hn
  rw [if_neg (by omega)]
  obtain ⟨kk,rfl⟩:∃ kk,c=kk+96:=⟨c-96,by omega⟩
  obtain ⟨Bh,M5,G6⟩:=Ka (OK 96 f) hs (kk+96)
  by_cases h1:Eng.bits .and .u8 (f 0) 128>0
  ·rw [if_neg (by omega)]
   by_cases h2:Eng.bits .and .u8 (f 0) 64>0
   ·rw [if_pos h2]
    have e0:(fun i=>f (0+i))=f:=nI f
    by_cases hz:SZ 96 f (jT f)
    ·rw [if_pos hz]
     exact ae (BL 0) (zgY 96 (kk+96) f) (aa (by rw [e0];exact ⟨.inr ⟨rfl,rfl⟩,by omega,h1,h2,fun _=>rfl,fun h=>absurd hz h⟩) (aa (by omega) ad)) hM cv hv (bL fr _)
    ·rw [if_neg hz]
     exact ae (BL 202) (zgX 96 (kk+96) f) (aa (by rw [e0];exact ⟨.inr ⟨rfl,rfl⟩,by omega,h1,h2,fun h=>absurd h hz,fun _=>rfl⟩) (aa (by omega) ad)) hM cv hv (bL fr _)
   ·rw [if_neg h2]
    have hD:=zlJ h1 h2
    have hA:=zxE f
    have hB:=zxD f
    by_cases hx:eo (cn f) 48<pN
    ·rw [if_pos hx] at hA ⊢
     by_cases hy:eo (tf f) 48<pN
     ·rw [if_pos hy] at hB ⊢
      exact zx7 Bh M5 G6 hD (pU (zid hb) hA) (pU (zsJ hb) hB)
     ·rw [if_neg hy] at hB ⊢
      exact zgZ Bh M5 G6 hD (pU (x:=eo (cn f) 48) (e:=0) (zid hb) hA) (pU (x:=0) (e:=41) (zsJ hb) hB)
    ·rw [if_neg hx] at hA ⊢
     exact zg0 Bh M5 G6 hD (pU (x:=0) (e:=41) (zid hb) hA)
  ·rw [if_pos h1]
   exact ae pk (zn5 kk f) (aa (br (by decide)) (aa (br h1) ad)) Bh M5 G6 (bL fr _)
 ·rw [if_pos hn]
  exact ae pk (zg1 n c f) (aa (bD (by rw [show IntKind.i64.wrap (48*2)=96 from by decide];omega)) ad) hM cv hv (bL fr _)
section
variable {R:Type}[CRing R]
theorem iV{c:R}(x y:Quad R c):(x*y).norm=x.norm*y.norm:=
 ak (aZ [x.a,x.b,y.a,y.b,c]) ((x0*x2+x4*(x1*x3))*(x0*x2+x4*(x1*x3))-x4*((x0*x3+x1*x2)*(x0*x3+x1*x2))) ((x0*x0-x4*(x1*x1))*(x2*x2-x4*(x3*x3))) (by decide +kernel)
variable [IsField R]
theorem ry{x y:R}(h:x*x=y*y):x=y∨x=-y:=by
 have e:(x-y)*(x+y)=x*x-y*y:=ak (aZ [x,y]) ((x0-x1)*(x0+x1)) (x0*x0-x1*x1) (by decide +kernel)
 have e2:(x-y)*(x+y)=0:=by rw [e,h,cL]
 rcases cc.1 e2 with h|h
 ·exact .inl (ct.1 h)
 ·exact .inr (iF ((add_comm y x).trans h))
end
def z_(a:F):Prop:=∃ t,t*t=a
theorem zB9:pN+1=4*qN:=by decide +kernel
theorem zxG{p q:Nat}(h:p+1=4*q):q+q+(q+q)=p+1:=by omega
theorem zrb(a:F):pow a qN*pow a qN=a∨pow a qN*pow a qN=-a:=by
 refine ry ?_
 rw [←ed,←ed,zxG zB9,aC,Mf]
theorem ss(a:F):z_ a∨z_ (-a):=(zrb a).imp (fun h=>⟨_,h⟩) (fun h=>⟨_,h⟩)
theorem zwO(a:Nat):Fg a=decide (ao (Qy a) (Qy a)=fV a):=rfl
theorem zuF(a:Nat):ao (Qy a) (Qy a)=(pow (φ a) qN*pow (φ a) qN).val:=by
 show (φ ((pow (φ a) qN).val)*φ ((pow (φ a) qN).val)).val=_
 rw [cM]
theorem Vb(a:Nat):Fg a=true↔pow (φ a) qN*pow (φ a) qN=φ a:=by
 rw [zwO,decide_eq_true_iff,zuF]
 exact ⟨fun h=>Z.ext h,fun h=>congrArg Z.val h⟩
theorem rO{r t:F}(ht:t≠0)(h:r*r=-(t*t)):False:=by
 refine I6 (r*inv t) ?_
 have e:r*inv t*(r*inv t)=r*r*(inv t*inv t):=ak (aZ [r,inv t]) (x0*x1*(x0*x1)) (x0*x0*(x1*x1)) (by decide +kernel)
 have e2 : -(t*t)*(inv t*inv t)=-((t*inv t)*(t*inv t)):=ak (aZ [t,inv t]) (-(x0*x0)*(x1*x1)) (-((x0*x1)*(x0*x1))) (by decide +kernel)
 rw [e,h,e2,bs ht,mul_one]
theorem BK(a:Nat):Fg a=true↔z_ (φ a):=by
 rw [Vb]
 constructor
 ·intro h;exact ⟨_,h⟩
 ·rintro ⟨t,ht⟩
  rcases zrb (φ a) with h|h
  ·exact h
  ·by_cases h0:t=0
   ·have:φ a=0:=by rw [←ht,h0,aq]
    rw [h,this,a_]
   ·rw [←ht] at h
    exact (rO h0 h).elim
theorem q_(n:Nat):φ (du n)=-φ n:=cM _
theorem pq(m n:Nat):φ (ao m n)=φ m*φ n:=cM _
theorem Pv(m n:Nat):φ (bZ m n)=φ m+φ n:=cM _
theorem zsZ(n:Nat):φ (gW n)=inv (φ n):=cM _
theorem Bm:φ 0=0:=Z.ext (by decide +kernel)
theorem zvP(a:F): -a*-a=a*a:=by rw [gk,lM,bm]
theorem zxQ(y:Nat):φ (Y9 y)*φ (Y9 y)=φ y*φ y:=by
 unfold Y9
 split
 ·rw [q_,zvP]
 ·rfl
theorem Ug{a:Nat}(h:Fg a=true):cg a=Y9 (Qy a):=if_pos (of_decide_eq_true h)
theorem zkX{a:Nat}(h:¬Fg a=true):cg a=0:=if_neg fun e=>h (decide_eq_true e)
theorem Bx{a:Nat}(h:Fg a=true):φ (cg a)*φ (cg a)=φ a:=by
 rw [Ug h,zxQ]
 show φ ((pow (φ a) qN).val)*φ ((pow (φ a) qN).val)=φ a
 rw [cM]
 exact (Vb a).1 h
theorem zuG(a:Nat):Qy a<pN:=(pow (φ a) qN).lt
theorem zxR{y:Nat}(h:y<pN):Y9 y<pN:=by
 unfold Y9
 split
 ·exact (-φ y).lt
 ·exact h
theorem vQ(a:Nat):cg a<pN:=by
 by_cases h:Fg a=true
 ·rw [Ug h];exact zxR (zuG a)
 ·rw [zkX h];exact iz
theorem zt{x:Nat}(h:x<pN):x=(φ x).val:=by rw [←uo,oL h]
theorem zjj{x:Nat}(h:x<pN)(h0:φ x=0):x=0:=by
 rw [zt h,h0];exact Nat.zero_mod pN
def sf(z:F2):Prop:=∃ t,t*t=z
theorem znj:φ aU+φ aU=1:=Z.ext (by decide +kernel)
theorem xm(x:F):(x+x)*φ aU=x:=by
 have e:(x+x)*φ aU=x*(φ aU+φ aU):=ak (aZ [x,φ aU]) ((x0+x0)*x1) (x0*(x1+x1)) (by decide +kernel)
 rw [e,znj,mul_one]
theorem tw(c d:F):(⟨c,d⟩:F2)*⟨c,d⟩=⟨c*c-d*d,c*d+c*d⟩:=Quad.ext'
 (ak (aZ [c,d]) (x0*x0+-1*(x1*x1)) (x0*x0-x1*x1) (by decide +kernel))
 (ak (aZ [c,d]) (x0*x1+x1*x0) (x0*x1+x0*x1) (by decide +kernel))
theorem UF(z:F2):z.norm=z.a*z.a+z.b*z.b:=
 ak (aZ [z.a,z.b]) (x0*x0 - -1*(x1*x1)) (x0*x0+x1*x1) (by decide +kernel)
theorem zbv(a:N2)(n:Nat):K8 a n=true↔cg (ao (bZ a.1 n) aU)=0:=decide_eq_true_iff
theorem zbu(a:N2)(n:Nat):tE2 a n=true↔ai (AZ a n) (AZ a n)=a:=decide_eq_true_iff
theorem zfp(x y:Nat):ar (x,y)=⟨φ x,φ y⟩:=rfl
theorem zcZ(a:N2)(n:Nat):AZ a n=(oE a n,oC a n):=by unfold AZ;rfl
theorem za6(a:N2)(n:Nat):∃ s:F,(s=1∨s=-1)∧ar (AZ a n)=⟨s*φ (cg (ao (bZ a.1 n) aU)),s*φ (K4 (K8 a n) a n)⟩:=by
 have hx:oE a n=tqX (WV a n) a n:=rfl
 have hy:oC a n=tqY (K8 a n) (WV a n) a n:=rfl
 cases h:WV a n with
 | true=>
  refine ⟨-1,.inr rfl,?_⟩
  rw [h] at hx hy
  rw [zcZ,zfp,hx,hy,gk,gk,aP,aP]
  exact Quad.ext' (q_ _) (q_ _)
 | false=>
  refine ⟨1,.inl rfl,?_⟩
  rw [h] at hx hy
  rw [zcZ,zfp,hx,hy,aP,aP]
  rfl
theorem zkx{s:F}(hs:s=1∨s=-1)(x y:F):(⟨s*x,s*y⟩:F2)*⟨s*x,s*y⟩=⟨x,y⟩*⟨x,y⟩:=by
 rcases hs with rfl|rfl
 ·rw [aP,aP]
 ·exact Quad.ext' (ak (aZ [x,y]) ((-1*x0)*(-1*x0)+-1*((-1*x1)*(-1*x1))) (x0*x0+-1*(x1*x1)) (by decide +kernel))
   (ak (aZ [x,y]) ((-1*x0)*(-1*x1)+(-1*x1)*(-1*x0)) (x0*x1+x1*x0) (by decide +kernel))
theorem zKe(a:N2)(n:Nat):φ (ao (bZ a.1 n) aU)=(φ a.1+φ n)*φ aU:=by rw [pq,Pv]
theorem K3{a:N2}{z:F2}{n:Nat}{c d:F}(ha:a=dr z)(hz:z=⟨c,d⟩*⟨c,d⟩)(hh:(z.a+φ n)*φ aU=c*c):ya a n=true:=by
 have hι:ar a=z:=by rw [ha,bW]
 have ha1:φ a.1=z.a:=congrArg Quad.a hι
 have ha2:φ a.2=z.b:=congrArg Quad.b hι
 have hH:φ (ao (bZ a.1 n) aU)=c*c:=by rw [zKe,ha1,hh]
 have hq:Fg (ao (bZ a.1 n) aU)=true:=(BK _).2 ⟨c,hH.symm⟩
 have hr:=Bx hq
 rw [hH] at hr
 have hza:z.a=c*c-d*d:=by rw [hz,tw]
 have hzb:z.b=c*d+c*d:=by rw [hz,tw]
 obtain ⟨s,hs,hB⟩:=za6 a n
 have fin:∀ {x y:F},ar (AZ a n)=⟨s*x,s*y⟩→(⟨x,y⟩:F2)*⟨x,y⟩=z→tE2 a n=true:=fun {x y} h1 h2=>by
  rw [zbu]
  show dr (ar (AZ a n)*ar (AZ a n))=a
  rw [h1,zkx hs,h2,ha]
 show (tqI (K8 a n) a n&&tE2 a n)=true
 rw [aaf]
 cases h0:K8 a n with
 | true=>
  have e0:=(zbv a n).1 h0
  rw [e0,Bm,aq] at hr
  have hc:c=0:=iv hr.symm
  have zDI:z.a=-(d*d):=by rw [hza,hc,aq,j6,bG]
  have zMa:z.b=0:=by rw [hzb,hc,aS,add_zero]
  have hn:φ (du a.1)=d*d:=by rw [q_,ha1,zDI,bm]
  have hq2:Fg (du a.1)=true:=(BK _).2 ⟨d,hn.symm⟩
  have JC:=Bx hq2
  rw [hn] at JC
  refine ⟨hq2,fin hB ?_⟩
  rw [h0,e0,Bm]
  show (⟨0,φ (cg (du a.1))⟩:F2)*⟨0,φ (cg (du a.1))⟩=z
  rw [tw]
  refine Quad.ext' ?_ ?_
  ·show 0*0-φ (cg (du a.1))*φ (cg (du a.1))=z.a
   rw [JC,zDI,aq,j6,bG]
  ·show 0*φ (cg (du a.1))+0*φ (cg (du a.1))=z.b
   rw [zMa,aS,add_zero]
 | false=>
  refine ⟨hq,fin hB ?_⟩
  have e0:cg (ao (bZ a.1 n) aU)≠0:=fun h=>by
   rw [(zbv a n).2 h] at h0;cases h0
  have r0:φ (cg (ao (bZ a.1 n) aU))≠0:=fun h=>e0 (zjj (vQ _) h)
  rw [h0]
  show (⟨φ (cg (ao (bZ a.1 n) aU)),φ (ao (ao a.2 aU) (gW (cg (ao (bZ a.1 n) aU))))⟩:F2)*⟨_,φ (ao (ao a.2 aU) (gW (cg (ao (bZ a.1 n) aU))))⟩=z
  rw [pq,pq,zsZ,ha2,hzb]
  generalize φ (cg (ao (bZ a.1 n) aU))=r at hr r0
  have hy:(c*d+c*d)*φ aU=c*d:=by
   exact xm (c*d)
  rw [hy,tw]
  have hi:=bs r0
  refine Quad.ext' ?_ ?_
  ·show r*r-c*d*inv r*(c*d*inv r)=z.a
   have e:c*d*inv r*(c*d*inv r)=(c*c)*(d*d)*(inv r*inv r):=ak (aZ [c,d,inv r]) (x0*x1*x2*(x0*x1*x2)) ((x0*x0)*(x1*x1)*(x2*x2)) (by decide +kernel)
   have e2:(r*r)*(d*d)*(inv r*inv r)=(r*inv r)*(r*inv r)*(d*d):=ak (aZ [r,d,inv r]) ((x0*x0)*(x1*x1)*(x2*x2)) ((x0*x2)*(x0*x2)*(x1*x1)) (by decide +kernel)
   rw [e,←hr,e2,hi,aP,aP,hza,hr]
  ·show r*(c*d*inv r)+r*(c*d*inv r)=z.b
   have e:r*(c*d*inv r)=(r*inv r)*(c*d):=ak (aZ [r,c,d,inv r]) (x0*(x1*x2*x3)) ((x0*x3)*(x1*x2)) (by decide +kernel)
   rw [e,hi,aP,hzb]
theorem zAE(a:N2):φ (Dj a)=φ a.1*φ a.1+φ a.2*φ a.2:=by
 show φ (bZ (ao a.1 a.1) (ao a.2 a.2))=_
 rw [Pv,pq,pq]
theorem zcm(a:N2):LR a=Fg (Dj (aE a)):=rfl
theorem zco(a:N2):Pn a=ya (aE a) (vN a):=rfl
theorem zcn(a:N2):Xu a=ya (aE a) (du (vN a)):=rfl
theorem zuB(a:N2):vN a=cg (Dj (aE a)):=rfl
theorem Ga(a:N2):me a=(LR a&&(Pn a || Xu a)):=rfl
theorem m9{a:N2}(h:sf (ar a)):me a=true:=by
 obtain ⟨⟨c,d⟩,ht⟩:=h
 have hr:aE a=dr (ar a):=rfl
 have hι:ar (aE a)=ar a:=by rw [hr,bW]
 have ha1:φ (aE a).1=c*c-d*d:=by
  have:=congrArg Quad.a hι
  rw [←ht,tw] at this;exact this
 have ha2:φ (aE a).2=c*d+c*d:=by
  have:=congrArg Quad.b hι
  rw [←ht,tw] at this;exact this
 have sQ:φ (Dj (aE a))=(c*c+d*d)*(c*c+d*d):=by
  rw [zAE,ha1,ha2]
  exact ak (aZ [c,d]) ((x0*x0-x1*x1)*(x0*x0-x1*x1)+(x0*x1+x0*x1)*(x0*x1+x0*x1)) ((x0*x0+x1*x1)*(x0*x0+x1*x1)) (by decide +kernel)
 have hi:LR a=true:=by rw [zcm,BK];exact ⟨_,sQ.symm⟩
 have hn:φ (vN a)*φ (vN a)=(c*c+d*d)*(c*c+d*d):=by
  rw [zuB,Bx (by rw [←zcm];exact hi),sQ]
 have hza:(ar a).a=c*c-d*d:=by rw [←ht,tw]
 have half:((ar a).a+(c*c+d*d))*φ aU=c*c:=by
  rw [hza,show c*c-d*d+(c*c+d*d)=c*c+c*c from ak (aZ [c,d]) (x0*x0-x1*x1+(x0*x0+x1*x1)) (x0*x0+x0*x0) (by decide +kernel),xm]
 rw [Ga,hi,Bool.true_and,Bool.or_eq_true]
 rcases ry hn with e|e
 ·left;rw [zco];exact K3 hr ht.symm (by rw [e];exact half)
 ·right;rw [zcn];exact K3 hr ht.symm (by rw [q_,e,bm];exact half)
theorem TE{a:N2}{n:Nat}(h:ya (aE a) n=true):ar (AZ (aE a) n)*ar (AZ (aE a) n)=ar a:=by
 have h2:tE2 (aE a) n=true:=by
  have:(tqI (K8 (aE a) n) (aE a) n&&tE2 (aE a) n)=true:=h
  rw [aaf] at this;exact this.2
 rw [zbu] at h2
 exact fR h2
theorem zkZ{a:N2}(h0:LR a=true)(h1:Pn a=true):(kt a,kq a)=AZ (aE a) (vN a):=by
 show (A6 (LR a) (Pn a) (Xu a) (oE (aE a) (vN a)) (oE (aE a) (du (vN a))),A6 (LR a) (Pn a) (Xu a) (oC (aE a) (vN a)) (oC (aE a) (du (vN a))))=_
 rw [h0,h1,Ic,Ic];rfl
theorem zkY{a:N2}(h0:LR a=true)(h1:Pn a=false)(h2:Xu a=true):(kt a,kq a)=AZ (aE a) (du (vN a)):=by
 show (A6 (LR a) (Pn a) (Xu a) (oE (aE a) (vN a)) (oE (aE a) (du (vN a))),A6 (LR a) (Pn a) (Xu a) (oC (aE a) (vN a)) (oC (aE a) (du (vN a))))=_
 rw [h0,h1,h2,zcd,zcd];rfl
theorem rv{a:N2}(h:me a=true):ar (kt a,kq a)*ar (kt a,kq a)=ar a:=by
 rw [Ga,aaf] at h
 obtain ⟨h0,h1⟩:=h
 cases ha:Pn a with
 | true=>rw [zkZ h0 ha];exact TE (by rw [←zco];exact ha)
 | false=>
  rw [ha,Bool.false_or] at h1
  rw [zkY h0 ha h1];exact TE (by rw [←zcn];exact h1)
theorem zvl{h1 h2 m:F}(h:h1*h2=-(m*m)):z_ h1∨z_ h2:=by
 rcases ss h1 with h|⟨s,hs⟩
 ·exact .inl h
 ·by_cases s0:s=0
  ·refine .inl ⟨0,?_⟩
   rw [s0,aq] at hs
   rw [aq,←bm h1,←hs,a_]
  ·refine .inr ⟨m*inv s,?_⟩
   have e:m*inv s*(m*inv s)=- -(m*m)*(inv s*inv s):=ak (aZ [m,inv s]) (x0*x1*(x0*x1)) (- -(x0*x0)*(x1*x1)) (by decide +kernel)
   have e2 : -(h1*h2)*(inv s*inv s)=-h1*h2*(inv s*inv s):=ak (aZ [h1,h2,inv s]) (-(x0*x1)*(x2*x2)) (-x0*x1*(x2*x2)) (by decide +kernel)
   have e3:s*s*h2*(inv s*inv s)=(s*inv s)*(s*inv s)*h2:=ak (aZ [s,h2,inv s]) (x0*x0*x1*(x2*x2)) ((x0*x2)*(x0*x2)*x1) (by decide +kernel)
   rw [e,←h,e2,←hs,e3,bs s0,aP,aP]
theorem zbT{z:F2}{c h':F}(h1:c*c+h'=z.a)(h2:c*c*h'=-((z.b*φ aU)*(z.b*φ aU))):sf z:=by
 have hb:z.b=z.b*φ aU+z.b*φ aU:=by
  have e:z.b*φ aU+z.b*φ aU=(z.b+z.b)*φ aU:=ak (aZ [z.b,φ aU]) (x0*x1+x0*x1) ((x0+x0)*x1) (by decide +kernel)
  rw [e,xm]
 generalize hm:z.b*φ aU=m at h2 hb
 by_cases c0:c=0
 ·rw [c0,aq,aS] at h2
  have m0:m=0:=iv (by rw [←bm (m*m),←h2,a_])
  rw [m0,add_zero] at hb
  rcases ss z.a with ⟨e,he⟩|⟨e,he⟩
  ·refine ⟨⟨e,0⟩,?_⟩
   rw [tw]
   exact Quad.ext' (by show e*e-0*0=z.a;rw [he,aq,j6,a_,add_zero]) (by show e*0+e*0=z.b;rw [hb,aq,add_zero])
  ·refine ⟨⟨0,e⟩,?_⟩
   rw [tw]
   exact Quad.ext' (by show 0*0-e*e=z.a;rw [he,aq,j6,bG,bm]) (by show 0*e+0*e=z.b;rw [hb,aS,add_zero])
 ·refine ⟨⟨c,m*inv c⟩,?_⟩
  have hi:=bs c0
  have e:m*inv c*(m*inv c)=-h':=by
   have e1:m*inv c*(m*inv c)=- -(m*m)*(inv c*inv c):=ak (aZ [m,inv c]) (x0*x1*(x0*x1)) (- -(x0*x0)*(x1*x1)) (by decide +kernel)
   have e2 : -(c*c*h')*(inv c*inv c)=-((c*inv c)*(c*inv c)*h'):=ak (aZ [c,h',inv c]) (-(x0*x0*x1)*(x2*x2)) (-((x0*x2)*(x0*x2)*x1)) (by decide +kernel)
   rw [e1,←h2,e2,hi,aP,aP]
  have e3:c*(m*inv c)=m:=by
   rw [ef,hi,mul_one]
  rw [tw,e3,e,j6,bm,h1,←hb]
theorem Al{z:F2}(h:z_ z.norm):sf z:=by
 obtain ⟨n,hn⟩:=h
 rw [UF] at hn
 have hp:(z.a+n)*φ aU*((z.a-n)*φ aU)=-((z.b*φ aU)*(z.b*φ aU)):=by
  have e:(z.a+n)*φ aU*((z.a-n)*φ aU)=(z.a*z.a-n*n)*(φ aU*φ aU):=ak (aZ [z.a,n,φ aU]) ((x0+x1)*x2*((x0-x1)*x2)) ((x0*x0-x1*x1)*(x2*x2)) (by decide +kernel)
  rw [e,hn]
  exact ak (aZ [z.a,z.b,φ aU]) ((x0*x0-(x0*x0+x1*x1))*(x2*x2)) (-((x1*x2)*(x1*x2))) (by decide +kernel)
 have hs:(z.a+n)*φ aU+(z.a-n)*φ aU=z.a:=by
  have e:(z.a+n)*φ aU+(z.a-n)*φ aU=(z.a+z.a)*φ aU:=ak (aZ [z.a,n,φ aU]) ((x0+x1)*x2+(x0-x1)*x2) ((x0+x0)*x2) (by decide +kernel)
  rw [e,xm]
 rcases zvl hp with ⟨c,hc⟩|⟨c,hc⟩
 ·rw [←hc] at hp hs;exact zbT hs hp
 ·rw [←hc] at hp hs
  rw [add_comm] at hs
  rw [mul_comm] at hp
  exact zbT hs hp
theorem zlQ{z:F2}(h:sf z):z_ z.norm:=by
 obtain ⟨t,rfl⟩:=h
 exact ⟨t.norm,(iV t t).symm⟩
end Sh
end Go.Proofs.YtcafpgpahbplaaaGreat
namespace Go.Alg
open Go.Pr
theorem zvb:∀ (k m:Nat) (f:Nat→Nat),(∀ i,i<m→f i<k)→k<m→∃ i j,i<j∧j<m∧f i=f j:=by
 intro k
 induction k with
 | zero=>intro m f h hm;exact absurd (h 0 hm) (Nat.not_lt_zero _)
 | succ k ih=>
  intro m f h hm
  by_cases hex:∃ i0,i0<m∧f i0=k
  ·obtain ⟨i0,h0,e0⟩:=hex
   by_cases zEc:∃ i1,i1<m∧i1≠i0∧f i1=k
   ·obtain ⟨i1,h1,kN,e1⟩:=zEc
    rcases Nat.lt_or_gt_of_ne kN with hl|hl
    ·exact ⟨i1,i0,hl,h0,by rw [e0,e1]⟩
    ·exact ⟨i0,i1,hl,h1,by rw [e0,e1]⟩
   ·have hs:∀ i,i<m→i≠i0→f i<k:=fun i hi hn=>by
     have h1:=h i hi
     have h2:f i≠k:=fun e=>zEc ⟨i,hi,hn,e⟩
     omega
    have hsk:∀ i,i<m-1→(if i<i0 then i else i+1)<m∧(if i<i0 then i else i+1)≠i0:=fun i hi=>by split<;>omega
    obtain ⟨i,j,hij,hj,e⟩:=ih (m-1) (fun i=>f (if i<i0 then i else i+1)) (fun i hi=>hs _ (hsk i hi).1 (hsk i hi).2) (by omega)
    exact ⟨_,_,by split<;>split<;>omega,(hsk j hj).1,e⟩
  ·exact ih m f (fun i hi=>by have h1:=h i hi;have h2:f i≠k:=fun e=>hex ⟨i,hi,e⟩;omega) (by omega)
class Ab(G:Type) where
 zero:G
 add:G→G→G
 neg:G→G
 add_comm:∀ a b,add a b=add b a
 add_assoc:∀ a b c,add (add a b) c=add a (add b c)
 add_zero:∀ a,add a zero=a
 add_neg:∀ a,add a (neg a)=zero
section
variable {G:Type}[Ab G]
theorem km(a:G):Ab.add Ab.zero a=a:=by rw [Ab.add_comm,Ab.add_zero]
theorem zX{a b c:G}(h:Ab.add a b=Ab.add a c):b=c:=by
 have:=congrArg (Ab.add (Ab.neg a)) h
 rwa [←Ab.add_assoc,←Ab.add_assoc,Ab.add_comm (Ab.neg a),Ab.add_neg,km,km] at this
theorem KA(a b c:G):Ab.add a (Ab.add b c)=Ab.add b (Ab.add a c):=by rw [←Ab.add_assoc,Ab.add_comm a b,Ab.add_assoc]
theorem KB(a b c d:G):Ab.add (Ab.add a b) (Ab.add c d)=Ab.add (Ab.add a c) (Ab.add b d):=by
 rw [Ab.add_assoc,Ab.add_assoc,KA b c d]
def nsm:Nat→G→G
 | 0,_=>Ab.zero
 | n+1,x=>Ab.add (nsm n x) x
theorem jo(n:Nat):nsm n (Ab.zero:G)=Ab.zero:=by
 induction n with
 | zero=>rfl
 | succ n ih=>show Ab.add (nsm n Ab.zero) Ab.zero=_;rw [ih,Ab.add_zero]
theorem wH(x:G):nsm 1 x=x:=km x
theorem jc(m n:Nat)(x:G):nsm (m+n) x=Ab.add (nsm m x) (nsm n x):=by
 induction n with
 | zero=>exact (Ab.add_zero _).symm
 | succ n ih=>show Ab.add (nsm (m+n) x) x=Ab.add (nsm m x) (Ab.add (nsm n x) x);rw [ih,Ab.add_assoc]
theorem dO(m n:Nat)(x:G):nsm (m*n) x=nsm m (nsm n x):=by
 induction m with
 | zero=>rw [Nat.zero_mul];rfl
 | succ m ih=>rw [abP,jc,ih];rfl
theorem oR(n:Nat)(x y:G):nsm n (Ab.add x y)=Ab.add (nsm n x) (nsm n y):=by
 induction n with
 | zero=>exact (Ab.add_zero _).symm
 | succ n ih=>show Ab.add (nsm n (Ab.add x y)) (Ab.add x y)=Ab.add (Ab.add (nsm n x) x) (Ab.add (nsm n y) y);rw [ih,KB]
theorem lX(m n:Nat)(x:G):nsm m (nsm n x)=nsm n (nsm m x):=by rw [←dO,aar,dO]
theorem UD{n a:Nat}{x:G}(h:nsm n x=Ab.zero)(hd:n ∣ a):nsm a x=Ab.zero:=by
 obtain ⟨k,rfl⟩:=hd
 rw [aar,dO,h,jo]
theorem wI{n:Nat}{x:G}(hn:0<n)(h:nsm n x=Ab.zero)(a:Nat):Ab.add (nsm a x) (nsm ((n-1)*a) x)=Ab.zero:=by
 rw [←jc]
 have:a+(n-1)*a=n*a:=by
  obtain ⟨k,rfl⟩:∃ k,n=k+1:=⟨n-1,by omega⟩
  rw [ac6,abP,Nat.add_comm]
 rw [this,aar,dO,h,jo]
theorem zlP{x:G}(m k:Nat)(h1:nsm m x=Ab.zero)(h2:nsm k x=Ab.zero):nsm (Nat.gcd m k) x=Ab.zero:=by
 induction m,k using Nat.gcd.induction with
 | H0 k=>rw [Nat.gcd_zero_left];exact h2
 | H1 m k hm ih=>
  rw [Nat.gcd_rec]
  refine ih ?_ h1
  have e:=aaZ k m
  rw [←e,jc,aar,dO,h1,jo,km] at h2
  exact h2
theorem Mh{x:G}{n:Nat}(DP:0<n)(hn:nsm n x=Ab.zero)(hq:∀ q,Prime q→q ∣ n→nsm (n/q) x≠Ab.zero){a:Nat}(ha:nsm a x=Ab.zero):n ∣ a:=by
 have hd:=zlP a n ha hn
 obtain ⟨e,he⟩:=Nat.gcd_dvd_right a n
 have hg:=Nat.gcd_dvd_left a n
 generalize Nat.gcd a n=d at hd he hg
 have hd0:d≠0:=by rintro rfl;rw [Nat.zero_mul] at he;omega
 by_cases h1:e=1
 ·rw [h1,Nat.mul_one] at he;rw [he];exact hg
 ·have he0:e≠0:=by rintro rfl;rw [Nat.mul_zero] at he;omega
  obtain ⟨q,hp,hqe⟩:=p9 e (by omega)
  refine absurd ?_ (hq q hp (Nat.dvd_trans hqe ⟨d,by rw [he,aar]⟩))
  obtain ⟨f,rfl⟩:=hqe
  have:n/q=f*d:=by
   rw [he,show d*(q*f)=q*(f*d) by rw [Nat.mul_left_comm,aar d f],adS _ (iy hp)]
  rw [this,dO,hd,jo]
theorem V2{m n a c:Nat}(hn:0<n)(hmn:m ∣ n)(ha:a<m)(hc:c<m)(h:m ∣ a+(n-1)*c):a=c:=by
 obtain ⟨k,rfl⟩:=hmn
 obtain ⟨j,hj⟩:=h
 have e1:(m*k-1)*c+c=m*(k*c):=by
  obtain ⟨t,ht⟩:∃ t,m*k=t+1:=⟨m*k-1,by omega⟩
  rw [ht,ac6,←abP,←Nat.mul_assoc,ht]
 have e2:a+m*(k*c)=c+m*j:=by omega
 have e3:=congrArg (· % m) e2
 simp only [Nat.add_mul_mod_self_left] at e3
 rwa [aah ha,aah hc] at e3
theorem PU(enc:G→Nat)(B:Nat)(zw6:∀ x,enc x<B)(inj:∀ x y,enc x=enc y→x=y)(g h:G)(n m:Nat)(DP:0<n)(hmn:m ∣ n)
  (hg:nsm n g=Ab.zero) (hh:nsm n h=Ab.zero) (ind:∀ a c,Ab.add (nsm a g) (nsm c h)=Ab.zero→m ∣ c) (ord:∀ a,nsm a g=Ab.zero→n ∣ a) (hB:B<3*(n*m)) (q:G) :
  ∃ a c,nsm 2 q=Ab.add (nsm a g) (nsm c h):=by
 have hm0:0<m:=Nat.pos_of_dvd_of_pos hmn DP
 obtain ⟨i,j,hij,hj,e⟩:=zvb B (3*(n*m)) (fun i=>enc (Ab.add (nsm (i/(n*m)) q) (Ab.add (nsm (i%n) g) (nsm (i/n%m) h)))) (fun i _=>zw6 _) hB
 have e:=inj _ _ e
 have hle:i/(n*m)≤j/(n*m):=Nat.div_le_div_right (Nat.le_of_lt hij)
 have hlt:j/(n*m)<3:=Nat.div_lt_of_lt_mul (by rw [aar];exact hj)
 obtain ⟨d,hd⟩:∃ d,j/(n*m)=i/(n*m)+d:=⟨_,(Nat.add_sub_cancel' hle).symm⟩
 rw [hd,jc,Ab.add_assoc] at e
 have e:=zX e
 have e2:=congrArg (fun z=>Ab.add z (Ab.add (nsm ((n-1)*(j%n)) g) (nsm ((n-1)*(j/n%m)) h))) e
 simp only [Ab.add_assoc (nsm d q)] at e2
 rw [KB,KB (nsm (j%n) g),wI DP hg,wI DP hh,Ab.add_zero,Ab.add_zero,←jc,←jc] at e2
 match d,hd with
 | 0,hd=>
  have e3:Ab.add (nsm (i%n+(n-1)*(j%n)) g) (nsm (i/n%m+(n-1)*(j/n%m)) h)=Ab.zero:=e2
  have hc:=V2 DP hmn (aaH _ hm0) (aaH _ hm0) (ind _ _ e3)
  have hz:nsm (i/n%m+(n-1)*(j/n%m)) h=Ab.zero:=by rw [hc,jc];exact wI DP hh _
  rw [hz,Ab.add_zero] at e3
  have ha:=V2 DP (Nat.dvd_refl n) (aaH _ DP) (aaH _ DP) (ord _ e3)
  exfalso
  have k1:=aaZ i n
  have k2:=aaZ j n
  have k3:=aaZ (i/n) m
  have k4:=aaZ (j/n) m
  rw [Nat.div_div_eq_div_mul] at k3 k4
  rw [hd,Nat.add_zero,←hc,k3] at k4
  rw [←k4,←ha,k1] at k2
  omega
 | 1,_=>exact ⟨2*(i%n+(n-1)*(j%n)),2*(i/n%m+(n-1)*(j/n%m)),by rw [dO 2,dO 2,←oR,e2,wH]⟩
 | 2,_=>exact ⟨_,_,e2.symm⟩
 | d+3,hd=>exact absurd (hd ▸ hlt) (Nat.not_lt.2 (Nat.le_trans (Nat.le_add_left 3 d) (Nat.le_add_left _ _)))
theorem Jz{l c:Nat}(hl:Prime l)(hc:¬l ∣ c):∃ c' t,c'*c=t*l+1:=by
 haveI:Pos l:=⟨iy hl⟩
 have h:=pZ hl (Z.of l c) (fun e=>hc (jn.1 e))
 refine ⟨(pow (Z.of l c) (l-2)).val,(c*(pow (Z.of l c) (l-2)).val)/l,?_⟩
 generalize pow (Z.of l c) (l-2)=z at h ⊢
 rw [←Z.of_val z,←Z.of_mul] at h
 have h1:(c*z.val)%l=1%l:=congrArg Z.val h
 rw [aah (show 1<l from hl.two_le)] at h1
 have:=aaZ (c*z.val) l
 rw [h1,aar l] at this
 rw [this,aar]
theorem zg{l n:Nat}(hl:Prime l)(hln:l ∣ n){g h:G}(hg:nsm n g=Ab.zero)(hh:nsm n h=Ab.zero)(cv:∀ c,nsm (n/l) h≠nsm c (nsm (n/l) g)){a c:Nat}(e:Ab.add (nsm a g) (nsm c h)=Ab.zero):l ∣ c:=by
 refine Classical.byContradiction fun hc=>?_
 obtain ⟨c',t,ht⟩:=Jz hl hc
 obtain ⟨k,rfl⟩:=hln
 have hl0:=iy hl
 rw [adS _ hl0] at cv
 rw [dO] at hg hh
 have e1:=congrArg (nsm k) e
 rw [oR,jo,lX k a,lX k c] at e1
 generalize nsm k g=x at *
 generalize nsm k h=y at *
 have e2:=congrArg (nsm c') e1
 rw [oR,jo,←dO,←dO,ht,jc,dO t l,hh,jo,km,wH] at e2
 have e3:=wI hl0 hg (c'*a)
 exact cv _ (zX (e2.trans e3.symm))
theorem zm6(c:Nat):¬11 ∣ c*c+c+1:=by
 intro h
 have h1:=acE h
 rw [abl,abl (c*c),Nat.mul_mod] at h1
 have h2:=aaH c (show 0<11 by decide)
 generalize c%11=x at h1 h2
 revert h1
 revert x
 decide
theorem zm5(c:Nat):¬23 ∣ c*c+c+1:=by
 intro h
 have h1:=acE h
 rw [abl,abl (c*c),Nat.mul_mod] at h1
 have h2:=aaH c (show 0<23 by decide)
 generalize c%23=x at h1 h2
 revert h1
 revert x
 decide
theorem zfe{l k:Nat}(hl:Prime l)(hk:l=3*k+2)(h3:¬l ∣ 3)(c:Nat):¬l ∣ c*c+c+1:=by
 intro h
 haveI:Pos l:=⟨iy hl⟩
 have h0:Z.of l c*Z.of l c+Z.of l c+1=0:=by
  have:=jn.2 h
  rwa [Z.of_add,Z.of_add,Z.of_mul] at this
 generalize Z.of l c=z at h0
 have hz:pow z 3=1:=by
  rw [aC,aC,ft]
  have:z*z*z-1=0:=by
   have:=fN (aZ [z]) (v0*v0*v0-1) 0 (v0-1) (v0*v0+v0+1) 0 h0 (by decide +kernel)
   exact this
  exact m5 this
 have kN:z≠0:=by
  intro e
  rw [e,B9 (by decide)] at hz
  have:(0:Nat)%l=1%l:=congrArg Z.val hz
  rw [Nat.zero_mod,aah hl.two_le] at this
  omega
 have hf:=pZ hl z kN
 have e2:z*pow z (l-2)=z:=by
  have:pow z (l-2)=1:=by
   rw [show l-2=3*k by omega,cC,hz,fT]
  rw [this,mul_one]
 rw [hf] at e2
 rw [←e2,mul_one] at h0
 apply h3
 exact jn.1 (show Z.of l 3=0 from (show Z.of l 3=1+1+1 from (Z.of_add 2 1).trans (congrArg (· + 1) (Z.of_add 1 1))).trans h0)
end
section
variable {G:Type}[Ab G]
structure Om(f:G→G):Prop where
 add:∀ x y,f (Ab.add x y)=Ab.add (f x) (f y)
 zero:f Ab.zero=Ab.zero
 om:∀ x,Ab.add (Ab.add (f (f x)) (f x)) x=Ab.zero
theorem Om.nsm{f:G→G}(H:Om f)(n:Nat)(x:G):f (nsm n x)=Alg.nsm n (f x):=by
 induction n with
 | zero=>exact H.zero
 | succ n ih=>show f (Ab.add (Alg.nsm n x) x)=Ab.add (Alg.nsm n (f x)) (f x);rw [H.add,ih]
theorem Om.root{f:G→G}(H:Om f){x:G}{c:Nat}(e:f x=Alg.nsm c x):Alg.nsm (c*c+c+1) x=Ab.zero:=by
 have:=H.om x
 rw [e,H.nsm,e,←dO,←jc] at this
 exact this
theorem Ax{l:Nat}(hl:Prime l){x:G}(hx:nsm l x=Ab.zero)(h0:x≠Ab.zero){a:Nat}(ha:nsm a x=Ab.zero):l ∣ a:=by
 refine Mh (iy hl) hx (fun q hq hd=>?_) ha
 have hql:q=l:=by
  rcases hl.2 q hd with e|e
  ·exact absurd hq.two_le (by omega)
  ·exact e
 rw [hql,Nat.div_self (iy hl),wH]
 exact h0
theorem Om.inert{f:G→G}(H:Om f){l:Nat}(hl:Prime l){x:G}(hx:Alg.nsm l x=Ab.zero)(h0:x≠Ab.zero)(cv:∀ c,¬l ∣ c*c+c+1)(c:Nat):f x≠Alg.nsm c x:=
 fun e=>cv c (Ax hl hx h0 (H.root e))
theorem Om.split{f:G→G}(H:Om f){l s t k:Nat}(hl:Prime l){x:G}(hx:Alg.nsm l x=Ab.zero)(h0:x≠Ab.zero)(jd:s+t=l+1)(hp:s*t=l*k+1)
  (h1:Ab.add (f x) (Alg.nsm s x)≠Ab.zero) (h2:Ab.add (f x) (Alg.nsm t x)≠Ab.zero) (c:Nat):f x≠Alg.nsm c x:=by
 intro e
 have hd:=Ax hl hx h0 (H.root e)
 have e2:(c+s)*(c+t)=(c*c+c+1)+l*(c+k):=by
  have:(c+s)*(c+t)=c*c+c*(s+t)+s*t:=by
   rw [Nat.add_mul,abB,abB,abB,aar s c];omega
  rw [this,jd,hp,abB,abB,aar c l];omega
 have hd2:l ∣ (c+s)*(c+t):=by rw [e2];exact Nat.dvd_add hd ⟨_,rfl⟩
 rcases hl.dvd_mul hd2 with h|h
 ·have:=UD hx h
  rw [jc,←e] at this
  exact h1 this
 ·have:=UD hx h
  rw [jc,←e] at this
  exact h2 this
end
section
variable {G:Type}[Ab G]
theorem yQ{l n:Nat}(hd:l ∣ n){x:G}(h:nsm n x=Ab.zero):nsm l (nsm (n/l) x)=Ab.zero:=by
 rw [←dO,Nat.mul_div_cancel' hd];exact h
theorem zhD{f:G→G}(H:Om f){g bb:G}{r h t w lam s:Nat}(hu:t*h=1+r*w)(hb:nsm h g=nsm h bb)(hl:f bb=nsm lam bb)(hr:r+1=s*2){q:G}(hq:nsm r q=Ab.zero){a c:Nat}
  (e:nsm 2 q=Ab.add (nsm a g) (nsm c (f g))):∃ k,q=nsm k bb:=by
 have e1:nsm (t*h) (nsm 2 q)=nsm 2 q:=by
  rw [hu,jc,wH,aar,dO,lX r 2,hq,jo,jo,Ab.add_zero]
 have e2:nsm 2 q=nsm (t*(a*h+c*(h*lam))) bb:=by
  rw [←e1,e,dO,oR,lX h a,lX h c,hb,←H.nsm,hb,H.nsm,hl,←dO h,←dO a,←dO c,←jc,←dO]
 refine ⟨s*(t*(a*h+c*(h*lam))),?_⟩
 have e3:nsm (r+1) q=q:=by rw [jc,hq,km,wH]
 rw [dO,←e2,←dO,←hr,e3]
end
section
variable {K:Type}[CRing K]
def Gp(b:K):Type:={ p:Pt K // On b p }
theorem Gp.ext{b:K}{p q:Gp b}(h:p.1=q.1):p=q:=Subtype.ext h
theorem GK{b:K}{p:Gp b}{q:Pt K}(h:p.1=q):On b q:=h ▸ p.2
def Gp.of{b:K}{p:Pt K}(h:On b p):Gp b:=⟨p,h⟩
end
section
variable {K:Type}[CRing K][IsField K]{b:K}
noncomputable instance [C:Cv K b]:Ab (Gp b) where
 zero:=⟨.inf,trivial⟩
 add p q:=⟨padd p.1 q.1,fL C p.2 q.2⟩
 neg p:=⟨p.1.neg,db p.2⟩
 add_comm p q:=Gp.ext (bI C p.2 q.2)
 add_assoc p q r:=Gp.ext (ep C p.2 q.2 r.2)
 add_zero p:=Gp.ext (dq p.1)
 add_neg p:=Gp.ext (dZ C p.1)
theorem ee[C:Cv K b](n:Nat)(p:Gp b):(nsm n p).1=smul n p.1:=by
 induction n with
 | zero=>rfl
 | succ n ih=>show padd (nsm n p).1 p.1=padd (smul n p.1) p.1;rw [ih]
theorem sR[C:Cv K b]{p:Gp b}:p=Ab.zero↔p.1 = .inf:=⟨fun h=>congrArg ad3 h,fun h=>Gp.ext h⟩
def omP(u:K):Pt K→Pt K:=ZY (fun x=>x) u 1
theorem zdg{u:K}(C:Cv K b)(hu:u*u+u+1=0):Hm b (fun x=>x) u 1 where
 add _ _:=rfl
 mul _ _:=rfl
 neg _:=rfl
 inj _ _ h:=h
 une h:=by rw [h,aq,add_zero,bG] at hu;exact absurd hu bB
 uv:=by
  have:=fN (aZ [u]) (1*1) (v0*v0*v0) (-(v0-1)) (v0*v0+v0+1) 0 hu (by decide +kernel)
  exact this
 bb:=by
  have:=fN (aZ [u,b]) (v0*v0*v0*v1) v1 ((v0-1)*v1) (v0*v0+v0+1) 0 hu (by decide +kernel)
  exact this
theorem zdf{u:K}(C:Cv K b)(hu:u*u+u+1=0){p:Pt K}(hp:On b p):padd (padd (omP u (omP u p)) (omP u p)) p = .inf:=by
 cases p with
 | inf=>rfl
 | aff x y=>
  have hp:y*y=x*x*x+b:=hp
  show padd (padd (.aff (x*u*u) (y*1*1)) (.aff (x*u) (y*1))) (.aff x y) = .inf
  rw [mul_one,mul_one]
  have hl:Ln b (x*u*u) y (x*u) y 0:=by
   refine ⟨?_,?_,?_⟩
   ·have:=zb (aZ [x,y,u,b]) (v1*v1) (v0*v2*v2*(v0*v2*v2)*(v0*v2*v2)+v3) 1 (v1*v1) (v0*v0*v0+v3) (-(v0*v0*v0*(v2-1)*(v2*v2*v2+1))) (v2*v2+v2+1) 0 hp hu (by decide +kernel)
    exact this
   ·exact ak (aZ [x,y,u]) v1 (v1+0*(v0*v2-v0*v2*v2)) (by decide +kernel)
   ·have:=fN (aZ [x,y,u]) (0*(v1+v1)) (v0*v2*(v0*v2)+v0*v2*v2*(v0*v2)+v0*v2*v2*(v0*v2*v2)) (-(v0*v0*v2*v2)) (v2*v2+v2+1) 0 hu (by decide +kernel)
    exact this
  have hn:¬(x*u*u=x*u∧y=-y):=by
   rintro ⟨e1,e2⟩
   have hy:=kg C e2
   have hu0:u≠0:=(zdg (b:=b) C hu).une
   have e3:u*(x*(u-1))=0:=by
    have:=fN (aZ [x,u]) (v1*(v0*(v1-1))) 0 1 (v0*v1*v1) (v0*v1) e1 (by decide +kernel)
    exact this
   rcases cc.1 e3 with h|h
   ·exact hu0 h
   ·rcases cc.1 h with h|h
    ·rw [hy,h,aq,aq,bG] at hp
     exact C.bne hp.symm
    ·have hu1:u=1:=m5 h
     rw [hu1,mul_one] at hu
     exact C.three hu
  rw [dm C hl hn]
  have ex:(0:K)*0-x*u*u-x*u=x:=by
   have:=fN (aZ [x,u]) (0*0-v0*v1*v1-v0*v1) v0 (-v0) (v1*v1+v1+1) 0 hu (by decide +kernel)
   exact this
  unfold sumBy
  rw [ex,aS]
  have ey:(0:K)-y=-y:=by rw [j6,bG]
  rw [ey]
  have:=dT x (-y) C
  rwa [bm] at this
def De(u:K)(C:Cv K b)(hu:u*u+u+1=0)(p:Gp b):Gp b:=⟨omP u p.1,((zdg C hu).on p.1).2 p.2⟩
theorem Q9{u:K}[C:Cv K b](hu:u*u+u+1=0):Om (De u C hu) where
 add p q:=Gp.ext ((zdg C hu).mp_add C p.2 q.2)
 zero:=rfl
 om p:=Gp.ext (zdf C hu p.2)
theorem zvL(C:Cv K b)(hb:∀ x:K,x*x*x≠-b){p:Pt K}(hp:On b p)(h:padd p p = .inf):p = .inf:=by
 cases p with
 | inf=>rfl
 | aff x y=>
  have hp:y*y=x*x*x+b:=hp
  rw [eI,if_pos rfl] at h
  split at h
  ·rename_i h2
   rcases h2 with h2|h2
   ·exact absurd rfl h2
   ·rw [h2,aq] at hp
    refine absurd ?_ (hb x)
    have:=fN (aZ [x,b]) (v0*v0*v0) (-v1) (-1) 0 (v0*v0*v0+v1) hp (by decide +kernel)
    exact this
  ·cases h
theorem zjL[C:Cv K b](hb:∀ x:K,x*x*x≠-b){p:Gp b}(h:nsm 2 p=Ab.zero):p=Ab.zero:=by
 refine sR.2 (zvL C hb p.2 ?_)
 have:=congrArg ad3 h
 exact (congrArg (padd · p.1) (b6 p.1)).symm.trans this
theorem mW(C:Cv K b){tz:K→Bool}(ht:∀ x,tz x=true↔x=0){m:Nat}{qx qy x y:K}(hq:On b (.aff qx qy))(g:Nat)(hg:m<2^g)(h:jis tz (Fc tz m qx qy g ⟨0,0,0⟩) x y=false):smul m (.aff qx qy)≠.aff x y:=by
 intro e
 have hr:=BJ C ht hq g hg
 rw [e] at hr
 obtain ⟨h1,h2,h3⟩:=hr
 have:jis tz (Fc tz m qx qy g ⟨0,0,0⟩) x y=true:=by
  unfold jis
  have hz:∀ a c:K,a=c→tz (a-c)=true:=fun a c e=>(ht _).2 (by rw [e,cL])
  rw [hz _ _ h2,hz _ _ h3]
  cases h4:tz (Fc tz m qx qy g ⟨0,0,0⟩).z with
  | true=>exact absurd ((ht _).1 h4) h1
  | false=>rfl
 rw [h] at this;cases this
theorem Vr[C:Cv K b]{u:K}(hu:u*u+u+1=0)(hb:∀ x:K,x*x*x≠-b)(enc:Pt K→Nat)(B:Nat)(zw6:∀ p,On b p→enc p<B)(inj:∀ p q,On b p→On b q→enc p=enc q→p=q)
  (g:Gp b) (n m:Nat) (DP:0<n) (hmn:m ∣ n) (hg:nsm n g=Ab.zero) (ind:∀ a c,Ab.add (nsm a g) (nsm c (De u C hu g))=Ab.zero→m ∣ c) (ord:∀ q,Prime q→q ∣ n→nsm (n/q) g≠Ab.zero) (hB:B<3*(n*m)) (q:Gp b) :
  nsm n q=Ab.zero∧∃ a c,nsm 2 q=Ab.add (nsm a g) (nsm c (De u C hu g)):=by
 have hh:nsm n (De u C hu g)=Ab.zero:=by rw [←(Q9 hu).nsm,hg];rfl
 obtain ⟨a,c,e⟩:=PU (fun p:Gp b=>enc p.1) B (fun p=>zw6 p.1 p.2) (fun p q h=>Gp.ext (inj p.1 q.1 p.2 q.2 h)) g (De u C hu g) n m DP hmn hg hh ind (fun a ha=>Mh DP hg ord ha) hB q
 refine ⟨zjL hb ?_,a,c,e⟩
 rw [lX,e,oR,lX n,hg,jo,lX n,hh,jo,Ab.add_zero]
theorem oG[C:Cv K b]{u:K}(hu:u*u+u+1=0){x:Gp b}{s:Nat}{gx gy:K}(hx:x.1 = .aff gx gy)(h:smul s (.aff gx gy)≠.aff (gx*u) (-gy)):Ab.add (De u C hu x) (nsm s x)≠Ab.zero:=by
 intro e
 have e2:nsm s x=Ab.neg (De u C hu x):=by
  have:=Ab.add_neg (De u C hu x)
  exact zX (e.trans this.symm)
 have e3:=congrArg ad3 e2
 rw [ee,hx] at e3
 apply h
 rw [e3]
 show (omP u x.1).neg=_
 rw [hx]
 show Pt.aff (gx*u) (-(gy*1))=_
 rw [mul_one]
theorem fI[C:Cv K b]{x:Gp b}{gx gy:K}(hx:x.1 = .aff gx gy):x≠Ab.zero:=by
 intro e
 rw [sR.1 e] at hx;cases hx
theorem zjT(C:Cv K b){n r c:Nat}(hd:n ∣ r*c){q:Pt K}(hq:On b q)(ha:smul n q = .inf):Go.Proofs.YtcafpgpahbplaaaGreat.Tor b r (smul c q):=⟨dN C hq _,by
 obtain ⟨k,hk⟩:=hd
 rw [←ji C hq,hk,aar,ji C hq,ha,jZ]⟩
end
end Go.Alg
