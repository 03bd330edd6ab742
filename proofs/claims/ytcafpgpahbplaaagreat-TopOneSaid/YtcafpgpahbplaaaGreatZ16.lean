/-
 The proof, part 16 of 25.
-/
import Derived.Test.YtcafpgpahbplaaaGreatZ15
import Derived.Test.YtcafpgpahbplaaaGreatZ08
import Derived.Test.YtcafpgpahbplaaaGreatZ14
import Derived.Test.YtcafpgpahbplaaaGreatZ09
open Go.Code renaming wp->aaT
open List renaming forall_mem_cons->aab,mem_append->aaw,mem_cons->aae,mem_cons_of_mem->aaa,mem_cons_self->aac,mem_singleton->aao,not_mem_nil->aad
open Nat renaming lt_trans->aaW,mod_eq_of_lt->aah
noncomputable section
set_option linter.unusedVariables false
set_option linter.unusedSimpArgs false
namespace Go.Proofs.YtcafpgpahbplaaaGreat
open Go Go.Eng Go.RowKit Go.Wd Go.Alg Go.Pr
namespace Sh
def Sc(T:CallT)(X:Nat→Int):CallT:=fun f args m nid=>match T f args m nid with
 | some out=>some { out with val:=.one (uM .u8 32 X),ob:=(∀ ρ,out.val.val ρ=SV.val ρ (.one (uM .u8 32 X)))::out.ob }
 | none=>none
theorem YZ{P:Program}{T:CallT}(h:ag P T)(X:Nat→Int):ag P (Sc T X):=by
 intro f args m nid out af ax ρ w vs hv hM df
 unfold Sc at af
 split at af
 ·rename_i o ho
  cases af
  refine (h f args m nid o ho (fun p hp=>ax p (aaa _ hp)) ρ w vs hv hM df).mono ?_
  rintro u w' ⟨ρ',h1,h2,h3⟩
  refine ⟨ρ',h1,?_,h3⟩
  rw [←h2]
  exact (ax _ aac ρ').symm
 ·cases af
def eK:List Int:=[66,76,83,95,83,73,71,95,66,76,83,49,50,51,56,49,71,50,95,88,77,68,58,83,72,65,45,50,53,54,95,83,83,87,85,95,82,79,95,80,79,80,95]
def bR(l:List Int):List It:=l.map fun z=>It.v (.int .u8 z)
def dXp:Fn1:=match fJ 72 with
 | some d=>d
 | none=>⟨.skip,[],0⟩
theorem zg9:FnOk Tryz.prog 72 dXp:=aB _ _ (by kernel_rfl)
def ZS(X:Nat→Int):Eng:={ tab:=bh,call:=kR bh (Sc ztK X) fJ 1000 (fun _=>[]) 6,N:=84 }
theorem zR(X:Nat→Int):ag Tryz.prog (ZS X).call:=gm an ab (YZ zkb X) aB 1000 (fun _=>[]) 6
def zym:List Code:=Dz.zbo 6 dXp.body
def zyj:Code:=Dz.Of 6 dXp.body
def zyl:Code:=bJ (bJ zyj)
def zhR:Code:=gw (dh (aJ (bJ zyj)))
def zyk:Code:=aJ zyj
theorem zha:dXp.body=gG zym (.seq (.seq zyl (.block 1 (.loop zhR))) zyk):=by kernel_rfl
theorem zB:dXp.ntmps=84:=by kernel_rfl
theorem Oi:dXp.results=[.tmp 6,.tmp 7]:=by kernel_rfl
def bT(i:It):AV:=⟨false,[i]⟩
def Gh(i:It):Ct:=.sl (.one (bT i))
def zwP(z:Bool)(n c c2:Nat)(f:Nat→Int):St:=aW 0 [gn z 1 n c,bT (.s 2 0 43 c2),bT (.v (.int .i64 256))] 81++cj [(1,gM n f),(2,bR eK)]
def bn(f:Nat→Int):Nat→Nat→List Int
 | _,0=>[]
 | i,k+1=>f i::bn f (i+1) k
def X0(X:Nat→Nat→Int):Nat→Nat→List It
 | _,0=>[]
 | j,k+1=>bR (bn (X j) 0 32)++X0 X (j+1) k
def zKv(n:Nat)(f:Nat→Int)(A B:Nat→Int)(D a b:Nat)(o:It)(k:Int)(rest:St):St:=
 [(4,Gh (.v (.int .i64 256))),(16,Gh (.c D 1 0 0 44)),(18,Gh (.p a 0)),(22,Gh (.p b 0)),(20,Gh o),(24,Gh (.v (.int .i64 k))),
  (3,.bl (gM n f)),(5,.bl (bR eK)),(2*D+1,.bl (bR (eK++[43]))),(2*a+1,.bl (bR (bn A 0 32))),(2*b+1,.bl (bR (bn B 0 32)))]++rest
def th(A B:Nat→Int)(k:Int):List fE:=[some (32,fun i=>(bn (fun i=>Eng.bits .xor .u8 (B i) (A i)) 0 32).getD i 0),some (1,fun i=>[IntKind.u8.wrap k].getD i 0),some (44,fun i=>(eK++[43]).getD i 0)]
def bXp(X:Nat→Nat→Int):Nat→Nat→Int
 | 0=>fun _=>0
 | j+1=>X j
def I3(j:Nat):Nat:=cU (1000*(j+1)+464)
def zK8:Nat→It
 | 0=>.v (.slice none 0 0)
 | j+1=>.c (I3 j) 1 0 0 (32*(j+1))
def zK7(X:Nat→Nat→Int):Nat→St
 | 0=>[]
 | j+1=>[(2*I3 j+1,.bl (X0 X 0 (j+1)))]
def vu(n:Nat)(f A:Nat→Int)(X:Nat→Nat→Int)(j:Nat):St:=zKv n f A (bXp X j) (cU 44) 57 60 (zK8 j) ((j+1:Nat):Int) (zK7 X j)
def zLb(A B X:Nat→Int)(k:Int):List Prop:=[∀ ρ,SV.val ρ (WY (th A B k))=SV.val ρ (.one (uM .u8 32 X)),1≤32,fO (th A B k)≤100000]
def W3(n:Nat)(f:Nat→Int)(X:Nat→Nat→Int):St:=[(12,Gh (.s (I3 7) 0 256 256)),(14,Gh (.v (.int .i64 0))),(3,.bl (gM n f)),(5,.bl (bR eK)),(2*I3 7+1,.bl (X0 X 0 8))]
def qz(j:Nat):Prop:=∀ (n:Nat) (f A:Nat→Int) (X:Nat→Nat→Int),probe (ZS (X j)) 1000 zhR (vu n f A X j) (1000*(j+1)) [] ((vu n f A X (j+1)).map (·.1))=some (0,zLb A (bXp X j) (X j) ((j+1:Nat):Int),(vu n f A X (j+1)).map fun p=>some p.2)
theorem zGR:qz 0:=fun n f A X=>by kernel_rfl
theorem zGQ:qz 1:=fun n f A X=>by kernel_rfl
theorem zGP:qz 2:=fun n f A X=>by kernel_rfl
theorem zGO:qz 3:=fun n f A X=>by kernel_rfl
theorem zGN:qz 4:=fun n f A X=>by kernel_rfl
theorem zGM:qz 5:=fun n f A X=>by kernel_rfl
theorem zGL:qz 6:=fun n f A X=>by kernel_rfl
theorem zGK:qz 7:=fun n f A X=>by kernel_rfl
theorem zpB(n:Nat)(f A:Nat→Int)(X:Nat→Nat→Int):probe (ZS A) 1000 zhR (vu n f A X 8) 9000 [] ((vu n f A X 8).map (·.1))=some (3,[],(vu n f A X 8).map fun p=>some p.2):=by kernel_rfl
theorem zpx(n:Nat)(f A:Nat→Int)(X:Nat→Nat→Int):probe (ZS A) 1000 zyk (vu n f A X 8) 9000 [] ((W3 n f X).map (·.1))=some (1,[],(W3 n f X).map fun p=>some p.2):=by kernel_rfl
def Lf(n:Nat)(f A:Nat→Int):St:=
 [(4,Gh (.v (.int .i64 256))),(16,Gh (.c (cU 44) 1 0 0 44)),(18,Gh (.p 57 0)),(22,Gh (.p 60 0)),(20,Gh (.v (.slice none 0 0))),
  (3,.bl (gM n f)),(5,.bl (bR eK)),(2*cU 44+1,.bl (bR (eK++[43]))),(2*57+1,.bl (bR (bn A 0 32))),(2*60+1,.bl (bR (bn (fun _=>0) 0 32)))]
def zLk(z:Bool)(n:Nat)(f:Nat→Int):fE:=match z with
 | true=>none
 | false=>some (n,fun i=>f (0+i))
def IL(z:Bool)(n:Nat)(f:Nat→Int):List fE:=[some (64,fun i=>(bn (fun _=>0) 0 64).getD i 0),zLk z n f,some (3,fun i=>[(1:Int),0,0].getD i 0),some (44,fun i=>(eK++[43]).getD i 0)]
def zvv(z:Bool)(n c2:Nat)(f A:Nat→Int):List Prop:=[0≤43,43≤43,43≤c2,(0:Int)≤43-0,(0:Int)≤43-0,∀ ρ,SV.val ρ (WY (IL z n f))=SV.val ρ (.one (uM .u8 32 A)),1≤64,fO (IL z n f)≤100000]
theorem zpA(n:Nat)(f A:Nat→Int)(X:Nat→Nat→Int):probe (ZS A) 1000 zyl (Lf n f A) 900 [] ((vu n f A X 0).map (·.1))=some (0,[],(vu n f A X 0).map fun p=>some p.2):=by kernel_rfl
theorem S0(n c c2:Nat)(f A:Nat→Int):probes (ZS A) 1000 zym (zwP true n c c2 f) 16 [(35,false)] ((Lf n f A).map (·.1))=some (0,zvv true n c2 f A,(Lf n f A).map fun p=>some p.2):=by kernel_rfl
theorem S3(n c c2:Nat)(f A:Nat→Int):probes (ZS A) 1000 zym (zwP false n c c2 f) 16 [(35,false)] ((Lf n f A).map (·.1))=some (0,zvv false n c2 f A++[0+n*1≤n],(Lf n f A).map fun p=>some p.2):=by kernel_rfl
def IS(X:Nat→Nat→Int):Nat→Nat→List Int
 | _,0=>[]
 | j,k+1=>bn (X j) 0 32++IS X (j+1) k
theorem zlq(X:Nat→Nat→Int):∀ k j,X0 X j k=bR (IS X j k):=by
 intro k
 induction k with
 | zero=>intro j;rfl
 | succ k ih=>
  intro j
  simp only [X0,IS,ih,bR,List.map_append]
def tW(z:Bool)(n:Nat)(f:Nat→Int):Nat→Int:=lf (fO (IL z n f)) (qj (IL z n f))
def iL(A:Nat→Int):Nat→Nat→Int
 | 0=>lf (fO (th A (fun _=>0) ((1:Nat):Int))) (qj (th A (fun _=>0) ((1:Nat):Int)))
 | j+1=>lf (fO (th A (iL A j) ((j+2:Nat):Int))) (qj (th A (iL A j) ((j+2:Nat):Int)))
theorem zap(A:Nat→Int)(j:Nat):iL A j=lf (fO (th A (bXp (iL A) j) ((j+1:Nat):Int))) (qj (th A (bXp (iL A) j) ((j+1:Nat):Int))):=by
  cases j with
  | zero=>unfold iL bXp;rfl
  | succ j => conv => lhs; unfold iL
              unfold bXp;rfl
theorem Hr(A B:Nat→Int)(k:Int):fO (th A B k)=77:=rfl
theorem ZA(z:Bool)(n:Nat)(f:Nat→Int):fO (IL z n f)≤111+n:=by
 cases z with
 | true=>exact Nat.le_add_right 111 n
 | false=>show 64+(n+(3+(44+0)))≤111+n;omega
theorem K9{l:List fE}{X:Nat→Int}(h:lf (fO l) (qj l)=X):∀ ρ,SV.val ρ (WY l)=SV.val ρ (.one (uM .u8 32 X)):=fun ρ=>by
 unfold WY;rw [h]
theorem jS{st:St}{keep:List Nat}(h:keep.all (fun id=>(st.blk id).isSome)=true):∀ id∈keep,∃ l,st.blk id=some l:=fun id cl=>
 Option.isSome_iff_exists.1 (List.all_eq_true.1 h id cl)
def AF:Nat→List Nat
 | 0=>[1,2,cU 44,57,60]
 | j+1=>[1,2,cU 44,57,60,I3 j]
def ol(j:Nat):Prop:=∀ (n:Nat) (f A:Nat→Int) (X:Nat→Nat→Int),aw (vu n f A X j) (AF j)=true∧(AF j).all (fun id=>((vu n f A X j).blk id).isSome)=true
theorem zG0:ol 0:=fun n f A X=>⟨by kernel_rfl,by kernel_rfl⟩
theorem zGZ:ol 1:=fun n f A X=>⟨by kernel_rfl,by kernel_rfl⟩
theorem zGY:ol 2:=fun n f A X=>⟨by kernel_rfl,by kernel_rfl⟩
theorem zGX:ol 3:=fun n f A X=>⟨by kernel_rfl,by kernel_rfl⟩
theorem zGW:ol 4:=fun n f A X=>⟨by kernel_rfl,by kernel_rfl⟩
theorem zGV:ol 5:=fun n f A X=>⟨by kernel_rfl,by kernel_rfl⟩
theorem zGU:ol 6:=fun n f A X=>⟨by kernel_rfl,by kernel_rfl⟩
theorem zGT:ol 7:=fun n f A X=>⟨by kernel_rfl,by kernel_rfl⟩
theorem zGS:ol 8:=fun n f A X=>⟨by kernel_rfl,by kernel_rfl⟩
theorem KC:∀ j,j≤8→ol j
 | 0,_=>zG0
 | 1,_=>zGZ
 | 2,_=>zGY
 | 3,_=>zGX
 | 4,_=>zGW
 | 5,_=>zGV
 | 6,_=>zGU
 | 7,_=>zGT
 | 8,_=>zGS
 | j+9,h=>absurd h (by omega)
theorem zpy:∀ j,j<8→qz j
 | 0,_=>zGR
 | 1,_=>zGQ
 | 2,_=>zGP
 | 3,_=>zGO
 | 4,_=>zGN
 | 5,_=>zGM
 | 6,_=>zGL
 | 7,_=>zGK
 | j+8,h=>absurd h (by omega)
theorem US(n:Nat)(f A:Nat→Int):aw (Lf n f A) [1,2,cU 44,57,60]=true:=by kernel_rfl
theorem zh6(n:Nat)(f A:Nat→Int):[1,2,cU 44,57,60].all (fun id=>((Lf n f A).blk id).isSome)=true:=by kernel_rfl
theorem zmv(n:Nat)(f:Nat→Int)(X:Nat→Nat→Int):aw (W3 n f X) [1,2,I3 7]=true:=by kernel_rfl
theorem zyD(n:Nat)(f:Nat→Int)(X:Nat→Nat→Int):[1,2,I3 7].all (fun id=>((W3 n f X).blk id).isSome)=true:=by kernel_rfl
theorem Hg{b1 o1 b2 o2:Nat}{l:List Nat}(h1:1∈l)(h2:2∈l):∀ id q,aH [(1,(b1,o1)),(2,(b2,o2))] id=some q→id∈l:=fun id q h=>by
 rw [fX] at h
 simp only [Eng.look,beq_iff_eq] at h
 split at h
 ·rename_i e;rw [←e];exact h1
 ·split at h
  ·rename_i e;rw [←e];exact h2
  ·cases h
theorem mV(j:Nat):1∈AF j∧2∈AF j:=by cases j<;>simp [AF]
theorem zpz{b1 o1 b2 o2:Nat}{w0:World}{n:Nat}{f A:Nat→Int}{Q:Exit→Act→World→Prop}
  (hX:∀ a w,At 84 (aH [(1,(b1,o1)),(2,(b2,o2))]) w0 (vu n f A (iL A) 8) a w→Q (.exit 1) a w) {a:Act} {w:World}
  (hA:At 84 (aH [(1,(b1,o1)),(2,(b2,o2))]) w0 (vu n f A (iL A) 0) a w):(Code.loop zhR).wp Tryz.prog Q a w:=by
 refine dG (w0:=w0) (dL:=aH [(1,(b1,o1)),(2,(b2,o2))]) (N:=84) (ι:=Nat) (fun j=>j≤8) (fun j=>vu n f A (iL A) j) (fun j=>8-j) ?_ 0 (Nat.zero_le _) a w hA
 intro j hj a w hA
 have hj:j≤8:=hj
 rcases Nat.lt_or_ge j 8 with hlt|hge
 ·obtain ⟨k1,k2⟩:=KC (j+1) hlt n f A (iL A)
  refine At.probe (E:=ZS (iL A j)) an ab (zR _) (zpy j hlt n f A (iL A)) (aa (K9 (zap A j).symm) (aa (by decide) (aa (by rw [Hr];decide) ad))) hA (AF (j+1)) (jS k2) k1 (Hg (mV _).1 (mV _).2) fun a' w' bY=>⟨j+1,hlt,by show 8-(j+1)<8-j;omega,bY⟩
 ·obtain rfl:j=8:=by omega
  obtain ⟨k1,k2⟩:=KC 8 (by decide) n f A (iL A)
  exact At.probe (E:=ZS A) an ab (zR _) (zpB n f A (iL A)) (fun p hp=>by cases hp) hA (AF 8) (jS k2) k1 (Hg (mV _).1 (mV _).2) fun a' w' bY=>hX a' w' bY
def byV(z:Bool)(b o n c:Nat):Value:=match z with
 | true=>.slice none 0 0
 | false=>.slice (some ⟨b,o,none⟩) n c
theorem Pz(z:Bool){w:World}{b1 o1 c n b2 o2 c2:Nat}{f:Nat→Int}(hn:n≤90000)(h43:43≤c2)(h1:Stands w b1 o1 (gvals .u8 n f))(h2:Stands w b2 o2 (eK.map (Value.int .u8))):
  Invoked Tryz.prog 72 #[byV z b1 o1 n c,.slice (some ⟨b2,o2,none⟩) 43 c2,.int .i64 256] w fun u w'=>∃ g,w.heap.size≤g∧u = .tuple #[.slice (some ⟨g,0,none⟩) 256 256,.int .i64 0]∧Stands w' g 0 ((IS (iL (tW z n f)) 0 8).map (Value.int .u8))∧Below w.heap.size w w':=by
 refine .inr ⟨zg9.enter _ _,?_⟩
 have jd:∀ e∈[((1:Nat),gM n f,(b1,o1),gvals .u8 n f),(2,bR eK,(b2,o2),eK.map (Value.int .u8))],e.1<16∧conc rho0 e.2.1=some e.2.2.2∧Stands w e.2.2.1.1 e.2.2.1.2 e.2.2.2:=
  aab.2 ⟨⟨(by show 1<16;decide),aD,h1⟩,aab.2 ⟨⟨(by show 2<16;decide),g_ rho0 .u8 eK,h2⟩,fun _ h=>by cases h⟩⟩
 have hM:Mem (aH [(1,(b1,o1)),(2,(b2,o2))]) (cj [(1,gM n f),(2,bR eK)]) w:=dU _ jd
 have cv:∀ c,¬Own (aH [(1,(b1,o1)),(2,(b2,o2))]) c:=iD (w:=w) _ jd
 have e1:AV.val (aH [(1,(b1,o1)),(2,(b2,o2))]) (gn z 1 n c)=some (byV z b1 o1 n c):=by
  cases z with
  | true=>exact AV.val_v rfl
  | false=>
   have e:=bu (ρ:=aH [(1,(b1,o1)),(2,(b2,o2))]) (id:=1) (q:=(b1,o1)) (by simp [aH]) 0 n c
   simpa [iG,SV.val,gn,byV] using e
 have e2:AV.val (aH [(1,(b1,o1)),(2,(b2,o2))]) (bT (.s 2 0 43 c2))=some (.slice (some ⟨b2,o2,none⟩) 43 c2):=by
  have e:=bu (ρ:=aH [(1,(b1,o1)),(2,(b2,o2))]) (id:=2) (q:=(b2,o2)) (by simp [aH]) 0 43 c2
  simpa [iG,SV.val,bT] using e
 have hv:ay (aH [(1,(b1,o1)),(2,(b2,o2))]) [gn z 1 n c,bT (.s 2 0 43 c2),bT (.v (.int .i64 256))]=some [byV z b1 o1 n c,.slice (some ⟨b2,o2,none⟩) 43 c2,.int .i64 256]:=by
  have e3:AV.val (aH [(1,(b1,o1)),(2,(b2,o2))]) (bT (.v (.int .i64 256)))=some (.int .i64 256):=AV.val_v (ρ:=aH [(1,(b1,o1)),(2,(b2,o2))]) (x:=.int .i64 256) rfl
  simp only [ay,e1,e2,e3]
 refine (bX (G:=fun xs st=>xs=[bT (.s (I3 7) 0 256 256),bT (.v (.int .i64 0))]∧st=W3 n f (iL (tW z n f))) ab zg9 hM (by kernel_rfl) hv (by rw [zB];simp) fun a c9=>?_).mono ?_
 ·rw [zB] at c9
  have c9:At 84 (aH [(1,(b1,o1)),(2,(b2,o2))]) w (zwP z n c c2 f) a w:=c9
  rw [zB,Oi,zha]
  have go:∀ a1 w1,At 84 (aH [(1,(b1,o1)),(2,(b2,o2))]) w (Lf n f (tW z n f)) a1 w1→(Code.seq (.seq zyl (.block 1 (.loop zhR))) zyk).wp Tryz.prog (fun e a' w'=>(e = .normal∨e = .ret)∧∃ st xs,At 84 (aH [(1,(b1,o1)),(2,(b2,o2))]) w st a' w'∧cO bh st [.tmp 6,.tmp 7]=some xs∧(xs=[bT (.s (I3 7) 0 256 256),bT (.v (.int .i64 0))]∧st=W3 n f (iL (tW z n f)))) a1 w1:=by
   intro a1 w1 g1
   obtain ⟨k1,k2⟩:=KC 0 (by decide) n f (tW z n f) (iL (tW z n f))
   refine wp_seq (wp_seq (At.probe (E:=ZS (tW z n f)) an ab (zR _) (zpA n f _ _) (fun p hp=>by cases hp) g1 (AF 0) (jS k2) k1 (Hg (mV _).1 (mV _).2) fun a2 w2 g2=>?_))
   show aaT _ _ _ _ _
   refine wp_block (zpz (fun a3 w3 g3=>?_) g2)
   show aaT _ _ _ _ _
   refine At.probe (E:=ZS (tW z n f)) an ab (zR _) (zpx n f _ _) (fun p hp=>by cases hp) g3 [1,2,I3 7] (jS (zyD _ _ _)) (zmv _ _ _) (Hg (by simp) (by simp)) fun a4 w4 g4=>?_
   exact ⟨.inr rfl,_,_,g4,by kernel_rfl,rfl,rfl⟩
  have ax:∀ p∈zvv z n c2 f (tW z n f),p:=aa (by decide) (aa (by decide) (aa h43 (aa (by decide) (aa (by decide) (aa (K9 rfl) (aa (by decide) (aa (by have:=ZA z n f;omega) ad)))))))
  cases z with
  | true=>exact At.probes (E:=ZS (tW true n f)) an ab (zR _) (S0 n c c2 f _) ax c9 [1,2,cU 44,57,60] (jS (zh6 _ _ _)) (US _ _ _) (Hg (by simp) (by simp)) fun a1 w1 g1=>go a1 w1 g1
  | false=>
   refine At.probes (E:=ZS (tW false n f)) an ab (zR _) (S3 n c c2 f _) (fun p hp=>?_) c9 [1,2,cU 44,57,60] (jS (zh6 _ _ _)) (US _ _ _) (Hg (by simp) (by simp)) fun a1 w1 g1=>go a1 w1 g1
   rcases aaw.1 hp with hp|hp
   ·exact ax p hp
   ·rw [aao.1 hp];omega
 ·rintro e w' ⟨v,rfl,xs,st,ρ',hE,hval,Bg,rfl,rfl⟩
  refine ⟨v,rfl,?_⟩
  obtain ⟨g,o',us,f1,f2,f3⟩:=Bg.blk (I3 7) (X0 (iL (tW z n f)) 0 8) (by kernel_rfl)
  have AI:app (I3 7)=true:=by kernel_rfl
  have tO:aH [(1,(b1,o1)),(2,(b2,o2))] (I3 7)=none:=by
   rw [fX]
   have e1:(1==I3 7)=false:=by kernel_rfl
   have e2:(2==I3 7)=false:=by kernel_rfl
   simp only [Eng.look,e1,e2];rfl
  have hg:w.heap.size≤g:=by
   rcases hE.new (I3 7) g o' tO f1 with h|h
   ·exact h
   ·exact absurd h (cv g)
  rw [zlq,bR,g_] at f2
  cases f2
  refine ⟨g,hg,?_,⟨f3.1,fun i v hi=>?_⟩,hE.below cv⟩
  ·have e1:AV.val ρ' (bT (.s (I3 7) 0 256 256))=some (.slice (some ⟨g,0,none⟩) 256 256):=by
    have e:=bu (ρ:=ρ') (id:=I3 7) (q:=(g,0)) (by rw [Rho.at_some f1,uu AI]) 0 256 256
    exact e
   have:SV.val ρ' (.tup [bT (.s (I3 7) 0 256 256),bT (.v (.int .i64 0))])=some v:=hval
   have e3:AV.val ρ' (bT (.v (.int .i64 0)))=some (.int .i64 0):=AV.val_v (ρ:=ρ') (x:=.int .i64 0) rfl
   simp only [SV.val,ay,e1,e3,Option.some.injEq] at this
   exact this.symm
  ·have:=f3.cell hi
   rw [uu AI] at this
   exact this
end Sh
def mM:F:=φ (M6%pN)
theorem zd1:mM≠0:=by
 intro h
 have:mM.val=(0:F).val:=congrArg Z.val h
 revert this
 decide +kernel
theorem QV{x y:Nat}(hx:x<M6)(hy:y<pN):fG x y<pN∧φ (fG x y)*mM=φ x*φ y:=by
 obtain ⟨h1,h2⟩:=ID hx hy
 have hp:pN<M6:=mq
 refine ⟨h1,?_⟩
 have e1:(φ x*φ y).val=x*y%pN:=by
  rw [←I9]
  show rd x*rd y%pN=_
  unfold rd
  rw [aah hx,aah (aaW hy hp),←Nat.mul_mod]
 have e2:(φ (fG x y)*mM).val=fG x y*M6%pN:=by
  unfold mM
  rw [←I9]
  show rd (fG x y)*rd (M6%pN)%pN=_
  rw [oL h1,oL (Nat.mod_lt _ iz),Nat.mul_mod_mod]
 rw [←cM (φ (fG x y)*mM),←cM (φ x*φ y),e1,e2,h2]
theorem zBF:φ Ak=mM*mM:=by
 have h:(φ Ak).val=(mM*mM).val:=by decide +kernel
 rw [←cM (φ Ak),h,cM]
theorem Tf:φ 1=1:=by
 have h:(φ 1).val=(1:F).val:=by decide +kernel
 rw [←cM (φ 1),h,cM]
theorem zkn:Ak<pN:=by decide +kernel
theorem Uu:1<pN:=by decide +kernel
theorem Mg:pN<M6:=mq
def MQ(z:F)(o:Nat):Prop:=o<pN∧φ o=z*mM
theorem zdN{z y:F}{o q:Nat}(h:MQ z o)(k:MQ y q):MQ (z*y) (fG o q):=by
 obtain ⟨h1,h2⟩:=QV (aaW h.1 Mg) k.1
 refine ⟨h1,ch zd1 ?_⟩
 rw [mul_comm mM,h2,h.2,k.2]
 exact ak (aZ [z,mM,y]) (x0*x1*(x2*x1)) (x1*(x0*x2*x1)) (by decide +kernel)
theorem zru{x:Nat}(hx:x<M6):MQ (φ x) (fG x Ak):=by
 obtain ⟨h1,h2⟩:=QV hx zkn
 refine ⟨h1,ch zd1 ?_⟩
 rw [mul_comm mM,h2,zBF]
 exact ak (aZ [φ x,mM]) (x0*(x1*x1)) (x1*(x0*x1)) (by decide +kernel)
theorem zvW{z:F}{o:Nat}(h:MQ z o):fG o 1=z.val:=by
 obtain ⟨h1,h2⟩:=QV (aaW h.1 Mg) Uu
 have e1:φ 1=1:=Tf
 have e:φ (fG o 1)=z:=by
  apply ch zd1
  rw [mul_comm mM,h2,h.2,e1]
  exact ak (aZ [z,mM]) (x0*x1*1) (x1*x0) (by decide +kernel)
 rw [←e,←uo,oL h1]
def QP:List Row:=mn 53 fG::pL
theorem Gn:∀ r∈QP,bE Tryz.prog r:=by
 intro r hr
 rcases aae.1 hr with rfl|hr
 ·exact gh fun a b=>by rw [iq,iq,iq];exact Md a b
 ·exact lj r hr
def dFq:Fn1:=match fJ 47 with
 | some d=>d
 | none=>⟨.skip,[],0⟩
theorem zhw:FnOk Tryz.prog 47 dFq:=aB _ _ (by kernel_rfl)
def EFq:Eng:={ tab:=bh,call:=jw bh (aA QP) fJ 1000 6,N:=42 }
theorem Kl:ag Tryz.prog EFq.call:=dd an ab (ap Gn) aB 1000 6
def zGf:Code:=bJ dFq.body
def zGe:Code:=bJ (aJ dFq.body)
def zGd:Code:=bJ (aJ (aJ dFq.body))
def zyx:Code:=aJ (aJ (aJ dFq.body))
def zGc:Code:=bJ (bJ zyx)
def zoG:Code:=gw (dh (aJ (bJ zyx)))
def zGg:Code:=aJ zyx
theorem zhx:dFq.body=gG [zGf,zGe,zGd] (.seq (.seq zGc (.block 0 (.loop zoG))) zGg):=by kernel_rfl
theorem zN:dFq.ntmps=42:=by kernel_rfl
theorem OB:dFq.results=[.cell 4 27]:=by kernel_rfl
def Lx(x len cap n:Nat):St:=[(2,sS 1 len cap),(8,jy 17),(10,jy 22),(12,jy 27),(3,.bl (iZ len n)),(35,.bl [.w 6 0]),(45,.bl [.w 6 (fG (fV x) Ak)]),(55,.bl [.w 6 (fG 1 Ak)])]
def uh(x len cap n:Nat)(i:Int)(o:Nat):St:=[(2,sS 1 len cap),(8,jy 17),(10,jy 22),(12,jy 27),(14,sI i),(3,.bl (iZ len n)),(35,.bl [.w 6 0]),(45,.bl [.w 6 (fG (fV x) Ak)]),(55,.bl [.w 6 o])]
def TT(len n o:Nat):St:=[(8,jy 17),(3,.bl (iZ len n)),(35,.bl [.w 6 o])]
def zDC(x len cap n:Nat):St:=aW 0 [wN x,⟨false,[.s 1 0 len cap]⟩] (42 - [wN x,(⟨false,[.s 1 0 len cap]⟩:AV)].length)++y_ len n
theorem ziQ(x len cap n:Nat):probes EFq 100 [zGf,zGe,zGd] (zDC x len cap n) 16 [] ((Lx x len cap n).map (·.1))=some (0,[],(Lx x len cap n).map fun p=>some p.2):=by kernel_rfl
theorem zqn(x len cap n:Nat):probe EFq 100 zGc (Lx x len cap n) 40 [] ((uh x len cap n (iT len) (fG 1 Ak)).map (·.1))=some (0,[],(uh x len cap n (iT len) (fG 1 Ak)).map fun p=>some p.2):=by kernel_rfl
theorem zqo(x len cap n:Nat)(i:Int)(o:Nat):probe EFq 100 zoG (uh x len cap n i o) 40 [(20,false)] ((uh x len cap n i o).map (·.1))=some (2,[i≥0↔false=true],(uh x len cap n i o).map fun p=>some p.2):=by kernel_rfl
def gj(len n:Nat)(i:Int)(b:Bool):List Prop:=[i≥0↔true=true,0≤IntKind.i64.wrap (i.tdiv 64)∧IntKind.i64.wrap (i.tdiv 64)<(len:Int),0+(IntKind.i64.wrap (i.tdiv 64)).toNat*1<len,0≤i.tmod 64,O1 n i=1↔b=true]
theorem pU{len n j:Nat}(h:len<4294967296)(hj:j<64*len){b:Bool}(hb:n/2^j%2=1↔b=true):∀ p∈gj len n (j:Int) b,p:=by
 intro p hp
 unfold gj at hp
 rw [vf (by omega),yc,BY _ (by omega)] at hp
 rcases aae.1 hp with rfl|hp
 ·exact ⟨fun _=>rfl,fun _=>by omega⟩
 rcases aae.1 hp with rfl|hp
 ·omega
 rcases aae.1 hp with rfl|hp
 ·rw [Int.toNat_natCast];omega
 rcases aae.1 hp with rfl|hp
 ·omega
 rcases aae.1 hp with rfl|hp
 ·rw [←hb];omega
 ·cases hp
theorem zql(x len cap n:Nat)(i:Int)(o:Nat):probe EFq 100 zoG (uh x len cap n i o) 40 [(20,true),(29,false),(33,true),(35,false)] ((uh x len cap n (IntKind.i64.wrap (i-1)) (fG o o)).map (·.1)) =
 some (0,gj len n i false,(uh x len cap n (IntKind.i64.wrap (i-1)) (fG o o)).map fun p=>some p.2):=by kernel_rfl
theorem zzG(x len cap n:Nat)(i:Int)(o:Nat):probe EFq 100 zoG (uh x len cap n i o) 40 [(20,true),(29,false),(33,true),(35,true)] ((uh x len cap n (IntKind.i64.wrap (i-1)) (fG (fG o o) (fG (fV x) Ak))).map (·.1)) =
 some (0,gj len n i true,(uh x len cap n (IntKind.i64.wrap (i-1)) (fG (fG o o) (fG (fV x) Ak))).map fun p=>some p.2):=by kernel_rfl
theorem zqm(x len cap n:Nat)(i:Int)(o:Nat):probe EFq 100 zGg (uh x len cap n i o) 40 [] ((TT len n (fG o 1)).map (·.1))=some (1,[],(TT len n (fG o 1)).map fun p=>some p.2):=by kernel_rfl
def ZZ:List Nat:=[1,17,22,27]
theorem UY(x len cap n:Nat)(i:Int)(o:Nat):aw (uh x len cap n i o) ZZ=true:=by kernel_rfl
theorem zeF(x len cap n:Nat):aw (Lx x len cap n) ZZ=true:=by kernel_rfl
theorem zeE(len n o:Nat):aw (TT len n o) [1,17]=true:=by kernel_rfl
theorem zia(x len cap n:Nat)(i:Int)(o:Nat):∀ id∈ZZ,∃ l,(uh x len cap n i o).blk id=some l:=by
 intro id cl
 simp only [ZZ,aae,aad,or_false] at cl
 rcases cl with rfl|rfl|rfl|rfl<;>exact ⟨_,rfl⟩
theorem zo5(x len cap n:Nat):∀ id∈ZZ,∃ l,(Lx x len cap n).blk id=some l:=by
 intro id cl
 simp only [ZZ,aae,aad,or_false] at cl
 rcases cl with rfl|rfl|rfl|rfl<;>exact ⟨_,rfl⟩
theorem zo4(len n o:Nat):∀ id∈[1,17],∃ l,(TT len n o).blk id=some l:=by
 intro id cl
 simp only [aae,aad,or_false] at cl
 rcases cl with rfl|rfl<;>exact ⟨_,rfl⟩
def uy(x m:Nat):Nat:=(pow (φ x) m).val
theorem zxy(x:Nat):AW Tryz.prog 47 (fun s=>[wv x,s]) (fun len n=>wv (uy x (n%pw len))):=by
 intro b o len cap n hlen w jX
 refine .inr ⟨zhw.enter _ _,?_⟩
 have hv:ay (kw b o) [wN x,⟨false,[.s 1 0 len cap]⟩]=some [wv x,.slice (some ⟨b,o,none⟩) len cap]:=by simp only [ay,gr,Bq]
 have hm:n%pw len<2^(64*len):=Nat.mod_lt _ (Nat.two_pow_pos _)
 have Nd:MQ (φ x) (fG (fV x) Ak):=by
  have h:fV x<M6:=by unfold fV;exact aaW (φ x).lt Mg
  have:=zru h
  unfold fV at this ⊢
  rwa [cM] at this
 have uD:MQ 1 (fG 1 Ak):=by
  have:=zru (x:=1) (aaW Uu Mg)
  have e1:φ 1=1:=Tf
  rwa [e1] at this
 refine (bX (G:=fun xs st=>xs=[wN (uy x (n%pw len))]) ab zhw (j0 jX) (by kernel_rfl) hv (by rw [zN];simp) fun a c9=>?_).mono ?_
 ·rw [zN] at c9
  have c9:At 42 (kw b o) w (zDC x len cap n) a w:=c9
  rw [zN,OB,zhx]
  refine At.probes (E:=EFq) an ab Kl (ziQ x len cap n) (fun p hp=>by cases hp) c9 ZZ (zo5 _ _ _ _) (zeF _ _ _ _) (dp (by simp [ZZ])) fun a1 w1 g1=>?_
  show aaT _ _ _ _ _
  refine wp_seq (wp_seq (At.probe (E:=EFq) an ab Kl (zqn x len cap n) (fun p hp=>by cases hp) g1 ZZ (zia _ _ _ _ _ _) (UY _ _ _ _ _ _) (dp (by simp [ZZ])) fun a2 w2 g2=>?_))
  rw [zfn hlen] at g2
  show aaT _ _ _ _ _
  refine wp_block (Ey (E:=EFq) ab Kl (uh x len cap n) ZZ (by simp [ZZ]) (UY x len cap n) (zia x len cap n) hlen (fun o=>fG o o) (fun o=>fG o (fG (fV x) Ak)) (fun j o=>MQ (pow (φ x) (n%pw len/2^j)) o)
   (kx:=0) (zqo x len cap n) (fun i b _=>gj len n i b) (fun j b s hj _ hb=>pU hlen hj hb) (zql x len cap n) (zzG x len cap n) (fun j s _ hI e=>?_) (fun j s _ hI e=>?_) (fun s a3 w3 hI g3=>?_) ?_ g2)
  ·rw [GH _ e];exact zdN hI hI
  ·rw [GG _ e];exact zdN (zdN hI hI) Nd
  ·show aaT _ _ _ _ _
   refine At.probe (E:=EFq) an ab Kl (zqm x len cap n _ s) (fun p hp=>by cases hp) g3 [1,17] (zo4 _ _ _) (zeE _ _ _) (dp (by simp)) fun a4 w4 g4=>?_
   have e:fG s 1=uy x (n%pw len):=by
    have:=zvW hI
    rwa [Nat.pow_zero,Nat.div_one] at this
   rw [e] at g4
   exact ⟨.inr rfl,_,_,g4,by kernel_rfl,rfl⟩
  ·have e:n%pw len/2^(64*len)=0:=Nat.div_eq_of_lt hm
   rw [e];exact uD
 ·rintro e w' ⟨v,rfl,xs,st,ρ',hE,hval,Bg,rfl⟩
  refine ⟨v,rfl,?_,hE.below (lL b o)⟩
  have:AV.val ρ' (wN (uy x (n%pw len)))=some v:=hval
  rw [gr] at this
  cases this;rfl
def D5(T:CallT)(l:List (Nat×Bool)):CallT:=fun f args m nid=>match T f args m nid with
 | some out=>match Eng.look l nid with
  | some h=>match out.val with
   | .tup [x,⟨false,[.v (.bool b)]⟩]=>some { out with val:=.tup [x,cY h],ob:=(b=h)::out.ob }
   | .one ⟨false,[.v (.bool b)]⟩=>some { out with val:=.one (cY h),ob:=(b=h)::out.ob }
   | _=>none
  | none=>some out
 | none=>none
theorem zq{P:Program}{T:CallT}(h:ag P T)(l:List (Nat×Bool)):ag P (D5 T l):=by
 intro f args m nid out af ax ρ w vs hv hM df
 unfold D5 at af
 split at af
 ·rename_i o ho
  split at af
  ·rename_i b' hl
   split at af
   ·rename_i x b hval
    cases af
    have e:b=b':=ax _ aac
    subst e
    refine (h f args m nid o ho (fun p hp=>ax p (aaa _ hp)) ρ w vs hv hM df).mono ?_
    rintro u w' ⟨ρ',h1,h2,h3⟩
    exact ⟨ρ',h1,by rw [←h2,hval];rfl,h3⟩
   ·rename_i b hval
    cases af
    have e:b=b':=ax _ aac
    subst e
    refine (h f args m nid o ho (fun p hp=>ax p (aaa _ hp)) ρ w vs hv hM df).mono ?_
    rintro u w' ⟨ρ',h1,h2,h3⟩
    exact ⟨ρ',h1,by rw [←h2,hval];rfl,h3⟩
   ·cases af
  ·cases af
   exact h f args m nid _ ho ax ρ w vs hv hM df
 ·cases af
theorem DY(x:Nat):aK (aA QP) 47 [wN x,⟨false,[.v (.slice none 0 0)]⟩] []=some (.one (wN (fG (fG 1 Ak) 1)),[]):=by kernel_rfl
theorem R6(x:Nat):bj Tryz.prog 47 [wv x,.slice none 0 0] (wv (uy x 0)):=by
 have e:fG (fG 1 Ak) 1=uy x 0:=by
  show _=(1:F).val
  decide +kernel
 have h:=DY x
 rw [e] at h
 exact aR (ap Gn) h (fun p hp=>by cases hp) (by simp only [ay,gr];rfl) rfl
def zf8:CallT:=L4 47 uy
theorem YS:ag Tryz.prog zf8:=L3 zxy R6
def qN:Nat:=1000602388805416848354447456433976039139220704984751971333014534031007912622709466110671907282253916009473568139947
def aU:Nat:=2001204777610833696708894912867952078278441409969503942666029068062015825245418932221343814564507832018947136279894
def TRo:CallT:=jV zf8 (jV zoo (aA j_))
theorem KF:ag Tryz.prog TRo:=aT YS (aT VJ (ap fF))
def sgI(n:Nat):Int:=IntKind.i64.wrap (Eng.bits .and .u64 ((fV n/2^(64*0)%2^64:Nat):Int) 1)
def Ge(n:Nat):Int:=((fV n%2:Nat):Int)
theorem zum(n:Nat):sgI n=Ge n:=by
 unfold sgI Ge
 rw [Ky,Nat.mul_zero,Nat.pow_zero,Nat.div_one,bq (by omega) (by omega)]
 omega
theorem zkw(x:Nat):aK TRo 49 [wN x] []=some (.one (pp (sgI x)),[]):=by kernel_rfl
theorem NO(x:Nat):bj Tryz.prog 49 [wv x] (.int .i64 (Ge x)):=ah KF tj.rs (zkw x) (fun p hp=>by cases hp) (eE x) (zum x)
def Y9(y:Nat):Nat:=if fV y%2=1 then du y else y
def vO:List Row:=[jb (kV Nat) tj.rs 49 Ge]
theorem uk:∀ r∈vO,bE Tryz.prog r:=by
 simp only [vO,aab,aad,false_imp_iff,implies_true,and_true]
 exact cW NO
def zzk:CallT:=jV (aA vO) TRo
theorem Wc:ag Tryz.prog zzk:=aT (ap uk) KF
theorem Y7(y:Nat):aK zzk 48 [wN y] [(5,true)]=some (.one (wN (du y)),[Ge y=1↔true=true]):=by kernel_rfl
theorem Y8(y:Nat):aK zzk 48 [wN y] [(5,false)]=some (.one (wN y),[Ge y=1↔false=true]):=by kernel_rfl
theorem NP(y:Nat):bj Tryz.prog 48 [wv y] (wv (Y9 y)):=by
 unfold Y9
 split
 ·rename_i h;exact aR Wc (Y7 y) (aa (bD (by unfold Ge;omega)) ad) (eE y) rfl
 ·rename_i h;exact aR Wc (Y8 y) (aa (br (by unfold Ge;omega)) ad) (eE y) rfl
def Ua:List Row:=jk 48 Y9::vO
theorem QF:∀ r∈Ua,bE Tryz.prog r:=aab.2 ⟨da NP,uk⟩
def zzj:CallT:=jV (aA Ua) TRo
theorem Wb:ag Tryz.prog zzj:=aT (ap QF) KF
def Qy(a:Nat):Nat:=uy a qN
def Fg(a:Nat):Bool:=decide (ao (Qy a) (Qy a)=fV a)
def cg(a:Nat):Nat:=if ao (Qy a) (Qy a)=fV a then Y9 (Qy a) else 0
def Aj(a:Nat):Nat×Bool:=(cg a,Fg a)
def qOb:List Prop:=[6<4294967296,(0:Int)≤17185665809301629611∧(17185665809301629611:Int)<18446744073709551616,(0:Int)≤552535377879302143∧(552535377879302143:Int)<18446744073709551616,(0:Int)≤15693976698673184137∧(15693976698673184137:Int)<18446744073709551616,(0:Int)≤15644892545385841839∧(15644892545385841839:Int)<18446744073709551616,(0:Int)≤10576397981472451381∧(10576397981472451381:Int)<18446744073709551616,(0:Int)≤468449654411884966∧(468449654411884966:Int)<18446744073709551616]
theorem zuY:∀ p∈qOb,p:=aa (by omega) (aa (by omega) (aa (by omega) (aa (by omega) (aa (by omega) (aa (by omega) (aa (by omega) ad))))))
theorem W_(a:Nat):aK zzj 19 [wN a] [(16,true)]=some (.tup [wN (Y9 (uy a (qN%pw 6))),cY true],qOb++[dJ (ao (uy a (qN%pw 6)) (uy a (qN%pw 6))) (fV a) true]):=by kernel_rfl
theorem Xa(a:Nat):aK zzj 19 [wN a] [(16,false)]=some (.tup [wN 0,cY false],qOb++[dJ (ao (uy a (qN%pw 6)) (uy a (qN%pw 6))) (fV a) false]):=by kernel_rfl
theorem zuZ:qN%pw 6=qN:=by decide +kernel
theorem n7(z:F):z.val<M6:=aaW z.lt Mg
theorem sm1{n:Nat}(h:n<M6):Sm n:=fun m hm=>by
 have:m=n:=aao.1 hm
 subst this;exact h
def rsQ:Rs (Nat×Bool):=tI (kV Nat) AG
theorem NN(a:Nat):bj Tryz.prog 19 [wv a] (rsQ.vl (Aj a)):=by
 have hT:=W_ a
 have hF:=Xa a
 rw [zuZ] at hT hF
 have hq:∀ b,(ao (Qy a) (Qy a)=fV a↔b=true)→∀ p∈qOb++[dJ (ao (uy a qN) (uy a qN)) (fV a) b],p:=fun b hb p hp=>by
  rcases aaw.1 hp with hp|hp
  ·exact zuY p hp
  ·rw [aao] at hp
   subst hp
   exact ej (sm1 (n7 _)) (sm1 (n7 _)) hb
 unfold Aj cg Fg
 by_cases h:ao (Qy a) (Qy a)=fV a
 ·rw [if_pos h,decide_eq_true h];exact ah Wb rsQ hT (hq true (bD h)) (eE a) rfl
 ·rw [if_neg h,decide_eq_false h];exact ah Wb rsQ hF (hq false (br h)) (eE a) rfl
def qP(x:Nat):Bool:=decide (jG (fV x) (du x)>0)
theorem zpa(x:Nat):aK TRo 22 [wN x] []=some (.one (cY (qP x)),[fV x<M6∧du x<M6]):=by kernel_rfl
theorem Fx(x:Nat):bj Tryz.prog 22 [wv x] (.bool (qP x)):=ah KF AG.rs (zpa x) (aa ⟨n7 _,n7 _⟩ ad) (eE x) rfl
def Ii:List Row:=jb (kV Nat) rsQ 19 Aj::jb (kV Nat) AG.rs 22 qP::vO
theorem CT:∀ r∈Ii,bE Tryz.prog r:=aab.2 ⟨cW NN,aab.2 ⟨cW Fx,uk⟩⟩
def zzi:CallT:=jV (aA Ii) (aA j_)
theorem B4:ag Tryz.prog zzi:=aT (ap CT) (ap fF)
def gK(a:N2):Int:=if fV a.1=0 then Ge a.2 else Ge a.1
def jx(a:N2):Bool:=if fV a.2=0 then qP a.1 else qP a.2
theorem LJ(b:Bool)(a:N2):aK zzi 65 [wN a] [(7,b)]=some (.one (pp (match b with | true=>Ge a.2 | false=>Ge a.1)),[dJ (fV a.1) 0 b]):=by cases b<;>kernel_rfl
theorem O2(b:Bool)(a:N2):aK zzi 29 [wN a] [(7,b)]=some (.one (cY (match b with | true=>qP a.1 | false=>qP a.2)),[dJ (fV a.2) 0 b]):=by cases b<;>kernel_rfl
theorem sm0:Sm 0:=sm1 (by decide +kernel)
theorem JU(a:N2):bj Tryz.prog 65 [wv a] (.int .i64 (gK a)):=by
 unfold gK
 split
 ·rename_i h;exact ah B4 tj.rs (LJ true a) (aa (ej (sm1 (n7 _)) sm0 (bD h)) ad) (eE a) rfl
 ·rename_i h;exact ah B4 tj.rs (LJ false a) (aa (ej (sm1 (n7 _)) sm0 (br h)) ad) (eE a) rfl
theorem D0(a:N2):bj Tryz.prog 29 [wv a] (.bool (jx a)):=by
 unfold jx
 split
 ·rename_i h;exact ah B4 AG.rs (O2 true a) (aa (ej (sm1 (n7 _)) sm0 (bD h)) ad) (eE a) rfl
 ·rename_i h;exact ah B4 AG.rs (O2 false a) (aa (ej (sm1 (n7 _)) sm0 (br h)) ad) (eE a) rfl
def Ih:List Row:=jb (kV N2) tj.rs 65 gK::jb (kV N2) AG.rs 29 jx::Ii
theorem CS:∀ r∈Ih,bE Tryz.prog r:=aab.2 ⟨cW JU,aab.2 ⟨cW D0,CT⟩⟩
def zzh:CallT:=jV (aA Ih) (aA j_)
theorem Wa:ag Tryz.prog zzh:=aT (ap CS) (ap fF)
def eZ(a:N2)(n:Nat):Nat×Bool:=Aj (ao (bZ a.1 n) aU)
def sq(a:N2):Nat×Bool:=Aj (du a.1)
def tqA(e0:Bool)(a:N2)(n:Nat):N2:=match e0 with
 | true=>((eZ a n).1,(sq a).1)
 | false=>((eZ a n).1,ao (ao a.2 aU) (gW (eZ a n).1))
def tqB(e0 e1:Bool)(a:N2)(n:Nat):N2:=match e1 with
 | true=>gl (tqA e0 a n)
 | false=>tqA e0 a n
def zjS(e0 e1 i e2:Bool)(a:N2)(n:Nat):List Prop:=(match e0 with
 | true=>[dJ (eZ a n).1 0 true,(sq a).2=i]
 | false=>[(eZ a n).2=i,dJ (eZ a n).1 0 false])++[gK (tqA e0 a n)=1↔e1=true]++(match i with
 | true=>[dJ (ai (tqB e0 e1 a n) (tqB e0 e1 a n)) a e2]
 | false=>[])
def KL(e0 i:Bool):CallT:=D5 zzh [(match e0 with | true=>47 | false=>25,i)]
theorem zza(e0 i:Bool):ag Tryz.prog (KL e0 i):=zq Wa _
theorem zaY(a:N2)(n:Nat):j9 (KL true true) 62 [wN n,⟨false,[.p 1 0]⟩] (cj [(1,(Nm.toL a).map (It.w 6))]) [(28,true),(41,true),(51,true)]=some (.tup [wN (gl (((eZ a n).1,(sq a).1):N2)),cY true],[dJ (eZ a n).1 0 true,(sq a).2=true]++[gK (((eZ a n).1,(sq a).1):N2)=1↔true=true]++[dJ (ai (gl (((eZ a n).1,(sq a).1):N2)) (gl (((eZ a n).1,(sq a).1):N2))) a true]):=by kernel_rfl
theorem zaZ(a:N2)(n:Nat):j9 (KL true true) 62 [wN n,⟨false,[.p 1 0]⟩] (cj [(1,(Nm.toL a).map (It.w 6))]) [(28,true),(41,true),(51,false)]=some (.tup [wN (gl (((eZ a n).1,(sq a).1):N2)),cY false],[dJ (eZ a n).1 0 true,(sq a).2=true]++[gK (((eZ a n).1,(sq a).1):N2)=1↔true=true]++[dJ (ai (gl (((eZ a n).1,(sq a).1):N2)) (gl (((eZ a n).1,(sq a).1):N2))) a false]):=by kernel_rfl
theorem za0(a:N2)(n:Nat):j9 (KL true false) 62 [wN n,⟨false,[.p 1 0]⟩] (cj [(1,(Nm.toL a).map (It.w 6))]) [(28,true),(41,true),(51,true)]=some (.tup [wN (gl (((eZ a n).1,(sq a).1):N2)),cY false],[dJ (eZ a n).1 0 true,(sq a).2=false]++[gK (((eZ a n).1,(sq a).1):N2)=1↔true=true]++[]):=by kernel_rfl
theorem za1(a:N2)(n:Nat):j9 (KL true false) 62 [wN n,⟨false,[.p 1 0]⟩] (cj [(1,(Nm.toL a).map (It.w 6))]) [(28,true),(41,true),(51,false)]=some (.tup [wN (gl (((eZ a n).1,(sq a).1):N2)),cY false],[dJ (eZ a n).1 0 true,(sq a).2=false]++[gK (((eZ a n).1,(sq a).1):N2)=1↔true=true]++[]):=by kernel_rfl
theorem za2(a:N2)(n:Nat):j9 (KL true true) 62 [wN n,⟨false,[.p 1 0]⟩] (cj [(1,(Nm.toL a).map (It.w 6))]) [(28,true),(41,false),(51,true)]=some (.tup [wN (((eZ a n).1,(sq a).1):N2),cY true],[dJ (eZ a n).1 0 true,(sq a).2=true]++[gK (((eZ a n).1,(sq a).1):N2)=1↔false=true]++[dJ (ai (((eZ a n).1,(sq a).1):N2) (((eZ a n).1,(sq a).1):N2)) a true]):=by kernel_rfl
theorem za3(a:N2)(n:Nat):j9 (KL true true) 62 [wN n,⟨false,[.p 1 0]⟩] (cj [(1,(Nm.toL a).map (It.w 6))]) [(28,true),(41,false),(51,false)]=some (.tup [wN (((eZ a n).1,(sq a).1):N2),cY false],[dJ (eZ a n).1 0 true,(sq a).2=true]++[gK (((eZ a n).1,(sq a).1):N2)=1↔false=true]++[dJ (ai (((eZ a n).1,(sq a).1):N2) (((eZ a n).1,(sq a).1):N2)) a false]):=by kernel_rfl
theorem za4(a:N2)(n:Nat):j9 (KL true false) 62 [wN n,⟨false,[.p 1 0]⟩] (cj [(1,(Nm.toL a).map (It.w 6))]) [(28,true),(41,false),(51,true)]=some (.tup [wN (((eZ a n).1,(sq a).1):N2),cY false],[dJ (eZ a n).1 0 true,(sq a).2=false]++[gK (((eZ a n).1,(sq a).1):N2)=1↔false=true]++[]):=by kernel_rfl
theorem za5(a:N2)(n:Nat):j9 (KL true false) 62 [wN n,⟨false,[.p 1 0]⟩] (cj [(1,(Nm.toL a).map (It.w 6))]) [(28,true),(41,false),(51,false)]=some (.tup [wN (((eZ a n).1,(sq a).1):N2),cY false],[dJ (eZ a n).1 0 true,(sq a).2=false]++[gK (((eZ a n).1,(sq a).1):N2)=1↔false=true]++[]):=by kernel_rfl
theorem za7(a:N2)(n:Nat):j9 (KL false true) 62 [wN n,⟨false,[.p 1 0]⟩] (cj [(1,(Nm.toL a).map (It.w 6))]) [(28,false),(41,true),(51,true)]=some (.tup [wN (gl (((eZ a n).1,ao (ao a.2 aU) (gW (eZ a n).1)):N2)),cY true],[(eZ a n).2=true,dJ (eZ a n).1 0 false]++[gK (((eZ a n).1,ao (ao a.2 aU) (gW (eZ a n).1)):N2)=1↔true=true]++[dJ (ai (gl (((eZ a n).1,ao (ao a.2 aU) (gW (eZ a n).1)):N2)) (gl (((eZ a n).1,ao (ao a.2 aU) (gW (eZ a n).1)):N2))) a true]):=by kernel_rfl
theorem za8(a:N2)(n:Nat):j9 (KL false true) 62 [wN n,⟨false,[.p 1 0]⟩] (cj [(1,(Nm.toL a).map (It.w 6))]) [(28,false),(41,true),(51,false)]=some (.tup [wN (gl (((eZ a n).1,ao (ao a.2 aU) (gW (eZ a n).1)):N2)),cY false],[(eZ a n).2=true,dJ (eZ a n).1 0 false]++[gK (((eZ a n).1,ao (ao a.2 aU) (gW (eZ a n).1)):N2)=1↔true=true]++[dJ (ai (gl (((eZ a n).1,ao (ao a.2 aU) (gW (eZ a n).1)):N2)) (gl (((eZ a n).1,ao (ao a.2 aU) (gW (eZ a n).1)):N2))) a false]):=by kernel_rfl
theorem za9(a:N2)(n:Nat):j9 (KL false false) 62 [wN n,⟨false,[.p 1 0]⟩] (cj [(1,(Nm.toL a).map (It.w 6))]) [(28,false),(41,true),(51,true)]=some (.tup [wN (gl (((eZ a n).1,ao (ao a.2 aU) (gW (eZ a n).1)):N2)),cY false],[(eZ a n).2=false,dJ (eZ a n).1 0 false]++[gK (((eZ a n).1,ao (ao a.2 aU) (gW (eZ a n).1)):N2)=1↔true=true]++[]):=by kernel_rfl
theorem zba(a:N2)(n:Nat):j9 (KL false false) 62 [wN n,⟨false,[.p 1 0]⟩] (cj [(1,(Nm.toL a).map (It.w 6))]) [(28,false),(41,true),(51,false)]=some (.tup [wN (gl (((eZ a n).1,ao (ao a.2 aU) (gW (eZ a n).1)):N2)),cY false],[(eZ a n).2=false,dJ (eZ a n).1 0 false]++[gK (((eZ a n).1,ao (ao a.2 aU) (gW (eZ a n).1)):N2)=1↔true=true]++[]):=by kernel_rfl
theorem zbb(a:N2)(n:Nat):j9 (KL false true) 62 [wN n,⟨false,[.p 1 0]⟩] (cj [(1,(Nm.toL a).map (It.w 6))]) [(28,false),(41,false),(51,true)]=some (.tup [wN (((eZ a n).1,ao (ao a.2 aU) (gW (eZ a n).1)):N2),cY true],[(eZ a n).2=true,dJ (eZ a n).1 0 false]++[gK (((eZ a n).1,ao (ao a.2 aU) (gW (eZ a n).1)):N2)=1↔false=true]++[dJ (ai (((eZ a n).1,ao (ao a.2 aU) (gW (eZ a n).1)):N2) (((eZ a n).1,ao (ao a.2 aU) (gW (eZ a n).1)):N2)) a true]):=by kernel_rfl
theorem zbc(a:N2)(n:Nat):j9 (KL false true) 62 [wN n,⟨false,[.p 1 0]⟩] (cj [(1,(Nm.toL a).map (It.w 6))]) [(28,false),(41,false),(51,false)]=some (.tup [wN (((eZ a n).1,ao (ao a.2 aU) (gW (eZ a n).1)):N2),cY false],[(eZ a n).2=true,dJ (eZ a n).1 0 false]++[gK (((eZ a n).1,ao (ao a.2 aU) (gW (eZ a n).1)):N2)=1↔false=true]++[dJ (ai (((eZ a n).1,ao (ao a.2 aU) (gW (eZ a n).1)):N2) (((eZ a n).1,ao (ao a.2 aU) (gW (eZ a n).1)):N2)) a false]):=by kernel_rfl
theorem zbd(a:N2)(n:Nat):j9 (KL false false) 62 [wN n,⟨false,[.p 1 0]⟩] (cj [(1,(Nm.toL a).map (It.w 6))]) [(28,false),(41,false),(51,true)]=some (.tup [wN (((eZ a n).1,ao (ao a.2 aU) (gW (eZ a n).1)):N2),cY false],[(eZ a n).2=false,dJ (eZ a n).1 0 false]++[gK (((eZ a n).1,ao (ao a.2 aU) (gW (eZ a n).1)):N2)=1↔false=true]++[]):=by kernel_rfl
theorem zbe(a:N2)(n:Nat):j9 (KL false false) 62 [wN n,⟨false,[.p 1 0]⟩] (cj [(1,(Nm.toL a).map (It.w 6))]) [(28,false),(41,false),(51,false)]=some (.tup [wN (((eZ a n).1,ao (ao a.2 aU) (gW (eZ a n).1)):N2),cY false],[(eZ a n).2=false,dJ (eZ a n).1 0 false]++[gK (((eZ a n).1,ao (ao a.2 aU) (gW (eZ a n).1)):N2)=1↔false=true]++[]):=by kernel_rfl
def ziB(e0 e1 i e2:Bool)(a:N2)(n:Nat):Prop:=j9 (KL e0 i) 62 [wN n,⟨false,[.p 1 0]⟩] (cj [(1,(Nm.toL a).map (It.w 6))]) [(28,e0),(41,e1),(51,e2)]=some (.tup [wN (tqB e0 e1 a n),cY (i&&e2)],zjS e0 e1 i e2 a n)
theorem zjO(e0 e1 i e2:Bool)(a:N2)(n:Nat):ziB e0 e1 i e2 a n:=by
 cases e0<;>cases e1<;>cases i<;>cases e2
 ·exact zbe a n
 ·exact zbd a n
 ·exact zbc a n
 ·exact zbb a n
 ·exact zba a n
 ·exact za9 a n
 ·exact za8 a n
 ·exact za7 a n
 ·exact za5 a n
 ·exact za4 a n
 ·exact za3 a n
 ·exact za2 a n
 ·exact za1 a n
 ·exact za0 a n
 ·exact zaZ a n
 ·exact zaY a n
def tqX(e1:Bool)(a:N2)(n:Nat):Nat:=match e1 with
 | true=>du (cg (ao (bZ a.1 n) aU))
 | false=>cg (ao (bZ a.1 n) aU)
def K4(e0:Bool)(a:N2)(n:Nat):Nat:=match e0 with
 | true=>cg (du a.1)
 | false=>ao (ao a.2 aU) (gW (cg (ao (bZ a.1 n) aU)))
def tqY(e0 e1:Bool)(a:N2)(n:Nat):Nat:=match e1 with
 | true=>du (K4 e0 a n)
 | false=>K4 e0 a n
def tqI(e0:Bool)(a:N2)(n:Nat):Bool:=match e0 with
 | true=>Fg (du a.1)
 | false=>Fg (ao (bZ a.1 n) aU)
theorem PM(e0:Bool)(a:N2)(n:Nat):tqA e0 a n=(cg (ao (bZ a.1 n) aU),K4 e0 a n):=by cases e0<;>kernel_rfl
theorem Ye(x y:Nat):gl (x,y)=(du x,du y):=rfl
theorem zbh(e0 e1:Bool)(a:N2)(n:Nat):tqB e0 e1 a n=(tqX e1 a n,tqY e0 e1 a n):=by
 cases e1
 ·show tqA e0 a n=_
  rw [PM];rfl
 ·show gl (tqA e0 a n)=_
  rw [PM,Ye];rfl
def K8(a:N2)(n:Nat):Bool:=decide (cg (ao (bZ a.1 n) aU)=0)
def WV(a:N2)(n:Nat):Bool:=decide (gK (cg (ao (bZ a.1 n) aU),K4 (K8 a n) a n)=1)
def oE(a:N2)(n:Nat):Nat:=tqX (WV a n) a n
def oC(a:N2)(n:Nat):Nat:=tqY (K8 a n) (WV a n) a n
def AZ(a:N2)(n:Nat):N2:=(oE a n,oC a n)
def tE2(a:N2)(n:Nat):Bool:=decide (ai (AZ a n) (AZ a n)=a)
def ya(a:N2)(n:Nat):Bool:=tqI (K8 a n) a n&&tE2 a n
def zjQ(a:N2)(n:Nat):N2×Bool:=((oE a n,oC a n),ya a n)
theorem zxS{y:Nat}(h:y<M6):Y9 y<M6:=by unfold Y9;split;exact n7 _;exact h
theorem zbR(a:Nat):(Aj a).1<M6:=by
 show cg a<M6
 unfold cg
 split
 ·exact zxS (n7 _)
 ·show 0<M6;decide +kernel
theorem zCH(a:N2)(n:Nat):(eZ a n).1=cg (ao (bZ a.1 n) aU):=by kernel_rfl
theorem zfq(a:Nat):cg a<M6:=zbR a
theorem ztq(a:N2)(ha:Sm a)(n:Nat):∃ e0 e1 i e2,(∀ p∈zjS e0 e1 i e2 a n,p)∧(tqX e1 a n=oE a n∧tqY e0 e1 a n=oC a n)∧(i&&e2)=ya a n:=by
 refine ⟨K8 a n,WV a n,tqI (K8 a n) a n,tE2 a n,?_,⟨rfl,rfl⟩,rfl⟩
 have h0:cg (ao (bZ a.1 n) aU)=0↔K8 a n=true:=by unfold K8;exact decide_eq_true_iff.symm
 have h1:gK (cg (ao (bZ a.1 n) aU),K4 (K8 a n) a n)=1↔WV a n=true:=by unfold WV;exact decide_eq_true_iff.symm
 have h2:ai (tqX (WV a n) a n,tqY (K8 a n) (WV a n) a n) (tqX (WV a n) a n,tqY (K8 a n) (WV a n) a n)=a↔tE2 a n=true:=by unfold tE2;exact decide_eq_true_iff.symm
 generalize tE2 a n=e2 at *
 generalize WV a n=e1 at *
 generalize K8 a n=e0 at *
 have hM:cg (ao (bZ a.1 n) aU)<M6:=zfq _
 intro p hp
 unfold zjS at hp
 rw [PM,zbh,aaw,aaw] at hp
 rcases hp with (hp|hp)|hp
 ·rw [zCH] at hp
  cases e0 with
  | true=>exact aa (ej (sm1 hM) sm0 h0) (aa (by kernel_rfl) ad) p hp
  | false=>exact aa (by kernel_rfl) (aa (ej (sm1 hM) sm0 h0) ad) p hp
 ·exact aa h1 ad p hp
 ·split at hp
  ·refine aa (ej ?_ ha h2) ad p hp
   unfold ai;exact mf _
  ·cases hp
def m_:Rs (N2×Bool):=tI (kV N2) AG
theorem PL{w:World}{b o:Nat}{a:N2}{n:Nat}{e0 e1 i e2:Bool}(ax:∀ p∈zjS e0 e1 i e2 a n,p)(hs:Stands w b o (((Nm.toL a).map (au 6)).flatten)):
  cX Tryz.prog 62 #[wv n,.pointer (some ⟨b,o,none⟩)] (m_.vl (tqB e0 e1 a n,i&&e2)) w:=by
 have jd:∀ e∈[((1:Nat),(Nm.toL a).map (It.w 6),(b,o),((Nm.toL a).map (au 6)).flatten)],e.1<16∧conc rho0 e.2.1=some e.2.2.2∧Stands w e.2.2.1.1 e.2.2.1.2 e.2.2.2:=
  aab.2 ⟨⟨(by show 1<16;decide),s8 _ _,hs⟩,fun _ h=>by cases h⟩
 let L:List (Nat×(Nat×Nat)):=[(1,(b,o))]
 have hM:Mem (aH L) (cj [(1,(Nm.toL a).map (It.w 6))]) w:=dU _ jd
 have cv:∀ c,¬Own (aH L) c:=iD (w:=w) _ jd
 have hv:ay (aH L) [wN n,⟨false,[.p 1 0]⟩]=some [wv n,.pointer (some ⟨b,o,none⟩)]:=by
  have e:AV.val (aH L) ⟨false,[.p 1 0]⟩=some (mo (b,o) 0):=AV.val_mk (by simp [It.cs,aH,L])
  simp only [ay,gr,e]
  rfl
 have hr:=zjO e0 e1 i e2 a n
 unfold ziB at hr
 generalize tqB e0 e1 a n=B at *
 refine tQ (zza _ _) hr ax hM cv hv fun ρ u hu=>?_
 have:=m_.val ρ (B,i&&e2)
 rw [show SV.val ρ (.tup [wN B,cY (i&&e2)])=_ from this] at hu
 cases hu;rfl
theorem WJ{w:World}{b o:Nat}{a:N2}(ha:Sm a)(n:Nat)(hs:Stands w b o (((Nm.toL a).map (au 6)).flatten)):
  cX Tryz.prog 62 #[wv n,.pointer (some ⟨b,o,none⟩)] (m_.vl (zjQ a n)) w:=by
 obtain ⟨e0,e1,i,e2,h1,⟨h2,h3⟩,h4⟩:=ztq a ha n
 have h:=PL h1 hs
 rw [zbh,h2,h3,h4] at h
 exact h
def ztr:CallT:=fun f args m _=>match f==62 with
 | true=>match args with
  | [x,⟨false,[.p id 0]⟩]=>match asN Nat x,m.blk id with
   | some n,some l=>match asN N2 ⟨true,l⟩ with
    | some a=>some { val:=.tup [wN (zjQ a n).1,cY (zjQ a n).2],wr:=[],news:=[],ob:=[Sm a] }
    | none=>none
   | _,_=>none
  | _=>none
 | false=>none
theorem zjP:ag Tryz.prog ztr:=by
 intro f args m nid out af ax ρ w vs hv hM df
 unfold ztr at af
 split at af
 ·rename_i hf
  rw [beq_iff_eq] at hf
  subst hf
  split at af
  ·rename_i x id
   split at af
   ·rename_i n l hn hl
    split at af
    ·rename_i a ha
     cases af
     obtain ⟨v1,us,h1,h2,rfl⟩:=aj hv
     obtain ⟨v2,ov,h3,h4,rfl⟩:=aj h2
     cases h4
     have e1:=qv hn h1
     subst e1
     obtain ⟨q,hq,uX⟩:=dY (id:=id) (off:=0) rfl h3
     have uX:v2 = .pointer (some ⟨q.1,q.2,none⟩):=uX
     subst uX
     obtain ⟨ys,e2,e3,e4⟩:=lC hM hl hq
     have e5:=qv ha (ρ:=ρ) (v:=.agg ys.toArray) (by simp only [AV.val,e2])
     have e6:ys=((Nm.toL a).map (au 6)).flatten:=by
      have:=congrArg (fun v=>match v with | Value.agg c=>c.toList | _=>[]) e5
      simpa [wv] using this
     subst e6
     refine .inr ⟨(aB _ (match fJ 62 with | some d=>d | none=>⟨.skip,[],0⟩) (by kernel_rfl)).enter _ _,(WJ (ax _ aac) n ⟨e3,e4⟩).mono ?_⟩
     rintro e w' ⟨rfl,hB⟩
     exact ⟨_,rfl,ρ,Ext.of_below hB,m_.val ρ (zjQ a n),hM.of_below hB⟩
    ·cases af
   ·cases af
  ·cases af
 ·cases af
def TRv(i i1 i2:Bool):CallT:=D5 (jV ztr zzh) [(33,i),(46,i1),(57,i2)]
theorem KE(i i1 i2:Bool):ag Tryz.prog (TRv i i1 i2):=zq (aT zjP Wa) _
def Dj(r:N2):Nat:=bZ (ao r.1 r.1) (ao r.2 r.2)
theorem Qk(a:N2):aK (TRv false true true) 26 [wN a] []=some (.tup [wN ((0,0):N2),cY false],[Fg (Dj (aE a))=false]):=by kernel_rfl
theorem Qj(a:N2):aK (TRv true true true) 26 [wN a] []=some (.tup [wN ((oE (aE a) (cg (Dj (aE a))),oC (aE a) (cg (Dj (aE a)))):N2),cY true],
 [Fg (Dj (aE a))=true,ya (aE a) (cg (Dj (aE a)))=true,Sm (aE a)]):=by kernel_rfl
theorem Qi(a:N2):aK (TRv true false true) 26 [wN a] []=some (.tup [wN ((oE (aE a) (du (cg (Dj (aE a)))),oC (aE a) (du (cg (Dj (aE a))))):N2),cY true],
 [Fg (Dj (aE a))=true,ya (aE a) (cg (Dj (aE a)))=false,Sm (aE a),ya (aE a) (du (cg (Dj (aE a))))=true,Sm (aE a)]):=by kernel_rfl
theorem Qh(a:N2):aK (TRv true false false) 26 [wN a] []=some (.tup [wN ((0,0):N2),cY false],
 [Fg (Dj (aE a))=true,ya (aE a) (cg (Dj (aE a)))=false,Sm (aE a),ya (aE a) (du (cg (Dj (aE a))))=false,Sm (aE a)]):=by kernel_rfl
def LR(a:N2):Bool:=Fg (Dj (aE a))
def vN(a:N2):Nat:=cg (Dj (aE a))
def Pn(a:N2):Bool:=ya (aE a) (vN a)
def Xu(a:N2):Bool:=ya (aE a) (du (vN a))
def A6(i p q:Bool)(x y:Nat):Nat:=match i,p,q with
 | true,true,_=>x
 | true,false,true=>y
 | _,_,_=>0
theorem zce(p q:Bool)(x y:Nat):A6 false p q x y=0:=by cases p<;>cases q<;>rfl
theorem Ic(q:Bool)(x y:Nat):A6 true true q x y=x:=by cases q<;>rfl
theorem zcd(x y:Nat):A6 true false true x y=y:=rfl
def kt(a:N2):Nat:=A6 (LR a) (Pn a) (Xu a) (oE (aE a) (vN a)) (oE (aE a) (du (vN a)))
def kq(a:N2):Nat:=A6 (LR a) (Pn a) (Xu a) (oC (aE a) (vN a)) (oC (aE a) (du (vN a)))
def me(a:N2):Bool:=LR a&&(Pn a || Xu a)
def ym(a:N2):N2×Bool:=((kt a,kq a),me a)
theorem vH(a:N2):Sm (aE a):=by unfold aE;exact mf _
theorem zkm(a:N2)(h0:LR a=false):bj Tryz.prog 26 [wv a] (m_.vl ((0,0),false)):=
 ah (KE false true true) m_ (x:=((0,0),false)) (Qk a) (aa h0 ad) (eE a) rfl
theorem zkl(a:N2)(h0:LR a=true)(h1:Pn a=true):bj Tryz.prog 26 [wv a] (m_.vl ((oE (aE a) (vN a),oC (aE a) (vN a)),true)):=
 ah (KE true true true) m_ (x:=((oE (aE a) (cg (Dj (aE a))),oC (aE a) (cg (Dj (aE a)))),true)) (Qj a) (aa h0 (aa h1 (aa (vH a) ad))) (eE a) rfl
theorem zkk(a:N2)(h0:LR a=true)(h1:Pn a=false)(h2:Xu a=true):bj Tryz.prog 26 [wv a] (m_.vl ((oE (aE a) (du (vN a)),oC (aE a) (du (vN a))),true)):=
 ah (KE true false true) m_ (x:=((oE (aE a) (du (cg (Dj (aE a)))),oC (aE a) (du (cg (Dj (aE a))))),true)) (Qi a) (aa h0 (aa h1 (aa (vH a) (aa h2 (aa (vH a) ad))))) (eE a) rfl
theorem zkj(a:N2)(h0:LR a=true)(h1:Pn a=false)(h2:Xu a=false):bj Tryz.prog 26 [wv a] (m_.vl ((0,0),false)):=
 ah (KE true false false) m_ (x:=((0,0),false)) (Qh a) (aa h0 (aa h1 (aa (vH a) (aa h2 (aa (vH a) ad))))) (eE a) rfl
theorem zkJ{P:N2×Bool→Prop}(i p q:Bool)(x1 y1 x2 y2:Nat)(hA:i=false→P ((0,0),false))(hB:i=true→p=true→P ((x1,y1),true))(hC:i=true→p=false→q=true→P ((x2,y2),true))(hD:i=true→p=false→q=false→P ((0,0),false)):
  P ((A6 i p q x1 x2,A6 i p q y1 y2),i&&(p || q)):=by
 cases i with
 | false=>rw [zce,zce];exact hA rfl
 | true=>
  cases p with
  | true=>rw [Ic,Ic];exact hB rfl rfl
  | false=>
   cases q with
   | true=>exact hC rfl rfl rfl
   | false=>exact hD rfl rfl rfl
theorem JT(a:N2):bj Tryz.prog 26 [wv a] (m_.vl (ym a)):=
 zkJ (P:=fun r=>bj Tryz.prog 26 [wv a] (m_.vl r)) (LR a) (Pn a) (Xu a) (oE (aE a) (vN a)) (oC (aE a) (vN a)) (oE (aE a) (du (vN a))) (oC (aE a) (du (vN a))) (zkm a) (zkl a) (zkk a) (zkj a)
def QE:List Row:=jb (kV N2) m_ 26 ym::Ih
theorem Gi:∀ r∈QE,bE Tryz.prog r:=aab.2 ⟨cW JT,CS⟩
def ziE:CallT:=jV (aA QE) (aA j_)
theorem B3:ag Tryz.prog ziE:=aT (ap Gi) (ap fF)
def zcy{A R:Type}(c:Cd A)(r:Rs R)(f:FuncId)(g:A→N2→R):CallT:=fun f' args m _=>match f'==f with
 | true=>match args with
  | [x,⟨false,[.p id 0]⟩]=>match c.rd x,m.blk id with
   | some n,some l=>match asN N2 ⟨true,l⟩ with
    | some a=>some { val:=r.sv (g n a),wr:=[],news:=[],ob:=[] }
    | none=>none
   | _,_=>none
  | _=>none
 | false=>none
theorem zcx{A R:Type}{c:Cd A}{r:Rs R}{f:FuncId}{g:A→N2→R}(h:∀ w b o x a,Stands w b o (((Nm.toL a).map (au 6)).flatten)→Invoked Tryz.prog f #[c.vl x,.pointer (some ⟨b,o,none⟩)] w fun u w'=>u=r.vl (g x a)∧Below w.heap.size w w'):ag Tryz.prog (zcy c r f g):=by
 intro f' args m nid out af ax ρ w vs hv hM df
 unfold zcy at af
 split at af
 ·rename_i hf
  rw [beq_iff_eq] at hf
  subst hf
  split at af
  ·rename_i x id
   split at af
   ·rename_i n l hn hl
    split at af
    ·rename_i a ha
     cases af
     obtain ⟨v1,us,h1,h2,rfl⟩:=aj hv
     obtain ⟨v2,ov,h3,h4,rfl⟩:=aj h2
     cases h4
     have e1:=c.ok hn h1
     subst e1
     obtain ⟨q,hq,uX⟩:=dY (id:=id) (off:=0) rfl h3
     have uX:v2 = .pointer (some ⟨q.1,q.2,none⟩):=uX
     subst uX
     obtain ⟨ys,e2,e3,e4⟩:=lC hM hl hq
     have e5:=qv ha (ρ:=ρ) (v:=.agg ys.toArray) (by simp only [AV.val,e2])
     have e6:ys=((Nm.toL a).map (au 6)).flatten:=by
      have:=congrArg (fun v=>match v with | Value.agg c=>c.toList | _=>[]) e5
      simpa [wv] using this
     subst e6
     refine (h w q.1 q.2 n a ⟨e3,e4⟩).mono fun u w' hu=>?_
     obtain ⟨rfl,hB⟩:=hu
     exact ⟨ρ,Ext.of_below hB,r.val ρ _,hM.of_below hB⟩
    ·cases af
   ·cases af
  ·cases af
 ·cases af
def xT:N2:=(0,240)
def vo:N2:=(1012,1012)
def P6:N2:=gl (2,1)
def di(x:N2):N2:=bk (ai (bk (ai (bk (ai (bk (ai (0,0) x) (1,0)) x) (0,0)) x) xT) x) vo
theorem zb0(x:N2):aK ziE 116 [wN x] []=some (.one (wN (di x)),[]):=by kernel_rfl
theorem W8(x:N2):bj Tryz.prog 116 [wv x] (wv (di x)):=aR B3 (zb0 x) (fun p hp=>by cases hp) (eE x) rfl
def T_:List Row:=jk 116 di::QE
theorem QC:∀ r∈T_,bE Tryz.prog r:=aab.2 ⟨da W8,Gi⟩
def zzf:CallT:=jV (aA T_) (aA j_)
theorem V_:ag Tryz.prog zzf:=aT (ap QC) (ap fF)
def EZ(b:Bool)(y:Nat):Nat:=match b with
 | true=>du y
 | false=>y
def rtB(x u:N2):Bool:=decide (gK (kt (di x),kq (di x))≠gK u)
def LU(x u:N2):Nat:=EZ (rtB x u) (kt (di x))
def LS(x u:N2):Nat:=EZ (rtB x u) (kq (di x))
def zuH(x u:N2):N2×Bool:=((LU x u,LS x u),me (di x))
theorem zuC(b:Bool)(x u:N2):j9 zzf 115 [wN x,⟨false,[.p 1 0]⟩] (cj [(1,(Nm.toL u).map (It.w 6))]) [(17,b)] =
  some (m_.sv ((EZ b (kt (di x)),EZ b (kq (di x))),me (di x)),[gK (kt (di x),kq (di x))≠gK u↔b=true]):=by
 cases b
 ·kernel_rfl
 ·kernel_rfl
theorem zuD(w:World)(b o:Nat)(x u:N2)(hs:Stands w b o (((Nm.toL u).map (au 6)).flatten)):
  Invoked Tryz.prog 115 #[wv x,.pointer (some ⟨b,o,none⟩)] w fun v w'=>v=m_.vl (zuH x u)∧Below w.heap.size w w':=by
 have jd:∀ e∈[((1:Nat),(Nm.toL u).map (It.w 6),(b,o),((Nm.toL u).map (au 6)).flatten)],e.1<16∧conc rho0 e.2.1=some e.2.2.2∧Stands w e.2.2.1.1 e.2.2.1.2 e.2.2.2:=
  aab.2 ⟨⟨(by show 1<16;decide),s8 _ _,hs⟩,fun _ h=>by cases h⟩
 let L:List (Nat×(Nat×Nat)):=[(1,(b,o))]
 have hM:Mem (aH L) (cj [(1,(Nm.toL u).map (It.w 6))]) w:=dU _ jd
 have cv:∀ c,¬Own (aH L) c:=iD (w:=w) _ jd
 have hv:ay (aH L) [wN x,⟨false,[.p 1 0]⟩]=some [wv x,.pointer (some ⟨b,o,none⟩)]:=by
  have e:AV.val (aH L) ⟨false,[.p 1 0]⟩=some (mo (b,o) 0):=AV.val_mk (by simp [It.cs,aH,L])
  simp only [ay,gr,e]
  rfl
 have hB:gK (kt (di x),kq (di x))≠gK u↔rtB x u=true:=by unfold rtB;exact decide_eq_true_iff.symm
 refine .inr ⟨(aB _ (match fJ 115 with | some d=>d | none=>⟨.skip,[],0⟩) (by kernel_rfl)).enter _ _,?_⟩
 refine (tQ V_ (zuC (rtB x u) x u) (aa hB ad) hM cv hv (v:=m_.vl (zuH x u)) fun ρ v hu=>?_).mono ?_
 ·rw [m_.val] at hu
  cases hu;rfl
 ·rintro e w' ⟨rfl,h⟩;exact ⟨_,rfl,rfl,h⟩
def rtT:CallT:=zcy (kV N2) m_ 115 zuH
theorem zuE:ag Tryz.prog rtT:=zcx fun w b o x a hs=>zuD w b o x a hs
def TSx(e i:Bool):CallT:=D5 (jV rtT zzf) [(match e with | true=>54 | false=>55,i)]
theorem KD(e i:Bool):ag Tryz.prog (TSx e i):=zq (aT zuE V_) _
def Bb(u:N2):N2:=ai P6 (ai u u)
def yR(u:N2):N2:=bk (ai (Bb u) (Bb u)) (Bb u)
def mpX(e:Bool)(u:N2):N2:=match e with
 | true=>ai vo (bU (ai P6 xT))
 | false=>ai (gl (ai vo (bU xT))) (bk (1,0) (bU (yR u)))
def kv:Rs (N2×N2):=tI (kV N2) (kV N2)
theorem zv5(u:N2):aK (TSx true true) 77 [wN u] [(29,true)]=some (kv.sv (ai vo (bU (ai P6 xT)),(LU (ai vo (bU (ai P6 xT))) u,LS (ai vo (bU (ai P6 xT))) u)),
 [dJ (yR u) (0,0) true,me (di (ai vo (bU (ai P6 xT))))=true]):=by kernel_rfl
theorem zv9(u:N2):aK (TSx false true) 77 [wN u] [(29,false)]=some (kv.sv (ai (gl (ai vo (bU xT))) (bk (1,0) (bU (yR u))),(LU (ai (gl (ai vo (bU xT))) (bk (1,0) (bU (yR u)))) u,LS (ai (gl (ai vo (bU xT))) (bk (1,0) (bU (yR u)))) u)),
 [dJ (yR u) (0,0) false,me (di (ai (gl (ai vo (bU xT))) (bk (1,0) (bU (yR u)))))=true]):=by kernel_rfl
theorem zv6(u:N2):aK (TSx true false) 77 [wN u] [(29,true)]=some (kv.sv (ai (Bb u) (ai vo (bU (ai P6 xT))),(LU (ai (Bb u) (ai vo (bU (ai P6 xT)))) u,LS (ai (Bb u) (ai vo (bU (ai P6 xT)))) u)),
 [dJ (yR u) (0,0) true,me (di (ai vo (bU (ai P6 xT))))=false]):=by kernel_rfl
theorem zwa(u:N2):aK (TSx false false) 77 [wN u] [(29,false)]=some (kv.sv (ai (Bb u) (ai (gl (ai vo (bU xT))) (bk (1,0) (bU (yR u)))),(LU (ai (Bb u) (ai (gl (ai vo (bU xT))) (bk (1,0) (bU (yR u))))) u,LS (ai (Bb u) (ai (gl (ai vo (bU xT))) (bk (1,0) (bU (yR u))))) u)),
 [dJ (yR u) (0,0) false,me (di (ai (gl (ai vo (bU xT))) (bk (1,0) (bU (yR u)))))=false]):=by kernel_rfl
def mpE(u:N2):Bool:=decide (yR u=(0,0))
def Mv(u:N2):N2:=mpX (mpE u) u
def mpI(u:N2):Bool:=me (di (Mv u))
def Yj(i:Bool)(w x:N2):N2:=match i with
 | true=>x
 | false=>ai w x
def mE(u:N2):N2:=Yj (mpI u) (Bb u) (Mv u)
def zdY(u:N2):N2×N2:=(mE u,(LU (mE u) u,LS (mE u) u))
theorem Xd:Sm ((0,0):N2):=fun m hm=>by
 have:m=0:=by simpa [Nm.toL] using hm
 subst this;decide +kernel
theorem W9(u:N2)(e i:Bool)(hT:yR u=(0,0)↔e=true)(hi:me (di (mpX e u))=i):bj Tryz.prog 77 [wv u] (kv.vl (Yj i (Bb u) (mpX e u),(LU (Yj i (Bb u) (mpX e u)) u,LS (Yj i (Bb u) (mpX e u)) u))):=by
 have ax:dJ (yR u) (0,0) e:=ej (by unfold yR bk;exact mf _) Xd hT
 cases e with
 | true=>cases i with
  | true=>exact ah (KD _ _) kv (zv5 u) (aa ax (aa hi ad)) (eE u) rfl
  | false=>exact ah (KD _ _) kv (zv6 u) (aa ax (aa hi ad)) (eE u) rfl
 | false=>cases i with
  | true=>exact ah (KD _ _) kv (zv9 u) (aa ax (aa hi ad)) (eE u) rfl
  | false=>exact ah (KD _ _) kv (zwa u) (aa ax (aa hi ad)) (eE u) rfl
theorem zbN(u:N2):bj Tryz.prog 77 [wv u] (kv.vl (zdY u)):=
 W9 u (mpE u) (mpI u) (by unfold mpE;exact decide_eq_true_iff.symm) rfl
def ze6:N2:=(889424345604814976315064405719089812568196182208668418962679585805340366775741747653930584250892369786198727235542,889424345604814976315064405719089812568196182208668418962679585805340366775741747653930584250892369786198727235542)
def ze5:N2:=(0,2668273036814444928945193217157269437704588546626005256888038757416021100327225242961791752752677109358596181706522)
def ze4:N2:=(2668273036814444928945193217157269437704588546626005256888038757416021100327225242961791752752677109358596181706526,1334136518407222464472596608578634718852294273313002628444019378708010550163612621480895876376338554679298090853261)
def ze3:N2:=(3557697382419259905260257622876359250272784728834673675850718343221361467102966990615722337003569479144794908942033,0)
def zeY:N2:=(0,4002409555221667393417789825735904156556882819939007885332058136124031650490837864442687629129015664037894272559715)
def zeX:N2:=(12,4002409555221667393417789825735904156556882819939007885332058136124031650490837864442687629129015664037894272559775)
def zeW:N2:=(1,0)
def zeV:N2:=(3261222600550988246488569487636662646083386001431784202863158481286248011511053074731078808919938689216061999863558,3261222600550988246488569487636662646083386001431784202863158481286248011511053074731078808919938689216061999863558)
def zeU:N2:=(0,889424345604814976315064405719089812568196182208668418962679585805340366775741747653930584250892369786198727235518)
def zeT:N2:=(2668273036814444928945193217157269437704588546626005256888038757416021100327225242961791752752677109358596181706524,1334136518407222464472596608578634718852294273313002628444019378708010550163612621480895876376338554679298090853263)
def zeS:N2:=(2816510427748580758331037284777117739799287910327449993381818688383577828123182200904113516794492504322962636245776,0)
def ze2:N2:=(4002409555221667393417789825735904156556882819939007885332058136124031650490837864442687629129015664037894272559355,4002409555221667393417789825735904156556882819939007885332058136124031650490837864442687629129015664037894272559355)
def ze1:N2:=(0,4002409555221667393417789825735904156556882819939007885332058136124031650490837864442687629129015664037894272559571)
def ze0:N2:=(18,4002409555221667393417789825735904156556882819939007885332058136124031650490837864442687629129015664037894272559769)
def zeZ:N2:=(1,0)
def mY(x:N2):N2:=bk (ai (bk (ai (bk (ai (bk (ai ((0,0):N2) x) ze3) x) ze4) x) ze5) x) ze6
def cR(x:N2):N2:=bk (ai (bk (ai (bk (ai ((0,0):N2) x) zeW) x) zeX) x) zeY
def mX(x:N2):N2:=bk (ai (bk (ai (bk (ai (bk (ai ((0,0):N2) x) zeS) x) zeT) x) zeU) x) zeV
def c6(x:N2):N2:=bk (ai (bk (ai (bk (ai (bk (ai ((0,0):N2) x) zeZ) x) ze0) x) ze1) x) ze2
def zf(x:N2):N2:=ai (mY x) (bU (cR x))
def Bd(x y:N2):N2:=ai y (ai (mX x) (bU (c6 x)))
theorem zeR(x y:N2):aK (aA j_) 76 [wN x,wN y] [(38,true)]=some (.one (wP ((((0,0),(0,0)):A2),true)),[dJ (cR x) (0,0) true]):=by kernel_rfl
theorem zeQ(x y:N2):aK (aA j_) 76 [wN x,wN y] [(38,false),(42,true)]=some (.one (wP ((((0,0),(0,0)):A2),true)),[dJ (cR x) (0,0) false,dJ (c6 x) (0,0) true]):=by kernel_rfl
theorem zeP(x y:N2):aK (aA j_) 76 [wN x,wN y] [(38,false),(42,false)]=some (.one (wP (((zf x,Bd x y):A2),false)),[dJ (cR x) (0,0) false,dJ (c6 x) (0,0) false]):=by kernel_rfl
end Go.Proofs.YtcafpgpahbplaaaGreat
