/-
 The proof, part 21 of 25.
-/
import Derived.Test.YtcafpgpahbplaaaGreatZ20
import Derived.WalkKit
import Derived.MapKept
import Derived.Test.YtcafpgpahbplaaaGreatZ12
import Derived.Test.YtcafpgpahbplaaaGreatZ19
open Go.Instr renaming mapUpdate->aeq
open Go.MapKept renaming run_getObj_map->adJ
open Go.Result renaming andThen->abw
open Go.Sem renaming run_bind->aal,run_pure->aat
open List renaming getD_eq_getElem?_getD->aaU,length_append->aaX,range'->aaQ,range->aan
open Nat renaming mod_eq_of_lt->aah
open Option.some renaming inj->abn
noncomputable section
set_option linter.unusedVariables false
set_option linter.unusedSimpArgs false
namespace Go.Proofs.YtcafpgpahbplaaaGreat
open Go Go.Eng Go.RowKit Go.Wd Go.Alg Go.Pr
namespace Sh
def aQ(a b:Nat)(i:Bool):P1:=((a,b),i)
def eM(a b c d e f g h i j k l:Nat):b9:=(((a,b),(c,d),(e,f)),((g,h),(i,j),(k,l)))
def TVf(D:P2×Int)(H:P2)(Ng:P1)(F W:b9):CallT:=fz (fz (fz (jV (d2T D) (jV (Ni H) (jV (ziF true true) (jV zzl TSb)))) 96 (.one (wP Ng))) 82 (.one (wN F))) 97 (.one (wN W))
theorem zze(D:P2×Int)(H:P2)(Ng:P1)(F W:b9):ag Tryz.prog (TVf D H Ng F W):=b7 (b7 (b7 (aT (zhB D) (aT (xk H) (aT (B5 true true) (aT We EA)))) _ _) _ _) _ _
def dVf:Fn1:=match fJ 44 with
 | some d=>d
 | none=>⟨.skip,[],0⟩
theorem Sd:fJ 44=some dVf:=by kernel_rfl
def qC(D:P2×Int)(H:P2)(Ng:P1)(F W:b9):Eng:={ tab:=bh,call:=kR bh (TVf D H Ng F W) fJ 1000 (fun _=>[]) 6,N:=80 }
def bVf(i:Nat):Code:=match i with
 | 0=>dVf.body
 | i+1=>aJ (bVf i)
def mi(i:Nat):Code:=bJ (bVf i)
def aVf(z zs:Bool)(c1 c2 n c ns cs:Nat):List AV:=[bT (.s 1 0 1 (c1+1)),bT (.s 2 0 1 (c2+1)),gn zs 4 ns cs,⟨false,[.v (.string cT)]⟩]
def mVf(p:P1)(z:Bool)(n c ns:Nat)(fm fs:Nat→Int):St:=cj [(1,(wP p).its),(2,(gn z 3 n c).its),(3,gM n fm),(4,gM ns fs)]
def MV(p:P1)(z zs:Bool)(c1 c2 n c ns cs:Nat)(fm fs:Nat→Int):St:=aW 0 (aVf z zs c1 c2 n c ns cs) (80-4)++mVf p z n c ns fm fs
def sl(x:It):Ct:=.sl (.one (bT x))
def iC(n:Int):Ct:=sl (.v (.int .i64 n))
def fK(p:P1)(S:P2)(z:Bool)(n c ns:Nat)(fm fs:Nat→Int):St:=[(3,.bl (wP p).its),(5,.bl (gn z 3 n c).its),(7,.bl (gM n fm)),(9,.bl (gM ns fs)),(45,.bl (wP S).its)]
def coV(c1:Nat):St:=[(0,sl (.s 1 0 1 (c1+1))),(6,sl (.v (.string cT))),(18,sl (.p 22 0)),(22,sl (.v (.slice none 0 0)))]
def Cu(c1 c2:Nat):St:=coV c1++[(2,sl (.s 2 0 1 (c2+1)))]
def mpV(B:Nat):Nat×Ct:=(24,sl (.v (.map (some B))))
def ER(c1 c2 B:Nat):St:=coV c1++[mpV B,(52,sl (.s 2 0 1 (c2+1))),(54,iC 1),(56,iC 0)]
def msV(z:Bool)(n c t:Nat):Nat×Ct:=(2*t,.sl (.one (gn z 3 n c)))
def pF(c1 c2 B:Nat)(z:Bool)(n c:Nat):St:=ER c1 c2 B++[msV z n c 14]
def mZ(H:P2):St:=[(30,sl (.p 103 0)),(207,.bl (wP H).its)]
def lpV:Code:=gw (dh (aJ (mi 5)))
def r6V:Code:=bJ (mi 5)
def r7V:Code:=bJ lpV
def k7V:Code:=bJ (aJ lpV)
def b1V:Code:=dh (bJ (aJ (aJ lpV)))
def zB3:Code:=aJ (aJ (aJ lpV))
def r8V:Code:=bJ b1V
def QY:Code:=bJ (aJ b1V)
def zfo:Code:=bJ (aJ (aJ b1V))
def zB5:Code:=bJ zfo
def zsy:Code→Code
 | .cond _ p _=>p
 | c=>c
def vV:Code:=bJ (zsy (aJ zfo))
def uq:Code:=aJ (zsy (aJ zfo))
def zB4:Code:=aJ (aJ (aJ b1V))
def IZ(zs:Bool)(ns cs:Nat)(fs:Nat→Int)(D:P2×Int):List Prop:=match zs with
 | true=>[kW true 0 (fun _=>0)=D]
 | false=>[kW false ns (fun i=>fs (0+i))=D,ns≤cs,bOk ns (fun i=>fs (0+i)),0+ns*1≤ns]
theorem zjv(px py:Nat)(ip:Bool)(sx bA sy bz:Nat)(is:Bool)(hx bC hy bM:Nat)(ih:Bool)(Ng:P1)(F W:b9)(z zs:Bool)(c1 c2 n c ns cs:Nat)(fm fs:Nat→Int):Eng.probes (qC ((aG sx bA sy bz is),0) (aG hx bC hy bM ih) Ng F W) 100 [mi 0,mi 1,mi 2,mi 3] (MV (aQ px py ip) z zs c1 c2 n c ns cs fm fs) 16 [] ((Cu c1 c2++fK (aQ px py ip) (aG sx bA sy bz is) z n c ns fm fs).map (·.1))=some (0,IZ zs ns cs fs ((aG sx bA sy bz is),0),(Cu c1 c2++fK (aQ px py ip) (aG sx bA sy bz is) z n c ns fm fs).map fun p=>some p.2):=by cases z<;>cases zs<;>kernel_rfl
theorem WE(p:P1)(H:P2)(Ng:P1)(F W:b9)(z zs:Bool)(c1 c2 n c ns cs:Nat)(fm fs:Nat→Int):Eng.probes (qC (iX,200) H Ng F W) 100 [mi 0,mi 1,mi 2,mi 3] (MV p z zs c1 c2 n c ns cs fm fs) 16 [] [16,3,5,7,9]=some (1,IZ zs ns cs fs (iX,200),[some (sl (.v (.bool false))),some (.bl (wP p).its),some (.bl (gn z 3 n c).its),some (.bl (gM n fm)),some (.bl (gM ns fs))]):=by cases z<;>cases zs<;>kernel_rfl
theorem WD(p:P1)(H:P2)(Ng:P1)(F W:b9)(z zs:Bool)(c1 c2 n c ns cs:Nat)(fm fs:Nat→Int):Eng.probes (qC (iX,201) H Ng F W) 100 [mi 0,mi 1,mi 2,mi 3] (MV p z zs c1 c2 n c ns cs fm fs) 16 [] [16,3,5,7,9]=some (1,IZ zs ns cs fs (iX,201),[some (sl (.v (.bool false))),some (.bl (wP p).its),some (.bl (gn z 3 n c).its),some (.bl (gM n fm)),some (.bl (gM ns fs))]):=by cases z<;>cases zs<;>kernel_rfl
theorem WC(p:P1)(H:P2)(Ng:P1)(F W:b9)(z zs:Bool)(c1 c2 n c ns cs:Nat)(fm fs:Nat→Int):Eng.probes (qC (iX,202) H Ng F W) 100 [mi 0,mi 1,mi 2,mi 3] (MV p z zs c1 c2 n c ns cs fm fs) 16 [] [16,3,5,7,9]=some (1,IZ zs ns cs fs (iX,202),[some (sl (.v (.bool false))),some (.bl (wP p).its),some (.bl (gn z 3 n c).its),some (.bl (gM n fm)),some (.bl (gM ns fs))]):=by cases z<;>cases zs<;>kernel_rfl
theorem WB(p:P1)(H:P2)(Ng:P1)(F W:b9)(z zs:Bool)(c1 c2 n c ns cs:Nat)(fm fs:Nat→Int):Eng.probes (qC (iX,203) H Ng F W) 100 [mi 0,mi 1,mi 2,mi 3] (MV p z zs c1 c2 n c ns cs fm fs) 16 [] [16,3,5,7,9]=some (1,IZ zs ns cs fs (iX,203),[some (sl (.v (.bool false))),some (.bl (wP p).its),some (.bl (gn z 3 n c).its),some (.bl (gM n fm)),some (.bl (gM ns fs))]):=by cases z<;>cases zs<;>kernel_rfl
theorem WA(p:P1)(H:P2)(Ng:P1)(F W:b9)(z zs:Bool)(c1 c2 n c ns cs:Nat)(fm fs:Nat→Int):Eng.probes (qC (iX,204) H Ng F W) 100 [mi 0,mi 1,mi 2,mi 3] (MV p z zs c1 c2 n c ns cs fm fs) 16 [] [16,3,5,7,9]=some (1,IZ zs ns cs fs (iX,204),[some (sl (.v (.bool false))),some (.bl (wP p).its),some (.bl (gn z 3 n c).its),some (.bl (gM n fm)),some (.bl (gM ns fs))]):=by cases z<;>cases zs<;>kernel_rfl
theorem Wz(p:P1)(H:P2)(Ng:P1)(F W:b9)(z zs:Bool)(c1 c2 n c ns cs:Nat)(fm fs:Nat→Int):Eng.probes (qC (iX,205) H Ng F W) 100 [mi 0,mi 1,mi 2,mi 3] (MV p z zs c1 c2 n c ns cs fm fs) 16 [] [16,3,5,7,9]=some (1,IZ zs ns cs fs (iX,205),[some (sl (.v (.bool false))),some (.bl (wP p).its),some (.bl (gn z 3 n c).its),some (.bl (gM n fm)),some (.bl (gM ns fs))]):=by cases z<;>cases zs<;>kernel_rfl
theorem zju(px py:Nat)(ip:Bool)(sx bA sy bz:Nat)(is:Bool)(hx bC hy bM:Nat)(ih:Bool)(Ng:P1)(F W:b9)(z:Bool)(c1 c2 n c ns:Nat)(fm fs:Nat→Int)(B:Nat):Eng.probe (qC ((aG sx bA sy bz is),0) (aG hx bC hy bM ih) Ng F W) 100 r6V (mpV B::(Cu c1 c2++fK (aQ px py ip) (aG sx bA sy bz is) z n c ns fm fs)) 40 [] ((ER c1 c2 B++fK (aQ px py ip) (aG sx bA sy bz is) z n c ns fm fs).map (·.1))=some (0,[],(ER c1 c2 B++fK (aQ px py ip) (aG sx bA sy bz is) z n c ns fm fs).map fun p=>some p.2):=by cases z<;>kernel_rfl
theorem zjt(px py:Nat)(ip:Bool)(sx bA sy bz:Nat)(is:Bool)(hx bC hy bM:Nat)(ih:Bool)(Ng:P1)(F W:b9)(z:Bool)(c1 c2 n c ns:Nat)(fm fs:Nat→Int)(B:Nat):Eng.probes (qC ((aG sx bA sy bz is),0) (aG hx bC hy bM ih) Ng F W) 100 [r7V,k7V] (ER c1 c2 B++fK (aQ px py ip) (aG sx bA sy bz is) z n c ns fm fs) 50 [] ((ER c1 c2 B++fK (aQ px py ip) (aG sx bA sy bz is) z n c ns fm fs).map (·.1))=some (0,[],(ER c1 c2 B++fK (aQ px py ip) (aG sx bA sy bz is) z n c ns fm fs).map fun p=>some p.2):=by cases z<;>kernel_rfl
theorem zjs(px py:Nat)(ip:Bool)(sx bA sy bz:Nat)(is:Bool)(hx bC hy bM:Nat)(ih:Bool)(Ng:P1)(F W:b9)(z:Bool)(c1 c2 n c ns:Nat)(fm fs:Nat→Int)(B:Nat):Eng.probe (qC ((aG sx bA sy bz is),0) (aG hx bC hy bM ih) Ng F W) 100 r8V (ER c1 c2 B++fK (aQ px py ip) (aG sx bA sy bz is) z n c ns fm fs) 60 [] ((pF c1 c2 B z n c++fK (aQ px py ip) (aG sx bA sy bz is) z n c ns fm fs).map (·.1))=some (0,[],(pF c1 c2 B z n c++fK (aQ px py ip) (aG sx bA sy bz is) z n c ns fm fs).map fun p=>some p.2):=by cases z<;>kernel_rfl
def Lh(c1 c2 B:Nat)(z:Bool)(n c:Nat):St:=pF c1 c2 B z n c++[(66,sl (.v (.map (some B)))),msV z n c 34]
theorem zaz(px py:Nat)(ip:Bool)(sx bA sy bz:Nat)(is:Bool)(hx bC hy bM:Nat)(ih:Bool)(Ng:P1)(F W:b9)(z:Bool)(c1 c2 n c ns:Nat)(fm fs:Nat→Int)(B:Nat):rpart (qC ((aG sx bA sy bz is),0) (aG hx bC hy bM ih) Ng F W) (cq QY) (vL (cq QY) 0 2) (pF c1 c2 B z n c++fK (aQ px py ip) (aG sx bA sy bz is) z n c ns fm fs) 70 [] ((Lh c1 c2 B z n c++fK (aQ px py ip) (aG sx bA sy bz is) z n c ns fm fs).map (·.1))=some ([],(Lh c1 c2 B z n c++fK (aQ px py ip) (aG sx bA sy bz is) z n c ns fm fs).map fun p=>some p.2):=by cases z<;>kernel_rfl
def zKw(st:St)(s:ByteArray):St:=aX (aX st [(70,sl (.v (.string s)))]) [(72,.sl (.tup [wP iX,cY false]))]
def W4(c1 c2 B:Nat)(z:Bool)(n c:Nat):St:=pF c1 c2 B z n c++[(32,sl (.v (.bool false)))]++mZ iX
theorem zay(px py:Nat)(ip:Bool)(sx bA sy bz:Nat)(is:Bool)(hx bC hy bM:Nat)(ih:Bool)(Ng:P1)(F W:b9)(z:Bool)(c1 c2 n c ns:Nat)(fm fs:Nat→Int)(B:Nat)(s:ByteArray):rpart (qC ((aG sx bA sy bz is),0) (aG hx bC hy bM ih) Ng F W) (cq QY) (vL (cq QY) 4 6) (zKw (Lh c1 c2 B z n c++fK (aQ px py ip) (aG sx bA sy bz is) z n c ns fm fs) s) 100 [] ((W4 c1 c2 B z n c++fK (aQ px py ip) (aG sx bA sy bz is) z n c ns fm fs).map (·.1))=some ([],(W4 c1 c2 B z n c++fK (aQ px py ip) (aG sx bA sy bz is) z n c ns fm fs).map fun p=>some p.2):=by cases z<;>kernel_rfl
def Qd(c1 c2 B:Nat)(z:Bool)(n c:Nat):St:=pF c1 c2 B z n c++[(80,sl (.v (.bool true)))]++mZ iX
theorem zaD(px py:Nat)(ip:Bool)(sx bA sy bz:Nat)(is:Bool)(hx bC hy bM:Nat)(ih:Bool)(Ng:P1)(F W:b9)(z:Bool)(c1 c2 n c ns:Nat)(fm fs:Nat→Int)(B:Nat):Eng.probe (qC ((aG sx bA sy bz is),0) (aG hx bC hy bM ih) Ng F W) 100 zB5 (W4 c1 c2 B z n c++fK (aQ px py ip) (aG sx bA sy bz is) z n c ns fm fs) 110 [] ((Qd c1 c2 B z n c++fK (aQ px py ip) (aG sx bA sy bz is) z n c ns fm fs).map (·.1))=some (0,[],(Qd c1 c2 B z n c++fK (aQ px py ip) (aG sx bA sy bz is) z n c ns fm fs).map fun p=>some p.2):=by cases z<;>kernel_rfl
def Qc(c1 c2 B:Nat)(z:Bool)(n c:Nat):St:=pF c1 c2 B z n c++[msV z n c 42,(86,sl (.v (.string cT)))]++mZ iX
theorem Wy(px py:Nat)(ip:Bool)(sx bA sy bz:Nat)(is:Bool)(hx bC hy bM:Nat)(ih:Bool)(Ng:P1)(F W:b9)(z:Bool)(c1 c2 n c ns:Nat)(fm fs:Nat→Int)(B:Nat):rpart (qC ((aG sx bA sy bz is),0) (aG hx bC hy bM ih) Ng F W) (cq vV) (vL (cq vV) 0 2) (Qd c1 c2 B z n c++fK (aQ px py ip) (aG sx bA sy bz is) z n c ns fm fs) 120 [] ((Qc c1 c2 B z n c++fK (aQ px py ip) (aG sx bA sy bz is) z n c ns fm fs).map (·.1))=some ([],(Qc c1 c2 B z n c++fK (aQ px py ip) (aG sx bA sy bz is) z n c ns fm fs).map fun p=>some p.2):=by cases z<;>kernel_rfl
def zBE(st:St)(kk:Nat):St:=aX (aX st (ia ([]++[(gC 100,bR eK)]))) [(2*44,.sl (.one (bT (.s (gC 100) 0 43 (kk+43)))))]
theorem Wx(px py:Nat)(ip:Bool)(sx bA sy bz:Nat)(is:Bool)(hx bC hy bM:Nat)(ih:Bool)(Ng:P1)(F W:b9)(z:Bool)(c1 c2 n c ns:Nat)(fm fs:Nat→Int)(B kk:Nat):rpart (qC ((aG sx bA sy bz is),0) (aG hx bC hy bM ih) Ng F W) (cq vV) (vL (cq vV) 3 5) (zBE (Qc c1 c2 B z n c++fK (aQ px py ip) (aG sx bA sy bz is) z n c ns fm fs) kk) 130 [] ((pF c1 c2 B z n c++fK (aQ px py ip) (aG sx bA sy bz is) z n c ns fm fs++mZ (aG hx bC hy bM ih)).map (·.1))=some (zdr z n kk fm (aG hx bC hy bM ih),(pF c1 c2 B z n c++fK (aQ px py ip) (aG sx bA sy bz is) z n c ns fm fs++mZ (aG hx bC hy bM ih)).map fun p=>some p.2):=by cases z<;>kernel_rfl
def Cs(c1 c2 B:Nat)(z:Bool)(n c:Nat):St:=pF c1 c2 B z n c++[(96,sl (.v (.map (some B)))),msV z n c 49]
theorem Ww(px py:Nat)(ip:Bool)(sx bA sy bz:Nat)(is:Bool)(hx bC hy bM:Nat)(ih:Bool)(Ng:P1)(F W:b9)(z:Bool)(c1 c2 n c ns:Nat)(fm fs:Nat→Int)(B:Nat):rpart (qC ((aG sx bA sy bz is),0) (aG hx bC hy bM ih) Ng F W) (cq uq) (vL (cq uq) 0 2) (pF c1 c2 B z n c++fK (aQ px py ip) (aG sx bA sy bz is) z n c ns fm fs++mZ (aG hx bC hy bM ih)) 140 [] ((Cs c1 c2 B z n c++fK (aQ px py ip) (aG sx bA sy bz is) z n c ns fm fs++mZ (aG hx bC hy bM ih)).map (·.1))=some ([],(Cs c1 c2 B z n c++fK (aQ px py ip) (aG sx bA sy bz is) z n c ns fm fs++mZ (aG hx bC hy bM ih)).map fun p=>some p.2):=by cases z<;>kernel_rfl
def ztM(st:St)(s:ByteArray):St:=aX st [(100,sl (.v (.string s)))]
def tu(c1 c2 B:Nat)(z:Bool)(n c:Nat)(s:ByteArray)(H:P2):St:=pF c1 c2 B z n c++[(96,sl (.v (.map (some B)))),(100,sl (.v (.string s))),(102,.sl (.one (wP H)))]
theorem Wv(px py:Nat)(ip:Bool)(sx bA sy bz:Nat)(is:Bool)(hx bC hy bM:Nat)(ih:Bool)(Ng:P1)(F W:b9)(z:Bool)(c1 c2 n c ns:Nat)(fm fs:Nat→Int)(B:Nat)(s:ByteArray):rpart (qC ((aG sx bA sy bz is),0) (aG hx bC hy bM ih) Ng F W) (cq uq) (vL (cq uq) 3 1) (ztM (Cs c1 c2 B z n c++fK (aQ px py ip) (aG sx bA sy bz is) z n c ns fm fs++mZ (aG hx bC hy bM ih)) s) 150 [] ((tu c1 c2 B z n c s (aG hx bC hy bM ih)++fK (aQ px py ip) (aG sx bA sy bz is) z n c ns fm fs++mZ (aG hx bC hy bM ih)).map (·.1))=some ([],(tu c1 c2 B z n c s (aG hx bC hy bM ih)++fK (aQ px py ip) (aG sx bA sy bz is) z n c ns fm fs++mZ (aG hx bC hy bM ih)).map fun p=>some p.2):=by cases z<;>kernel_rfl
def coH(c1:Nat):St:=[(0,sl (.s 1 0 1 (c1+1))),(6,sl (.v (.string cT))),(18,sl (.p 22 0)),(22,sl (.c (cU 163) 25 0 0 1))]
def Ps(H:P2):St:=[(2*cU 163+1,.bl (wP H).its)]
def Lj(c1 c2:Nat):St:=coH c1++[(52,sl (.s 2 0 1 (c2+1))),(54,iC 1),(56,iC 0)]
theorem zaC(px py:Nat)(ip:Bool)(sx bA sy bz:Nat)(is:Bool)(hx bC hy bM:Nat)(ih:Bool)(Ng:P1)(F W:b9)(z:Bool)(c1 c2 n c ns:Nat)(fm fs:Nat→Int)(B:Nat)(s:ByteArray):Eng.probe (qC ((aG sx bA sy bz is),0) (aG hx bC hy bM ih) Ng F W) 100 zB4 (tu c1 c2 B z n c s (aG hx bC hy bM ih)++fK (aQ px py ip) (aG sx bA sy bz is) z n c ns fm fs++mZ (aG hx bC hy bM ih)) 160 [] ((Lj c1 c2++fK (aQ px py ip) (aG sx bA sy bz is) z n c ns fm fs++mZ (aG hx bC hy bM ih)++Ps (aG hx bC hy bM ih)).map (·.1))=some (0,[],(Lj c1 c2++fK (aQ px py ip) (aG sx bA sy bz is) z n c ns fm fs++mZ (aG hx bC hy bM ih)++Ps (aG hx bC hy bM ih)).map fun p=>some p.2):=by cases z<;>kernel_rfl
def Li(c1 c2:Nat):St:=coH c1++[(52,sl (.s 2 0 1 (c2+1))),(54,iC 1),(56,iC 1)]
theorem zaB(px py:Nat)(ip:Bool)(sx bA sy bz:Nat)(is:Bool)(hx bC hy bM:Nat)(ih:Bool)(Ng:P1)(F W:b9)(z:Bool)(c1 c2 n c ns:Nat)(fm fs:Nat→Int):Eng.probe (qC ((aG sx bA sy bz is),0) (aG hx bC hy bM ih) Ng F W) 100 zB3 (Lj c1 c2++fK (aQ px py ip) (aG sx bA sy bz is) z n c ns fm fs++mZ (aG hx bC hy bM ih)++Ps (aG hx bC hy bM ih)) 170 [] ((Li c1 c2++fK (aQ px py ip) (aG sx bA sy bz is) z n c ns fm fs++mZ (aG hx bC hy bM ih)++Ps (aG hx bC hy bM ih)).map (·.1))=some (0,[],(Li c1 c2++fK (aQ px py ip) (aG sx bA sy bz is) z n c ns fm fs++mZ (aG hx bC hy bM ih)++Ps (aG hx bC hy bM ih)).map fun p=>some p.2):=by cases z<;>kernel_rfl
theorem zaA(px py:Nat)(ip:Bool)(sx bA sy bz:Nat)(is:Bool)(hx bC hy bM:Nat)(ih:Bool)(Ng:P1)(F W:b9)(z:Bool)(c1 c2 n c ns:Nat)(fm fs:Nat→Int):Eng.probes (qC ((aG sx bA sy bz is),0) (aG hx bC hy bM ih) Ng F W) 100 [r7V,k7V] (Li c1 c2++fK (aQ px py ip) (aG sx bA sy bz is) z n c ns fm fs++mZ (aG hx bC hy bM ih)++Ps (aG hx bC hy bM ih)) 180 [] ((coH c1++fK (aQ px py ip) (aG sx bA sy bz is) z n c ns fm fs++mZ (aG hx bC hy bM ih)++Ps (aG hx bC hy bM ih)).map (·.1))=some (2,[],(coH c1++fK (aQ px py ip) (aG sx bA sy bz is) z n c ns fm fs++mZ (aG hx bC hy bM ih)++Ps (aG hx bC hy bM ih)).map fun p=>some p.2):=by cases z<;>kernel_rfl
def tK(p:P1)(h:P2)(q:P1)(s:P2):b9:=Si (cH (cH ll (cH (cH ll ll) (nT p h).1)) (nT q s).1)
def zCo(p:P1)(H S:P2)(Ng:P1)(F W:b9)(b:Bool):List Prop:=[∀ ρ,SV.val ρ (.one (wP (gJ (Pt.neg (bO dj)))))=SV.val ρ (.one (wP Ng)),eV p=true,dW H=true,eV Ng=true,dW S=true,
 ∀ ρ,SV.val ρ (.one (wN (tK p H Ng S)))=SV.val ρ (.one (wN F)),∀ ρ,SV.val ρ (.one (wN (nc F (0%pw 0))))=SV.val ρ (.one (wN W)),dJ F W b]
def zbE(b:Bool):St:=[(16,sl (.v (.bool b)))]
theorem zth(px py:Nat)(ip:Bool)(sx bA sy bz:Nat)(is:Bool)(hx bC hy bM:Nat)(ih:Bool)(gx gy:Nat)(ig:Bool)(fa fb fc fd fe ff fg fh fi fj fk fl wa wb wc wd we wf wg wh wi wj wk wl:Nat)(b:Bool)(z:Bool)(c1 c2 n c ns:Nat)(fm fs:Nat→Int):
  Eng.probe (qC ((aG sx bA sy bz is),0) (aG hx bC hy bM ih) (aQ gx gy ig) (eM fa fb fc fd fe ff fg fh fi fj fk fl) (eM wa wb wc wd we wf wg wh wi wj wk wl)) 100 (bVf 6) (coH c1++fK (aQ px py ip) (aG sx bA sy bz is) z n c ns fm fs++mZ (aG hx bC hy bM ih)++Ps (aG hx bC hy bM ih)) 200 [(78,b)] ((zbE b++fK (aQ px py ip) (aG sx bA sy bz is) z n c ns fm fs++mZ (aG hx bC hy bM ih)).map (·.1)) =
  some (1,zCo (aQ px py ip) (aG hx bC hy bM ih) (aG sx bA sy bz is) (aQ gx gy ig) (eM fa fb fc fd fe ff fg fh fi fj fk fl) (eM wa wb wc wd we wf wg wh wi wj wk wl) b,(zbE b++fK (aQ px py ip) (aG sx bA sy bz is) z n c ns fm fs++mZ (aG hx bC hy bM ih)).map fun p=>some p.2):=by cases b<;>cases z<;>kernel_rfl
open Go.MapKept
theorem zaS:Tryz.prog.underlying 132=some (.map 9 36):=by kernel_rfl
theorem zs7(w:World):(zeroValue 36).run Tryz.prog w = .ok (i_ iX) w:=by kernel_rfl
theorem zcq{w:World}{B ck:Nat}(hB:w.heap[B]? = some (.map #[] ck))(s:ByteArray):(Instr.lookup 132 (.map (some B)) (.string s) true).run Tryz.prog w = .ok (.tuple #[i_ iX,.bool false]) w:=by
 have h9:=gR.1
 have hz:=zs7 w
 have hk:(Instr.checkKey (#[]:Array MapEntry).isEmpty 10000 9 (.string s)).run Tryz.prog w = .ok () w:=run_checkKey (w:=w) h9 (k:=.string s) trivial (#[]:Array MapEntry).isEmpty 9999
 have hf:=run_findKey (w:=w) h9 (k:=.string s) (l:=[]) (a:=none) rfl
 have hg:=adJ (P:=Tryz.prog) hB
 unfold Instr.lookup
 simp only [aal,run_underlying zaS,abw,hg,aat]
 simp only [hk,hf,hz,abw,aal,aat,if_true]
theorem zkV{w:World}{B ck:Nat}(hB:w.heap[B]? = some (.map #[] ck))(s:ByteArray)(v:Value):∃ es,(aeq 132 (.map (some B)) (.string s) v).run Tryz.prog w = .ok () { w with heap:=w.heap.setIfInBounds B (.map es (ck+1)) }:=by
 have h9:=gR.1
 have hk:(Instr.checkKey false 10000 9 (.string s)).run Tryz.prog w = .ok () w:=run_checkKey (w:=w) h9 (k:=.string s) trivial false 9999
 have hf:=run_findKey (w:=w) h9 (k:=.string s) (l:=[]) (a:=none) rfl
 have hg:=adJ (P:=Tryz.prog) hB
 refine ⟨#[].push { key:=.string s,val:=v,born:=ck },?_⟩
 unfold aeq
 simp only [aal,run_underlying zaS,abw,hg,aat]
 simp only [hk,hf,abw,aal,aat]
 exact run_setObj_map _ hB
theorem Sim.other{ρ:Rho}{N:Nat}{st:St}{a:Act}{w:World}(h:Sim ρ N st a w){B:Nat}{es:Array MapEntry}{ck:Nat}(hB:w.heap[B]? = some (.map es ck))(o':Obj):Sim ρ N st a { w with heap:=w.heap.setIfInBounds B o' }:=by
 have q9:({ w with heap:=w.heap.setIfInBounds B o' }:World).heap.size=w.heap.size:=by simp
 have kN:∀ k,k≠B→({ w with heap:=w.heap.setIfInBounds B o' }:World).heap[k]? = w.heap[k]?:=fun k hk=>by simp [Ne.symm hk]
 refine ⟨h.slots,h.size,⟨fun id l hl=>?_⟩,h.inj,h.dom,h.calm⟩
 obtain ⟨b,o,vs,e1,e2,e3⟩:=h.mem.blk id l hl
 refine ⟨b,o,vs,e1,e2,?_⟩
 by_cases hb:b=B
 ·subst hb
  obtain ⟨f1,f2,f3,f4⟩:=e3
  refine ⟨by rw [q9];exact f1,fun ho=>?_,fun ho ha i v hv=>?_,fun ha kN=>?_⟩
  ·obtain ⟨_,t,ht⟩:=f2 ho;rw [hB] at ht;cases ht
  ·have:=f3 ho ha i v hv
   unfold World.cell? at this
   simp only [hB] at this
   cases this
  ·obtain ⟨jY,t,ht,_⟩:=f4 ha kN;rw [hB] at ht;cases ht
 ·exact e3.of_kept (by rw [q9];exact Nat.le_refl _) (kN b hb)
theorem zgp{ρ ρ':Rho}{w w':World}{n0:Nat}(hE:Ext ρ w ρ' w')(hn:n0≤w.heap.size)(ho:∀ k,k<n0→¬Eng.Own ρ k):Below n0 w w':=
 ⟨hE.keep.os,hE.keep.tape,hE.keep.output,hE.keep.size,fun k hk=>hE.keep.block k (by omega) (ho k hk)⟩
theorem zc6{dL ρ:Rho}{w0 w:World}(hE:Ext dL w0 ρ w)(cv:∀ c,¬Eng.Own dL c):∀ k,k<w0.heap.size→¬Eng.Own ρ k:=by
 rintro k hk ⟨id,o,ho,hq⟩
 cases h:dL id with
 | none=>
  rcases hE.new id k o h hq with h|h
  ·omega
  ·exact cv k h
 | some q=>
  have:=hE.le id q h
  rw [hq] at this;cases this
  exact cv k ⟨id,o,ho,h⟩
theorem ZK{w:World}{n0 B:Nat}(hB:n0≤B)(o:Obj):Below n0 w { w with heap:=w.heap.setIfInBounds B o }:=
  ⟨rfl, rfl, rfl, by simp, fun k hk => by have : B ≠ k := by omega
                                          simp [this]⟩
theorem VU{st:St}{id:Nat}{l:List It}(h:st.blk id=some l):id∈fP st:=by
 unfold St.blk at h
 split at h
 ·rename_i m hm
  unfold fP
  rw [List.mem_filterMap]
  refine ⟨_,lr _ _ _ hm,?_⟩
  simp only
  rw [if_pos (by omega)]
  congr 1;omega
 ·cases h
theorem Sim.of_below{ρ:Rho}{N:Nat}{st:St}{a:Act}{w w':World}(h:Sim ρ N st a w)(hb:Below w.heap.size w w'):Sim ρ N st a w':=
 ⟨h.slots,h.size,⟨fun id l hl=>by obtain ⟨b,o,vs,h1,h2,h3⟩:=h.mem.blk id l hl;exact ⟨b,o,vs,h1,h2,h3.of_kept hb.size (hb.block b h3.1)⟩⟩,h.inj,h.dom,h.calm⟩
theorem At.heap{N:Nat}{qD:Rho}{w1 w:World}{st:St}{a:Act}(hA:At N qD w1 st a w){B:Nat}{o:Obj}(hB:w1.heap[B]? = some o)(cv:¬Eng.Own qD B):w.heap[B]? = some o:=by
 obtain ⟨ρ,hE,_⟩:=hA
 rw [hE.keep.block B (Array.getElem?_eq_some_iff.1 hB).1 cv];exact hB
theorem rC{ρ:Rho}{N:Nat}{st:St}{a:Act}{w:World}(hs:Sim ρ N st a w){t:Nat}{v:Value}(h:st.slot t=some (.one (bT (.v v))))(h1:v.oneCell'=true):a.eval (.tmp t)=v:=by
 have hv:=hs.slots t _ h
 have e:SV.val ρ (.one (bT (.v v)))=some v:=AV.val_v (ρ:=ρ) h1
 rw [e] at hv;exact (abn hv).symm
theorem At.convS{ops:Array Oper}{Q:Exit→Act→World→Prop}{K:Act→World→Prop}{i t d:Nat}{o:Oper}(hi:ops[i]? = some o)(hg:o.guard=none)(ho:o.op = .convert 22 9 (.tmp t))(hd:o.dst=some d){dL:Rho}{w0:World}{N:Nat}{st:St}{a:Act}{w:World}(hA:At N dL w0 st a w)
  {z:Bool} {n c:Nat} {fm:Nat→Int} (jd:st.slot t=some (.one (gn z 3 n c))) (oe:st.blk 3=some (gM n fm)) (hdN:d<N) (hQ:∀ s a',At N dL w0 (aX st [(2*d,sl (.v (.string s)))]) a' w→K a' w):wpOp Tryz.prog ops Q i K a w:=by
 obtain ⟨ρ,hE,hs⟩:=hA
 have hv:=hs.slots t _ jd
 have key:∃ s,(convert 22 9 (a.tmps.getD t undef)).run Tryz.prog w = .ok (.string s) w:=by
  cases z with
  | true=>
   rw [iE (ρ:=ρ) hv]
   exact ⟨_,run_convert_bytes_nil w 22 5 gR.2.1 gR.2.2 0 0 9 gR.1⟩
  | false=>
   obtain ⟨q,hq,e⟩:=aY hv
   rw [e]
   obtain ⟨b,o',vs,e1,e2,e3⟩:=hs.mem.blk 3 _ oe
   have e2':conc ρ (gM n fm)=some (gvals .u8 n fm):=aD
   rw [e2'] at e2;cases e2
   have EH:q=(b,o'):=by
    rw [Rho.at_not (by rfl)] at hq
    rw [e1] at hq;exact (abn hq).symm
   subst EH
   refine ⟨_,run_convert_bytes_arg w 22 5 gR.2.1 gR.2.2 b (o'+0) n c ((aan n).map fm) (by simp) (fun i hi=>?_) 9 gR.1⟩
   have:=e3.2.2.1 rfl rfl i (.int .u8 (fm i)) (by unfold gvals;simp [hi])
   rw [Nat.add_zero,this]
   simp [hi]
 obtain ⟨s,hr⟩:=key
 refine lQ (v:=.string s) (w':=w) hi hg ?_ ?_
 ·have r2:a.eval (.tmp t)=a.tmps.getD t undef:=rfl
  unfold execOp
  rw [ho]
  simp only [r2,aal,hr,abw,aat]
 ·rw [hd]
  exact hQ s _ ⟨ρ,hE,hs.put hdN (AV.val_v (ρ:=ρ) (x:=.string s) rfl)⟩
theorem At.look{ops:Array Oper}{Q:Exit→Act→World→Prop}{K:Act→World→Prop}{i t t2 d:Nat}{o:Oper}(hi:ops[i]? = some o)(hg:o.guard=none)(ho:o.op = .lookup 132 (.tmp t) (.tmp t2) true)(hd:o.dst=some d){dL:Rho}{w0:World}{N:Nat}{st:St}{a:Act}{w:World}(hA:At N dL w0 st a w)
  {B ck:Nat} {s:ByteArray} (jd:st.slot t=some (.one (bT (.v (.map (some B)))))) (zwU:st.slot t2=some (.one (bT (.v (.string s))))) (hB:w.heap[B]? = some (.map #[] ck)) (hdN:d<N) (hQ:∀ a',At N dL w0 (aX st [(2*d,.sl (.tup [wP iX,cY false]))]) a' w→K a' w):wpOp Tryz.prog ops Q i K a w:=by
 obtain ⟨ρ,hE,hs⟩:=hA
 have r1:=rC hs jd rfl
 have r2:=rC hs zwU rfl
 have hr:=zcq hB s
 refine lQ (v:=.tuple #[i_ iX,.bool false]) (w':=w) hi hg ?_ ?_
 ·unfold execOp
  rw [ho]
  simp only [r1,r2,aal,hr,abw,aat]
 ·rw [hd]
  exact hQ _ ⟨ρ,hE,hs.put hdN (jh (jO ρ iX) (ga ρ false))⟩
theorem At.upd{ops:Array Oper}{Q:Exit→Act→World→Prop}{K:Act→World→Prop}{i t t2 t3:Nat}{o:Oper}(hi:ops[i]? = some o)(hg:o.guard=none)(ho:o.op = .mapUpdate 132 (.tmp t) (.tmp t2) (.tmp t3))(hd:o.dst=none){dL:Rho}{w0:World}{N:Nat}{st:St}{a:Act}{w:World}(hA:At N dL w0 st a w)
  {B ck n0:Nat} {s:ByteArray} (jd:st.slot t=some (.one (bT (.v (.map (some B)))))) (zwU:st.slot t2=some (.one (bT (.v (.string s))))) (hB:w.heap[B]? = some (.map #[] ck)) (DP:n0≤B) (hQ:∀ ρ w',Ext dL w0 ρ w→Sim ρ N st a w'→Below n0 w w'→K a w'):wpOp Tryz.prog ops Q i K a w:=by
 obtain ⟨ρ,hE,hs⟩:=hA
 have r1:=rC hs jd rfl
 have r2:=rC hs zwU rfl
 obtain ⟨es,hr⟩:=zkV hB s (a.eval (.tmp t3))
 refine Ws (w':={ w with heap:=w.heap.setIfInBounds B (.map es (ck+1)) }) hi hg ?_ ?_
 ·unfold execOp
  rw [ho]
  simp only [r1,r2,aal,hr,abw,aat]
 ·rw [hd]
  exact hQ ρ _ hE (Sim.other hs hB _) (ZK DP _)
theorem zuQ:QY = .region (xg QY) (cq QY) false:=by kernel_rfl
theorem zla:vV = .region (xg vV) (cq vV) false:=by kernel_rfl
theorem zk8:uq = .region (xg uq) (cq uq) false:=by kernel_rfl
theorem zuS:mi 4 = .region (xg (mi 4)) (cq (mi 4)) false:=by kernel_rfl
theorem zuP:aan (cq QY).size=aaQ 0 2++(2::3::(aaQ 4 6++[])):=by kernel_rfl
theorem zk9:aan (cq vV).size=aaQ 0 2++(2::(aaQ 3 5++[])):=by kernel_rfl
theorem zk7:aan (cq uq).size=aaQ 0 2++(2::(aaQ 3 1++[4])):=by kernel_rfl
theorem zuR:aan (cq (mi 4)).size=[0,1]:=by kernel_rfl
theorem zBY:oQ QY 2=some (.convert 22 9 (.tmp 34),some 35,none):=by kernel_rfl
theorem zBX:oQ QY 3=some (.lookup 132 (.tmp 33) (.tmp 35) true,some 36,none):=by kernel_rfl
theorem zuW:oQ vV 2=some (.convert 9 22 (.tmp 43),some 44,none):=by kernel_rfl
theorem zuV:oQ uq 2=some (.convert 22 9 (.tmp 49),some 50,none):=by kernel_rfl
theorem zuU:oQ uq 4=some (.mapUpdate 132 (.tmp 48) (.tmp 50) (.tmp 51),none,none):=by kernel_rfl
theorem zB1:oQ (mi 4) 0=some (.makeMap 132 none,some 25,none):=by kernel_rfl
theorem zB2:oQ (mi 4) 1=some (.assign (.tmp 25),some 12,none):=by kernel_rfl
theorem oI:(vL (cq QY) 0 2).length=2∧(vL (cq QY) 4 6).length=6∧(vL (cq vV) 0 2).length=2∧(vL (cq vV) 3 5).length=5∧(vL (cq uq) 0 2).length=2∧(vL (cq uq) 3 1).length=1:=⟨by kernel_rfl,by kernel_rfl,by kernel_rfl,by kernel_rfl,by kernel_rfl,by kernel_rfl⟩
theorem An(st:St)(t u:Nat)(x:It):St.slot (aX st [(2*t,sl x)]) u=if t=u then some (.one (bT x)) else st.slot u:=tF st t _ u
theorem m6{P:Program}{c:Code}{ops:Array Oper}{l:List Nat}{G:Act→World→Prop}{Q:Exit→Act→World→Prop}{a:Act}{w:World}(zfv:c = .region (xg c) ops false)(hr:aan ops.size=l)
  (h:WO P ops (Nrm G) l a w) (hG:∀ a w,G a w→Q .normal a w):c.wp P Q a w:=by
 rw [zfv]
 have hw:(Code.region (xg c) ops false).wp P (Nrm G) a w:=wp_region (by rw [hr];exact h.h)
 refine wp_mono hw fun e a' w' he=>?_
 obtain ⟨rfl,hg⟩:=he
 exact hG a' w' hg
abbrev oc:List Nat:=[1,2,3,4,22]
abbrev js:List Nat:=[1,2,3,4,22,103]
theorem Aa(D:P2×Int)(H:P2)(Ng:P1)(F W:b9):ag Tryz.prog (qC D H Ng F W).call:=gm an ab (zze D H Ng F W) aB 1000 (fun _=>[]) 6
theorem kv5(px py:Nat)(ip:Bool)(sx bA sy bz:Nat)(is:Bool)(hx bC hy bM:Nat)(ih:Bool)(z:Bool)(c1 c2 n c ns B:Nat)(fm fs:Nat→Int):oc.all (fun id=>(St.blk (Lh c1 c2 B z n c++fK (aQ px py ip) (aG sx bA sy bz is) z n c ns fm fs) id).isSome)=true∧aw (Lh c1 c2 B z n c++fK (aQ px py ip) (aG sx bA sy bz is) z n c ns fm fs) oc=true∧St.slot (Lh c1 c2 B z n c++fK (aQ px py ip) (aG sx bA sy bz is) z n c ns fm fs) 34=some (.one (gn z 3 n c))∧St.blk (Lh c1 c2 B z n c++fK (aQ px py ip) (aG sx bA sy bz is) z n c ns fm fs) 3=some (gM n fm)∧St.slot (Lh c1 c2 B z n c++fK (aQ px py ip) (aG sx bA sy bz is) z n c ns fm fs) 33=some (.one (bT (.v (.map (some B))))):=by cases z<;>exact ⟨by kernel_rfl,by kernel_rfl,by kernel_rfl,by kernel_rfl,by kernel_rfl⟩
theorem kv7(px py:Nat)(ip:Bool)(sx bA sy bz:Nat)(is:Bool)(hx bC hy bM:Nat)(ih:Bool)(z:Bool)(c1 c2 n c ns B:Nat)(fm fs:Nat→Int):js.all (fun id=>(St.blk (W4 c1 c2 B z n c++fK (aQ px py ip) (aG sx bA sy bz is) z n c ns fm fs) id).isSome)=true∧aw (W4 c1 c2 B z n c++fK (aQ px py ip) (aG sx bA sy bz is) z n c ns fm fs) js=true:=by cases z<;>exact ⟨by kernel_rfl,by kernel_rfl⟩
theorem kv9(px py:Nat)(ip:Bool)(sx bA sy bz:Nat)(is:Bool)(hx bC hy bM:Nat)(ih:Bool)(z:Bool)(c1 c2 n c ns B:Nat)(fm fs:Nat→Int):js.all (fun id=>(St.blk (Qc c1 c2 B z n c++fK (aQ px py ip) (aG sx bA sy bz is) z n c ns fm fs) id).isSome)=true∧aw (Qc c1 c2 B z n c++fK (aQ px py ip) (aG sx bA sy bz is) z n c ns fm fs) js=true∧St.slot (Qc c1 c2 B z n c++fK (aQ px py ip) (aG sx bA sy bz is) z n c ns fm fs) 43=some (.one ⟨false,[.v (.string cT)]⟩)∧St.blk (Qc c1 c2 B z n c++fK (aQ px py ip) (aG sx bA sy bz is) z n c ns fm fs) (gC 100)=none:=by cases z<;>exact ⟨by kernel_rfl,by kernel_rfl,by kernel_rfl,by kernel_rfl⟩
theorem zLK(px py:Nat)(ip:Bool)(sx bA sy bz:Nat)(is:Bool)(hx bC hy bM:Nat)(ih:Bool)(z:Bool)(c1 c2 n c ns B:Nat)(fm fs:Nat→Int):js.all (fun id=>(St.blk (pF c1 c2 B z n c++fK (aQ px py ip) (aG sx bA sy bz is) z n c ns fm fs++mZ (aG hx bC hy bM ih)) id).isSome)=true∧aw (pF c1 c2 B z n c++fK (aQ px py ip) (aG sx bA sy bz is) z n c ns fm fs++mZ (aG hx bC hy bM ih)) js=true:=by cases z<;>exact ⟨by kernel_rfl,by kernel_rfl⟩
theorem zLL(px py:Nat)(ip:Bool)(sx bA sy bz:Nat)(is:Bool)(hx bC hy bM:Nat)(ih:Bool)(z:Bool)(c1 c2 n c ns B:Nat)(fm fs:Nat→Int):js.all (fun id=>(St.blk (Cs c1 c2 B z n c++fK (aQ px py ip) (aG sx bA sy bz is) z n c ns fm fs++mZ (aG hx bC hy bM ih)) id).isSome)=true∧aw (Cs c1 c2 B z n c++fK (aQ px py ip) (aG sx bA sy bz is) z n c ns fm fs++mZ (aG hx bC hy bM ih)) js=true∧St.slot (Cs c1 c2 B z n c++fK (aQ px py ip) (aG sx bA sy bz is) z n c ns fm fs++mZ (aG hx bC hy bM ih)) 49=some (.one (gn z 3 n c))∧St.blk (Cs c1 c2 B z n c++fK (aQ px py ip) (aG sx bA sy bz is) z n c ns fm fs++mZ (aG hx bC hy bM ih)) 3=some (gM n fm):=by cases z<;>exact ⟨by kernel_rfl,by kernel_rfl,by kernel_rfl,by kernel_rfl⟩
theorem zDe(px py:Nat)(ip:Bool)(sx bA sy bz:Nat)(is:Bool)(hx bC hy bM:Nat)(ih:Bool)(z:Bool)(c1 c2 n c ns B:Nat)(fm fs:Nat→Int)(s:ByteArray):js.all (fun id=>(St.blk (tu c1 c2 B z n c s (aG hx bC hy bM ih)++fK (aQ px py ip) (aG sx bA sy bz is) z n c ns fm fs++mZ (aG hx bC hy bM ih)) id).isSome)=true∧aw (tu c1 c2 B z n c s (aG hx bC hy bM ih)++fK (aQ px py ip) (aG sx bA sy bz is) z n c ns fm fs++mZ (aG hx bC hy bM ih)) js=true∧St.slot (tu c1 c2 B z n c s (aG hx bC hy bM ih)++fK (aQ px py ip) (aG sx bA sy bz is) z n c ns fm fs++mZ (aG hx bC hy bM ih)) 48=some (.one (bT (.v (.map (some B)))))∧St.slot (tu c1 c2 B z n c s (aG hx bC hy bM ih)++fK (aQ px py ip) (aG sx bA sy bz is) z n c ns fm fs++mZ (aG hx bC hy bM ih)) 50=some (.one (bT (.v (.string s))))∧fP (tu c1 c2 B z n c s (aG hx bC hy bM ih)++fK (aQ px py ip) (aG sx bA sy bz is) z n c ns fm fs++mZ (aG hx bC hy bM ih))=[1,2,3,4,22,103]:=by cases z<;>exact ⟨by kernel_rfl,by kernel_rfl,by kernel_rfl,by kernel_rfl,by kernel_rfl⟩
theorem YH{qD:Rho}(hk:∀ id q,qD id=some q→id∈oc):∀ id q,qD id=some q→id∈js:=fun id q hq=>by
 have:=hk id q hq
 simp only [oc,js,List.mem_cons,List.not_mem_nil,or_false] at this ⊢
 omega
theorem zjw{px py:Nat}{ip:Bool}{sx bA sy bz:Nat}{is:Bool}{hx bC hy bM:Nat}{ih:Bool}{Ng:P1}{F W:b9}{z:Bool}{c1 c2 n c ns:Nat}{fm fs:Nat→Int}{qD:Rho}{w1 w:World}{a:Act}{B:Nat}(hk:∀ id q,qD id=some q→id∈oc)(hB:w1.heap[B]? = some (.map #[] 0))(cv:¬Eng.Own qD B)(hA:At 80 qD w1 (pF c1 c2 B z n c++fK (aQ px py ip) (aG sx bA sy bz is) z n c ns fm fs) a w):
  WO Tryz.prog (cq QY) (Nrm fun a' w'=>At 80 qD w1 (W4 c1 c2 B z n c++fK (aQ px py ip) (aG sx bA sy bz is) z n c ns fm fs) a' w') (aaQ 0 2++(2::3::(aaQ 4 6++[]))) a w:=by
 have hT:=Aa ((aG sx bA sy bz is),0) (aG hx bC hy bM ih) Ng F W
 have hR:=zaz px py ip sx bA sy bz is hx bC hy bM ih Ng F W z c1 c2 n c ns fm fs B
 have hR2:=fun s=>zay px py ip sx bA sy bz is hx bC hy bM ih Ng F W z c1 c2 n c ns fm fs B s
 have KJ:=oI.1
 have JD:=oI.2.1
 obtain ⟨o,p1,p2,p3,p4⟩:=fH zBY
 obtain ⟨o',q1,q2,q3,q4⟩:=fH zBX
 generalize cq QY=ops at *
 refine ⟨?_⟩
 have k5:=kv5 px py ip sx bA sy bz is hx bC hy bM ih z c1 c2 n c ns B fm fs
 refine At.rpart (E:=(qC ((aG sx bA sy bz is),0) (aG hx bC hy bM ih) Ng F W)) ab hT KJ hR (fun p hp=>by cases hp) hA oc (ba k5.1) k5.2.1 hk fun a4 w4 Fm=>?_
 rw [wpOps_cons]
 refine At.convS p1 p4 p2 p3 Fm k5.2.2.1 k5.2.2.2.1 (by show 35<80;omega) fun s a5 G9=>?_
 rw [wpOps_cons]
 refine At.look q1 q4 q2 q3 G9 (s:=s) (B:=B) (ck:=0) ?_ ?_ (At.heap G9 hB cv) (by show 36<80;omega) fun a6 Nn=>?_
 ·rw [An,if_neg (by omega)];exact k5.2.2.2.2
 ·rw [An,if_pos rfl]
 ·have k7:=kv7 px py ip sx bA sy bz is hx bC hy bM ih z c1 c2 n c ns B fm fs
  refine At.rpart (E:=(qC ((aG sx bA sy bz is),0) (aG hx bC hy bM ih) Ng F W)) ab hT JD (hR2 s) (fun p hp=>by cases hp) Nn js (ba k7.1) k7.2 (YH hk) fun a7 w7 hA7=>?_
  exact ⟨rfl,hA7⟩
theorem zaH{px py:Nat}{ip:Bool}{sx bA sy bz:Nat}{is:Bool}{hx bC hy bM:Nat}{ih:Bool}{Ng:P1}{F W:b9}{z:Bool}{c1 c2 n c ns:Nat}{fm fs:Nat→Int}{qD:Rho}{w1 w:World}{a:Act}{B:Nat}(hk:∀ id q,qD id=some q→id∈oc)(hn:n≤90000)(hH:hV z n fm=(aG hx bC hy bM ih))(hA:At 80 qD w1 (Qd c1 c2 B z n c++fK (aQ px py ip) (aG sx bA sy bz is) z n c ns fm fs) a w):
  WO Tryz.prog (cq vV) (Nrm fun a' w'=>At 80 qD w1 (pF c1 c2 B z n c++fK (aQ px py ip) (aG sx bA sy bz is) z n c ns fm fs++mZ (aG hx bC hy bM ih)) a' w') (aaQ 0 2++(2::(aaQ 3 5++[]))) a w:=by
 have hT:=Aa ((aG sx bA sy bz is),0) (aG hx bC hy bM ih) Ng F W
 have hR:=Wy px py ip sx bA sy bz is hx bC hy bM ih Ng F W z c1 c2 n c ns fm fs B
 have hR2:=fun kk=>Wx px py ip sx bA sy bz is hx bC hy bM ih Ng F W z c1 c2 n c ns fm fs B kk
 have KJ:=oI.2.2.1
 have JD:=oI.2.2.2.1
 obtain ⟨o,p1,p2,p3,p4⟩:=fH zuW
 generalize cq vV=ops at *
 refine ⟨?_⟩
 have k9:=kv9 px py ip sx bA sy bz is hx bC hy bM ih z c1 c2 n c ns B fm fs
 refine At.rpart (E:=(qC ((aG sx bA sy bz is),0) (aG hx bC hy bM ih) Ng F W)) ab hT KJ hR (fun p hp=>by cases hp) hA js (ba k9.1) k9.2.1 (YH hk) fun a4 w4 Fm=>?_
 rw [wpOps_cons]
 refine At.conv (id:=gC 100) p1 p4 p2 p3 Fm k9.2.2.1 (by show 44<80;omega) k9.2.2.2 (nt 100) (kO 100) fun kk a5 w5 G9=>?_
 have k4:=zLK px py ip sx bA sy bz is hx bC hy bM ih z c1 c2 n c ns B fm fs
 refine At.rpart (E:=(qC ((aG sx bA sy bz is),0) (aG hx bC hy bM ih) Ng F W)) ab hT JD (hR2 kk) (TZ hn hH) G9 js (ba k4.1) k4.2 (YH hk) fun a7 w7 hA7=>?_
 exact ⟨rfl,hA7⟩
def zI1(px py:Nat)(ip:Bool)(sx bA sy bz:Nat)(is:Bool)(hx bC hy bM:Nat)(ih:Bool)(z:Bool)(c1 c2 n c ns B:Nat)(fm fs:Nat→Int)(n0:Nat)(qD:Rho)(w1:World)(a':Act)(w':World):Prop:=
 ∃ xV w2 s,Ext qD w1 xV w2∧Sim xV 80 (tu c1 c2 B z n c s (aG hx bC hy bM ih)++fK (aQ px py ip) (aG sx bA sy bz is) z n c ns fm fs++mZ (aG hx bC hy bM ih)) a' w'∧Below n0 w2 w'
theorem zaG{px py:Nat}{ip:Bool}{sx bA sy bz:Nat}{is:Bool}{hx bC hy bM:Nat}{ih:Bool}{Ng:P1}{F W:b9}{z:Bool}{c1 c2 n c ns:Nat}{fm fs:Nat→Int}{qD:Rho}{w1 w:World}{a:Act}{B:Nat}(hk:∀ id q,qD id=some q→id∈oc){n0:Nat}(DP:n0≤B)(hB:w1.heap[B]? = some (.map #[] 0))(cv:¬Eng.Own qD B)(hA:At 80 qD w1 (pF c1 c2 B z n c++fK (aQ px py ip) (aG sx bA sy bz is) z n c ns fm fs++mZ (aG hx bC hy bM ih)) a w):
  WO Tryz.prog (cq uq) (Nrm fun a' w'=>zI1 px py ip sx bA sy bz is hx bC hy bM ih z c1 c2 n c ns B fm fs n0 qD w1 a' w') (aaQ 0 2++(2::(aaQ 3 1++[4]))) a w:=by
 have hT:=Aa ((aG sx bA sy bz is),0) (aG hx bC hy bM ih) Ng F W
 have hR:=Ww px py ip sx bA sy bz is hx bC hy bM ih Ng F W z c1 c2 n c ns fm fs B
 have hR2:=fun s=>Wv px py ip sx bA sy bz is hx bC hy bM ih Ng F W z c1 c2 n c ns fm fs B s
 have KJ:=oI.2.2.2.2.1
 have JD:=oI.2.2.2.2.2
 obtain ⟨o,p1,p2,p3,p4⟩:=fH zuV
 obtain ⟨o',q1,q2,q3,q4⟩:=fH zuU
 generalize cq uq=ops at *
 refine ⟨?_⟩
 have k10:=zLL px py ip sx bA sy bz is hx bC hy bM ih z c1 c2 n c ns B fm fs
 refine At.rpart (E:=(qC ((aG sx bA sy bz is),0) (aG hx bC hy bM ih) Ng F W)) ab hT KJ hR (fun p hp=>by cases hp) hA js (ba k10.1) k10.2.1 (YH hk) fun a4 w4 Fm=>?_
 rw [wpOps_cons]
 refine At.convS p1 p4 p2 p3 Fm k10.2.2.1 k10.2.2.2 (by show 50<80;omega) fun s a5 G9=>?_
 have k11:=zDe px py ip sx bA sy bz is hx bC hy bM ih z c1 c2 n c ns B fm fs s
 refine At.rpart (E:=(qC ((aG sx bA sy bz is),0) (aG hx bC hy bM ih) Ng F W)) ab hT JD (hR2 s) (fun p hp=>by cases hp) G9 js (ba k11.1) k11.2.1 (YH hk) fun a6 w6 Nn=>?_
 rw [wpOps_cons]
 refine At.upd q1 q4 q2 q3 Nn (B:=B) (ck:=0) (s:=s) k11.2.2.1 k11.2.2.2.1 (At.heap Nn hB cv) DP fun xV w7 hE hs hb=>?_
 exact ⟨rfl,xV,w6,s,hE,hs,hb⟩
theorem Tr:dVf.body=gG [mi 0,mi 1,mi 2,mi 3] (.seq (mi 4) (.seq (mi 5) (bVf 6))):=by kernel_rfl
theorem zA8:mi 5 = .seq r6V (.block 0 (.loop lpV)):=by kernel_rfl
theorem zA7:lpV=gG [r7V,k7V] (.seq (.block 1 b1V) zB3):=by kernel_rfl
theorem zA9:b1V = .seq r8V (.seq QY (.seq zfo zB4)):=by kernel_rfl
theorem ztg:zfo = .seq zB5 (.cond (.tmp 40) (.seq vV uq) .skip):=by kernel_rfl
theorem zA6:dVf.ntmps=80:=by kernel_rfl
def zaM:List ResultVar:=[.tmp 8]
theorem zaF:dVf.results=zaM:=by kernel_rfl
theorem zaK(p:P1)(z:Bool)(n c ns:Nat)(fm fs:Nat→Int):(mVf p z n c ns fm fs).all (fun p=>p.1%2==1)=true:=by cases z<;>kernel_rfl
abbrev zwQ:List Nat:=[1,2,3,4]
theorem kv1(px py:Nat)(ip:Bool)(sx bA sy bz:Nat)(is:Bool)(hx bC hy bM:Nat)(ih:Bool)(z:Bool)(c1 c2 n c ns B:Nat)(fm fs:Nat→Int):oc.all (fun id=>(St.blk (Cu c1 c2++fK (aQ px py ip) (aG sx bA sy bz is) z n c ns fm fs) id).isSome)=true∧aw (Cu c1 c2++fK (aQ px py ip) (aG sx bA sy bz is) z n c ns fm fs) oc=true∧fP (Cu c1 c2++fK (aQ px py ip) (aG sx bA sy bz is) z n c ns fm fs)=oc∧St.slot (Cu c1 c2++fK (aQ px py ip) (aG sx bA sy bz is) z n c ns fm fs) 25=none:=by cases z<;>exact ⟨by kernel_rfl,by kernel_rfl,by kernel_rfl,by kernel_rfl⟩
theorem kv3(px py:Nat)(ip:Bool)(sx bA sy bz:Nat)(is:Bool)(hx bC hy bM:Nat)(ih:Bool)(z:Bool)(c1 c2 n c ns B:Nat)(fm fs:Nat→Int):oc.all (fun id=>(St.blk (ER c1 c2 B++fK (aQ px py ip) (aG sx bA sy bz is) z n c ns fm fs) id).isSome)=true∧aw (ER c1 c2 B++fK (aQ px py ip) (aG sx bA sy bz is) z n c ns fm fs) oc=true:=by cases z<;>exact ⟨by kernel_rfl,by kernel_rfl⟩
theorem kv4(px py:Nat)(ip:Bool)(sx bA sy bz:Nat)(is:Bool)(hx bC hy bM:Nat)(ih:Bool)(z:Bool)(c1 c2 n c ns B:Nat)(fm fs:Nat→Int):oc.all (fun id=>(St.blk (pF c1 c2 B z n c++fK (aQ px py ip) (aG sx bA sy bz is) z n c ns fm fs) id).isSome)=true∧aw (pF c1 c2 B z n c++fK (aQ px py ip) (aG sx bA sy bz is) z n c ns fm fs) oc=true:=by cases z<;>exact ⟨by kernel_rfl,by kernel_rfl⟩
theorem kv8(px py:Nat)(ip:Bool)(sx bA sy bz:Nat)(is:Bool)(hx bC hy bM:Nat)(ih:Bool)(z:Bool)(c1 c2 n c ns B:Nat)(fm fs:Nat→Int):js.all (fun id=>(St.blk (Qd c1 c2 B z n c++fK (aQ px py ip) (aG sx bA sy bz is) z n c ns fm fs) id).isSome)=true∧aw (Qd c1 c2 B z n c++fK (aQ px py ip) (aG sx bA sy bz is) z n c ns fm fs) js=true∧En (Qd c1 c2 B z n c++fK (aQ px py ip) (aG sx bA sy bz is) z n c ns fm fs) (.tmp 40)=some true:=by cases z<;>exact ⟨by kernel_rfl,by kernel_rfl,by kernel_rfl⟩
theorem zDd(px py:Nat)(ip:Bool)(sx bA sy bz:Nat)(is:Bool)(hx bC hy bM:Nat)(ih:Bool)(z:Bool)(c1 c2 n c ns B:Nat)(fm fs:Nat→Int):(cU 163::js).all (fun id=>(St.blk (Lj c1 c2++fK (aQ px py ip) (aG sx bA sy bz is) z n c ns fm fs++mZ (aG hx bC hy bM ih)++Ps (aG hx bC hy bM ih)) id).isSome)=true∧aw (Lj c1 c2++fK (aQ px py ip) (aG sx bA sy bz is) z n c ns fm fs++mZ (aG hx bC hy bM ih)++Ps (aG hx bC hy bM ih)) (cU 163::js)=true:=by cases z<;>exact ⟨by kernel_rfl,by kernel_rfl⟩
theorem zDc(px py:Nat)(ip:Bool)(sx bA sy bz:Nat)(is:Bool)(hx bC hy bM:Nat)(ih:Bool)(z:Bool)(c1 c2 n c ns B:Nat)(fm fs:Nat→Int):(cU 163::js).all (fun id=>(St.blk (Li c1 c2++fK (aQ px py ip) (aG sx bA sy bz is) z n c ns fm fs++mZ (aG hx bC hy bM ih)++Ps (aG hx bC hy bM ih)) id).isSome)=true∧aw (Li c1 c2++fK (aQ px py ip) (aG sx bA sy bz is) z n c ns fm fs++mZ (aG hx bC hy bM ih)++Ps (aG hx bC hy bM ih)) (cU 163::js)=true:=by cases z<;>exact ⟨by kernel_rfl,by kernel_rfl⟩
theorem kvE(px py:Nat)(ip:Bool)(sx bA sy bz:Nat)(is:Bool)(hx bC hy bM:Nat)(ih:Bool)(z:Bool)(c1 c2 n c ns B:Nat)(fm fs:Nat→Int):(cU 163::js).all (fun id=>(St.blk (coH c1++fK (aQ px py ip) (aG sx bA sy bz is) z n c ns fm fs++mZ (aG hx bC hy bM ih)++Ps (aG hx bC hy bM ih)) id).isSome)=true∧aw (coH c1++fK (aQ px py ip) (aG sx bA sy bz is) z n c ns fm fs++mZ (aG hx bC hy bM ih)++Ps (aG hx bC hy bM ih)) (cU 163::js)=true:=by cases z<;>exact ⟨by kernel_rfl,by kernel_rfl⟩
theorem kvF(px py:Nat)(ip:Bool)(sx bA sy bz:Nat)(is:Bool)(hx bC hy bM:Nat)(ih:Bool)(z:Bool)(c1 c2 n c ns B:Nat)(fm fs:Nat→Int)(b:Bool):js.all (fun id=>(St.blk (zbE b++fK (aQ px py ip) (aG sx bA sy bz is) z n c ns fm fs++mZ (aG hx bC hy bM ih)) id).isSome)=true∧aw (zbE b++fK (aQ px py ip) (aG sx bA sy bz is) z n c ns fm fs++mZ (aG hx bC hy bM ih)) js=true∧cO bh (zbE b++fK (aQ px py ip) (aG sx bA sy bz is) z n c ns fm fs++mZ (aG hx bC hy bM ih)) zaM=some [cY b]:=by cases z<;>exact ⟨by kernel_rfl,by kernel_rfl,by kernel_rfl⟩
theorem zaE{px py:Nat}{ip:Bool}{sx bA sy bz:Nat}{is:Bool}{hx bC hy bM:Nat}{ih:Bool}{gx gy:Nat}{ig:Bool}{fa fb fc fd fe ff fg fh fi fj fk fl wa wb wc wd we wf wg wh wi wj wk wl:Nat}{z:Bool}{c1 c2 n c ns B:Nat}{fm fs:Nat→Int}{qD:Rho}{w1 w:World}{a:Act}{n0:Nat}(hk:∀ id q,qD id=some q→id∈oc)(DP:n0≤B)(hB:w1.heap[B]? = some (.map #[] 0))(cv:¬Eng.Own qD B)(hn:n≤90000)(hH:hV z n fm=(aG hx bC hy bM ih))(hA:At 80 qD w1 (ER c1 c2 B++fK (aQ px py ip) (aG sx bA sy bz is) z n c ns fm fs) a w)
  {Q:Exit→Act→World→Prop} (hQ:∀ xV w2 wm a' w',Ext qD w1 xV w2→Below n0 w2 wm→(∀ id q,xV id=some q→id∈js)→At 80 xV wm (coH c1++fK (aQ px py ip) (aG sx bA sy bz is) z n c ns fm fs++mZ (aG hx bC hy bM ih)++Ps (aG hx bC hy bM ih)) a' w'→Q (.exit 0) a' w'):(Code.loop lpV).wp Tryz.prog Q a w:=by
 have hT:=Aa ((aG sx bA sy bz is),0) (aG hx bC hy bM ih) (aQ gx gy ig) (eM fa fb fc fd fe ff fg fh fi fj fk fl) (eM wa wb wc wd we wf wg wh wi wj wk wl)
 refine wp_loop_rounds 2 ?_
 rw [rounds_succ,zA7]
 refine At.probes (E:=(qC ((aG sx bA sy bz is),0) (aG hx bC hy bM ih) (aQ gx gy ig) (eM fa fb fc fd fe ff fg fh fi fj fk fl) (eM wa wb wc wd we wf wg wh wi wj wk wl))) an ab hT (zjt px py ip sx bA sy bz is hx bC hy bM ih (aQ gx gy ig) (eM fa fb fc fd fe ff fg fh fi fj fk fl) (eM wa wb wc wd we wf wg wh wi wj wk wl) z c1 c2 n c ns fm fs B) (fun p hp=>by cases hp) hA oc (ba (kv3 px py ip sx bA sy bz is hx bC hy bM ih z c1 c2 n c ns B fm fs).1) (kv3 px py ip sx bA sy bz is hx bC hy bM ih z c1 c2 n c ns B fm fs).2 hk fun a1 w1' nq=>?_
 refine wp_seq (wp_block ?_)
 rw [zA9]
 refine wp_seq ?_
 refine At.probe (E:=(qC ((aG sx bA sy bz is),0) (aG hx bC hy bM ih) (aQ gx gy ig) (eM fa fb fc fd fe ff fg fh fi fj fk fl) (eM wa wb wc wd we wf wg wh wi wj wk wl))) an ab hT (zjs px py ip sx bA sy bz is hx bC hy bM ih (aQ gx gy ig) (eM fa fb fc fd fe ff fg fh fi fj fk fl) (eM wa wb wc wd we wf wg wh wi wj wk wl) z c1 c2 n c ns fm fs B) (fun p hp=>by cases hp) nq oc (ba (kv4 px py ip sx bA sy bz is hx bC hy bM ih z c1 c2 n c ns B fm fs).1) (kv4 px py ip sx bA sy bz is hx bC hy bM ih z c1 c2 n c ns B fm fs).2 hk fun a2 w2' YM=>?_
 refine wp_seq ?_
 refine m6 zuQ zuP (zjw (hx:=hx) (bC:=bC) (hy:=hy) (bM:=bM) (ih:=ih) (Ng:=(aQ gx gy ig)) (F:=(eM fa fb fc fd fe ff fg fh fi fj fk fl)) (W:=(eM wa wb wc wd we wf wg wh wi wj wk wl)) hk hB cv YM) fun a3 w3 hA3=>?_
 refine wp_seq ?_
 rw [ztg]
 refine wp_seq ?_
 refine At.probe (E:=(qC ((aG sx bA sy bz is),0) (aG hx bC hy bM ih) (aQ gx gy ig) (eM fa fb fc fd fe ff fg fh fi fj fk fl) (eM wa wb wc wd we wf wg wh wi wj wk wl))) an ab hT (zaD px py ip sx bA sy bz is hx bC hy bM ih (aQ gx gy ig) (eM fa fb fc fd fe ff fg fh fi fj fk fl) (eM wa wb wc wd we wf wg wh wi wj wk wl) z c1 c2 n c ns fm fs B) (fun p hp=>by cases hp) hA3 js (ba (kv8 px py ip sx bA sy bz is hx bC hy bM ih z c1 c2 n c ns B fm fs).1) (kv8 px py ip sx bA sy bz is hx bC hy bM ih z c1 c2 n c ns B fm fs).2.1 (YH hk) fun a4 w4 Fm=>?_
 have hc:a4.eval (.tmp 40) = .bool true:=by
  obtain ⟨ρ,_,hs⟩:=Fm
  exact lB hs (kv8 px py ip sx bA sy bz is hx bC hy bM ih z c1 c2 n c ns B fm fs).2.2
 refine wp_cond_true hc ?_
 refine wp_seq ?_
 refine m6 zla zk9 (zaH (Ng:=(aQ gx gy ig)) (F:=(eM fa fb fc fd fe ff fg fh fi fj fk fl)) (W:=(eM wa wb wc wd we wf wg wh wi wj wk wl)) hk hn hH Fm) fun a5 w5 G9=>?_
 refine m6 zk8 zk7 (zaG (Ng:=(aQ gx gy ig)) (F:=(eM fa fb fc fd fe ff fg fh fi fj fk fl)) (W:=(eM wa wb wc wd we wf wg wh wi wj wk wl)) hk DP hB cv G9) fun a6 w6 Nn=>?_
 obtain ⟨xV,w2,s,hE2,DN,tP⟩:=Nn
 have RH:∀ id q,xV id=some q→id∈js:=fun id q hq=>by
  obtain ⟨l,hl⟩:=DN.dom id q hq
  have:=VU hl
  rwa [(zDe px py ip sx bA sy bz is hx bC hy bM ih z c1 c2 n c ns B fm fs s).2.2.2.2] at this
 have hkA:∀ id q,xV id=some q→id∈cU 163::js:=fun id q hq=>List.mem_cons_of_mem _ (RH id q hq)
 have Nn:At 80 xV w6 (tu c1 c2 B z n c s (aG hx bC hy bM ih)++fK (aQ px py ip) (aG sx bA sy bz is) z n c ns fm fs++mZ (aG hx bC hy bM ih)) a6 w6:=⟨xV,.refl xV w6,DN⟩
 refine At.probe (E:=(qC ((aG sx bA sy bz is),0) (aG hx bC hy bM ih) (aQ gx gy ig) (eM fa fb fc fd fe ff fg fh fi fj fk fl) (eM wa wb wc wd we wf wg wh wi wj wk wl))) an ab hT (zaC px py ip sx bA sy bz is hx bC hy bM ih (aQ gx gy ig) (eM fa fb fc fd fe ff fg fh fi fj fk fl) (eM wa wb wc wd we wf wg wh wi wj wk wl) z c1 c2 n c ns fm fs B s) (fun p hp=>by cases hp) Nn (cU 163::js) (ba (zDd px py ip sx bA sy bz is hx bC hy bM ih z c1 c2 n c ns B fm fs).1) (zDd px py ip sx bA sy bz is hx bC hy bM ih z c1 c2 n c ns B fm fs).2 hkA fun a7 w7 hA7=>?_
 refine At.probe (E:=(qC ((aG sx bA sy bz is),0) (aG hx bC hy bM ih) (aQ gx gy ig) (eM fa fb fc fd fe ff fg fh fi fj fk fl) (eM wa wb wc wd we wf wg wh wi wj wk wl))) an ab hT (zaB px py ip sx bA sy bz is hx bC hy bM ih (aQ gx gy ig) (eM fa fb fc fd fe ff fg fh fi fj fk fl) (eM wa wb wc wd we wf wg wh wi wj wk wl) z c1 c2 n c ns fm fs) (fun p hp=>by cases hp) hA7 (cU 163::js) (ba (zDc px py ip sx bA sy bz is hx bC hy bM ih z c1 c2 n c ns B fm fs).1) (zDc px py ip sx bA sy bz is hx bC hy bM ih z c1 c2 n c ns B fm fs).2 hkA fun a8 w8 hA8=>?_
 show Code.rounds _ _ _ 1 a8 w8
 rw [rounds_succ]
 refine At.probes (E:=(qC ((aG sx bA sy bz is),0) (aG hx bC hy bM ih) (aQ gx gy ig) (eM fa fb fc fd fe ff fg fh fi fj fk fl) (eM wa wb wc wd we wf wg wh wi wj wk wl))) an ab hT (zaA px py ip sx bA sy bz is hx bC hy bM ih (aQ gx gy ig) (eM fa fb fc fd fe ff fg fh fi fj fk fl) (eM wa wb wc wd we wf wg wh wi wj wk wl) z c1 c2 n c ns fm fs) (fun p hp=>by cases hp) hA8 (cU 163::js) (ba (kvE px py ip sx bA sy bz is hx bC hy bM ih z c1 c2 n c ns B fm fs).1) (kvE px py ip sx bA sy bz is hx bC hy bM ih z c1 c2 n c ns B fm fs).2 hkA fun a9 w9 hA9=>?_
 exact hQ xV w2 w6 a9 w9 hE2 tP RH hA9
def rQ:P1:=gJ (Pt.neg (bO dj))
theorem zlh(F:b9):nc F (0%pw 0)=cr 1:=by
 have:0%pw 0=0:=Nat.zero_mod _
 unfold nc
 rw [this];rfl
theorem zxM(p:P1)(h:P2)(q:P1)(s:P2):Sm (tK p h q s):=by
 unfold tK Si dlN cH
 exact Bs _
open Classical in
def KH(p:P1)(H:P2)(D:P2×Int):Bool:=decide (D.2=0)&&decide (tK p H rQ D.1=cr 1)
theorem Yf:Tor b1 aO (bO rQ):=by
 unfold rQ
 rw [tV]
 refine ⟨db dX.on,?_⟩
 rw [vG oi dX.on,dX.tor];rfl
theorem Ms:eV rQ=true:=(kM _).2 Yf
theorem Un{X Y:N2}{on nG:Bool}:(XN X Y on nG).2=0∧XN X Y on nG=(((X,Y),false),0)∧on=true∧nG=true∨∃ e∈[(200:Int),201,202,203,204,205],XN X Y on nG=(iX,e):=by
 cases on
 ·exact .inr ⟨204,by simp,rfl⟩
 ·cases nG
  ·exact .inr ⟨205,by simp,rfl⟩
  ·exact .inl ⟨rfl,rfl,rfl,rfl⟩
theorem uI(z:Bool)(n:Nat)(f:Nat→Int):(kW z n f).2=0∧dW (kW z n f).1=true∨∃ e∈[(200:Int),201,202,203,204,205],kW z n f=(iX,e):=by
 cases z with
 | true=>exact .inr ⟨200,by simp,rfl⟩
 | false=>
  show (r8 n f).2=0∧dW (r8 n f).1=true∨∃ e∈_,r8 n f=(iX,e)
  unfold r8
  split
  ·exact .inr ⟨200,by simp,rfl⟩
  ·split
   ·exact .inr ⟨201,by simp,rfl⟩
   ·split
    ·split
     ·exact .inl ⟨rfl,(gX _).2 Tor.inf⟩
     ·exact .inr ⟨202,by simp,rfl⟩
    ·split
     ·split
      ·generalize (eo (tf f) 48,eo (cn f) 48)=X
       generalize jT f=b
       unfold pt2
       generalize hY:Ef X b=Y
       rcases Un (X:=X) (Y:=Y) (on:=yN ((X,Y),false)) (nG:=dW ((X,Y),false)) with ⟨h1,h2,_,h4⟩|h
       ·left;refine ⟨h1,?_⟩;rw [h2];exact h4
       ·right;exact h
      ·exact .inr ⟨203,by simp,rfl⟩
     ·exact .inr ⟨203,by simp,rfl⟩
theorem zjy{p Ng:P1}{H S:P2}{F W:b9}(hp:eV p=true)(hH:dW H=true)(hS:dW S=true)(hN:rQ=Ng)(hF:tK p H Ng S=F)(hW:cr 1=W){b:Bool}(hb:F=W↔b=true):∀ q∈zCo p H S Ng F W b,q:=by
 have sF:Sm F:=by rw [←hF];exact zxM _ _ _ _
 have sW:Sm W:=by rw [←hW];exact Bs _
 refine aa (fun ρ=>?_) (aa hp (aa hH (aa ?_ (aa hS (aa (fun ρ=>?_) (aa (fun ρ=>?_) (aa (ej sF sW hb) ad)))))))
 ·show SV.val ρ (.one (wP rQ))=_
  rw [hN]
 ·rw [←hN];exact Ms
 ·rw [hF]
 ·rw [zlh,hW]
theorem To{zs:Bool}{ns cs:Nat}{fs:Nat→Int}{D:P2×Int}(hD:kW zs ns fs=D)(hc:zs=false→ns≤cs∧bOk ns fs):∀ q∈IZ zs ns cs fs D,q:=by
 have e0:(fun i=>fs (0+i))=fs:=nI fs
 cases zs with
 | true=>exact aa hD ad
 | false=>
  obtain ⟨h1,h2⟩:=hc rfl
  exact aa (by rw [e0];exact hD) (aa h1 (aa (by rw [e0];exact h2) (aa (by omega) ad)))
structure VfMem(w:World)(p:P1)(z zs:Bool)(u1 o1 u2 o2 u3 o3 u4 o4 n c ns:Nat)(fm fs:Nat→Int):Prop where
 ps:∃ vs,conc rho0 (wP p).its=some vs∧Stands w u1 o1 vs
 ms:Stands w u2 o2 [byV z u3 o3 n c]
 msg:Stands w u3 o3 (gvals .u8 n fm)
 sig:Stands w u4 o4 (gvals .u8 ns fs)
def EL(u1 o1 u2 o2 u3 o3 u4 o4:Nat):List (Nat×(Nat×Nat)):=[(1,(u1,o1)),(2,(u2,o2)),(3,(u3,o3)),(4,(u4,o4))]
theorem zaL{w:World}{p:P1}{z zs:Bool}{u1 o1 u2 o2 u3 o3 u4 o4 n c ns:Nat}{fm fs:Nat→Int}(h:VfMem w p z zs u1 o1 u2 o2 u3 o3 u4 o4 n c ns fm fs):Mem (aH (EL u1 o1 u2 o2 u3 o3 u4 o4)) (mVf p z n c ns fm fs) w:=by
 obtain ⟨⟨vs1,hc1,hs1⟩,DN,hs3,hs4⟩:=h
 refine oU (l:=[(1,(wP p).its),(2,(gn z 3 n c).its),(3,gM n fm),(4,gM ns fs)]) rfl rfl fun id its q h1 h2=>?_
 simp only [Eng.look,EL,beq_iff_eq] at h1 h2
 split at h1
 ·rename_i e;rw [if_pos e] at h2;cases h1;cases h2
  exact ⟨vs1,eR (ky _) _ _ hc1,hs1⟩
 ·rename_i e1;rw [if_neg e1] at h2
  split at h1
  ·rename_i e;rw [if_pos e] at h2;cases h1;cases h2
   refine ⟨[byV z u3 o3 n c],?_,DN⟩
   cases z with
   | true=>rfl
   | false=>
    have e1:AV.val (aH (EL u1 o1 u2 o2 u3 o3 u4 o4)) (bT (.s 3 0 n c))=some (.slice (some ⟨u3,o3,none⟩) n c):=by
     have e:=bu (ρ:=aH (EL u1 o1 u2 o2 u3 o3 u4 o4)) (id:=3) (q:=(u3,o3)) (by simp [aH,EL]) 0 n c
     simpa [iG,SV.val,bT] using e
    obtain ⟨vs,hc,hh⟩:=AV.cells e1
    rcases hh with ⟨hf,_⟩|⟨_,hh⟩
    ·cases hf
    ·rw [hh] at hc
     exact hc
  ·rename_i e2;rw [if_neg e2] at h2
   split at h1
   ·rename_i e;rw [if_pos e] at h2;cases h1;cases h2
    exact ⟨_,aD,hs3⟩
   ·rename_i e3;rw [if_neg e3] at h2
    split at h1
    ·rename_i e;rw [if_pos e] at h2;cases h1;cases h2
     exact ⟨_,aD,hs4⟩
    ·cases h1
theorem zaJ(u1 o1 u2 o2 u3 o3 u4 o4:Nat):∀ c,¬Eng.Own (aH (EL u1 o1 u2 o2 u3 o3 u4 o4)) c:=by
 rintro c ⟨id,o,ho,hq⟩
 have h:id=1∨id=2∨id=3∨id=4:=by
  simp only [aH,EL] at hq
  split at hq
  ·rename_i e;exact .inl e.symm
  ·split at hq
   ·rename_i e;exact .inr (.inl e.symm)
   ·split at hq
    ·rename_i e;exact .inr (.inr (.inl e.symm))
    ·split at hq
     ·rename_i e;exact .inr (.inr (.inr e.symm))
     ·cases hq
 rcases h with rfl|rfl|rfl|rfl<;>(rcases ho with ho|ho<;>cases ho)
theorem Tq{u1 o1 u2 o2 u3 o3 u4 o4:Nat}{keep:List Nat}(h:[1,2,3,4].all (fun i=>keep.contains i)=true):∀ id q,aH (EL u1 o1 u2 o2 u3 o3 u4 o4) id=some q→id∈keep:=by
 intro id q hq
 have hh:id=1∨id=2∨id=3∨id=4:=by
  simp only [aH,EL] at hq
  split at hq
  ·rename_i e;exact .inl e.symm
  ·split at hq
   ·rename_i e;exact .inr (.inl e.symm)
   ·split at hq
    ·rename_i e;exact .inr (.inr (.inl e.symm))
    ·split at hq
     ·rename_i e;exact .inr (.inr (.inr e.symm))
     ·cases hq
 simp only [List.all_cons,List.all_nil,Bool.and_true,Bool.and_eq_true,List.contains_eq_mem,decide_eq_true_eq] at h
 rcases hh with rfl|rfl|rfl|rfl
 ·exact h.1
 ·exact h.2.1
 ·exact h.2.2.1
 ·exact h.2.2.2
theorem Tn(z zs:Bool)(u1 o1 u2 o2 u3 o3 u4 o4 c1 c2 n c ns cs:Nat):ay (aH (EL u1 o1 u2 o2 u3 o3 u4 o4)) (aVf z zs c1 c2 n c ns cs)=some [.slice (some ⟨u1,o1,none⟩) 1 (c1+1),.slice (some ⟨u2,o2,none⟩) 1 (c2+1),byV zs u4 o4 ns cs,.string cT]:=by
 have e1:AV.val (aH (EL u1 o1 u2 o2 u3 o3 u4 o4)) (bT (.s 1 0 1 (c1+1)))=some (.slice (some ⟨u1,o1,none⟩) 1 (c1+1)):=by
  have e:=bu (ρ:=aH (EL u1 o1 u2 o2 u3 o3 u4 o4)) (id:=1) (q:=(u1,o1)) (by simp [aH,EL]) 0 1 (c1+1)
  simpa [iG,SV.val,bT] using e
 have e2:AV.val (aH (EL u1 o1 u2 o2 u3 o3 u4 o4)) (bT (.s 2 0 1 (c2+1)))=some (.slice (some ⟨u2,o2,none⟩) 1 (c2+1)):=by
  have e:=bu (ρ:=aH (EL u1 o1 u2 o2 u3 o3 u4 o4)) (id:=2) (q:=(u2,o2)) (by simp [aH,EL]) 0 1 (c2+1)
  simpa [iG,SV.val,bT] using e
 have e3:AV.val (aH (EL u1 o1 u2 o2 u3 o3 u4 o4)) (gn zs 4 ns cs)=some (byV zs u4 o4 ns cs):=by
  cases zs with
  | true=>exact AV.val_v rfl
  | false=>
   have e:=bu (ρ:=aH (EL u1 o1 u2 o2 u3 o3 u4 o4)) (id:=4) (q:=(u4,o4)) (by simp [aH,EL]) 0 ns cs
   simpa [iG,SV.val,gn,byV] using e
 have e4:AV.val (aH (EL u1 o1 u2 o2 u3 o3 u4 o4)) ⟨false,[.v (.string cT)]⟩=some (.string cT):=AV.val_v rfl
 simp only [aVf,ay,e1,e2,e3,e4]
end Sh
end Go.Proofs.YtcafpgpahbplaaaGreat
namespace Go.Proofs.YtcafpgpahbplaaaGreat
open Go Go.Eng Go.RowKit Go.Wd Go.Alg Go.Pr
theorem oO{p:P1}{q:P2}(h1:eV p=true)(h2:dW q=true):fW p q=cr (GF (iO (bO p) (ιP2 q))):=by
 have t1:=(kM p).1 h1
 have t2:=(gX q).1 h2
 obtain ⟨a,pb⟩:=p
 obtain ⟨c,qb⟩:=q
 have on1:=MZ h1
 have on2:=MW h2
 have hpq:(e_ (a,pb)&&fw (c,qb))=true:=by rw [on1,on2];rfl
 cases pb with
 | true=>
  rw [Dc hpq rfl,show bO (a,true) = .inf from rfl,gv _ t2]
 | false=>cases qb with
  | true=>
   rw [Dc hpq rfl,show ιP2 (c,true) = .inf from rfl,rL _ t1]
  | false=>exact Q6 on1 on2
namespace Sh
theorem zcV(p:P1)(h:P2)(q:P1)(s:P2):tK p h q s=cr (c_ (fW p h)*c_ (fW q s)):=by
 unfold tK
 rw [mT,mT,Vv,zrt,pr]
 unfold cH
 rw [bP,bP,bP,bP,bP,xr]
theorem vd{a b:dv}(h:cr a=cr b):a=b:=by rw [←bP a,←bP b,h]
theorem AA{x y z:dv}(h:y*z=1):x*z=1↔x=y:=by
 constructor
 ·intro hx
  have h1:x*(z*y)=y:=by rw [←mul_assoc,hx,aP]
  rw [mul_comm z y,h,mul_one] at h1
  exact h1
 ·intro e;rw [e];exact h
theorem zjx{p:P1}{H S:P2}(hp:eV p=true)(hH:dW H=true)(hS:dW S=true):tK p H rQ S=cr 1↔fW p H=fW dj S:=by
 have tS:=(gX S).1 hS
 have hb:eV dj=true:=(kM _).2 dX
 have hn:bO rQ=(bO dj).neg:=by unfold rQ;rw [tV]
 have e1:=oO hp hH
 have e2:=oO hb hS
 have e3:=oO Ms hS
 have RG:=tL dX tS
 rw [zcV,e3,bP,e1,bP,e2,hn]
 constructor
 ·intro h
  rw [(AA RG).1 (vd h)]
 ·intro h
  rw [(AA RG).2 (vd h)]
theorem KW{p:P1}{H S:P2}(hp:eV p=true)(hH:dW H=true)(hS:dW S=true):KH p H (S,0)=true↔fW p H=fW dj S:=by
 unfold KH
 simp only [decide_true,Bool.true_and,decide_eq_true_eq]
 exact zjx hp hH hS
theorem Sf:∀ b:Fin 32,∀ big:Bool,Eng.bits .and .u8 (FB false big (b.val:Int)) 128>0∧¬Eng.bits .and .u8 (FB false big (b.val:Int)) 64>0∧decide (Eng.bits .and .u8 (FB false big (b.val:Int)) 32>0)=big∧Eng.bits .and .u8 (FB false big (b.val:Int)) 31=(b.val:Int)∧0≤FB false big (b.val:Int)∧FB false big (b.val:Int)<256:=by decide +kernel
theorem zxL:∀ b:Fin 256,Eng.bits .and .u8 (b.val:Int) 128>0→¬Eng.bits .and .u8 (b.val:Int) 64>0→FB false (decide (Eng.bits .and .u8 (b.val:Int) 32>0)) (Eng.bits .and .u8 (b.val:Int) 31)=(b.val:Int):=by decide +kernel
theorem zxK:∀ b:Fin 256,Eng.bits .and .u8 (b.val:Int) 128>0→Eng.bits .and .u8 (b.val:Int) 64>0→decide (Eng.bits .and .u8 (b.val:Int) 32>0)=false→Eng.bits .and .u8 (b.val:Int) 31=0→(b.val:Int)=192:=by decide +kernel
theorem zxJ:∀ big:Bool,FB true big 0=192:=by decide +kernel
theorem zgk:Eng.bits .and .u8 192 128>0∧Eng.bits .and .u8 192 64>0∧decide (Eng.bits .and .u8 192 32>0)=false∧Eng.bits .and .u8 192 31=0:=by decide +kernel
theorem Sg{z:Int}{n:Nat}(h:0≤z∧z<(n:Int)):∃ b:Fin n,z=(b.val:Int):=⟨⟨z.toNat,by omega⟩,by show z=(z.toNat:Int);omega⟩
theorem Dg{X:Nat}(h:X<pN):∃ b:Fin 32,dk X 48 0=(b.val:Int):=by
 have hp:pN/256^47<32:=by decide +kernel
 have h1:X/256^47≤pN/256^47:=Nat.div_le_div_right (Nat.le_of_lt h)
 refine ⟨⟨X/256^47,by omega⟩,?_⟩
 show ((X/256^(48-1-0)%256:Nat):Int)=((X/256^47:Nat):Int)
 rw [aah (show X/256^(48-1-0)<256 by show X/256^47<256;omega)]
theorem zvg:pN<256^48:=by decide +kernel
theorem V1{X:Nat}(h:X<pN):eo (dk X 48) 48=X:=by rw [Ez,aah (Nat.lt_trans h zvg)]
theorem Tt{x:F}(h:x≠0):(-x).val=pN-x.val∧x.val≠0:=by
 have h1:x.val<pN:=x.lt
 have h2:x.val≠0:=fun e=>h (by rw [←cM x,e];exact Bm)
 refine ⟨?_,h2⟩
 show (pN-x.val)%pN=_
 exact aah (by omega)
theorem zrm:pN%2=1:=by decide +kernel
theorem V0(x:F):qP x.val=decide ((-x).val<x.val):=by
 unfold qP fV du
 rw [cM]
 unfold jG
 by_cases h:x.val<(-x).val
 ·rw [if_pos h,decide_eq_false (by decide),decide_eq_false (by omega)]
 ·rw [if_neg h]
  by_cases h2:x.val=(-x).val
  ·rw [if_pos h2,decide_eq_false (by decide),decide_eq_false (by omega)]
  ·rw [if_neg h2,decide_eq_true (by decide),decide_eq_true (by omega)]
theorem Ku{x:F}(h:x≠0):qP (-x).val = !qP x.val:=by
 obtain ⟨h1,h2⟩:=Tt h
 have h3:=x.lt
 have h4:=zrm
 rw [V0,V0,bm,h1]
 by_cases h5:pN-x.val<x.val
 ·rw [decide_eq_true h5,decide_eq_false (by omega)];rfl
 ·rw [decide_eq_false h5,decide_eq_true (by omega)];rfl
theorem zyb{X:Nat}{y:F}(h0:y≠0)(h:y*y=φ (crv X)):dcY X (qP y.val)=y.val:=by
 have hq:Fg (crv X)=true:=(BK _).2 ⟨y,h⟩
 have hr:=Bx hq
 have hlt:=vQ (crv X)
 unfold dcY
 generalize cg (crv X)=r at *
 rw [zt hlt]
 rcases ry (hr.trans h.symm) with e|e
 ·rw [e]
  have:(qP y.val != qP y.val)=false:=by simp
  rw [this];rfl
 ·rw [e,Ku h0]
  have:((!qP y.val) != qP y.val)=true:=by cases qP y.val<;>rfl
  rw [this]
  show (-φ (-y).val).val=_
  rw [cM,bm]
theorem O3(z:F2):jx (dr z)=if z.b.val=0 then qP z.a.val else qP z.b.val:=by
 unfold jx dr
 simp only [fV,cM]
theorem oA{x:F}:x.val=0↔x=0:=⟨fun e=>by rw [←cM x,e];exact Bm,fun e=>by rw [e];rfl⟩
theorem wJ{x:F}:(-x).val=0↔x.val=0:=by
 rw [oA,oA]
 exact ⟨fun e=>by rw [←bm x,e,a_],fun e=>by rw [e,a_]⟩
theorem O4{z:F2}(h:z≠0):jx (dr (-z)) = !jx (dr z):=by
 rw [O3,O3]
 show (if (-z.b).val=0 then qP (-z.a).val else qP (-z.b).val)=_
 by_cases hb:z.b.val=0
 ·rw [if_pos hb,if_pos (wJ.2 hb)]
  refine Ku fun e=>h (Quad.ext' e (oA.1 hb))
 ·rw [if_neg hb,if_neg fun e=>hb (wJ.1 e)]
  exact Ku fun e=>hb (oA.2 e)
theorem zbg(e:Bool)(a:N2)(n:Nat):tqX e a n<pN:=by
 cases e
 ·exact vQ _
 ·exact (-φ (cg (ao (bZ a.1 n) aU))).lt
theorem zjR(e:Bool)(a:N2)(n:Nat):K4 e a n<pN:=by
 cases e
 ·exact (φ (ao a.2 aU)*φ (gW (cg (ao (bZ a.1 n) aU)))).lt
 ·exact vQ _
theorem zbf(e0 e1:Bool)(a:N2)(n:Nat):tqY e0 e1 a n<pN:=by
 cases e1
 ·exact zjR e0 a n
 ·exact (-φ (K4 e0 a n)).lt
theorem T4{a b c:Bool}{x y:Nat}(hx:x<pN)(hy:y<pN):A6 a b c x y<pN:=by
 have h0:0<pN:=by decide +kernel
 cases a<;>cases b<;>cases c<;>first | exact hx | exact hy | exact h0
theorem C3(a:N2):(kY a).1<pN∧(kY a).2<pN:=⟨T4 (zbg _ _ _) (zbg _ _ _),T4 (zbf _ _ _ _) (zbf _ _ _ _)⟩
theorem yH{a:N2}(h:a.1<pN∧a.2<pN):a=dr (ar a):=by
 obtain ⟨x,y⟩:=a
 show (x,y)=((φ x).val,(φ y).val)
 rw [←zt h.1,←zt h.2]
theorem L_{a:N2}(h:sf (ar a)):ar (kY a)*ar (kY a)=ar a:=rv (m9 h)
theorem zoh{X:N2}{y:F2}(h0:y≠0)(h:y*y=ar (uJ X)):Ef X (jx (dr y))=dr y:=by
 have hr:=L_ (a:=uJ X) ⟨y,h⟩
 have hlt:=yH (C3 (uJ X))
 unfold Ef
 generalize kY (uJ X)=r at *
 rw [hlt]
 rcases ry (hr.trans h.symm) with e|e
 ·rw [e]
  have:(jx (dr y) != jx (dr y))=false:=by simp
  rw [this];rfl
 ·rw [e,O4 h0]
  have:((!jx (dr y)) != jx (dr y))=true:=by cases jx (dr y)<;>rfl
  rw [this]
  show dr (-ar (dr (-y)))=_
  rw [bW,bm]
theorem zg7{X:N2}{big:Bool}{y:F2}(h0:y≠0)(h:y=ar (Ef X big)):Ef X big=dr y∧jx (Ef X big)=big:=by
 have hlt:=yH (C3 (uJ X))
 unfold Ef at h ⊢
 generalize kY (uJ X)=r at *
 cases hb:(jx r != big) with
 | false=>
  rw [hb] at h
  have h:y=ar r:=h
  have e:jx r=big:=by simpa using hb
  exact ⟨by rw [h];exact hlt,e⟩
 | true=>
  rw [hb] at h
  have h:y=ar (gl r):=h
  rw [HF] at h
  have hn:ar r≠0:=fun e=>h0 (by rw [h,e,a_])
  have e:jx r = !big:=by
   cases big<;>cases hq:jx r<;>rw [hq] at hb<;>first | rfl | cases hb
  refine ⟨by rw [h];rfl,?_⟩
  show jx (dr (-ar r))=big
  rw [O4 hn,←hlt,e,Bool.not_not]
theorem xn{l m:List Int}{i:Nat}(h:i<l.length):(l++m).getD i 0=l.getD i 0:=by
 rw [aaU,aaU,List.getElem?_append_left h]
theorem YO{l m:List Int}{i:Nat}(h:l.length≤i):(l++m).getD i 0=m.getD (i-l.length) 0:=by
 rw [aaU,aaU,List.getElem?_append_right h]
theorem VC(Q:P1)(big:Bool){i:Nat}(hi:i<48):(qM Q big).getD i 0=if i=0 then FB Q.2 big (dk (fV Q.1.1) 48 0) else dk (fV Q.1.1) 48 i:=by
 cases i with
 | zero=>rfl
 | succ i=>
  rw [if_neg (by omega)]
  show (bn (dk (fV Q.1.1) 48) 1 47++bn (dk (fV Q.1.2) 48) 0 48).getD i 0=_
  rw [xn (by rw [nU];omega),j1 47 1 i (by omega),Nat.add_comm]
theorem VB(Q:P2)(big:Bool){i:Nat}(hi:i<96):(rZ Q big).getD i 0=if i=0 then FB Q.2 big (dk (fV Q.1.1.2) 48 0) else if i<48 then dk (fV Q.1.1.2) 48 i else dk (fV Q.1.1.1) 48 (i-48):=by
 cases i with
 | zero=>rfl
 | succ i=>
  rw [if_neg (by omega)]
  show (bn (dk (fV Q.1.1.2) 48) 1 47++bn (dk (fV Q.1.1.1) 48) 0 48++bn (dk (fV Q.1.2.2) 48) 0 48++bn (dk (fV Q.1.2.1) 48) 0 48).getD i 0=_
  rw [xn (by simp only [aaX,nU];omega),xn (by simp only [aaX,nU];omega)]
  by_cases h:i+1<48
  ·rw [if_pos h,xn (by rw [nU];omega),j1 47 1 i (by omega),Nat.add_comm]
  ·rw [if_neg h,YO (by rw [nU];omega),nU,j1 48 0 (i-47) (by omega),Nat.zero_add]
   congr 1
end Sh
end Go.Proofs.YtcafpgpahbplaaaGreat
