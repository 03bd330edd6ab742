/-
 The proof, part 4 of 25.
-/
import Derived.Test.YtcafpgpahbplaaaGreatZ03
import Derived.Test.YtcafpgpahbplaaaGreatChecked
import Derived.Test.YtcafpgpahbplaaaGreatZ02
open List renaming forall_mem_cons->aab,map_congr_left->abJ,replicate->aap
open Nat renaming add_mul->aaD,add_mul_div_right->acP,mod_lt->aaH,mul_assoc->aaA,mul_comm->aar
set_option linter.unusedVariables false
set_option linter.unusedSimpArgs false
namespace Go.Proofs.YtcafpgpahbplaaaGreat
open Go Go.Eng
def PH(n:Nat):List K:=aap n (some .u64)
def tr(k:IntKind):Ty:={ size:=1,agg:=false,zero:=some [.v (.int k 0)],ik:=some k,fields:=[],arr:=none,sl:=none,kinds:=[some k] }
def zaX:Ty:={ size:=1,agg:=false,zero:=some [.v (.bool false)],ik:=none,fields:=[],arr:=none,sl:=none,kinds:=[none] }
def nK(n:Nat):Ty:={ size:=n,agg:=true,zero:=some [.w n 0],ik:=none,fields:=[],arr:=some (n,1,false),sl:=none,kinds:=PH n }
def zqO:Ty:={ size:=12,agg:=true,zero:=some [.w 6 0,.w 6 0],ik:=none,fields:=[(0,6,true),(6,6,true)],arr:=none,sl:=none,kinds:=PH 12 }
def w0s(n:Nat):List It:=aap n (.w 6 0)
def zqN:Ty:={ size:=36,agg:=true,zero:=some (w0s 6),ik:=none,fields:=[(0,12,true),(12,12,true),(24,12,true)],arr:=none,sl:=none,kinds:=PH 36 }
def zaW:Ty:={ size:=72,agg:=true,zero:=some (w0s 12),ik:=none,fields:=[(0,36,true),(36,36,true)],arr:=none,sl:=none,kinds:=PH 72 }
def zBc(n s k:Nat):Ty:={ size:=n*s,agg:=true,zero:=some (w0s (n*k)),ik:=none,fields:=[],arr:=some (n,s,true),sl:=none,kinds:=PH (n*s) }
def Br(s:Nat):Ty:={ size:=1,agg:=false,zero:=some [.v (.slice none 0 0)],ik:=none,fields:=[],arr:=none,sl:=some s,kinds:=[] }
theorem gT{t:TypeId}{d:Ty}{l:List It}{vs:List Value}(h1:core Tryz.prog t=some (d.size,d.agg,d.ik,d.fields.map some,d.arr,d.sl))(h2:d.zero=some l)(h3:conc rho0 l=some vs)(h4:zeroP Tryz.prog t=some vs)
  (h5:d.kinds=[]∨(flat Tryz.prog 8 t=some d.kinds∧Tryz.prog.eqGuardType Tryz.prog.depth t=false)) (h6:d.slz=none∧d.ez=none) (h7:d.str=false:=by rfl) (h8:d.mk8=false:=by rfl):TyOk Tryz.prog t d:=
 ⟨h1,fun l' hl=>by rw [h2] at hl;cases hl;exact ⟨vs,h3,h4⟩,h5,fun i hi=>(by rw [h6.1] at hi;cases hi),fun l hl=>(by rw [h6.2] at hl;cases hl),fun hl=>(by rw [h7] at hl;cases hl),fun hl=>(by rw [h8] at hl;cases hl)⟩
theorem zdj:TyOk Tryz.prog 3 (tr .i64):=gT (by kernel_rfl) rfl rfl (by kernel_rfl) (.inr ⟨by kernel_rfl,by kernel_rfl⟩) ⟨rfl,rfl⟩
theorem zlC:TyOk Tryz.prog 4 zaX:=gT (by kernel_rfl) rfl rfl (by kernel_rfl) (.inr ⟨by kernel_rfl,by kernel_rfl⟩) ⟨rfl,rfl⟩
theorem zvo:TyOk Tryz.prog 25 (tr .u64):=gT (by kernel_rfl) rfl rfl (by kernel_rfl) (.inr ⟨by kernel_rfl,by kernel_rfl⟩) ⟨rfl,rfl⟩
theorem zCk:TyOk Tryz.prog 27 (nK 6):=gT (by kernel_rfl) rfl rfl (by kernel_rfl) (.inr ⟨by kernel_rfl,by kernel_rfl⟩) ⟨rfl,rfl⟩
theorem zvr:TyOk Tryz.prog 34 zqO:=gT (by kernel_rfl) rfl rfl (by kernel_rfl) (.inr ⟨by kernel_rfl,by kernel_rfl⟩) ⟨rfl,rfl⟩
theorem zvq:TyOk Tryz.prog 41 zqN:=gT (by kernel_rfl) rfl rfl (by kernel_rfl) (.inr ⟨by kernel_rfl,by kernel_rfl⟩) ⟨rfl,rfl⟩
theorem zlB:TyOk Tryz.prog 43 zaW:=gT (by kernel_rfl) rfl rfl (by kernel_rfl) (.inr ⟨by kernel_rfl,by kernel_rfl⟩) ⟨rfl,rfl⟩
theorem zCl:TyOk Tryz.prog 136 (nK 8):=gT (by kernel_rfl) rfl rfl (by kernel_rfl) (.inr ⟨by kernel_rfl,by kernel_rfl⟩) ⟨rfl,rfl⟩
def zaU:Ty:={ Br 1 with slz:=some (.v (.int .u64 0)),ez:=some [.v (.int .u64 0)],mk8:=true }
theorem Jb{t e:TypeId}(h1:Tryz.prog.underlying t=some (.slice e))(h2:(match Tryz.prog.info? e with | some i=>decide (i.bytes≤1024) | none=>false)=true):∃ e i,Tryz.prog.underlying t=some (.slice e)∧Tryz.prog.info? e=some i∧i.bytes≤1024:=by
 cases hi:Tryz.prog.info? e with
 | none=>rw [hi] at h2;cases h2
 | some i=>rw [hi] at h2;exact ⟨e,i,h1,hi,of_decide_eq_true h2⟩
theorem zlz:TyOk Tryz.prog 84 zaU:=
 ⟨by kernel_rfl,fun l hl=>by cases hl;exact ⟨_,rfl,by kernel_rfl⟩,.inl rfl,fun i hi=>(by cases hi;exact ⟨25,.int .u64 0,by kernel_rfl,rfl,by kernel_rfl⟩),fun l hl=>(by cases hl;exact ⟨25,_,by kernel_rfl,rfl,by kernel_rfl⟩),fun hl=>(by cases hl),fun _=>Jb (e:=25) (by kernel_rfl) (by kernel_rfl)⟩
def rn(m:Nat):Ty:={ Br (6*m) with ez:=some (w0s m),mk8:=true }
theorem zdh{t e:TypeId}{m:Nat}{vs:List Value}(h1:core Tryz.prog t=some (1,false,none,[],none,some (6*m)))(h2:zeroP Tryz.prog t=some [.slice none 0 0])(h3:Tryz.prog.underlying t=some (.slice e))(h4:conc rho0 (w0s m)=some vs)(h5:zeroP Tryz.prog e=some vs)(h6:(match Tryz.prog.info? e with | some i=>decide (i.bytes≤1024) | none=>false)=true:=by kernel_rfl):TyOk Tryz.prog t (rn m):=
 ⟨h1,fun l hl=>by cases hl;exact ⟨_,rfl,h2⟩,.inl rfl,fun i hi=>(by cases hi),fun l hl=>(by cases hl;exact ⟨e,vs,h3,h4,h5⟩),fun hl=>(by cases hl),fun _=>Jb (e:=e) h3 h6⟩
theorem zlA:TyOk Tryz.prog 73 (rn 2):=zdh (e:=34) (by kernel_rfl) (by kernel_rfl) (by kernel_rfl) rfl (by kernel_rfl)
def zqM:Ty:={ size:=1,agg:=false,zero:=none,ik:=none,fields:=[],arr:=none,sl:=none,kinds:=[],str:=true }
theorem zvp:TyOk Tryz.prog 9 zqM:=⟨by kernel_rfl,fun l hl=>(by cases hl),.inl rfl,fun i hi=>(by cases hi),fun l hl=>(by cases hl),fun _=>(by kernel_rfl),fun hl=>by cases hl⟩
theorem zCj:TyOk Tryz.prog 5 (tr .u8):=gT (by kernel_rfl) rfl rfl (by kernel_rfl) (.inr ⟨by kernel_rfl,by kernel_rfl⟩) ⟨rfl,rfl⟩
theorem zly:TyOk Tryz.prog 151 (tr .u64):=gT (by kernel_rfl) rfl rfl (by kernel_rfl) (.inr ⟨by kernel_rfl,by kernel_rfl⟩) ⟨rfl,rfl⟩
def zBd(m:Nat):Ty:={ size:=12*m+1,agg:=true,zero:=some (w0s (2*m)++[.v (.bool false)]),ik:=none,fields:=[(0,6*m,true),(6*m,6*m,true),(12*m,1,false)],arr:=none,sl:=none,kinds:=PH (12*m)++[none] }
def zaV(m:Nat):Ty:={ size:=18*m,agg:=true,zero:=some (w0s (3*m)),ik:=none,fields:=[(0,6*m,true),(6*m,6*m,true),(12*m,6*m,true)],arr:=none,sl:=none,kinds:=PH (18*m) }
def TD(s:Nat)(l:List It):Ty:={ Br s with ez:=some l,mk8:=true }
theorem Q_{t e:TypeId}{s:Nat}{l:List It}{vs:List Value}(h1:core Tryz.prog t=some (1,false,none,[],none,some s))(h2:zeroP Tryz.prog t=some [.slice none 0 0])(h3:Tryz.prog.underlying t=some (.slice e))(h4:conc rho0 l=some vs)(h5:zeroP Tryz.prog e=some vs)(h6:(match Tryz.prog.info? e with | some i=>decide (i.bytes≤1024) | none=>false)=true:=by kernel_rfl):TyOk Tryz.prog t (TD s l):=
 ⟨h1,fun l hl=>by cases hl;exact ⟨_,rfl,h2⟩,.inl rfl,fun i hi=>(by cases hi),fun l hl=>(by cases hl;exact ⟨e,vs,h3,h4,h5⟩),fun hl=>(by cases hl),fun _=>Jb (e:=e) h3 h6⟩
def FV(n:Nat)(k:IntKind):Ty:={ size:=n,agg:=true,zero:=some (aap n (.v (.int k 0))),ik:=none,fields:=[],arr:=some (n,1,false),sl:=none,kinds:=aap n (some k) }
def PI(k:IntKind):Ty:={ Br 1 with slz:=some (.v (.int k 0)),ez:=some [.v (.int k 0)],mk8:=true }
theorem Uv{t e:TypeId}{k:IntKind}(h1:core Tryz.prog t=some (1,false,none,[],none,some 1))(h2:zeroP Tryz.prog t=some [.slice none 0 0])(h3:Tryz.prog.underlying t=some (.slice e))(h5:zeroP Tryz.prog e=some [.int k 0])(h6:(match Tryz.prog.info? e with | some i=>decide (i.bytes≤1024) | none=>false)=true):TyOk Tryz.prog t (PI k):=
 ⟨h1,fun l hl=>by cases hl;exact ⟨_,rfl,h2⟩,.inl rfl,fun i hi=>(by cases hi;exact ⟨e,.int k 0,h3,rfl,h5⟩),fun l hl=>(by cases hl;exact ⟨e,_,h3,rfl,h5⟩),fun hl=>(by cases hl),fun _=>Jb (e:=e) h3 h6⟩
def HQ:List (Nat×Ty):=
 (29,zBd 1) ::
 (36,zBd 2) ::
 (124,zaV 1) ::
 (145,zaV 2) ::
 (30,tr .i64) ::
 (190,zBc 6 12 2) ::
 (116,nK 4) ::
 (26,nK 6) ::
 (58,rn 1) ::
 (155,nK 10) ::
 (117,nK 4) ::
 (78,TD 13 (w0s 2++[.v (.bool false)])) ::
 (156,rn 12) ::
 (79,TD 25 (w0s 4++[.v (.bool false)])) ::
 (181,FV 8 .u32) ::
 (193,FV 64 .u32) ::
 (184,FV 64 .u8) ::
 (47,FV 32 .u8) ::
 (166,FV 48 .u8) ::
 (149,FV 32 .u8) ::
 (180,tr .u32) ::
 (22,PI .u8) ::
 (198,PI .u32) ::
 (57,TD 1 [.v (.slice none 0 0)]) ::
 []
theorem zdi:∀ p∈HQ,TyOk Tryz.prog p.1 p.2:=by
 unfold HQ
 refine aab.2 ⟨gT (by kernel_rfl) rfl rfl (by kernel_rfl) (.inr ⟨by kernel_rfl,by kernel_rfl⟩) ⟨rfl,rfl⟩,?_⟩
 refine aab.2 ⟨gT (by kernel_rfl) rfl rfl (by kernel_rfl) (.inr ⟨by kernel_rfl,by kernel_rfl⟩) ⟨rfl,rfl⟩,?_⟩
 refine aab.2 ⟨gT (by kernel_rfl) rfl rfl (by kernel_rfl) (.inr ⟨by kernel_rfl,by kernel_rfl⟩) ⟨rfl,rfl⟩,?_⟩
 refine aab.2 ⟨gT (by kernel_rfl) rfl rfl (by kernel_rfl) (.inr ⟨by kernel_rfl,by kernel_rfl⟩) ⟨rfl,rfl⟩,?_⟩
 refine aab.2 ⟨gT (by kernel_rfl) rfl rfl (by kernel_rfl) (.inr ⟨by kernel_rfl,by kernel_rfl⟩) ⟨rfl,rfl⟩,?_⟩
 refine aab.2 ⟨gT (by kernel_rfl) rfl rfl (by kernel_rfl) (.inr ⟨by kernel_rfl,by kernel_rfl⟩) ⟨rfl,rfl⟩,?_⟩
 refine aab.2 ⟨gT (by kernel_rfl) rfl rfl (by kernel_rfl) (.inr ⟨by kernel_rfl,by kernel_rfl⟩) ⟨rfl,rfl⟩,?_⟩
 refine aab.2 ⟨gT (by kernel_rfl) rfl rfl (by kernel_rfl) (.inr ⟨by kernel_rfl,by kernel_rfl⟩) ⟨rfl,rfl⟩,?_⟩
 refine aab.2 ⟨zdh (e:=27) (by kernel_rfl) (by kernel_rfl) (by kernel_rfl) rfl (by kernel_rfl),?_⟩
 refine aab.2 ⟨gT (by kernel_rfl) rfl rfl (by kernel_rfl) (.inr ⟨by kernel_rfl,by kernel_rfl⟩) ⟨rfl,rfl⟩,?_⟩
 refine aab.2 ⟨gT (by kernel_rfl) rfl rfl (by kernel_rfl) (.inr ⟨by kernel_rfl,by kernel_rfl⟩) ⟨rfl,rfl⟩,?_⟩
 refine aab.2 ⟨Q_ (e:=29) (by kernel_rfl) (by kernel_rfl) (by kernel_rfl) rfl (by kernel_rfl),?_⟩
 refine aab.2 ⟨zdh (e:=43) (by kernel_rfl) (by kernel_rfl) (by kernel_rfl) rfl (by kernel_rfl),?_⟩
 refine aab.2 ⟨Q_ (e:=36) (by kernel_rfl) (by kernel_rfl) (by kernel_rfl) rfl (by kernel_rfl),?_⟩
 refine aab.2 ⟨gT (by kernel_rfl) rfl rfl (by kernel_rfl) (.inr ⟨by kernel_rfl,by kernel_rfl⟩) ⟨rfl,rfl⟩,?_⟩
 refine aab.2 ⟨gT (by kernel_rfl) rfl rfl (by kernel_rfl) (.inr ⟨by kernel_rfl,by kernel_rfl⟩) ⟨rfl,rfl⟩,?_⟩
 refine aab.2 ⟨gT (by kernel_rfl) rfl rfl (by kernel_rfl) (.inr ⟨by kernel_rfl,by kernel_rfl⟩) ⟨rfl,rfl⟩,?_⟩
 refine aab.2 ⟨gT (by kernel_rfl) rfl rfl (by kernel_rfl) (.inr ⟨by kernel_rfl,by kernel_rfl⟩) ⟨rfl,rfl⟩,?_⟩
 refine aab.2 ⟨gT (by kernel_rfl) rfl rfl (by kernel_rfl) (.inr ⟨by kernel_rfl,by kernel_rfl⟩) ⟨rfl,rfl⟩,?_⟩
 refine aab.2 ⟨gT (by kernel_rfl) rfl rfl (by kernel_rfl) (.inr ⟨by kernel_rfl,by kernel_rfl⟩) ⟨rfl,rfl⟩,?_⟩
 refine aab.2 ⟨gT (by kernel_rfl) rfl rfl (by kernel_rfl) (.inr ⟨by kernel_rfl,by kernel_rfl⟩) ⟨rfl,rfl⟩,?_⟩
 refine aab.2 ⟨Uv (e:=5) (by kernel_rfl) (by kernel_rfl) (by kernel_rfl) (by kernel_rfl) (by kernel_rfl),?_⟩
 refine aab.2 ⟨Uv (e:=180) (by kernel_rfl) (by kernel_rfl) (by kernel_rfl) (by kernel_rfl) (by kernel_rfl),?_⟩
 refine aab.2 ⟨Q_ (e:=22) (by kernel_rfl) (by kernel_rfl) (by kernel_rfl) rfl (by kernel_rfl),?_⟩
 intro p hp
 cases hp
def HR:List (Nat×Ty):=[(3,tr .i64),(4,zaX),(9,zqM),(5,tr .u8),(151,tr .u64),(25,tr .u64),(27,nK 6),(34,zqO),(41,zqN),(43,zaW),
 (136,nK 8),(84,zaU),(73,rn 2)]
def ztn:List (Nat×Ty):=HR++HQ
def bh(t:TypeId):Option Ty:=Eng.look ztn t
theorem zed{α:Type}:∀ (l:List (Nat×α)) (k:Nat) (v:α),Eng.look l k=some v→(k,v)∈l:=by
 intro l
 induction l with
 | nil=>intro k v h;cases h
 | cons p l ih=>
  intro k v h
  obtain ⟨k',v'⟩:=p
  simp only [Eng.look,beq_iff_eq] at h
  split at h
  ·rename_i e;cases h;subst e;exact List.mem_cons_self
  ·exact List.mem_cons_of_mem _ (ih k v h)
theorem ab:∀ t d,bh t=some d→TyOk Tryz.prog t d:=by
 intro t d h
 have hA:∀ p∈HR,TyOk Tryz.prog p.1 p.2:=by
  simp only [HR,aab,List.not_mem_nil,false_imp_iff,implies_true,and_true]
  exact ⟨zdj,zlC,zvp,zCj,zly,zvo,zCk,zvr,zvq,zlB,zCl,zlz,zlA⟩
 rcases List.mem_append.1 (zed _ _ _ h) with hm|hm
 ·exact hA _ hm
 ·exact zdi _ hm
theorem an:Tryz.prog.follows .mixedOrders=true:=by kernel_rfl
end Go.Proofs.YtcafpgpahbplaaaGreat
namespace Go.Wd
open Go Go.Eng
def pw(k:Nat):Nat:=2^(64*k)
def dg(n i:Nat):Nat:=n/pw i%2^64
def num(d:Nat→Nat):Nat→Nat
 | 0=>0
 | k+1=>num d k+d k*pw k
theorem rp:(2:Nat)^64=18446744073709551616:=by decide
theorem gL:pw 0=1:=by unfold pw;simp
theorem yK(k:Nat):0<pw k:=by unfold pw;exact Nat.two_pow_pos _
theorem dA(k:Nat):pw (k+1)=pw k*18446744073709551616:=by
 unfold pw
 rw [show 64*(k+1)=64*k+64 by omega,Nat.pow_add,rp]
theorem zu1(i j:Nat):pw (i+j)=pw i*pw j:=by
 unfold pw
 rw [show 64*(i+j)=64*i+64*j by omega,Nat.pow_add]
theorem eQ(n i:Nat):dg n i<18446744073709551616:=by unfold dg;rw [rp];exact aaH _ (by decide)
theorem iB(n:Nat):∀ k,num (dg n) k=n%pw k:=by
 intro k
 induction k with
 | zero=>simp [num,gL,Nat.mod_one]
 | succ k ih=>
  simp only [num,ih,dg,rp]
  rw [dA,Nat.mod_mul,aar (n/pw k%18446744073709551616)]
theorem n_{d:Nat→Nat}:∀ k,(∀ i,i<k→d i<18446744073709551616)→num d k<pw k:=by
 intro k
 induction k with
 | zero=>intro _;simp [num,gL]
 | succ k ih=>
  intro h
  have h1:=ih fun i hi=>h i (by omega)
  have h2:(d k+1)*pw k≤18446744073709551616*pw k:=Nat.mul_le_mul_right _ (h k (by omega))
  rw [aaD,Nat.one_mul] at h2
  simp only [num]
  rw [dA,aar (pw k)]
  omega
theorem mU{d e:Nat→Nat}:∀ k,(∀ i,i<k→d i=e i)→num d k=num e k:=by
 intro k
 induction k with
 | zero=>intro _;rfl
 | succ k ih=>intro h;simp only [num];rw [ih fun i hi=>h i (by omega),h k (by omega)]
theorem zgM{d:Nat→Nat}:∀ k,(∀ i,i<k→d i<18446744073709551616)→∀ i,i<k→dg (num d k) i=d i:=by
 intro k
 induction k with
 | zero=>intro _ i hi;omega
 | succ k ih=>
  intro h i hi
  have hlt:=n_ k fun i hi=>h i (by omega)
  simp only [num]
  by_cases e:i=k
  ·subst e
   unfold dg
   rw [acP _ _ (yK _),Nat.div_eq_of_lt hlt,Nat.zero_add,rp]
   exact Nat.mod_eq_of_lt (h i (by omega))
  ·have YJ:i<k:=by omega
   rw [←ih (fun i hi=>h i (by omega)) i YJ]
   unfold dg
   have:pw k=pw i*(18446744073709551616*pw (k-i-1)):=by
    rw [←aaA,←dA,←zu1];congr 1;omega
   rw [this,rp,show d k*(pw i*(18446744073709551616*pw (k-i-1)))=(d k*pw (k-i-1)*18446744073709551616)*pw i by
    rw [aar (pw i),←aaA,aar 18446744073709551616,←aaA],acP _ _ (yK _),Nat.add_mul_mod_self_right]
theorem zu(n k i:Nat)(h:i<k):dg (n%pw k) i=dg n i:=by
 rw [←iB n k,zgM k (fun i _=>eQ n i) i h]
theorem my(n i:Nat):pv n i = .int .u64 ((dg n i:Nat):Int):=rfl
theorem ld{d:Nat→Nat}(k:Nat)(h:∀ i,i<k→d i<18446744073709551616):au k (num d k)=(List.range k).map fun i=>Value.int .u64 ((d i:Nat):Int):=by
 unfold au
 apply abJ
 intro i hi
 rw [my,zgM k h i (by simpa using hi)]
theorem jA(k n:Nat):au k (n%pw k)=au k n:=by
 unfold au
 apply abJ
 intro i hi
 rw [my,my,zu n k i (by simpa using hi)]
theorem sm{k m n:Nat}(h:au k m=au k n):m%pw k=n%pw k:=by
 rw [←iB m k,←iB n k]
 apply mU
 intro i hi
 have h1:=congrArg (fun l=>l[i]?) h
 simp only [au,List.getElem?_map,List.getElem?_range hi,Option.map_some,Option.some.injEq,my,Value.int.injEq,true_and] at h1
 omega
def bw(x y:Nat→Nat):Nat→Nat
 | 0=>0
 | i+1=>if x i<y i+bw x y i then 1 else 0
def bd(x y:Nat→Nat)(i:Nat):Nat:=(x i+18446744073709551616-y i-bw x y i)%18446744073709551616
theorem OV(x y:Nat→Nat):∀ i,bw x y i≤1:=by
 intro i
 cases i with
 | zero=>exact Nat.zero_le _
 | succ i=>simp only [bw];split<;>omega
theorem Hy(x y:Nat→Nat)(i:Nat):bd x y i<18446744073709551616:=aaH _ (by decide)
theorem Rc{x y:Nat→Nat}:∀ k,(∀ i,i<k→x i<18446744073709551616)→(∀ i,i<k→y i<18446744073709551616)→num (bd x y) k+num y k=num x k+bw x y k*pw k:=by
 intro k
 induction k with
 | zero=>intro _ _;simp [num,bw]
 | succ k ih=>
  intro hx hy
  have h1:=ih (fun i hi=>hx i (by omega)) (fun i hi=>hy i (by omega))
  have hxk:=hx k (by omega)
  have hyk:=hy k (by omega)
  have hb:=OV x y k
  have h2:bd x y k+y k+bw x y k=x k+bw x y (k+1)*18446744073709551616:=by
   simp only [bd,bw]
   split<;>omega
  simp only [num]
  rw [dA,aar (pw k) 18446744073709551616,←aaA]
  have h3:(bd x y k+y k+bw x y k)*pw k=(x k+bw x y (k+1)*18446744073709551616)*pw k:=by rw [h2]
  rw [aaD,aaD,aaD] at h3
  omega
def cw(c:Nat)(x y:Nat→Nat):Nat→Nat
 | 0=>c
 | i+1=>(x i+y i+cw c x y i)/18446744073709551616
def cd(c:Nat)(x y:Nat→Nat)(i:Nat):Nat:=(x i+y i+cw c x y i)%18446744073709551616
theorem zhE{c:Nat}(hc:c≤1){x y:Nat→Nat}:∀ k,(∀ i,i<k→x i<18446744073709551616)→(∀ i,i<k→y i<18446744073709551616)→cw c x y k≤1:=by
 intro k
 induction k with
 | zero=>intro _ _;exact hc
 | succ k ih=>
  intro hx hy
  have h1:=ih (fun i hi=>hx i (by omega)) (fun i hi=>hy i (by omega))
  have hxk:=hx k (by omega)
  have hyk:=hy k (by omega)
  simp only [cw];omega
theorem zhN(c:Nat)(x y:Nat→Nat)(i:Nat):cd c x y i<18446744073709551616:=aaH _ (by decide)
theorem zdA{c:Nat}{x y:Nat→Nat}:∀ k,num (cd c x y) k+cw c x y k*pw k=num x k+num y k+c:=by
 intro k
 induction k with
 | zero=>simp [num,cw,gL]
 | succ k ih=>
  have h2:cd c x y k+cw c x y (k+1)*18446744073709551616=x k+y k+cw c x y k:=by
   simp only [cd,cw];omega
  simp only [num]
  rw [dA,aar (pw k) 18446744073709551616,←aaA]
  have h3:(cd c x y k+cw c x y (k+1)*18446744073709551616)*pw k=(x k+y k+cw c x y k)*pw k:=by rw [h2]
  rw [aaD,aaD,aaD] at h3
  omega
end Go.Wd
