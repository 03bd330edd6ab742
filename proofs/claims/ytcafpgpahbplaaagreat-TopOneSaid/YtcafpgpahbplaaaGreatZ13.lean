/-
 The proof, part 13 of 25.
-/
import Derived.Test.YtcafpgpahbplaaaGreatZ12
open BitVec renaming ofInt->aa0,toNat_ofInt->abu
open Classical renaming byContradiction->aa3
open Go.Code renaming wp->aaT
open Int renaming natCast_add->abG,natCast_mul->abv,toNat->ace,toNat_natCast->aam
open List renaming forall_mem_cons->aab,mem_cons->aae,mem_singleton->aao,not_mem_nil->aad
open Nat renaming add_mul->aaD,div_add_mod->aaZ,div_lt_iff_lt_mul->abN,div_mul_le_self->ab7,le_div_iff_mul_le->abM,le_of_not_lt->adN,lt_of_le_of_lt->ab0,lt_trans->aaW,mod_eq_of_lt->aah,mod_lt->aaH,mul_add->abB,mul_assoc->aaA,mul_comm->aar,mul_le_mul->acf,mul_le_mul_left->ac1,mul_le_mul_right->aaI,mul_lt_mul_of_pos_right->ab9,one_mul->abh
noncomputable section
set_option linter.unusedVariables false
set_option linter.unusedSimpArgs false
namespace Go.Proofs.YtcafpgpahbplaaaGreat.Dz
open Go Go.Eng Go.RowKit Go.Wd Go.Alg Go.Pr
section
variable {v1 v0 U d:Nat}
def kQ(v1 v0 U d:Nat):Nat:=(U*4294967296+d)/(v1*4294967296+v0)
structure KInv(v1 v0 U d q r:Nat):Prop where
 sum:q*v1+r=U
 ge:kQ v1 v0 U d≤q
 le:q≤4294967297
 rlt:r<4294967296
theorem zeo:kQ v1 v0 U d*(v1*4294967296+v0)≤U*4294967296+d:=ab7 _ _
theorem U1(h1:2147483648≤v1)(h1':v1<4294967296)(h0:v0<4294967296)(hd:d<4294967296)(hU:U<v1*4294967296+v0):KInv v1 v0 U d (U/v1) (U%v1):=by
 have hv:0<v1:=by omega
 refine ⟨by rw [aar];exact aaZ U v1,?_,?_,by have:=aaH U hv;omega⟩
 ·rw [abM hv]
  have h:=zeo (v1:=v1) (v0:=v0) (U:=U) (d:=d)
  generalize kQ v1 v0 U d=q at *
  rw [abB,←aaA] at h
  have:q*v1*4294967296<(U+1)*4294967296:=by
   rw [aaD];omega
  have:=Nat.lt_of_mul_lt_mul_right this
  omega
 ·have:U/v1<4294967298:=by
   rw [abN hv]
   have:v1*4294967296+v0≤4294967298*v1:=by omega
   omega
  omega
theorem KInv.big{q r:Nat}(h:KInv v1 v0 U d q r)(hU:U<v1*4294967296+v0)(hd:d<4294967296)(hc:4294967296≤q∨4294967296*r+d<q*v0):kQ v1 v0 U d+1≤q:=by
 have hs:=h.sum
 rcases hc with hc|hc
 ·have:kQ v1 v0 U d<4294967296:=by
   unfold kQ
   rw [abN (by omega)]
   have:(U+1)*4294967296≤(v1*4294967296+v0)*4294967296:=aaI _ hU
   rw [aaD] at this
   rw [aar 4294967296];omega
  omega
 ·have hm:=zeo (v1:=v1) (v0:=v0) (U:=U) (d:=d)
  rcases Nat.lt_or_ge (kQ v1 v0 U d) q with h2|h2
  ·exact h2
  ·have h3:q*(v1*4294967296+v0)≤kQ v1 v0 U d*(v1*4294967296+v0):=aaI _ h2
   rw [abB q,←aaA] at h3
   generalize q*v1=z at *
   omega
theorem KInv.fit{q r:Nat}(h:q*v1+r=U)(hg:kQ v1 v0 U d≤q)(hv:0<v1*4294967296+v0)(hc:q*v0≤4294967296*r+d):q=kQ v1 v0 U d:=by
 refine Nat.le_antisymm ?_ hg
 unfold kQ
 rw [abM hv,abB,←aaA]
 generalize q*v1=z at *
 omega
theorem KInv.next{q r:Nat}(h:KInv v1 v0 U d q r)(hU:U<v1*4294967296+v0)(hd:d<4294967296)(hc:4294967296≤q∨4294967296*r+d<q*v0)(hr:r+v1<4294967296):KInv v1 v0 U d (q-1) (r+v1):=by
 have hb:=h.big hU hd hc
 refine ⟨?_,by omega,by have:=h.le;omega,hr⟩
 have:(q-1)*v1+v1=q*v1:=by
  rw [←Nat.succ_mul];congr 1;omega
 have:=h.sum;omega
theorem KInv.break{q r:Nat}(h:KInv v1 v0 U d q r)(hU:U<v1*4294967296+v0)(hd:d<4294967296)(h0:v0<4294967296)(hc:4294967296≤q∨4294967296*r+d<q*v0)(hr:4294967296≤r+v1):q-1=kQ v1 v0 U d:=by
 have hb:=h.big hU hd hc
 have hl:=h.le
 have hs:(q-1)*v1+(r+v1)=U:=by
  have:(q-1)*v1+v1=q*v1:=by
   rw [←Nat.succ_mul];congr 1;omega
  have:=h.sum;omega
 refine KInv.fit hs (by omega) (by omega) ?_
 have:(q-1)*v0≤4294967296*4294967296:=acf (by omega) (by omega)
 have:4294967296*4294967296≤4294967296*(r+v1):=ac1 _ hr
 omega
theorem KInv.done{q r:Nat}(h:KInv v1 v0 U d q r)(hv:0<v1*4294967296+v0)(hc:q*v0≤4294967296*r+d):q=kQ v1 v0 U d:=KInv.fit h.sum h.ge hv hc
end
def mQ:Bool→Nat
 | false=>0x73eda753299d7d49
 | true=>0x1a0111ea397fe69b
def sh:Bool→Int
 | false=>1
 | true=>3
def sh2:Bool→Int
 | false=>63
 | true=>61
def m2:Bool→Nat
 | false=>2
 | true=>8
def m63:Bool→Nat
 | false=>9223372036854775808
 | true=>2305843009213693952
def qF:Bool→Nat
 | false=>0xe7db4ea6533afa92
 | true=>0xd0088f51cbff34d8
def ou:Bool→Nat
 | false=>0xe7db4ea6
 | true=>0xd0088f51
def rm:Bool→Nat
 | false=>0x533afa92
 | true=>0xcbff34d8
section
variable (z:Bool)
theorem zwf:aK ni 164 [uw (mQ z)] []=some (vI .i64 (sh z),[]):=by cases z<;>kernel_rfl
theorem PE(ρ:Rho)(n:Nat):(uw n).val ρ=some (uv n):=AV.val_v (ρ:=ρ) (x:=uv n) rfl
theorem zjD(n:Nat):ay rho0 [uw n]=some [uv n]:=by simp only [ay,PE]
theorem zme:bj Tryz.prog 164 [uv (mQ z)] (.int .i64 (sh z)):=bi iM (zwf z) (fun p hp=>by cases hp) (zjD (mQ z)) fun ρ u hu=>by
 rw [jg] at hu
 cases hu;rfl
def UN:Row where
 f:=164
 ans:=fun
  | [⟨false,[.v (.int .u64 x)]⟩]=>match x with
   | .ofNat n=>match Nat.beq n (mQ z) with
    | true=>some (vI .i64 (sh z),[])
    | false=>none
   | _=>none
  | _=>none
theorem zry:bE Tryz.prog (UN z):=by
 intro args s ob ha ax ρ vs hv
 unfold UN at ha
 simp only at ha
 split at ha
 ·rename_i x
  split at ha
  ·rename_i n
   split at ha
   ·rename_i hb
    cases ha
    have e:=Nat.eq_of_beq_eq_true hb
    subst e
    have:ay ρ [uw (mQ z)]=some [uv (mQ z)]:=by simp only [ay,PE]
    have hv:ay ρ [uw (mQ z)]=some vs:=hv
    rw [this] at hv
    cases hv
    exact ⟨_,jg _ _ _,(zme z)⟩
   ·cases ha
  ·cases ha
 ·cases ha
def zbo:Nat→Code→List Code
 | 0,_=>[]
 | n+1,.seq a b=>a::zbo n b
 | _,_=>[]
def Of:Nat→Code→Code
 | 0,c=>c
 | n+1,.seq _ b=>Of n b
 | _,c=>c
def dD:Fn1:=match fJ 153 with
 | some d=>d
 | none=>⟨.skip,[],0⟩
theorem zsw:FnOk Tryz.prog 153 dD:=aB _ _ (by kernel_rfl)
def ED:Eng:={ tab:=bh,call:=jw bh (aA [(UN z)]) fJ 1000 6,N:=135 }
set_option maxRecDepth 100000 in
theorem AT:ag Tryz.prog (ED z).call:=dd an ab (ap (by
 simp only [aab,aad,false_imp_iff,implies_true,and_true]
 exact (zry z))) aB 1000 6
def cD1:List Code:=zbo 14 dD.body
def zGj:Code:=gw (dh (bJ (Of 14 dD.body)))
def cD2:List Code:=zbo 3 (Of 15 dD.body)
def zGi:Code:=gw (dh (bJ (Of 18 dD.body)))
def cDT:Code:=Of 19 dD.body
theorem zhy:dD.body=gG cD1 (.seq (.block 0 (.loop zGj)) (gG cD2 (.seq (.block 2 (.loop zGi)) cDT))):=by kernel_rfl
theorem Ek:dD.ntmps=135:=by kernel_rfl
theorem Sw:dD.results=[.tmp 6,.tmp 7]:=by kernel_rfl
def Ae(hi lo:Nat):Int:=Eng.bits .or .u64 (IntKind.u64.wrap ((hi:Int)*2^min (ace (sh z)) IntKind.u64.bits)) ((lo:Int).fdiv (2^min (ace (sh2 z)) IntKind.u64.bits))
def FT(lo:Nat):Int:=IntKind.u64.wrap ((lo:Int)*2^min (ace (sh z)) IntKind.u64.bits)
def zw3(x:Int):Int:=x.fdiv (2^min (ace 32) IntKind.u64.bits)
def zwh(x:Int):Int:=Eng.bits .and .u64 x 4294967295
def zbM(U d1 d0 q r:Int):St:=[(4,su (qF z)),(16,su (sh z)),(18,su (ou z)),(20,su (rm z)),(22,su U),(26,su d1),(28,su d0),(30,su q),(32,su r)]
def qI(U:Int):Int:=IntKind.u64.wrap (U.tdiv ((ou z):Int))
def rI(U:Int):Int:=IntKind.u64.wrap (U-IntKind.u64.wrap (qI z U*((ou z):Int)))
def inD(hi lo:Nat):St:=aW 0 [uw hi,uw lo,uw (mQ z)] (135 - [uw hi,uw lo,uw (mQ z)].length)++[]
theorem zzH(hi lo:Nat):aK (aA [(UN z)]) 153 [uw hi,uw lo,uw (mQ z)] [(24,false),(27,true)]=some (.tup [⟨false,[.v (.int .u64 (IntKind.u64.wrap ((lo:Int).tdiv ((mQ z):Int))))]⟩,⟨false,[.v (.int .u64 ((lo:Int).tmod ((mQ z):Int)))]⟩],
 [((mQ z):Int)≤(hi:Int)↔false=true,(hi:Int)=0↔true=true]):=by cases z<;>kernel_rfl
theorem zqr(hi lo:Nat):probes (ED z) 100 cD1 (inD z hi lo) 16 [(24,false),(27,false)] ((zbM z (Ae z hi lo) (zw3 (FT z lo)) (zwh (FT z lo)) (qI z (Ae z hi lo)) (rI z (Ae z hi lo))).map (·.1)) =
 some (0,[((mQ z):Int)≤(hi:Int)↔false=true,(hi:Int)=0↔false=true],(zbM z (Ae z hi lo) (zw3 (FT z lo)) (zwh (FT z lo)) (qI z (Ae z hi lo)) (rI z (Ae z hi lo))).map fun p=>some p.2):=by cases z<;>kernel_rfl
def cA(q:Int)(b:Bool):Prop:=q≥4294967296↔b=true
def cB(q r d:Int)(b:Bool):Prop:=IntKind.u64.wrap (q*((rm z):Int))>IntKind.u64.wrap (IntKind.u64.wrap (4294967296*r)+d)↔b=true
def r2I(r:Int):Int:=IntKind.u64.wrap (r+((ou z):Int))
def q2I(q:Int):Int:=IntKind.u64.wrap (q-1)
def zbL(q1 V d0 q r:Int):St:=[(4,su (qF z)),(16,su (sh z)),(18,su (ou z)),(20,su (rm z)),(28,su d0),(30,su q1),(34,su V),(36,su q),(32,su r)]
def vi(U d1 q:Int):Int:=IntKind.u64.wrap (IntKind.u64.wrap (IntKind.u64.wrap (U*4294967296)+d1)-IntKind.u64.wrap (q*((qF z):Int)))
theorem zIX(U d1 d0 q r:Int):probes (ED z) 100 cD2 (zbM z U d1 d0 q r) 40 [] ((zbL z q (vi z U d1 q) d0 (qI z (vi z U d1 q)) (rI z (vi z U d1 q))).map (·.1))=some (0,[],(zbL z q (vi z U d1 q) d0 (qI z (vi z U d1 q)) (rI z (vi z U d1 q))).map fun p=>some p.2):=by cases z<;>kernel_rfl
def zlb(q1 q:Int):Int:=IntKind.u64.wrap (IntKind.u64.wrap (q1*4294967296)+q)
def zk3(V d0 q:Int):Int:=(IntKind.u64.wrap (IntKind.u64.wrap (IntKind.u64.wrap (V*4294967296)+d0)-IntKind.u64.wrap (q*((qF z):Int)))).fdiv (2^min (ace (sh z)) IntKind.u64.bits)
theorem zzI(q1 V d0 q r:Int):probe (ED z) 100 cDT (zbL z q1 V d0 q r) 40 [] (([(12,su (zlb q1 q)),(14,su (zk3 z V d0 q))]:St).map (·.1))=some (1,[],([(12,su (zlb q1 q)),(14,su (zk3 z V d0 q))]:St).map fun p=>some p.2):=by cases z<;>kernel_rfl
theorem PW{p:Prop}(h:p):p↔true=true:=⟨fun _=>rfl,fun _=>h⟩
theorem J6{p:Prop}(h:¬p):p↔false=true:=⟨fun e=>absurd e h,fun e=>by cases e⟩
theorem PF:(ou z)*4294967296+(rm z)=(qF z):=by cases z<;>decide +kernel
theorem zqL:2147483648≤(ou z):=by cases z<;>decide +kernel
theorem Tv:(ou z)<4294967296:=by cases z<;>decide +kernel
theorem Tw:(rm z)<4294967296:=by cases z<;>decide +kernel
theorem zAT:(qF z)=(mQ z)*m2 z:=by cases z<;>decide +kernel
theorem ztb:0<mQ z:=by cases z<;>decide +kernel
theorem Jh:0<m2 z:=by cases z<;>decide +kernel
theorem ztc:(mQ z)*m2 z<18446744073709551616:=by cases z<;>decide +kernel
theorem zb3:(2:Int)^min (ace (sh z)) IntKind.u64.bits=((m2 z:Nat):Int):=by cases z<;>decide +kernel
theorem zAS:(qF z)<18446744073709551616:=by cases z<;>decide +kernel
theorem znc(x:Nat):zw3 (x:Int)=((x/4294967296:Nat):Int):=LI x
theorem zmg(x:Nat):zwh (x:Int)=((x%4294967296:Nat):Int):=ziu x
theorem zjK(lo:Nat):FT z lo=((lo*m2 z%18446744073709551616:Nat):Int):=by
 unfold FT
 rw [zb3,←abv,ko]
theorem zc9(a b k:Nat)(ha:a*2^k<18446744073709551616)(hb:b<2^k)(hs:a*2^k+b<18446744073709551616):Eng.bits .or .u64 ((a*2^k:Nat):Int) (b:Int)=((a*2^k+b:Nat):Int):=by
 have e:(aa0 IntKind.u64.bits ((a*2^k:Nat):Int) ||| aa0 IntKind.u64.bits (b:Int)).toNat=a*2^k+b:=by
  show (aa0 64 ((a*2^k:Nat):Int) ||| aa0 64 (b:Int)).toNat=a*2^k+b
  rw [BitVec.toNat_or,abu,abu]
  have h3:=Nat.shiftLeft_add_eq_or_of_lt hb a
  rw [Nat.shiftLeft_eq] at h3
  generalize a*2^k=y at *
  have h1:((y:Int)%((2^64:Nat):Int)).toNat=y:=by omega
  have h2:((b:Int)%((2^64:Nat):Int)).toNat=b:=by omega
  rw [h1,h2]
  exact h3.symm
 unfold Eng.bits
 simp only [e]
 exact bH hs
theorem zjJ(hi lo:Nat)(hh:hi*m2 z<18446744073709551616)(hl:lo<18446744073709551616):Ae z hi lo=((hi*m2 z+lo/m63 z:Nat):Int):=by
 unfold Ae
 have e2:(2:Int)^min (ace (sh2 z)) IntKind.u64.bits=((m63 z:Nat):Int):=by cases z<;>decide +kernel
 rw [zb3,e2,←abv,bH hh,←Int.ofNat_fdiv]
 cases z
 ·exact zc9 hi _ 1 hh (show lo/9223372036854775808<2 by omega) (show hi*2+lo/9223372036854775808<_ by have:hi*2<18446744073709551616:=hh;omega)
 ·exact zc9 hi _ 3 hh (show lo/2305843009213693952<8 by omega) (show hi*8+lo/2305843009213693952<_ by have:hi*8<18446744073709551616:=hh;omega)
theorem zN9{hi lo:Nat}(hh:hi<mQ z)(hl:lo<18446744073709551616):hi*m2 z+lo/m63 z<qF z:=by
 cases z<;>simp only [m2,m63,mQ,qF] at hh ⊢ <;> omega
theorem zOa(hi lo:Nat):((hi*m2 z+lo/m63 z)*4294967296+lo*m2 z%18446744073709551616/4294967296)*4294967296+lo*m2 z%18446744073709551616%4294967296=(hi*18446744073709551616+lo)*m2 z:=by
 cases z<;>simp only [m2,m63]<;>omega
variable {z}
theorem zcQ{U:Nat}(h:U<18446744073709551616):qI z (U:Int)=((U/(ou z):Nat):Int):=by
 unfold qI
 rw [←Int.ofNat_tdiv]
 exact bH (ab0 (Nat.div_le_self _ _) h)
theorem zrh{U:Nat}(h:U<18446744073709551616):rI z (U:Int)=((U%(ou z):Nat):Int):=by
 unfold rI
 rw [zcQ h,←abv]
 have h1:=aaZ U (ou z)
 rw [aar] at h1
 rw [bH (by omega)]
 have:(U:Int)-((U/(ou z)*(ou z):Nat):Int)=((U%(ou z):Nat):Int):=by omega
 rw [this]
 exact bH (by omega)
theorem zuT{r:Nat}(h:r<4294967296):r2I z (r:Int)=((r+(ou z):Nat):Int):=by
 unfold r2I
 have:=Tv z
 rw [←abG]
 exact bH (by omega)
theorem zcR{q:Nat}(h:1≤q)(h2:q≤4294967297):q2I (q:Int)=((q-1:Nat):Int):=by
 unfold q2I
 have:(q:Int)-1=((q-1:Nat):Int):=by omega
 rw [this]
 exact bH (by omega)
theorem qn{q:Nat}{b:Bool}:cA (q:Int) b↔(4294967296≤q↔b=true):=by
 unfold cA
 have:(q:Int)≥4294967296↔4294967296≤q:=by omega
 rw [this]
theorem SL{q r d:Nat}(hq:q<4294967296)(hr:r<4294967296)(hd:d<4294967296){b:Bool}:cB z (q:Int) (r:Int) (d:Int) b↔(4294967296*r+d<q*(rm z)↔b=true):=by
 unfold cB
 have h1:q*(rm z)<18446744073709551616:=by
  have:q*(rm z)≤4294967295*4294967295:=acf (by omega) (by have:=(Tw z);omega)
  omega
 have e1:(4294967296:Int)*(r:Int)=((4294967296*r:Nat):Int):=by omega
 rw [←abv,bH h1,e1,bH (by omega),←abG,bH (by omega)]
 have:((q*(rm z):Nat):Int)>((4294967296*r+d:Nat):Int)↔4294967296*r+d<q*(rm z):=by omega
 rw [this]
variable (z)
theorem U0(U d1 d0 q r:Int):aw (zbM z U d1 d0 q r) []=true:=by kernel_rfl
theorem UZ(U d1 d0 q r:Int):aw (zbL z U d1 d0 q r) []=true:=by kernel_rfl
theorem lY(st:St):∀ id∈([]:List Nat),∃ l,st.blk id=some l:=fun id h=>by cases h
def RunD(c:Code)(n:Nat)(ob:Int→Int→List Prop)(st:Int→Int→St)(f g:Int→Int):Prop:=
 ∀ q r,∃ h,probe (ED z) 100 c (st q r) 40 h ((st (f q) (g r)).map (·.1))=some (n,ob q r,(st (f q) (g r)).map fun p=>some p.2)
structure Runs(c:Code)(n:Nat)(d:Int)(st:Int→Int→St):Prop where
 k0:RunD z c (n+2) (fun q r=>[cA q false,cB z q r d false]) st id id
 k1:RunD z c (n+2) (fun q r=>[cA q true,cA (r2I z r) true]) st q2I (r2I z)
 k2:RunD z c 0 (fun q r=>[cA q true,cA (r2I z r) false]) st q2I (r2I z)
 k3:RunD z c (n+2) (fun q r=>[cA q false,cB z q r d true,cA (r2I z r) true]) st q2I (r2I z)
 k4:RunD z c 0 (fun q r=>[cA q false,cB z q r d true,cA (r2I z r) false]) st q2I (r2I z)
theorem zqt(U d1 d0:Int):Runs z zGj 0 d1 (zbM z U d1 d0):=
 ⟨fun _ _=>⟨[(68,false),(77,false)],by cases z<;>kernel_rfl⟩,fun _ _=>⟨[(68,true),(85,true)],by cases z<;>kernel_rfl⟩,fun _ _=>⟨[(68,true),(85,false)],by cases z<;>kernel_rfl⟩,fun _ _=>⟨[(68,false),(77,true),(85,true)],by cases z<;>kernel_rfl⟩,fun _ _=>⟨[(68,false),(77,true),(85,false)],by cases z<;>kernel_rfl⟩⟩
theorem zqs(q1 V d0:Int):Runs z zGi 2 d0 (zbL z q1 V d0):=
 ⟨fun _ _=>⟨[(103,false),(112,false)],by cases z<;>kernel_rfl⟩,fun _ _=>⟨[(103,true),(120,true)],by cases z<;>kernel_rfl⟩,fun _ _=>⟨[(103,true),(120,false)],by cases z<;>kernel_rfl⟩,fun _ _=>⟨[(103,false),(112,true),(120,true)],by cases z<;>kernel_rfl⟩,fun _ _=>⟨[(103,false),(112,true),(120,false)],by cases z<;>kernel_rfl⟩⟩
theorem Pk(q r:Int):aw ([(12,su q),(14,su r)]:St) []=true:=by kernel_rfl
variable {z}
theorem ziU{w0:World}{Q:Exit→Act→World→Prop}{U d q0 r0 n:Nat}{c:Code}{st:Int→Int→St}(hk:∀ q r,aw (st q r) []=true)(k:Runs z c n d st)
  (hU:U<qF z) (hd:d<4294967296)
  (hQ:∀ (r:Int) a w,At 135 rho0 w0 (st ((kQ (ou z) (rm z) U d:Nat):Int) r) a w→Q (.exit n) a w) {a:Act} {w:World}
  (hI:KInv (ou z) (rm z) U d q0 r0) (hA:At 135 rho0 w0 (st (q0:Int) (r0:Int)) a w):(Code.loop c).wp Tryz.prog Q a w:=by
 have hU':U<(ou z)*4294967296+(rm z):=by rw [PF];exact hU
 refine dG (w0:=w0) (dL:=rho0) (N:=135) (ι:=Nat×Nat) (fun p=>KInv (ou z) (rm z) U d p.1 p.2) (fun p=>st (p.1:Int) (p.2:Int)) (fun p=>p.1) ?_ (q0,r0) hI a w hA
 rintro ⟨q,r⟩ hI a w hA
 have hI:KInv (ou z) (rm z) U d q r:=hI
 have hr:=hI.rlt
 have hv0:=Tw z
 have qL:=Tv z
 have er:=zuT (z:=z) hr
 have ze:4294967296≤q∨4294967296*r+d<q*rm z→4294967296≤r+ou z→∀ a' w',At 135 rho0 w0 (st (q2I (q:Int)) (r2I z r)) a' w'→Q (.exit n) a' w':=fun h JC a' w' bY=>by
  have hb:=hI.big hU' hd h
  rw [zcR (q:=q) (by omega) hI.le,hI.break hU' hd hv0 h JC] at bY
  exact hQ _ a' w' bY
 have next:(h:4294967296≤q∨4294967296*r+d<q*rm z)→r+ou z<4294967296→∀ a' w',At 135 rho0 w0 (st (q2I (q:Int)) (r2I z r)) a' w'→∃ p:Nat×Nat,KInv (ou z) (rm z) U d p.1 p.2∧p.1<q∧At 135 rho0 w0 (st (p.1:Int) (p.2:Int)) a' w':=fun h JC a' w' bY=>by
  have hb:=hI.big hU' hd h
  rw [zcR (q:=q) (by omega) hI.le,er] at bY
  exact ⟨(q-1,r+ou z),hI.next hU' hd h JC,by show q-1<q;omega,bY⟩
 by_cases hAq:4294967296≤q
 ·by_cases JC:4294967296≤r+(ou z)
  ·obtain ⟨_,k⟩:=k.k1 q r
   exact At.probe (E:=ED z) an ab (AT z) k (aa (qn.2 (PW hAq)) (aa (by rw [er];exact qn.2 (PW JC)) ad)) hA [] (lY _) (hk _ _) (dP _) (ze (.inl hAq) JC)
  ·obtain ⟨_,k⟩:=k.k2 q r
   exact At.probe (E:=ED z) an ab (AT z) k (aa (qn.2 (PW hAq)) (aa (by rw [er];exact qn.2 (J6 JC)) ad)) hA [] (lY _) (hk _ _) (dP _) (next (.inl hAq) (by omega))
 ·have hq:q<4294967296:=by omega
  by_cases hBq:4294967296*r+d<q*(rm z)
  ·by_cases JC:4294967296≤r+(ou z)
   ·obtain ⟨_,k⟩:=k.k3 q r
    exact At.probe (E:=ED z) an ab (AT z) k (aa (qn.2 (J6 hAq)) (aa ((SL hq hr hd).2 (PW hBq)) (aa (by rw [er];exact qn.2 (PW JC)) ad))) hA [] (lY _) (hk _ _) (dP _) (ze (.inr hBq) JC)
   ·obtain ⟨_,k⟩:=k.k4 q r
    exact At.probe (E:=ED z) an ab (AT z) k (aa (qn.2 (J6 hAq)) (aa ((SL hq hr hd).2 (PW hBq)) (aa (by rw [er];exact qn.2 (J6 JC)) ad))) hA [] (lY _) (hk _ _) (dP _) (next (.inr hBq) (by omega))
  ·obtain ⟨_,k⟩:=k.k0 q r
   refine At.probe (E:=ED z) an ab (AT z) k (aa (qn.2 (J6 hAq)) (aa ((SL hq hr hd).2 (J6 hBq)) ad)) hA [] (lY _) (hk _ _) (dP _) fun a' w' bY=>?_
   have bY:At 135 rho0 w0 (st (q:Int) (r:Int)) a' w':=bY
   rw [hI.done (by rw [PF];cases z<;>decide +kernel) (by omega)] at bY
   exact hQ _ a' w' bY
def jM(hi lo:Nat):Nat:=hi*18446744073709551616+lo
theorem zn1(U e1 e0 B y:Nat)(hy:0<y):((U*B+e1)*B+e0)/y=(U*B+e1)/y*B+((U*B+e1)%y*B+e0)/y:=by
 have h:=aaZ (U*B+e1) y
 generalize (U*B+e1)/y=a at *
 generalize (U*B+e1)%y=b at *
 have e:(U*B+e1)*B+e0=(b*B+e0)+a*B*y:=by
  rw [←h,aaD]
  have e2:a*B*y=y*a*B:=by rw [aar,aaA]
  rw [e2];omega
 rw [e,Nat.add_mul_div_right _ _ hy];omega
theorem zl6(A e0 B y:Nat):(A%y*B+e0)%y=(A*B+e0)%y:=by
 rw [Nat.add_mod,Nat.mod_mul_mod,←Nat.add_mod]
theorem Zb{hi lo:Nat}(hh:hi<(mQ z))(hl:lo<18446744073709551616):
  let U:=hi*m2 z+lo/m63 z
  let w:=lo*m2 z%18446744073709551616
  let V:=(U*4294967296+w/4294967296)%(qF z)
  U<(qF z)∧V<(qF z)∧kQ (ou z) (rm z) U (w/4294967296)*4294967296+kQ (ou z) (rm z) V (w%4294967296)=jM hi lo/(mQ z)∧kQ (ou z) (rm z) U (w/4294967296)<4294967296∧kQ (ou z) (rm z) V (w%4294967296)<4294967296 ∧
   (V*4294967296+w%4294967296)-kQ (ou z) (rm z) V (w%4294967296)*(qF z)=jM hi lo%(mQ z)*m2 z∧kQ (ou z) (rm z) V (w%4294967296)*(qF z)≤V*4294967296+w%4294967296:=by
 intro U w V
 have hy8:0<(qF z):=by cases z<;>decide +kernel
 have h8:=zAT z
 have hU:U<(qF z):=zN9 z hh hl
 have hV:V<(qF z):=aaH _ hy8
 have hx:(U*4294967296+w/4294967296)*4294967296+w%4294967296=jM hi lo*m2 z:=zOa z hi lo
 have hd:=zn1 U (w/4294967296) (w%4294967296) 4294967296 (qF z) hy8
 rw [hx] at hd
 have hq:jM hi lo*m2 z/(qF z)=jM hi lo/(mQ z):=by rw [h8,Nat.mul_div_mul_right _ _ (Jh z)]
 have k1:kQ (ou z) (rm z) U (w/4294967296)=(U*4294967296+w/4294967296)/(qF z):=by unfold kQ;rw [(PF z)]
 have k2:kQ (ou z) (rm z) V (w%4294967296)=(V*4294967296+w%4294967296)/(qF z):=by unfold kQ;rw [(PF z)]
 have hlt:∀ {A e:Nat},A<(qF z)→e<4294967296→(A*4294967296+e)/(qF z)<4294967296:=by
  intro A e hA he
  rw [abN hy8]
  have:(A+1)*4294967296≤(qF z)*4294967296:=aaI _ hA
  rw [aaD] at this
  rw [aar 4294967296];omega
 have hm:(V*4294967296+w%4294967296)%(qF z)=jM hi lo%(mQ z)*m2 z:=by
  have e1:jM hi lo*m2 z%(qF z)=jM hi lo%(mQ z)*m2 z:=by rw [h8,Nat.mul_mod_mul_right]
  rw [←e1,←hx]
  exact zl6 _ _ _ _
 have hdm:=aaZ (V*4294967296+w%4294967296) (qF z)
 rw [aar] at hdm
 refine ⟨hU,hV,?_,?_,?_,?_,?_⟩
 ·rw [k1,k2,←hq,hd]
 ·rw [k1];exact hlt hU (by omega)
 ·rw [k2];exact hlt hV (by omega)
 ·rw [k2,←hm];omega
 ·rw [k2];omega
theorem zaO(hi lo:Nat):ay rho0 [uw hi,uw lo,uw (mQ z)]=some [uv hi,uv lo,uv (mQ z)]:=by simp only [ay,PE]
theorem Tz{U d q:Nat}(hq:q*(qF z)≤U*4294967296+d)(hlt:U*4294967296+d-q*(qF z)<18446744073709551616):vi z (U:Int) (d:Int) (q:Int)=((U*4294967296+d-q*(qF z):Nat):Int):=by
 unfold vi
 have e1:IntKind.u64.wrap ((U:Int)*4294967296)=((U*4294967296%18446744073709551616:Nat):Int):=by
  rw [show (U:Int)*4294967296=((U*4294967296:Nat):Int) by omega,ko]
 rw [e1,←abG,ko,←abv,ko]
 generalize q*(qF z)=z at *
 generalize U*4294967296=x at *
 unfold IntKind.wrap
 simp only [IntKind.signed,IntKind.bits,Bool.false_and,Bool.false_eq_true,if_false]
 omega
theorem So{hi lo:Nat}(hh:hi<(mQ z))(hl:lo<18446744073709551616):bj Tryz.prog 153 [uv hi,uv lo,uv (mQ z)] (.tuple #[uv (jM hi lo/(mQ z)),uv (jM hi lo%(mQ z))]):=by
 have Vh:=ztb z
 have hy8:=(ztc z)
 by_cases h0:hi=0
 ·subst h0
  refine bi (ap (by
   simp only [aab,aad,false_imp_iff,implies_true,and_true]
   exact (zry z))) (zzH z 0 lo) (fun p hp=>?_) (zaO 0 lo) fun ρ u hu=>?_
  ·rcases aae.1 hp with rfl|hp
   ·exact J6 (by omega)
   ·rw [aao] at hp
    subst hp
    exact PW rfl
  ·rw [jh hu]
   have e:jM 0 lo=lo:=by unfold jM;omega
   rw [e,←Int.ofNat_tdiv,←Int.ofNat_tmod]
   have:lo/(mQ z)<18446744073709551616:=ab0 (Nat.div_le_self _ _) hl
   rw [bH this];rfl
 ·intro w
  refine .inr ⟨zsw.enter _ _,?_⟩
  obtain ⟨hU,hV,hq,k1,k2,hr,JC⟩:=Zb hh hl
  have hU1:=zjJ z hi lo (aaW (ab9 hh (Jh z)) hy8) hl
  have hw1:=zjK z lo
  generalize hUU:hi*m2 z+lo/m63 z=U at *
  generalize hww:lo*m2 z%18446744073709551616=t at *
  have ht:t<18446744073709551616:=by rw [←hww];exact aaH _ (by decide)
  have zQT:=(zAS z)
  have hQ1:kQ (ou z) (rm z) U (t/4294967296)=(U*4294967296+t/4294967296)/(qF z):=by unfold kQ;rw [(PF z)]
  have hV1:(U*4294967296+t/4294967296)%(qF z)=U*4294967296+t/4294967296-kQ (ou z) (rm z) U (t/4294967296)*(qF z):=by
   rw [hQ1]
   have:=aaZ (U*4294967296+t/4294967296) (qF z)
   rw [aar] at this;omega
  have hV2:kQ (ou z) (rm z) U (t/4294967296)*(qF z)≤U*4294967296+t/4294967296:=by rw [hQ1];exact ab7 _ _
  generalize hVV:(U*4294967296+t/4294967296)%(qF z)=V at *
  refine (bX (G:=fun xs st=>xs=[uw (jM hi lo/(mQ z)),uw (jM hi lo%(mQ z))]) ab zsw (wV w) (by kernel_rfl) (zaO hi lo) (by rw [Ek];simp) fun a c9=>?_).mono ?_
  ·rw [Ek] at c9
   have c9:At 135 rho0 w (inD z hi lo) a w:=c9
   rw [Ek,Sw,zhy]
   refine At.probes (E:=(ED z)) an ab (AT z) (zqr z hi lo) (fun p hp=>?_) c9 [] (lY _) (U0 z _ _ _ _ _) (dP _) fun a1 w1 h1=>?_
   ·simp only [aae,aad,or_false] at hp
    rcases hp with rfl|rfl
    ·exact J6 (by omega)
    ·exact J6 (by omega)
   rw [hU1,hw1,znc,zmg,zcQ (by omega),zrh (by omega)] at h1
   show aaT _ _ _ _ _
   refine wp_seq (wp_block (ziU (fun _ _=>U0 z _ _ _ _ _) (zqt z _ _ _) hU (by omega) (fun r a2 w2 h2=>?_) (U1 (zqL z) (Tv z) (Tw z) (by omega) (by rw [(PF z)];exact hU)) h1))
   show aaT _ _ _ _ _
   refine At.probes (E:=(ED z)) an ab (AT z) (zIX z _ _ _ _ _) (fun p hp=>by cases hp) h2 [] (lY _) (UZ z _ _ _ _ _) (dP _) fun a3 w3 h3=>?_
   rw [Tz hV2 (by omega),←hV1,zcQ (by omega),zrh (by omega)] at h3
   show aaT _ _ _ _ _
   refine wp_seq (wp_block (ziU (fun _ _=>UZ z _ _ _ _ _) (zqs z _ _ _) hV (by omega) (fun r a4 w4 h4=>?_) (U1 (zqL z) (Tv z) (Tw z) (by omega) (by rw [(PF z)];exact hV)) h3))
   show aaT _ _ _ _ _
   refine At.probe (E:=(ED z)) an ab (AT z) (zzI z _ _ _ _ _) (fun p hp=>by cases hp) h4 [] (lY _) (Pk _ _) (dP _) fun a5 w5 h5=>?_
   have eq:zlb ((kQ (ou z) (rm z) U (t/4294967296):Nat):Int) ((kQ (ou z) (rm z) V (t%4294967296):Nat):Int)=((jM hi lo/(mQ z):Nat):Int):=by
    unfold zlb
    rw [←hq,show ((kQ (ou z) (rm z) U (t/4294967296):Nat):Int)*4294967296=((kQ (ou z) (rm z) U (t/4294967296)*4294967296:Nat):Int) by omega,bH (by omega),←abG,bH (by omega)]
   have er:zk3 z (V:Int) ((t%4294967296:Nat):Int) ((kQ (ou z) (rm z) V (t%4294967296):Nat):Int)=((jM hi lo%(mQ z):Nat):Int):=by
    have hm:jM hi lo%(mQ z)<(mQ z):=aaH _ Vh
    have:=Tz (U:=V) (d:=t%4294967296) JC (by rw [hr];exact aaW (ab9 hm (Jh z)) hy8)
    unfold vi at this
    unfold zk3
    rw [this,hr]
    rw [zb3,←Int.ofNat_fdiv,Nat.mul_div_cancel _ (Jh z)]
   rw [eq,er] at h5
   exact ⟨.inr rfl,_,[uw (jM hi lo/(mQ z)),uw (jM hi lo%(mQ z))],h5,rfl,rfl⟩
  ·rintro e w' ⟨v,rfl,xs,st,ρ',hE,hval,Bg,rfl⟩
   refine ⟨v,rfl,?_,hE.below fun b ⟨id,_,_,hq⟩=>by cases hq⟩
   have:SV.val ρ' (.tup [⟨false,[.v (.int .u64 ((jM hi lo/(mQ z):Nat):Int))]⟩,⟨false,[.v (.int .u64 ((jM hi lo%(mQ z):Nat):Int))]⟩])=some v:=hval
   exact jh this
variable (z)
def Oh:Row where
 f:=153
 ans:=fun
  | [⟨false,[.v (.int .u64 x)]⟩,⟨false,[.v (.int .u64 y)]⟩,⟨false,[.v (.int .u64 t)]⟩]=>
   some (.tup [uw ((x.toNat*18446744073709551616+y.toNat)/(mQ z)),uw ((x.toNat*18446744073709551616+y.toNat)%(mQ z))],[0≤x∧x<((mQ z):Int)∧0≤y∧y<18446744073709551616∧t=((mQ z):Int)])
  | _=>none
theorem zEY:bE Tryz.prog (Oh z):=by
 intro args s ob h ax ρ vs hv
 unfold Oh at h
 simp only at h
 split at h
 ·rename_i x y t
  cases h
  obtain ⟨h1,h2,h3,h4,h5⟩:=ax _ (aao.2 rfl)
  rw [HL hv]
  refine ⟨.tuple #[uv ((x.toNat*18446744073709551616+y.toNat)/(mQ z)),uv ((x.toNat*18446744073709551616+y.toNat)%(mQ z))],?_,?_⟩
  ·have e:∀ n:Nat,AV.val rho0 (uw n)=some (uv n):=fun n=>AV.val_v (ρ:=rho0) (x:=uv n) rfl
   simp only [SV.val,ay,e]
  ·have hp:=So (z:=z) (hi:=x.toNat) (lo:=y.toNat) (by omega) (by omega)
   have ex:x=((x.toNat:Nat):Int):=by omega
   have ey:y=((y.toNat:Nat):Int):=by omega
   rw [h5]
   unfold uv jM at hp
   rw [←ex,←ey] at hp
   exact hp
 ·cases h
end
end Go.Proofs.YtcafpgpahbplaaaGreat.Dz
namespace Go.Proofs.YtcafpgpahbplaaaGreat
open Go Go.Eng Go.RowKit Go.Wd Go.Alg Go.Pr
def ui(x:AV)(m:St):Option (Nat×Nat×List Prop):=match x with
 | ⟨false,[.v _]⟩=>none
 | x=>CM x m
theorem oH{x:AV}{m:St}{len n:Nat}{ob:List Prop}(h:ui x m=some (len,n,ob))(ax:∀ p∈ob,p){ρ:Rho}{w:World}(hM:Mem ρ m w){v:Value}(hv:x.val ρ=some v):
  ∃ b o cap,v = .slice (some ⟨b,o,none⟩) len cap∧len<4294967296∧qQ w b o len n:=by
 unfold ui at h
 split at h
 ·cases h
 ·rename_i hx
  rcases vJ h ax hM hv with ⟨rfl,rfl,rfl⟩|h2
  ·exfalso
   unfold CM at h
   split at h
   ·obtain ⟨q,_,_,_,h2⟩:=dB hv
    unfold pf at h2
    cases h2
   ·have h2:=AV.val_one hv
    simp only [It.cs] at h2
    split at h2
    ·cases h2
    ·cases h2
   ·exact hx _ rfl
   ·cases h
  ·exact h2
def zyh:CallT:=fun f args m _=>match f==55 with
 | true=>match args with
  | [y,z]=>match ui y m,ui z m with
   | some (la,x,ob),some (lb,y,jW)=>some { val:=.one (iA (jG (x%pw la) (y%pw lb))),wr:=[],news:=[],ob:=ob++jW }
   | _,_=>none
  | _=>none
 | false=>none
theorem zos:ag Tryz.prog zyh:=by
 intro f args m nid out af ax ρ w vs hv hM df
 unfold zyh at af
 split at af
 ·rename_i hf
  rw [beq_iff_eq] at hf
  subst hf
  split at af
  ·rename_i y z
   split at af
   ·rename_i la x ob lb y jW hs fD
    cases af
    obtain ⟨v1,us,h1,h2,rfl⟩:=aj hv
    obtain ⟨v2,ov,h3,h4,rfl⟩:=aj h2
    cases h4
    obtain ⟨b1,o1,c1,rfl,KJ,hs1⟩:=oH hs (fun p hp=>ax p (List.mem_append_left _ hp)) hM h1
    obtain ⟨b2,o2,c2,rfl,JD,DN⟩:=oH fD (fun p hp=>ax p (List.mem_append_right _ hp)) hM h3
    refine (zej KJ JD w hs1 DN).mono ?_
    rintro u w' ⟨rfl,hb⟩
    exact ⟨ρ,Ext.of_below hb,pA ρ (jG (x%pw la) (y%pw lb)),hM.of_below hb⟩
   ·cases af
  ·cases af
 ·cases af
def nw:Bool→Nat
 | false=>4
 | true=>6
def iW:Bool→Nat
 | false=>5
 | true=>7
def nh:Bool→Nat
 | false=>3
 | true=>5
def iw:Bool→Int
 | false=>4
 | true=>6
def mN:Bool→Nat
 | false=>aO
 | true=>pN
def zct(z:Bool):List Row:=[Dz.Oh z,wU,xO,vq]
theorem Xx(z:Bool):∀ r∈(zct z),bE Tryz.prog r:=aab.2 ⟨Dz.zEY z,aab.2 ⟨Mu,aab.2 ⟨O_,aab.2 ⟨Lc,fun _ h=>by cases h⟩⟩⟩⟩
def TTk(z:Bool):CallT:=jV zyh (jV atT (aA (zct z)))
theorem ziD(z:Bool):ag Tryz.prog (TTk z):=aT zos (aT zij (ap (Xx z)))
def dTk:Fn1:=match fJ 134 with
 | some d=>d
 | none=>⟨.skip,[],0⟩
theorem zhb:FnOk Tryz.prog 134 dTk:=aB _ _ (by kernel_rfl)
def ETk(z:Bool):Eng:={ tab:=bh,call:=jw bh (TTk z) fJ 1000 6,N:=90 }
theorem Kj(z:Bool):ag Tryz.prog (ETk z).call:=dd an ab (ziD z) aB 1000 6
def zFu:Code:=zBN dTk.body
def zFt:Code:=bJ zFu
def zhS:Code:=gw (dh (aJ zFu))
theorem zhc:dTk.body = .scope (.seq zFt (.block 0 (.loop zhS))):=by kernel_rfl
theorem zC:dTk.ntmps=90:=by kernel_rfl
theorem Ok:dTk.results=[]:=by kernel_rfl
def rr(z:Bool)(A:List It)(q c1 c2:Nat):St:=[(0,sS 16 (iW z) c1),(2,sS 1 (nw z) c2),(4,sI (iw z)),(3,.bl [.w (nw z) q]),(33,.bl A)]
def ru(z:Bool)(L q c1 c2:Nat):St:=rr z [.w (iW z) L] q c1 c2
def iK:Nat→Int
 | 0=>0
 | k+1=>IntKind.i64.wrap (iK k+1)
def wK(L k:Nat):Int:=((L/2^(64*k)%2^64:Nat):Int)
def mK(z:Bool)(q k:Nat):Int:=((dg (q%pw (nw z)) (iK k).toNat:Nat):Int)
def hK(z:Bool)(Q:Int)(q k:Nat):Int:=((Q.toNat*(mK z q k).toNat/18446744073709551616:Nat):Int)
def lK(z:Bool)(Q:Int)(q k:Nat):Int:=((Q.toNat*(mK z q k).toNat%18446744073709551616:Nat):Int)
def cK(z:Bool)(Q:Int)(q:Nat):Nat→Int
 | 0=>0
 | k+1=>IntKind.u64.wrap (hK z Q q k+((((lK z Q q k).toNat+(cK z Q q k).toNat+(0:Int).toNat)/18446744073709551616:Nat):Int))
def sK(z:Bool)(Q:Int)(q k:Nat):Int:=((((lK z Q q k).toNat+(cK z Q q k).toNat+(0:Int).toNat)%18446744073709551616:Nat):Int)
def bK(z:Bool)(L:Nat)(Q:Int)(q:Nat):Nat→Int
 | 0=>0
 | k+1=>((if (wK L k).toNat<(sK z Q q k).toNat+(bK z L Q q k).toNat then 1 else 0:Nat):Int)
def oK(z:Bool)(L:Nat)(Q:Int)(q k:Nat):Nat:=((wK L k).toNat+18446744073709551616-(sK z Q q k).toNat-(bK z L Q q k).toNat)%18446744073709551616
def obK(z:Bool)(L:Nat)(Q:Int)(q k:Nat):List Prop:=[0≤iK k,nw z<4294967296,0≤Q∧Q<18446744073709551616∧0≤mK z q k∧mK z q k<18446744073709551616,0≤lK z Q q k∧0≤cK z Q q k∧(0:Int)≤0∧(0:Int)≤1,
 0≤wK L k∧0≤sK z Q q k∧0≤bK z L Q q k∧bK z L Q q k≤1]
def zvt(z:Bool)(L:Nat)(Q:Int)(q:Nat):Nat→List Prop
 | 0=>[]
 | k+1=>zvt z L Q q k++obK z L Q q k
def zvu(z:Bool)(L:Nat)(Q:Int)(q:Nat):List Prop:=zvt z L Q q (iW z)
def IT(z:Bool)(L:Nat)(Q:Int)(q:Nat):List It:=(List.range (iW z)).map fun k=>It.v (.int .u64 ((oK z L Q q k:Nat):Int))
def WL(z:Bool)(q:Nat):Int:=IntKind.u64.wrap (wK q (nh z)+1)
def zCp(z:Bool)(L q:Nat)(b:Bool):List Prop:=[iW z<4294967296,nw z<4294967296,jG (L%pw (iW z)) (q%pw (nw z))≥0↔true=true,WL z q=0↔false=true,wK L (nw z)<WL z q↔b=true]
def dK(z:Bool)(L:Nat):Int:=(((wK L (nw z)).toNat*18446744073709551616+(wK L (nh z)).toNat)/(Dz.mQ z):Nat)
def QK(z:Bool)(L:Nat):Int:=if (1:Int)>dK z L then 1 else dK z L
theorem zpD(z:Bool)(L q c1 c2:Nat):probe (ETk z) 100 zhS (ru z L q c1 c2) 40 [(17,false)] ((ru z L q c1 c2).map (·.1))=some (2,[iW z<4294967296,nw z<4294967296,jG (L%pw (iW z)) (q%pw (nw z))≥0↔false=true],(ru z L q c1 c2).map fun p=>some p.2):=by cases z<;>kernel_rfl
theorem zzb(z:Bool)(L q c1 c2:Nat):probe (ETk z) 100 zhS (ru z L q c1 c2) 40 [(17,true),(26,false),(37,false)] ((rr z (IT z L 1 q) q c1 c2).map (·.1)) =
 some (0,zCp z L q false++zvu z L 1 q,(rr z (IT z L 1 q) q c1 c2).map fun p=>some p.2):=by cases z<;>kernel_rfl
theorem zzc(z:Bool)(L q c1 c2:Nat):probe (ETk z) 100 zhS (ru z L q c1 c2) 40 [(17,true),(26,false),(37,true)] ((rr z (IT z L (QK z L) q) q c1 c2).map (·.1)) =
 some (0,zCp z L q true++((0≤wK L (nw z)∧wK L (nw z)<((Dz.mQ z):Int)∧0≤wK L (nh z)∧wK L (nh z)<18446744073709551616∧WL z q=((Dz.mQ z):Int))::zvu z L (QK z L) q),(rr z (IT z L (QK z L) q) q c1 c2).map fun p=>some p.2):=by cases z<;>kernel_rfl
def zLX(z:Bool)(L q c1 c2:Nat):St:=aW 0 [eD 16 (iW z) c1,eD 1 (nw z) c2,iA (iw z)] (90 - [eD 16 (iW z) c1,eD 1 (nw z) c2,iA (iw z)].length)++[(3,.bl [.w (nw z) q]),(33,.bl [.w (iW z) L])]
theorem ziC(z:Bool)(L q c1 c2:Nat):probe (ETk z) 100 zFt (zLX z L q c1 c2) 40 [] ((ru z L q c1 c2).map (·.1))=some (0,[],(ru z L q c1 c2).map fun p=>some p.2):=by cases z<;>kernel_rfl
variable {z:Bool}
theorem zvU{Qn q L:Nat}(c s b o:Nat→Nat)(hc0:c 0=0)(hc:∀ k,c (k+1)=(Qn*dg q k+c k)/18446744073709551616)(hs:∀ k,s k=(Qn*dg q k+c k)%18446744073709551616)
  (Z3:b 0=0) (hb:∀ k,b (k+1)=if dg L k<s k+b k then 1 else 0) (ho:∀ k,o k=(dg L k+18446744073709551616-s k-b k)%18446744073709551616) :
  ∀ k,num s k+c k*pw k=Qn*(q%pw k)∧num o k+num s k=L%pw k+b k*pw k∧b k≤1:=by
 intro k
 induction k with
 | zero=>rw [hc0,Z3,gL,Nat.mod_one,Nat.mod_one];exact ⟨rfl,rfl,by omega⟩
 | succ k ih=>
  obtain ⟨h1,h2,h3⟩:=ih
  have hd:=eQ L k
  have jX:s k<18446744073709551616:=by rw [hs];exact aaH _ (by decide)
  have e1:s k+c (k+1)*18446744073709551616=Qn*dg q k+c k:=by rw [hs,hc];omega
  have e2:o k+s k+b k=dg L k+b (k+1)*18446744073709551616:=by
   rw [ho,hb]
   split<;>omega
  have q1:q%pw (k+1)=q%pw k+dg q k*pw k:=by rw [←iB q (k+1),←iB q k];rfl
  have l1:L%pw (k+1)=L%pw k+dg L k*pw k:=by rw [←iB L (k+1),←iB L k];rfl
  refine ⟨?_,?_,by rw [hb];split<;>omega⟩
  ·show num s k+s k*pw k+c (k+1)*pw (k+1)=_
   rw [q1,dA,abB,←h1]
   have:=congrArg (· * pw k) e1
   simp only [aaD] at this
   rw [aar (pw k),←aaA,←aaA]
   omega
  ·show num o k+o k*pw k+(num s k+s k*pw k)=_
   rw [l1,dA]
   have:=congrArg (· * pw k) e2
   simp only [aaD] at this
   rw [aar (pw k) 18446744073709551616,←aaA]
   omega
theorem zlX{Qn q L n:Nat}{c s b o:Nat→Nat}(hc0:c 0=0)(hc:∀ k,c (k+1)=(Qn*dg q k+c k)/18446744073709551616)(hs:∀ k,s k=(Qn*dg q k+c k)%18446744073709551616)
  (Z3:b 0=0) (hb:∀ k,b (k+1)=if dg L k<s k+b k then 1 else 0) (ho:∀ k,o k=(dg L k+18446744073709551616-s k-b k)%18446744073709551616) (hL:L<pw n) (hq:Qn*q≤L) (hq5:q<pw n):num o n=L-Qn*q:=by
 obtain ⟨h1,h2,h3⟩:=zvU c s b o hc0 hc hs Z3 hb ho n
 rw [aah hq5] at h1
 rw [aah hL] at h2
 have hlt:num o n<pw n:=n_ n fun k _=>by rw [ho];exact aaH _ (by decide)
 have hc5:c n=0:=by
  refine aa3 fun h=>?_
  have:1*pw n≤c n*pw n:=aaI _ (by omega)
  omega
 rw [hc5,Nat.zero_mul,Nat.add_zero] at h1
 have hb5:b n=0:=by
  refine aa3 fun h=>?_
  have:b n=1:=by omega
  rw [this,abh] at h2
  omega
 rw [hb5,Nat.zero_mul] at h2
 omega
theorem Mm:nw z<100:=by cases z<;>decide
theorem yP:iW z=nw z+1:=by cases z<;>rfl
theorem zrs:nw z=nh z+1:=by cases z<;>rfl
theorem zu0:pw (nw z)<pw (iW z):=by cases z<;>decide +kernel
theorem zrT:∀ k,k<100→iK k=(k:Int):=by
 intro k
 induction k with
 | zero=>intro _;rfl
 | succ k ih=>intro h;unfold iK;rw [ih (by omega),bq (by omega) (by omega)];omega
theorem oz(L k:Nat):wK L k=((dg L k:Nat):Int):=rfl
section
variable {L Qn q:Nat}
theorem zd2(hq:q<pw (nw z)){k:Nat}(hk:k<100):mK z q k=((dg q k:Nat):Int):=by unfold mK;rw [zrT k hk,aam,aah hq]
def cNq(Qn q:Nat):Nat→Nat
 | 0=>0
 | k+1=>(Qn*dg q k+cNq Qn q k)/18446744073709551616
def sNq(Qn q k:Nat):Nat:=(Qn*dg q k+cNq Qn q k)%18446744073709551616
def bN'(L Qn q:Nat):Nat→Nat
 | 0=>0
 | k+1=>if dg L k<sNq Qn q k+bN' L Qn q k then 1 else 0
def oNq(L Qn q k:Nat):Nat:=(dg L k+18446744073709551616-sNq Qn q k-bN' L Qn q k)%18446744073709551616
theorem zys(hQ:Qn<18446744073709551616):∀ k,cNq Qn q k<18446744073709551616:=by
 intro k
 induction k with
 | zero=>show (0:Nat)<18446744073709551616;decide
 | succ k ih=>
  unfold cNq
  rw [abN (by decide)]
  have h1:Qn*dg q k≤18446744073709551615*18446744073709551615:=acf (by omega) (by have:=eQ q k;omega)
  omega
theorem zen(hq:q<pw (nw z)){k:Nat}(hk:k<100):lK z (Qn:Int) q k=((Qn*dg q k%18446744073709551616:Nat):Int):=by unfold lK;rw [zd2 hq hk,aam,aam]
theorem zEu(hq:q<pw (nw z)){k:Nat}(hk:k<100):hK z (Qn:Int) q k=((Qn*dg q k/18446744073709551616:Nat):Int):=by unfold hK;rw [zd2 hq hk,aam,aam]
theorem zsG(hQ:Qn<18446744073709551616)(hq:q<pw (nw z)):∀ k,k<100→cK z (Qn:Int) q k=((cNq Qn q k:Nat):Int):=by
 intro k
 induction k with
 | zero=>intro _;rfl
 | succ k ih=>
  intro hk
  have hlt:=zys (q:=q) hQ (k+1)
  unfold cK
  rw [ih (by omega),zen hq (by omega),zEu hq (by omega),aam,aam,←abG]
  have e:Qn*dg q k/18446744073709551616+(Qn*dg q k%18446744073709551616+cNq Qn q k+(0:Int).toNat)/18446744073709551616=cNq Qn q (k+1):=by
   show _=(Qn*dg q k+cNq Qn q k)/18446744073709551616
   rw [show (0:Int).toNat=0 from rfl]
   omega
  rw [e]
  exact bH hlt
theorem zcl(hQ:Qn<18446744073709551616)(hq:q<pw (nw z)){k:Nat}(hk:k<100):sK z (Qn:Int) q k=((sNq Qn q k:Nat):Int):=by
 unfold sK sNq
 rw [zsG hQ hq k hk,zen hq hk,aam,aam,show (0:Int).toNat=0 from rfl]
 congr 1
 omega
theorem zsK(hQ:Qn<18446744073709551616)(hq:q<pw (nw z)):∀ k,k<100→bK z L (Qn:Int) q k=((bN' L Qn q k:Nat):Int):=by
 intro k
 induction k with
 | zero=>intro _;rfl
 | succ k ih=>
  intro hk
  unfold bK bN'
  rw [ih (by omega),zcl hQ hq (by omega),oz,aam,aam,aam]
theorem zCq(hQ:Qn<18446744073709551616)(hq:q<pw (nw z)){k:Nat}(hk:k<100):oK z L (Qn:Int) q k=oNq L Qn q k:=by
 unfold oK oNq
 rw [zsK hQ hq k hk,zcl hQ hq hk,oz,aam,aam,aam]
theorem zGC(k:Nat):bN' L Qn q k≤1:=by
 cases k with
 | zero=>exact Nat.zero_le _
 | succ k=>unfold bN';split<;>omega
theorem zvE(hQ:Qn<18446744073709551616)(hq:q<pw (nw z)){k:Nat}(hk:k<100):∀ p∈obK z L (Qn:Int) q k,p:=by
 unfold obK
 rw [zrT k hk,zd2 hq hk,zen hq hk,zsG hQ hq k hk,zcl hQ hq hk,zsK hQ hq k hk,oz]
 have h1:=eQ q k
 have h2:=zGC (L:=L) (Qn:=Qn) (q:=q) k
 have h3:=Mm (z:=z)
 exact aa (by omega) (aa (by omega) (aa ⟨by omega,by omega,by omega,by omega⟩ (aa ⟨by omega,by omega,by omega,by omega⟩ (aa ⟨by omega,by omega,by omega,by omega⟩ ad))))
theorem Uw(hQ:Qn<18446744073709551616)(hq:q<pw (nw z)):∀ p∈zvu z L (Qn:Int) q,p:=by
 have:∀ k,k≤100→∀ p∈zvt z L (Qn:Int) q k,p:=by
  intro k
  induction k with
  | zero=>intro _ p hp;cases hp
  | succ k ih=>intro hk;exact fQ (ih (by omega)) (zvE hQ hq (by omega))
 exact this _ (by have:=Mm (z:=z);have:=yP (z:=z);omega)
theorem XZ(hQ:Qn<18446744073709551616)(hq:q<pw (nw z))(hL:L<pw (iW z))(hle:Qn*q≤L)(ρ:Rho):conc ρ (IT z L (Qn:Int) q)=some (au (iW z) (L-Qn*q)):=by
 have hn:num (oNq L Qn q) (iW z)=L-Qn*q:=zlX (n:=iW z) (c:=cNq Qn q) (s:=sNq Qn q) (b:=bN' L Qn q) rfl (fun _=>rfl) (fun _=>rfl) rfl (fun _=>rfl) (fun _=>rfl) hL hle (aaW hq zu0)
 have hw:=ld (d:=oNq L Qn q) (iW z) (fun k _=>aaH _ (by decide))
 rw [hn] at hw
 rw [hw]
 have e:∀ k,k<iW z→oK z L (Qn:Int) q k=oNq L Qn q k:=fun k hk=>zCq hQ hq (by have:=Mm (z:=z);have:=yP (z:=z);omega)
 have:IT z L (Qn:Int) q=(List.range (iW z)).map fun k=>It.v (.int .u64 ((oNq L Qn q k:Nat):Int)):=by
  unfold IT
  apply List.map_congr_left
  intro k hk
  rw [e k (by simpa using hk)]
 rw [this]
 cases z<;>rfl
end
def kQ5(z:Bool)(L:Nat):Nat:=if dg L (nw z)<(Dz.mQ z) then max 1 ((dg L (nw z)*18446744073709551616+dg L (nh z))/(Dz.mQ z)) else 1
theorem zne{L:Nat}(hL:L<pw (iW z)):(dg L (nw z)*18446744073709551616+dg L (nh z))*pw (nh z)≤L:=by
 have h:=r7 L (nh z)
 have h2:=r7 L (nw z)
 have h3:L/pw (nw z+1)=0:=Nat.div_eq_of_lt (by rw [←yP];exact hL)
 rw [h3] at h2
 rw [←zrs] at h
 have e:L/pw (nh z)=dg L (nw z)*18446744073709551616+dg L (nh z):=by rw [h,h2];omega
 rw [←e]
 exact ab7 L (pw (nh z))
theorem Jg:mN z<pw (nw z):=by cases z<;>decide +kernel
theorem zmc:mN z<Dz.mQ z*pw (nh z):=by cases z<;>decide +kernel
theorem zrw:dg (mN z) (nh z)+1=Dz.mQ z:=by cases z<;>decide +kernel
theorem zta:Dz.mQ z<18446744073709551616:=by cases z<;>decide +kernel
theorem Tm:0<Dz.mQ z:=by cases z<;>decide +kernel
theorem Rl:0<mN z:=by cases z<;>decide +kernel
theorem zwt{L:Nat}(hL:L<pw (iW z))(hr:(mN z)≤L):1≤kQ5 z L∧kQ5 z L<18446744073709551616∧kQ5 z L*(mN z)≤L:=by
 unfold kQ5
 split
 ·rename_i h
  have hd:(dg L (nw z)*18446744073709551616+dg L (nh z))/(Dz.mQ z)<18446744073709551616:=by
   rw [abN Tm]
   have h1:=eQ L (nh z)
   have:(dg L (nw z)+1)*18446744073709551616≤(Dz.mQ z)*18446744073709551616:=aaI _ h
   rw [aaD] at this
   rw [aar 18446744073709551616]
   omega
  refine ⟨Nat.le_max_left _ _,by omega,?_⟩
  have hh:=zne hL
  have h2:=ab7 (dg L (nw z)*18446744073709551616+dg L (nh z)) (Dz.mQ z)
  have h3:(dg L (nw z)*18446744073709551616+dg L (nh z))/(Dz.mQ z)*(mN z)≤L:=by
   refine Nat.le_trans (ac1 _ (Nat.le_of_lt zmc)) (Nat.le_trans ?_ hh)
   rw [←aaA]
   exact aaI _ h2
  rcases Nat.le_total 1 ((dg L (nw z)*18446744073709551616+dg L (nh z))/(Dz.mQ z)) with h4|h4
  ·rw [Nat.max_eq_right h4];exact h3
  ·rw [Nat.max_eq_left h4,abh];exact hr
 ·exact ⟨Nat.le_refl _,by omega,by rw [abh];exact hr⟩
theorem zkQ{A:List It}{L q c1 c2:Nat}(h:∀ ρ,conc ρ A=some (au (iW z) L)):∀ k,match Eng.look (rr z A q c1 c2) k,Eng.look (ru z L q c1 c2) k with | some c,some c'=>SameCt c c' | none,none=>True | _,_=>False:=by
 intro k
 by_cases e1:k=33
 ·subst e1
  show SameCt (.bl A) (.bl [.w (iW z) L])
  intro ρ vs hv
  rw [h ρ] at hv;cases hv
  simp [conc,It.cs]
 ·have f1:(33==k)=false:=by simp;omega
  have:Eng.look (rr z A q c1 c2) k=Eng.look (ru z L q c1 c2) k:=by
   simp only [ru,rr,Eng.look,f1]
   rfl
  rw [this]
  split
  ·rename_i a b e3 e4;rw [e3] at e4;cases e4;exact SameCt.refl _
  ·trivial
  ·rename_i h3 h4;cases h5:Eng.look (ru z L q c1 c2) k with
   | none=>exact h4 h5 h5
   | some c=>exact h3 c c h5 h5
theorem UT(z:Bool)(L q c1 c2:Nat):aw (ru z L q c1 c2) [1,16]=true:=by cases z<;>kernel_rfl
theorem MJ(z:Bool)(L:Nat)(Q:Int)(q c1 c2:Nat):aw (rr z (IT z L Q q) q c1 c2) [1,16]=true:=by cases z<;>kernel_rfl
theorem Kq(A:List It)(q c1 c2:Nat):∀ id∈[1,16],∃ l,(rr z A q c1 c2).blk id=some l:=by
 intro id cl
 simp only [aae,aad,or_false] at cl
 rcases cl with rfl|rfl<;>exact ⟨_,rfl⟩
def qU(b1 b2 o2:Nat):Rho:=fun id=>if id=16 then some (b1,0) else if id=1 then some (b2,o2) else none
def zmb(A B:List It):St:=[(3,.bl B),(33,.bl A)]
theorem BF{b1 b2 o2:Nat}:∀ id q,qU b1 b2 o2 id=some q→id∈[1,16]:=by
 intro id q h
 unfold qU at h
 split at h
 ·rename_i e;rw [e];simp
 ·split at h
  ·rename_i e;rw [e];simp
  ·cases h
theorem OX(A B:List It)(id:Nat):(zmb A B).blk id=if id=1 then some B else if id=16 then some A else none:=by
 unfold St.blk zmb
 simp only [Eng.look,beq_iff_eq]
 by_cases h1:id=1
 ·subst h1;rfl
 ·by_cases h2:id=16
  ·subst h2;rfl
  ·have e1:¬3=2*id+1:=by omega
   have e2:¬33=2*id+1:=by omega
   simp only [e1,e2,h1,h2,if_false]
theorem zdQ{w:World}{b1 b2 o2:Nat}(kN:b1≠b2){va vb:List Value}(h1:mb w b1 va)(h2:Stands w b2 o2 vb){A B:List It}(hA:∀ ρ,conc ρ A=some va)(hB:∀ ρ,conc ρ B=some vb):Mem (qU b1 b2 o2) (zmb A B) w:=by
 refine ⟨⟨fun id l hl=>?_⟩,⟨fun id id' b o o' l l' ho _ _ _ _ e1 e2=>?_⟩,fun id q hq=>?_⟩
 ·rw [OX] at hl
  split at hl
  ·rename_i e;cases hl;subst e
   exact ⟨b2,o2,vb,by simp [qU],hB _,h2.1,fun h=>by simp [own] at h,fun _ _=>h2.2,fun h=>by simp [app] at h⟩
  ·split at hl
   ·rename_i e;cases hl;subst e
    exact ⟨b1,0,va,by simp [qU],hA _,l5 h1,fun _=>⟨rfl,h1⟩,fun h=>by simp [own] at h,fun h=>by simp [app] at h⟩
   ·cases hl
 ·unfold qU at e1 e2
  split at e1
  ·rename_i a;split at e2
   ·rename_i c;rw [a,c]
   ·split at e2
    ·cases e1;cases e2;exact absurd rfl kN
    ·cases e2
  ·split at e1
   ·rename_i a;subst a
    simp [own,app] at ho
   ·cases e1
 ·rw [OX]
  unfold qU at hq
  split at hq
  ·rename_i e;subst e;exact ⟨A,rfl⟩
  ·split at hq
   ·rename_i e';exact ⟨B,if_pos e'⟩
   ·cases hq
theorem zpC{b1 b2 o2:Nat}{w0:World}{L c1 c2:Nat}(hL:L<pw (iW z)){Q:Exit→Act→World→Prop}
  (hX:∀ a w,At 90 (qU b1 b2 o2) w0 (ru z (L%(mN z)) (mN z) c1 c2) a w→Q (.exit 0) a w) {a:Act} {w:World}
  (hA:At 90 (qU b1 b2 o2) w0 (ru z L (mN z) c1 c2) a w):(Code.loop zhS).wp Tryz.prog Q a w:=by
 refine dG (w0:=w0) (dL:=qU b1 b2 o2) (N:=90) (ι:=Nat) (fun j=>j<pw (iW z)∧j%(mN z)=L%(mN z)) (fun j=>ru z j (mN z) c1 c2) (fun j=>j) ?_ L ⟨hL,rfl⟩ a w hA
 rintro j ⟨hj,he⟩ a w hA
 have hq:=Jg (z:=z)
 have w1:=Mm (z:=z)
 have w2:=yP (z:=z)
 have hp:=Rl (z:=z)
 have e1:j%pw (iW z)=j:=aah hj
 have e2:mN z%pw (nw z)=mN z:=aah hq
 by_cases hlt:j<(mN z)
 ·refine At.probe (E:=(ETk z)) an ab (Kj z) (zpD z j (mN z) c1 c2) (aa (by omega) (aa (by omega) (aa (br ?_) ad))) hA [1,16] (Kq _ _ _ _) (UT z _ _ _ _) BF fun a' w' bY=>hX a' w' ?_
  ·rw [e1,e2,s9 hlt];omega
  ·rw [←he,aah hlt];exact bY
 ·obtain ⟨k1,k2,k3⟩:=zwt hj (adN hlt)
  have h0:jG (j%pw (iW z)) ((mN z)%pw (nw z))≥0:=by
   rw [e1,e2]
   rcases Nat.lt_or_ge (mN z) j with h|h
   ·rw [s_ h];omega
   ·rw [Nat.le_antisymm h (adN hlt),xA];omega
  have ht:WL z (mN z)=((Dz.mQ z):Int):=by
   unfold WL
   rw [oz,←zrw]
   have:=zta (z:=z)
   rw [←zrw] at this
   have e:((dg (mN z) (nh z):Nat):Int)+1=((dg (mN z) (nh z)+1:Nat):Int):=by omega
   rw [e]
   exact bH this
  have ht0:¬WL z (mN z)=0:=by rw [ht];have:=Tm (z:=z);omega
  have step:∀ Qn:Nat,1≤Qn→Qn<18446744073709551616→Qn*(mN z)≤j→∀ a' w',At 90 (qU b1 b2 o2) w0 (rr z (IT z j (Qn:Int) (mN z)) (mN z) c1 c2) a' w' →
    ∃ i',(i'<pw (iW z)∧i'%(mN z)=L%(mN z))∧i'<j∧At 90 (qU b1 b2 o2) w0 (ru z i' (mN z) c1 c2) a' w':=by
   intro Qn g1 g2 g3 a' w' bY
   refine ⟨j-Qn*(mN z),⟨by omega,?_⟩,?_,bY.same (zkQ (XZ g2 hq hj g3))⟩
   ·rw [←he]
    have:j=j-Qn*(mN z)+(mN z)*Qn:=by rw [aar (mN z)];omega
    rw [this,Nat.add_mul_mod_self_left,←this]
   ·have:1*(mN z)≤Qn*(mN z):=aaI _ g1
    omega
  by_cases hd:dg j (nw z)<(Dz.mQ z)
  ·have hk:QK z j=((kQ5 z j:Nat):Int):=by
    unfold QK dK kQ5
    rw [if_pos hd,oz,oz,aam,aam]
    generalize (dg j (nw z)*18446744073709551616+dg j (nh z))/(Dz.mQ z)=t
    split<;>omega
   have eN:=zzc z j (mN z) c1 c2
   rw [hk] at eN
   refine At.probe (E:=(ETk z)) an ab (Kj z) eN ?_ hA [1,16] (Kq _ _ _ _) (MJ z _ _ _ _ _) BF fun a' w' bY=>step _ k1 k2 k3 a' w' bY
   refine fQ (aa (by omega) (aa (by omega) (aa (bD h0) (aa (br ht0) (aa (bD ?_) ad))))) (aa ?_ (Uw k2 hq))
   ·rw [ht,oz];omega
   ·rw [oz,oz]
    have:=eQ j (nh z)
    exact ⟨by omega,by omega,by omega,by omega,ht⟩
  ·have hk:kQ5 z j=1:=by unfold kQ5;rw [if_neg hd]
   rw [hk] at k1 k2 k3
   refine At.probe (E:=(ETk z)) an ab (Kj z) (zzb z j (mN z) c1 c2) ?_ hA [1,16] (Kq _ _ _ _) (MJ z _ _ _ _ _) BF fun a' w' bY=>step 1 k1 k2 k3 a' w' bY
   refine fQ (aa (by omega) (aa (by omega) (aa (bD h0) (aa (br ht0) (aa (br ?_) ad))))) (Uw (Qn:=1) k2 hq)
   rw [ht,oz];omega
theorem Yr{b1 b2 o2 c1 c2 L:Nat}(kN:b1≠b2)(hL:L<pw (iW z))(w:World)(h1:mb w b1 (au (iW z) L))(h2:qQ w b2 o2 (nw z) (mN z)):
  Invoked Tryz.prog 134 [.slice (some ⟨b1,0,none⟩) (iW z) c1,.slice (some ⟨b2,o2,none⟩) (nw z) c2,.int .i64 (iw z)].toArray w fun u w'=>u = .tuple #[]∧mb w' b1 (au (iW z) (L%(mN z)))∧Keep (fun b=>b=b1) w w':=by
 refine .inr ⟨zhb.enter _ _,?_⟩
 have hM:Mem (qU b1 b2 o2) (zmb [.w (iW z) L] [.w (nw z) (mN z)]) w:=zdQ kN h1 (oF h2) (fun ρ=>by simp [conc,It.cs]) (fun ρ=>by simp [conc,It.cs])
 have hv:ay (qU b1 b2 o2) [eD 16 (iW z) c1,eD 1 (nw z) c2,iA (iw z)]=some [.slice (some ⟨b1,0,none⟩) (iW z) c1,.slice (some ⟨b2,o2,none⟩) (nw z) c2,.int .i64 (iw z)]:=by
  simp only [ay,lH (ρ:=qU b1 b2 o2) (id:=16) (b:=b1) (o:=0) rfl,lH (ρ:=qU b1 b2 o2) (id:=1) (b:=b2) (o:=o2) rfl,pA]
 refine (bX (G:=fun xs st=>xs=[]∧st=ru z (L%(mN z)) (mN z) c1 c2) ab zhb hM (by cases z<;>kernel_rfl) hv (by rw [zC];simp) fun a c9=>?_).mono ?_
 ·rw [zC] at c9
  rw [zC,Ok,zhc]
  refine wp_scope_straight ?_
  refine wp_seq (At.probe (E:=(ETk z)) an ab (Kj z) (ziC z L (mN z) c1 c2) (fun p hp=>by cases hp) c9 [1,16] (Kq _ _ _ _) (UT z _ _ _ _) BF fun a1 w1 g1=>?_)
  show aaT _ _ _ _ _
  refine wp_block (zpC hL (fun a2 w2 g2=>?_) g1)
  exact ⟨.inl rfl,_,[],g2,rfl,rfl,rfl⟩
 ·rintro e w' ⟨v,rfl,xs,st,ρ',hE,hval,Bg,rfl,rfl⟩
  refine ⟨v,rfl,?_,?_,?_⟩
  ·cases hval;rfl
  ·obtain ⟨b',o',us,f1,f2,_,f4,_⟩:=Bg.blk 16 [.w (iW z) (L%(mN z))] rfl
   rw [hE.le 16 _ (show qU b1 b2 o2 16=some (b1,0) from rfl)] at f1
   cases f1
   have:us=au (iW z) (L%(mN z)):=by simpa [conc,It.cs] using f2.symm
   rw [←this]
   exact (f4 rfl).2
  ·refine ⟨hE.keep.os,hE.keep.tape,hE.keep.output,hE.keep.size,fun k hk hD=>hE.keep.block k hk ?_⟩
   rintro ⟨id,_,ho,hq⟩
   unfold qU at hq
   split at hq
   ·cases hq;exact hD rfl
   ·split at hq
    ·rename_i e;subst e;simp [own,app] at ho
    ·cases hq
end Go.Proofs.YtcafpgpahbplaaaGreat
