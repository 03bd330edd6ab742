/-
 The proof, part 19 of 25.
-/
import Derived.Test.YtcafpgpahbplaaaGreatZ18
import Derived.Test.YtcafpgpahbplaaaGreatZ17
open Nat renaming beq->aaK,ble->ach,ble_eq_true_of_le->acO,eq_of_beq_eq_true->aas,le_of_ble_eq_true->aaL,lt_succ_self->adn,mod_eq_of_lt->aah,zero_add->aay,zero_mod->abg
open Nat.Coprime renaming mul_dvd_of_dvd_of_dvd->aaJ
noncomputable section
set_option linter.unusedVariables false
set_option linter.unusedSimpArgs false
namespace Go.Pr
theorem vW{N F:Nat}(hN:1<N)(hF:N≤F*F)(h:∀ q,Prime q→q ∣ N→F ∣ q-1):Prime N:=
 kC hN hF fun r hr hd=>by
  have h3:=h r hr hd
  have h4:=hr.two_le
  have:=Nat.le_of_dvd (by omega) h3
  omega
theorem C8{q l:Nat}(hq:Prime q)(hl:Prime l)(h:q ∣ l):q=l:=by
 rcases hl.2 q h with e|e
 ·exact absurd hq.two_le (by omega)
 ·exact e
theorem jm{q l n:Nat}{P:Prop}(hq:Prime q)(hl:Prime l)(h:q ∣ l*n)(h1:q=l→P)(h2:q ∣ n→P):P:=by
 rcases hq.dvd_mul h with h|h
 ·exact h1 (C8 hq hl h)
 ·exact h2 h
theorem pr0:Prime 11:=b_ (k:=3) (by decide +kernel) (by decide +kernel) (by decide +kernel)
theorem pr1:Prime 23:=b_ (k:=4) (by decide +kernel) (by decide +kernel) (by decide +kernel)
theorem pr2:Prime 13:=b_ (k:=3) (by decide +kernel) (by decide +kernel) (by decide +kernel)
theorem pr3:Prime 10177:=b_ (k:=100) (by decide +kernel) (by decide +kernel) (by decide +kernel)
theorem pr4:Prime 859267:=b_ (k:=926) (by decide +kernel) (by decide +kernel) (by decide +kernel)
theorem pr5:Prime 52437899:=b_ (k:=7241) (by decide +kernel) (by decide +kernel) (by decide +kernel)
theorem pr6:Prime 2713:=b_ (k:=52) (by decide +kernel) (by decide +kernel) (by decide +kernel)
theorem pr7:Prime 11953:=b_ (k:=109) (by decide +kernel) (by decide +kernel) (by decide +kernel)
theorem pr8:Prime 262069:=b_ (k:=511) (by decide +kernel) (by decide +kernel) (by decide +kernel)
theorem pr9:Prime 254760293:=b_ (k:=15961) (by decide +kernel) (by decide +kernel) (by decide +kernel)
theorem zK3:Prime 2529403:=b_ (k:=1590) (by decide +kernel) (by decide +kernel) (by decide +kernel)
theorem zK2:Prime 2508409:=b_ (k:=1583) (by decide +kernel) (by decide +kernel) (by decide +kernel)
theorem zK1:Prime 906349:=b_ (k:=952) (by decide +kernel) (by decide +kernel) (by decide +kernel)
theorem zu7:Prime 52435875175126190479447740508185965837690552500527637822603658699938581184513:=vW (F:=254760293*(52437899*(2529403*(2508409*(906349*(859267)))))) (by decide +kernel) (by decide +kernel) fun q hr hd=>(aaJ (by decide +kernel) (Da (N:=52435875175126190479447740508185965837690552500527637822603658699938581184513) (b:=47291686569396616499156425462872067838946887208699558622576110439061623524034) (g:=28) (by decide +kernel) pr9 (by decide +kernel) (by decide +kernel) (by decide +kernel) hr hd) (aaJ (by decide +kernel) (Da (N:=52435875175126190479447740508185965837690552500527637822603658699938581184513) (b:=40744907299244235407352508676493668180470552603717615087053811498945141922481) (g:=26) (by decide +kernel) pr5 (by decide +kernel) (by decide +kernel) (by decide +kernel) hr hd) (aaJ (by decide +kernel) (Da (N:=52435875175126190479447740508185965837690552500527637822603658699938581184513) (b:=47059450156245510142419071452461480537773589021230600566513559274632232753225) (g:=22) (by decide +kernel) zK3 (by decide +kernel) (by decide +kernel) (by decide +kernel) hr hd) (aaJ (by decide +kernel) (Da (N:=52435875175126190479447740508185965837690552500527637822603658699938581184513) (b:=18373012691511662944661031135262503793624804446979480243025351198939613928965) (g:=22) (by decide +kernel) zK2 (by decide +kernel) (by decide +kernel) (by decide +kernel) hr hd) (aaJ (by decide +kernel) (Da (N:=52435875175126190479447740508185965837690552500527637822603658699938581184513) (b:=15769418934976494890171147995125343002726346209648636226952077001274280108622) (g:=20) (by decide +kernel) zK1 (by decide +kernel) (by decide +kernel) (by decide +kernel) hr hd) (Da (N:=52435875175126190479447740508185965837690552500527637822603658699938581184513) (b:=43027507203922512242553617092411604239850773065986444709280750291974666585789) (g:=20) (by decide +kernel) pr4 (by decide +kernel) (by decide +kernel) (by decide +kernel) hr hd))))))
theorem zK0:Prime 1367711:=b_ (k:=1169) (by decide +kernel) (by decide +kernel) (by decide +kernel)
theorem zKZ:Prime 541:=b_ (k:=23) (by decide +kernel) (by decide +kernel) (by decide +kernel)
theorem zKY:Prime 12192593745179:=vW (F:=1367711*(541)) (by decide +kernel) (by decide +kernel) fun q hr hd=>(aaJ (by decide +kernel) (Da (N:=12192593745179) (b:=5796217470442) (g:=21) (by decide +kernel) zK0 (by decide +kernel) (by decide +kernel) (by decide +kernel) hr hd) (Da (N:=12192593745179) (b:=887803650361) (g:=10) (by decide +kernel) zKZ (by decide +kernel) (by decide +kernel) (by decide +kernel) hr hd))
theorem zKX:Prime 512088937297519:=eU (Q:=12192593745179) (b:=4398046511104) (g:=44) (by decide +kernel) zKY (by decide +kernel) (by decide +kernel) (by decide +kernel) (by decide +kernel)
theorem zKW:Prime 1857858664515398933:=eU (Q:=512088937297519) (b:=364711527723577204) (g:=49) (by decide +kernel) zKX (by decide +kernel) (by decide +kernel) (by decide +kernel) (by decide +kernel)
theorem zKV:Prime 22294303974184787197:=eU (Q:=1857858664515398933) (b:=4096) (g:=61) (by decide +kernel) zKW (by decide +kernel) (by decide +kernel) (by decide +kernel) (by decide +kernel)
theorem zKT:Prime 19931107752921199754119:=eU (Q:=22294303974184787197) (b:=3685394013329786069740) (g:=65) (by decide +kernel) zKV (by decide +kernel) (by decide +kernel) (by decide +kernel) (by decide +kernel)
theorem zKS:Prime 81162125843606155545104998607900118769099783:=eU (Q:=19931107752921199754119) (b:=37916707211710977199640885181451238404651892) (g:=75) (by decide +kernel) zKT (by decide +kernel) (by decide +kernel) (by decide +kernel) (by decide +kernel)
theorem zKR:Prime 26935696298915610574513298451669528361624243820491956655650666425177:=eU (Q:=81162125843606155545104998607900118769099783) (b:=6496585956164446936996240791050089041049976888615541788678518946891) (g:=146) (by decide +kernel) zKS (by decide +kernel) (by decide +kernel) (by decide +kernel) (by decide +kernel)
theorem zKQ:Prime 4638704574076146691498289350639807119782054683906549022985642612861209609656189848749536921852444848596916990932297:=eU (Q:=26935696298915610574513298451669528361624243820491956655650666425177) (b:=885641044549642137573437696400711361154856893636132131408553329775163670270687198825513889479936152959758207143038) (g:=224) (by decide +kernel) zKR (by decide +kernel) (by decide +kernel) (by decide +kernel) (by decide +kernel)
theorem zKP:Prime 402096035359507321594726366720466575392706800671181159425656785868777272553337714697862511267018014931937703598282857976535744623203249:=eU (Q:=4638704574076146691498289350639807119782054683906549022985642612861209609656189848749536921852444848596916990932297) (b:=18784536854436767134371734921310204285470312091340463237014958786160394233721130856119444449548849612285628029278311866262167948819845) (g:=381) (by decide +kernel) zKQ (by decide +kernel) (by decide +kernel) (by decide +kernel) (by decide +kernel)
theorem zKN:Prime 3:=b_ (k:=1) (by decide +kernel) (by decide +kernel) (by decide +kernel)
end Go.Pr
namespace Go.Proofs.YtcafpgpahbplaaaGreat
open Go Go.Eng Go.RowKit Go.Wd Go.Alg Go.Pr
def Qq(y:F):Nat:=match ach (y.val*2) pN with
 | true=>0
 | false=>1
theorem yr(y:F):Qq y<2:=by unfold Qq;split<;>omega
theorem Yd{y:F}(h:y≠0):(-y).val=pN-y.val:=by
 have h0:y.val≠0:=fun e=>h (Z.ext (e.trans (abg pN).symm))
 have:=y.lt
 show (pN-y.val)%pN=pN-y.val
 exact aah (by omega)
theorem zul{n v:Nat}(ho:n%2=1)(hlt:v<n)(h0:v≠0) (h:(match ach (v*2) n with
 | true=>0
 | false=>1)=(match ach ((n-v)*2) n with
 | true=>0
 | false=>1)):False:=by
 cases h1:ach (v*2) n with
 | true=>
  cases h2:ach ((n-v)*2) n with
  | true=>
   have h1:=aaL h1
   have h2:=aaL h2
   omega
  | false=>rw [h1,h2] at h;cases h
 | false=>
  cases h2:ach ((n-v)*2) n with
  | true=>rw [h1,h2] at h;cases h
  | false=>
   have h1:¬v*2≤n:=fun e=>by rw [acO e] at h1;cases h1
   have h2:¬(n-v)*2≤n:=fun e=>by rw [acO e] at h2;cases h2
   omega
theorem Ib{y:F}(h:Qq y=Qq (-y)):y=0:=by
 refine Classical.byContradiction fun h0=>?_
 have hn:=Yd h0
 unfold Qq at h
 rw [hn] at h
 exact zul Q7 y.lt (fun e=>h0 (Z.ext (e.trans (abg pN).symm))) h
def yt(y:F2):Nat:=match aaK y.a.val 0 with
 | true=>Qq y.b
 | false=>Qq y.a
theorem vK(y:F2):yt y<2:=by unfold yt;split<;>exact yr _
theorem pz{y:F}:y.val=0↔y=0:=⟨fun e=>Z.ext (e.trans (abg pN).symm),fun e=>by rw [e];exact abg pN⟩
theorem pW{y:F}: -y=0↔y=0:=⟨fun e=>by rw [←bm y,e,a_],fun e=>by rw [e,a_]⟩
theorem zb9{y:F2}(h:yt y=yt (-y)):y=0:=by
 unfold yt at h
 have ea:(-y).a=-y.a:=rfl
 have eb:(-y).b=-y.b:=rfl
 by_cases h0:y.a=0
 ·have e1:aaK y.a.val 0=true:=by rw [Nat.beq_eq];exact pz.2 h0
  have e2:aaK (-y).a.val 0=true:=by rw [Nat.beq_eq,ea];exact pz.2 (pW.2 h0)
  rw [e1,e2,eb] at h
  exact Quad.ext' h0 (Ib h)
 ·have e1:aaK y.a.val 0=false:=by
   cases hb:aaK y.a.val 0 with
   | false=>rfl
   | true=>exact absurd (pz.1 (aas hb)) h0
  have e2:aaK (-y).a.val 0=false:=by
   cases hb:aaK (-y).a.val 0 with
   | false=>rfl
   | true=>exact absurd (pW.1 (pz.1 (aas hb))) h0
  rw [e1,e2,ea] at h
  exact absurd (Ib h) h0
def znY:Pt F→Nat
 | .inf=>2*pN
 | .aff x y=>2*x.val+Qq y
def znS:Pt F2→Nat
 | .inf=>2*(pN*pN)
 | .aff x y=>2*(x.a.val+pN*x.b.val)+yt y
theorem zea{a c n:Nat}(ha:a<n)(hc:c<n):a+n*c<n*n:=by
 have:n*(c+1)≤n*n:=Nat.mul_le_mul_left n hc
 rw [Nat.mul_add] at this
 omega
theorem znV(q:Pt F):znY q<2*pN+1:=by
 cases q with
 | inf=>exact adn _
 | aff x y=>
  have:=yr y
  have:=x.lt
  show 2*x.val+Qq y<_
  omega
theorem znP(q:Pt F2):znS q<2*(pN*pN)+1:=by
 cases q with
 | inf=>exact adn _
 | aff x y=>
  have:=vK y
  have:=zea x.a.lt x.b.lt
  show 2*(x.a.val+pN*x.b.val)+yt y<_
  omega
theorem zgF(q s:Pt F)(hq:On b1 q)(hs:On b1 s)(h:znY q=znY s):q=s:=by
 cases q with
 | inf=>
  cases s with
  | inf=>rfl
  | aff x y=>
   have h:2*pN=2*x.val+Qq y:=h
   have:=yr y
   have:=x.lt
   omega
 | aff x y=>
  cases s with
  | inf=>
   have h:2*x.val+Qq y=2*pN:=h
   have:=yr y
   have:=x.lt
   omega
  | aff x' y'=>
   have h:2*x.val+Qq y=2*x'.val+Qq y':=h
   have k1:=yr y
   have k2:=yr y'
   have hx:x=x':=Z.ext (by omega)
   subst hx
   have hy:Qq y=Qq y':=by omega
   rcases yx hq hs rfl with e|e
   ·rw [e]
   ·rw [e] at hy
    rw [e,Ib hy,a_]
theorem zgD(q s:Pt F2)(hq:On b2 q)(hs:On b2 s)(h:znS q=znS s):q=s:=by
 cases q with
 | inf=>
  cases s with
  | inf=>rfl
  | aff x y=>
   have h:2*(pN*pN)=2*(x.a.val+pN*x.b.val)+yt y:=h
   have:=vK y
   have:=zea x.a.lt x.b.lt
   omega
 | aff x y=>
  cases s with
  | inf=>
   have h:2*(x.a.val+pN*x.b.val)+yt y=2*(pN*pN):=h
   have:=vK y
   have:=zea x.a.lt x.b.lt
   omega
  | aff x' y'=>
   have h:2*(x.a.val+pN*x.b.val)+yt y=2*(x'.a.val+pN*x'.b.val)+yt y':=h
   have k1:=vK y
   have k2:=vK y'
   have hx:x.a.val+pN*x.b.val=x'.a.val+pN*x'.b.val:=by omega
   have ha:x.a=x'.a:=Z.ext (by
    have e:=congrArg (· % pN) hx
    simp only [Nat.add_mul_mod_self_left] at e
    rwa [aah x.a.lt,aah x'.a.lt] at e)
   have hb:x.b=x'.b:=Z.ext (by
    rw [ha] at hx
    exact Nat.eq_of_mul_eq_mul_left iz (Nat.add_left_cancel hx))
   have hx:x=x':=Quad.ext' ha hb
   subst hx
   have hy:yt y=yt y':=by omega
   rcases yx hq hs rfl with e|e
   ·rw [e]
   ·rw [e] at hy
    rw [e,zb9 hy,a_]
def HU:Nat:=0x8ab05f8bdd54cde190937e76bc3e447cc27c3d6fbd7063fcd104635a790520c0a395554e5c6aaaa9354ffffffffe38e
theorem WN:pN-1=3*HU:=by decide +kernel
theorem zlg{z:F}(hz:z≠0):pow z (pN-1)=1:=by
 have h:=Mf z
 have e:pow z pN=pow z (pN-1+1):=congrArg (pow z) (by have:=iz;omega)
 rw [e,aC] at h
 refine ch hz ?_
 rw [mul_comm,h,mul_one]
theorem zif:pow (-b1) HU≠1:=by
 rw [←pR (-b1) 380 HU (by decide +kernel)]
 intro h
 have:jz (nb (1:F) (-b1) 380 HU)=jz 1:=by rw [h]
 revert this
 decide +kernel
theorem zlS(x:F):x*x*x≠-b1:=by
 intro h
 have hx:x≠0:=fun e=>by
  rw [e,aq] at h
  exact oi.bne (pW.1 h.symm)
 apply zif
 have e:pow x 3=-b1:=by rw [←h,aC,aC,ft]
 rw [←e,←cC,←WN]
 exact zlg hx
theorem zie:pow (-b2) t_≠1:=by
 rw [←pR (-b2) 762 t_ (by decide +kernel)]
 intro h
 have:(nb (1:F2) (-b2) 762 t_).a.val=(1:F2).a.val:=by rw [h]
 revert this
 decide +kernel
theorem zlR(x:F2):x*x*x≠-b2:=by
 intro h
 have hx:x≠0:=fun e=>by
  rw [e,aq] at h
  have h2:b2=0:=by rw [←bm b2,←h,a_]
  exact ic.bne h2
 apply zie
 have e:pow x 3=-b2:=by rw [←h,aC,aC,ft]
 rw [←e,←cC,←FZ]
 exact C9 hx
instance :Cv F b1:=oi
instance :Cv F2 b2:=ic
def n1:Nat:=793479390729215512516507951283169066088130679960393952059283337873017453583023682367384822284289
def m1:Nat:=5044125407647214251
def SW:F:=φ zsI
theorem n5:SW*SW+SW+1=0:=u_ (by decide +kernel)
def gP1:P1:=((0xf7895fdddb0c70ed40e9f4e6aa07492e69b625dba30ef8e0d271d32cabb624eecf33f65bd99463478b42f90b8a0417d,0xc41386f78a8be5e843ae57af440ea2e102d3b509c9252b6f7bb920ee83c1f05aa2f54593706f2b3adee9289c97f0290),false)
theorem zxk:e_ gP1=true:=by rw [BC];decide +kernel
theorem rX:On b1 (bO gP1):=(gS _).1 zxk
def xU:Gp b1:=⟨bO gP1,rX⟩
def bG1:Gp b1:=⟨bO dj,O7⟩
theorem zCA:n1<2^319:=by decide +kernel
theorem tR:nsm n1 xU=Ab.zero:=sR.2 (by rw [ee];exact wZ oi j5 rX 319 zCA (by decide +kernel))
def zwI:Nat:=264493130243071837505502650427723022029376893320131317353094445957672484527674560789128274094763
theorem zmW:n1/3=zwI:=by decide +kernel
theorem zmV:zwI<2^319:=by decide +kernel
def zFq:F:=φ 0x0
def zFg:F:=φ 0x1a0111ea397fe69a4b1ba7b6434bacd764774b84f38512bf6730d2a0f6b0f6241eabfffeb153ffffb9feffffffffaaa9
theorem zNZ:(nsm zwI xU).1 = .aff zFq zFg:=by rw [ee];exact gO oi j5 rX 319 zmV (by decide +kernel)
theorem zoO:nsm (n1/3) xU≠Ab.zero:=by rw [zmW];exact fI zNZ
def zwH:Nat:=72134490066292319319682541025742642371648243632763086550843939806637950325729425669762256571299
theorem zmU:n1/11=zwH:=by decide +kernel
theorem zmT:zwH<2^319:=by decide +kernel
def zFp:F:=φ 0xb9529a7b23788075a6c33c7b77b3dcf4da4f58af5310f32e739a6c653a5a8f7cf7f19a297bd6a8f3f19ea82cf9419
def zFf:F:=φ 0x17144ba4a71329545905f3bc2b6c9f5d1391ca355d534dbc747e105b7d8aed89d9802ee2b8b518d40fe57e066076fdf9
theorem zNY:(nsm zwH xU).1 = .aff zFp zFf:=by rw [ee];exact gO oi j5 rX 319 zmT (by decide +kernel)
theorem VQ:nsm (n1/11) xU≠Ab.zero:=by rw [zmU];exact fI zNY
def zwG:Nat:=77967907116951509532918143979873151821571256751537186996097409636731596107204842524062574657
theorem U9:n1/10177=zwG:=by decide +kernel
theorem zmS:zwG<2^319:=by decide +kernel
def OI:F:=φ 0xd1bbae3a1bd74ce9cd836e8bc17c673d72f51de5296d2b2a05f2e35e35a251c19a8db48146a30bbaf911d3447d1336e
def OF:F:=φ 0x5356c4c2203d2e761b6c57cb03775a4cbfe4a63fd31967e4335e5a02f8decae32b535738fbb8ff0492fa5c1d4c04f42
theorem zh1:(nsm zwG xU).1 = .aff OI OF:=by rw [ee];exact gO oi j5 rX 319 zmS (by decide +kernel)
theorem VP:nsm (n1/10177) xU≠Ab.zero:=by rw [U9];exact fI zh1
def zwF:Nat:=923437523760618658131300225986997133705973440106967859884393719150179692206291737454580267
theorem U8:n1/859267=zwF:=by decide +kernel
theorem zmR:zwF<2^319:=by decide +kernel
def OH:F:=φ 0x145f495374323f27ef6e2af79d83d8972f444a7387a7bb706239b9a49d89811e247f39d57c1a4d9380805e90eb70ee44
def OE:F:=φ 0xe6c73743af74050eca3d614e03d192aa5a9a849397615889c308c005f04aa7a3cd6c954b7122deaeb5aaf454b9bad7b
theorem zh0:(nsm zwF xU).1 = .aff OH OE:=by rw [ee];exact gO oi j5 rX 319 zmR (by decide +kernel)
theorem VO:nsm (n1/859267) xU≠Ab.zero:=by rw [U8];exact fI zh0
def zwE:Nat:=15131792193451829801886378996289860241885943598930116404154242294738342845944756146072611
theorem zmQ:n1/52437899=zwE:=by decide +kernel
theorem zmP:zwE<2^319:=by decide +kernel
def zFo:F:=φ 0x11ec11af1cff39c560ea87610be24017d90a0861955866c7caae286344242525e0d6360aa9aac45d942fff390febbcba
def zFe:F:=φ 0x63ffb8a0dc377a990ee1b5cedefbff304244f549288d601acbf4fe7f73892981bfe77d3e673193f2977a40f4da66d00
theorem zNX:(nsm zwE xU).1 = .aff zFo zFe:=by rw [ee];exact gO oi j5 rX 319 zmP (by decide +kernel)
theorem VN:nsm (n1/52437899) xU≠Ab.zero:=by rw [zmQ];exact fI zNX
def zwD:Nat:=15132376222941642753
theorem zmO:n1/52435875175126190479447740508185965837690552500527637822603658699938581184513=zwD:=by decide +kernel
theorem zmN:zwD<2^319:=by decide +kernel
def zFn:F:=φ 0x2c8135993f651b6b8ead18769e4ecd957d4f5cdf75df4cae8d16c62bfba117270ad2dbe52e57d691f67e4aed8f6cd16
def zFd:F:=φ 0x7b7d5c1705dc59d9ea2610d4aa5b200d6d3cb6bfb6569286ff23fdb5ff005f2a36dd5d990c1fc95f2e7dbec95c978ed
theorem zNW:(nsm zwD xU).1 = .aff zFn zFd:=by rw [ee];exact gO oi j5 rX 319 zmN (by decide +kernel)
theorem zoN:nsm (n1/52435875175126190479447740508185965837690552500527637822603658699938581184513) xU≠Ab.zero:=by rw [zmO];exact fI zNW
theorem zvT:n1=3*(11*(10177*(859267*(52437899*(52435875175126190479447740508185965837690552500527637822603658699938581184513))))):=by decide +kernel
theorem zLa(q:Nat)(hq:Prime q)(h:q ∣ n1):nsm (n1/q) xU≠Ab.zero:=by
 rw [zvT] at h
 refine jm hq zKN h (fun e=>by rw [e];exact zoO) (fun h=>?_)
 refine jm hq pr0 h (fun e=>by rw [e];exact VQ) (fun h=>?_)
 refine jm hq pr3 h (fun e=>by rw [e];exact VP) (fun h=>?_)
 refine jm hq pr4 h (fun e=>by rw [e];exact VO) (fun h=>?_)
 refine jm hq pr5 h (fun e=>by rw [e];exact VN) (fun h=>?_)
 rw [C8 hq zu7 h];exact zoN
theorem n8:Om (De SW oi n5):=Q9 n5
theorem Vq:nsm n1 (De SW oi n5 xU)=Ab.zero:=by rw [←n8.nsm,tR];rfl
theorem zCw(c:Nat):nsm (n1/11) (De SW oi n5 xU)≠nsm c (nsm (n1/11) xU):=by
 rw [←n8.nsm]
 exact n8.inert pr0 (yQ (by decide +kernel) tR) VQ zm6 c
def zBS:Nat:=4774
theorem zkU:smul zBS (.aff OI OF)≠.aff (OI*SW) (-OF):=mW oi j5 (GK zh1) 14 (by decide +kernel) (by decide +kernel)
def zBw:Nat:=5404
theorem zj6:smul zBw (.aff OI OF)≠.aff (OI*SW) (-OF):=mW oi j5 (GK zh1) 14 (by decide +kernel) (by decide +kernel)
theorem zCv(c:Nat):nsm (n1/10177) (De SW oi n5 xU)≠nsm c (nsm (n1/10177) xU):=by
 rw [←n8.nsm]
 refine n8.split (s:=zBS) (t:=zBw) (k:=2535) pr3 (yQ (by decide +kernel) tR) VP (by decide +kernel) (by decide +kernel) ?_ ?_ c<;>rw [U9]
 ·exact oG n5 zh1 zkU
 ·exact oG n5 zh1 zj6
def zBR:Nat:=119572
theorem zkT:smul zBR (.aff OH OE)≠.aff (OH*SW) (-OE):=mW oi j5 (GK zh0) 20 (by decide +kernel) (by decide +kernel)
def zBv:Nat:=739696
theorem zj5:smul zBv (.aff OH OE)≠.aff (OH*SW) (-OE):=mW oi j5 (GK zh0) 20 (by decide +kernel) (by decide +kernel)
theorem zCu(c:Nat):nsm (n1/859267) (De SW oi n5 xU)≠nsm c (nsm (n1/859267) xU):=by
 rw [←n8.nsm]
 refine n8.split (s:=zBR) (t:=zBv) (k:=102933) pr4 (yQ (by decide +kernel) tR) VO (by decide +kernel) (by decide +kernel) ?_ ?_ c<;>rw [U8]
 ·exact oG n5 zh0 zkT
 ·exact oG n5 zh0 zj5
theorem zCt(c:Nat):nsm (n1/52437899) (De SW oi n5 xU)≠nsm c (nsm (n1/52437899) xU):=by
 rw [←n8.nsm]
 exact n8.inert pr5 (yQ (by decide +kernel) tR) VN (zfe (k:=17479299) pr5 (by decide +kernel) (by decide +kernel)) c
theorem zwe:m1=11*(10177*(859267*(52437899))):=by decide +kernel
theorem zLW(a c:Nat)(e:Ab.add (nsm a xU) (nsm c (De SW oi n5 xU))=Ab.zero):m1 ∣ c:=by
 rw [zwe]
 exact (aaJ (by decide +kernel) (zg pr0 (by decide +kernel) tR Vq zCw e) (aaJ (by decide +kernel) (zg pr3 (by decide +kernel) tR Vq zCv e) (aaJ (by decide +kernel) (zg pr4 (by decide +kernel) tR Vq zCu e) (zg pr5 (by decide +kernel) tR Vq zCt e))))
theorem zNb(q:Gp b1):nsm n1 q=Ab.zero∧∃ a c,nsm 2 q=Ab.add (nsm a xU) (nsm c (De SW oi n5 xU)):=
 Vr n5 zlS znY (2*pN+1) (fun q _=>znV q) zgF xU n1 m1 (by decide +kernel) (by decide +kernel) tR zLW zLa (by decide +kernel) q
theorem hb1:nsm (n1/aO) xU=nsm (n1/aO) bG1:=by
 rw [show n1/aO=zwD from zmO]
 refine Gp.ext (zNW.trans ?_)
 rw [ee]
 exact (gO oi j5 O7 319 zmN (by decide +kernel)).symm
def zL5:Nat:=52435875175126190479447740508185965837461563690374988244538805122978187051009
theorem fb1:De SW oi n5 bG1=nsm zL5 bG1:=by
 refine Gp.ext ?_
 rw [ee]
 refine Eq.trans (b:=Pt.aff (bx1*SW) (by1*1)) (by kernel_rfl) ?_
 rw [mul_one]
 exact (gO oi j5 O7 255 (by decide +kernel) (by decide +kernel)).symm
theorem zPP(q:Gp b1)(hq:nsm aO q=Ab.zero):∃ k,q=nsm k bG1:=by
 obtain ⟨_,a,c,e⟩:=zNb q
 exact zhD n8 (t:=52435875175126190475982595682112313519143271779992544622398259808133613355009) (w:=15132376222941642752) (s:=26217937587563095239723870254092982918845276250263818911301829349969290592257) (by decide +kernel) hb1 fb1 (by decide +kernel) hq e
def n2:Nat:=53576194808460553217203172723474824808344883275353018929305633902963132938098184426089150766896967993227272192442055963012237813401673323498414509448806171002635876817216134661849632732818260738617639084599158761113588926055983
def m2:Nat:=299
def ZL:F2:=ar (zsI,0)
theorem sa:ZL*ZL+ZL+1=0:=fR (by decide +kernel)
def gP2:P2:=(((0x158e357e76c130a68a3a460e502e0fb410278ebd6e95035a5d561b5e7736b8055c57e405c1b2e46618c0e7a3a51bf6e4,0x6951c7ab57aa1d3cc5e91d168bf20ce9021f86fa122e7009dfe04bc27a604d3c43e11a79e2f1bf7b1345dc770617bbc),(0xde65dcf072c2b5aaa4a4bebccba2d0c70b059f64673aae116855b7d6615d92f53a313c761fb81f706d815a1abdc97eb,0x4869dbae0373300d00c235f80e77dc2c3a1b008535f8bf33cb3d5ba4a1b16e8879e5499161ddd5b305136b7259e39c5)),false)
theorem zxj:fw gP2=true:=by rw [BB];decide +kernel
theorem p6:On b2 (ιP2 gP2):=(fM _).1 zxj
def gx2:F2:=ar gP2.1.1
def zl:Gp b2:=⟨ιP2 gP2,p6⟩
def bG2:Gp b2:=⟨ιP2 gI,j4⟩
theorem zCz:n2<2^754:=by decide +kernel
theorem G_:nsm n2 zl=Ab.zero:=sR.2 (by rw [ee];exact wZ ic fq p6 754 zCz (by decide +kernel))
def zwC:Nat:=4121245754496965632092551747959601908334221790411770686869664146381779456776783417391473135915151384094405553264773535616325985646282563346031885342215859307895067447478164204757664056370635441432126083430704520085660686619691
theorem U7:n2/13=zwC:=by decide +kernel
theorem zmM:zwC<2^754:=by decide +kernel
def OG:F2:=ar (0x10422f29187f924f1bc16505a2c4b6aea409a32707d0fb6b379f23786ba180c1aae2bd024e8ebfc6d84cb718a1454023,0x18b38e3bbff701ebdcb70315d8bb27dbe9cee8837528ad5322629f8053f0a832ae0719c724d3f46af7c3ce910030cb86)
def OD:F2:=ar (0xf00bd6f7392494833550f06200e0d5a0d9159d30c810383f064c8d74272fcaf426a9ae1ca8fafa1fb02351f3fbeec1d,0xb7a6e969c4df4aecc8f84f17208828b90e178dd0d57236ca1f4f06cae37802caf9fda06522debbd4b8c30e0bafb455d)
theorem zhY:(nsm zwC zl).1 = .aff OG OD:=by rw [ee];exact gO ic fq p6 754 zmM (by decide +kernel)
theorem VM:nsm (n2/13) zl≠Ab.zero:=by rw [U7];exact fI zhY
def zwB:Nat:=2329399774280893618139268379281514122101951446754479083882853647954918823395573235916919598560737738835968356193132867957053817973985796673844109106469833521853733774661571072254331857948620032113810394982572120048416909828521
theorem zmL:n2/23=zwB:=by decide +kernel
theorem zmK:zwB<2^754:=by decide +kernel
def zFm:F2:=ar (0xe7aad6e3cae10c7616a2ecd8414254f6ccb53c74cdb9db669746390d0b8ba6976fe046b6f2897767869057e7955680,0xc2df218064f9d234545c3e7d34d8444a9de47b51a9a8148cb8522cd09abf000d3c8b5c1c12a1f4d9ac9d513c528ef4e)
def zFc:F2:=ar (0x8936717103a365196bd3258155844055106958ebba684edc660d668cd2b056b802bdd7c7e908381509e95e0748acf03,0xfff044d93f4ce598415ed6d91b54b87d529b2cbcd9e91248dec534a94cab10ae9d270926af324c8e5c8e24c9a54faa1)
theorem zNV:(nsm zwB zl).1 = .aff zFm zFc:=by rw [ee];exact gO ic fq p6 754 zmK (by decide +kernel)
theorem VL:nsm (n2/23) zl≠Ab.zero:=by rw [zmL];exact fI zNV
def zwA:Nat:=19747952380560469302323322050672622487410572530539262414045570918895367835642530197600129291152586801779311534258037583122830008625755003132478624935055720974064090238561052215941626514123944245712362360707393572102318070791
theorem zmJ:n2/2713=zwA:=by decide +kernel
theorem zmI:zwA<2^754:=by decide +kernel
def zFl:F2:=ar (0x1527356b928b314eea2789d3f51ac897fd0989c09d20c4ded31794e810cb4f9798ed68cd34cc9b9db2f5660c0590a26,0x16f580eaf5f5ab84f219e938b0ac87a1d467ca14067e78ab0eda9d48a09080b860e806aaef288db3f2b11df8621fc42c)
def zFb:F2:=ar (0xf569dbb3a0ca9561b5f2c323a9be49d7a1d4ee7d9fc814e529201c9b2f84f309c9a063e9b3f2016ffbec1b3b7ad0280,0x71dde72709146781388d61c9f943a4bf7fdffa4a5f5d2e7b2ef5febfae557c1d7a2866e53bd5c11d31b0df1f9219078)
theorem zNU:(nsm zwA zl).1 = .aff zFl zFb:=by rw [ee];exact gO ic fq p6 754 zmI (by decide +kernel)
theorem zoM:nsm (n2/2713) zl≠Ab.zero:=by rw [zmJ];exact fI zNU
def zwz:Nat:=4482238334180586732803745731069591299953558376587720148021888555422331878030468035312402808240355391385198041700163637832530562486545078515721116828311400569115358221134119857931032605439493076099526402124919163483107916511
theorem zmH:n2/11953=zwz:=by decide +kernel
theorem zmG:zwz<2^754:=by decide +kernel
def zFk:F2:=ar (0xca39ab97ef67fee1d0f187136cc27b1c456d169a48ec92d4872f1e7839611556a92ff3cd21d73029972321738d7524d,0xe026bde4a2a800cf24d2f9761b205a6fe1610656f1471706b167c3d1be45e36534e74d348a747307ef9f33a462129df)
def zFa:F2:=ar (0xcf53049bc13a9c7a69a1c4269b6662786a0007748546064f78631c2b387da811f5022221b946a541def7b461cdaefc2,0x17a50c7b410815a40b40dc19744a8dfc8d62ba7f335644a3ad2638c6350f4248f717576c16dbc61ff4803510ec4c99fe)
theorem zNT:(nsm zwz zl).1 = .aff zFk zFa:=by rw [ee];exact gO ic fq p6 754 zmG (by decide +kernel)
theorem zoL:nsm (n2/11953) zl≠Ab.zero:=by rw [zmH];exact fI zNT
def zwy:Nat:=204435453290776677963449216517309658175308347325906608295165143160629959812485202088339905776329775720238838597629082276088502697387609078137492452174069313816727185654221348812143491724768136401549359461054755660202423507
theorem zmF:n2/262069=zwy:=by decide +kernel
theorem zmE:zwy<2^754:=by decide +kernel
def zFj:F2:=ar (0x3a9d58890770e5a6cc62898bae03c723ee6131c3f42cc71fcca6af40e36876987980a78d5992658ddcaaab88ba2d578,0xe6e4a43f7342ad336bd00a560c72e0d56902ad288b3bbc7e3b68c33cabab5e7b8ff874518582a925b874e94328c91b3)
def zE9:F2:=ar (0x1878cc7da8159a4a075b35169e87d7d7972de34366789499231f0fcd7ee92d13ae32c9d8b91235d79dd11d9868132b05,0xaca746cdbd524f761c19b300d0c1726e1f02c1bdbea17006d443ea71f9504c45eb2be6a6bf8d25220d65cbdec1968c7)
theorem zNS:(nsm zwy zl).1 = .aff zFj zE9:=by rw [ee];exact gO ic fq p6 754 zmE (by decide +kernel)
theorem zoK:nsm (n2/262069) zl≠Ab.zero:=by rw [zmF];exact fI zNS
def zwx:Nat:=133242285665808607076488378322626308017882680317454143660064485930450545651671235455237836767
theorem zmD:n2/402096035359507321594726366720466575392706800671181159425656785868777272553337714697862511267018014931937703598282857976535744623203249=zwx:=by decide +kernel
theorem zmC:zwx<2^754:=by decide +kernel
def zFi:F2:=ar (0x9bbc0bfacedb1fa3a9e8fda459105436e3bbace4e002aec8be54b037ad07de8a68490a31cbb7ec621754d2aacb7db28,0x17f069ac7fd4b5e6780fe2c6bde494e4d35db76e97004f5c9328f5ca1b5c380e26f86db1f2c1db2367355e0f26197100)
def zE8:F2:=ar (0x139e76009a8af317d2053b606e2a96f87abb5b57ced8e893b9f1e844b7eed011d3bbb4255ba15de0a605fc9f2a982d98,0x165eac18ca97c2b9d0736a6fc72f64daab41aa61d1996567b5f613e0edf40d4e5ef84761bf96f19f6f8395b5f492b99f)
theorem zNR:(nsm zwx zl).1 = .aff zFi zE8:=by rw [ee];exact gO ic fq p6 754 zmC (by decide +kernel)
theorem zoJ:nsm (n2/402096035359507321594726366720466575392706800671181159425656785868777272553337714697862511267018014931937703598282857976535744623203249) zl≠Ab.zero:=by rw [zmD];exact fI zNR
def zmB:Nat:=1021746936224977739802674759843215733158749228274876731329980043418955197936360816142165308893846079758636364010172630974200012787218635773765140678191
theorem U6:n2/52435875175126190479447740508185965837690552500527637822603658699938581184513=zmB:=by decide +kernel
theorem U5:zmB<2^754:=by decide +kernel
def zFh:F2:=ar (0x10cae953367fed4dc38f5fb936ef0459047012de0673b59d9ee61cca3b950308ebf7a2b26c27e14aaeb9b1044add3c4d,0x18a46fd437b63bb7ab1fe908895bed403fe4d954a0292701e0f00449243f8a9b319fbed336d9e95b92cab47d128e2a8f)
def zE7:F2:=ar (0x15bdc5c53a714cb4fea442a015f50027eb1b541e0d24e21d68fa7eeba9b191cd0c7e3e98547645bb91da1d459747b3b5,0x11957a51a31fe620e2b1600bb55669ba73171c988c1ef94ec079d4f4424f11ace2e5fd2d696653c453041d2f09227d7d)
theorem zGu:(nsm zmB zl).1 = .aff zFh zE7:=by rw [ee];exact gO ic fq p6 754 U5 (by decide +kernel)
theorem zoI:nsm (n2/52435875175126190479447740508185965837690552500527637822603658699938581184513) zl≠Ab.zero:=by rw [U6];exact fI zGu
theorem zvS:n2=13*(23*(2713*(11953*(262069*(402096035359507321594726366720466575392706800671181159425656785868777272553337714697862511267018014931937703598282857976535744623203249*(52435875175126190479447740508185965837690552500527637822603658699938581184513)))))):=by decide +kernel
theorem zK9(q:Nat)(hq:Prime q)(h:q ∣ n2):nsm (n2/q) zl≠Ab.zero:=by
 rw [zvS] at h
 refine jm hq pr2 h (fun e=>by rw [e];exact VM) (fun h=>?_)
 refine jm hq pr1 h (fun e=>by rw [e];exact VL) (fun h=>?_)
 refine jm hq pr6 h (fun e=>by rw [e];exact zoM) (fun h=>?_)
 refine jm hq pr7 h (fun e=>by rw [e];exact zoL) (fun h=>?_)
 refine jm hq pr8 h (fun e=>by rw [e];exact zoK) (fun h=>?_)
 refine jm hq zKP h (fun e=>by rw [e];exact zoJ) (fun h=>?_)
 rw [C8 hq zu7 h];exact zoI
theorem yO:Om (De ZL ic sa):=Q9 sa
theorem zr7:nsm n2 (De ZL ic sa zl)=Ab.zero:=by rw [←yO.nsm,G_];rfl
def zBQ:Nat:=4
theorem zkS:smul zBQ (.aff OG OD)≠.aff (OG*ZL) (-OD):=mW ic fq (GK zhY) 4 (by decide +kernel) (by decide +kernel)
def zBu:Nat:=10
theorem zj4:smul zBu (.aff OG OD)≠.aff (OG*ZL) (-OD):=mW ic fq (GK zhY) 4 (by decide +kernel) (by decide +kernel)
theorem zCs(c:Nat):nsm (n2/13) (De ZL ic sa zl)≠nsm c (nsm (n2/13) zl):=by
 rw [←yO.nsm]
 refine yO.split (s:=zBQ) (t:=zBu) (k:=3) pr2 (yQ (by decide +kernel) G_) VM (by decide +kernel) (by decide +kernel) ?_ ?_ c<;>rw [U7]
 ·exact oG sa zhY zkS
 ·exact oG sa zhY zj4
theorem zCr(c:Nat):nsm (n2/23) (De ZL ic sa zl)≠nsm c (nsm (n2/23) zl):=by
 rw [←yO.nsm]
 exact yO.inert pr1 (yQ (by decide +kernel) G_) VL zm5 c
theorem zwd:m2=13*(23):=by decide +kernel
theorem zLV(a c:Nat)(e:Ab.add (nsm a zl) (nsm c (De ZL ic sa zl))=Ab.zero):m2 ∣ c:=by
 rw [zwd]
 exact (aaJ (by decide +kernel) (zg pr2 (by decide +kernel) G_ zr7 zCs e) (zg pr1 (by decide +kernel) G_ zr7 zCr e))
theorem zEx(q:Gp b2):nsm n2 q=Ab.zero∧∃ a c,nsm 2 q=Ab.add (nsm a zl) (nsm c (De ZL ic sa zl)):=
 Vr sa zlR znS (2*(pN*pN)+1) (fun q _=>znP q) zgD zl n2 m2 (by decide +kernel) (by decide +kernel) G_ zLV zK9 (by decide +kernel) q
theorem tP:nsm (n2/aO) zl=nsm (n2/aO) bG2:=by
 rw [show n2/aO=zmB from U6]
 refine Gp.ext (zGu.trans ?_)
 rw [ee]
 exact (gO ic fq j4 754 U5 (by decide +kernel)).symm
def zLq:Nat:=228988810152649578064853576960394133503
theorem fb2:De ZL ic sa bG2=nsm zLq bG2:=by
 refine Gp.ext ?_
 rw [ee]
 refine Eq.trans (b:=Pt.aff (bx2*ZL) (by2*1)) (by kernel_rfl) ?_
 rw [mul_one]
 exact (gO ic fq j4 255 (by decide +kernel) (by decide +kernel)).symm
theorem zE5(q:Gp b2)(hq:nsm aO q=Ab.zero):∃ k,q=nsm k bG2:=by
 obtain ⟨_,a,c,e⟩:=zEx q
 exact zhD yO (t:=51277071303852683885322751755173319433966909968355403379731968755520484864982) (w:=999166893435475476671407241029208216505790542420807041787871791992027750526681395802046427922585120965131070676956591469642204043381600772792572954697) (s:=26217937587563095239723870254092982918845276250263818911301829349969290592257) (by decide +kernel) tP fb2 (by decide +kernel) hq e
theorem zN6{q:Pt F2}(hq:On b2 q):smul n2 q = .inf:=by
 have:=(zEx (Gp.of hq)).1
 rw [sR,ee] at this
 exact this
theorem zE6{q:Pt F2}(hq:Tor b2 aO q):∃ k,q=smul k (ιP2 gI):=by
 obtain ⟨k,h⟩:=zE5 (Gp.of hq.on) (sR.2 (by rw [ee];exact hq.tor))
 exact ⟨k,by have:=congrArg Subtype.val h;rwa [ee] at this⟩
theorem zyA:n2 ∣ aO*qO:=by decide +kernel
theorem Sz{q:Pt F2}(hq:On b2 q):Tor b2 aO (smul qO q):=zjT ic zyA hq (zN6 hq)
namespace Sh
theorem pu(x y:N2):ar (bk x y)=ar x+ar y:=bW _
theorem dw(x y:N2):ar (ai x y)=ar x*ar y:=bW _
theorem HF(x:N2):ar (gl x)=-ar x:=bW _
theorem ra(x:N2):ar (bU x)=inv (ar x):=bW _
def sA:F2:=ar xT
def sB:F2:=ar vo
def sZ:F2:=ar P6
def rD(x:F2):F2:=x*x*x+sA*x+sB
theorem TY{R:Type}[CRing R](x a b:R):(((0*x+1)*x+0)*x+a)*x+b=x*x*x+a*x+b:=
 ak (aZ [x,a,b]) ((((0*x0+1)*x0+0)*x0+x1)*x0+x2) (x0*x0*x0+x1*x0+x2) (by decide +kernel)
theorem Bo(x:N2):ar (di x)=rD (ar x):=by
 unfold di
 simp only [pu,dw,tp,zlt]
 exact TY _ _ _
def r5:Nat:=3754115229487400743760384662840082984744650971178826659753975400945528899667118516813924993650507119217982417812692
theorem zBZ:φ r5*φ r5=-sZ.norm:=Z.ext (by decide +kernel)
theorem zB0:φ r5≠0:=fun h=>by
 have:=congrArg Z.val h
 exact absurd this (by decide +kernel)
theorem zuz:¬z_ sZ.norm:=by
 rintro ⟨r,hr⟩
 exact rO zB0 (hr.trans (by rw [zBZ,bm]))
theorem zlO{a b:F}(ha:¬z_ a)(hb:¬z_ b):z_ (a*b):=by
 obtain ⟨s,hs⟩:=(ss a).resolve_left ha
 obtain ⟨t,ht⟩:=(ss b).resolve_left hb
 refine ⟨s*t,?_⟩
 have e:s*t*(s*t)=(s*s)*(t*t):=ak (aZ [s,t]) (x0*x1*(x0*x1)) ((x0*x0)*(x1*x1)) (by decide +kernel)
 rw [e,hs,ht,gk,lM,bm]
def zaI:N2:=(256821279793390324410974847151387183379066647612753005975473730401292030906495429635072456202445171775764882489253,513642559586780648821949694302774366758133295225506011950947460802584061812990859270144912404890343551529764978506)
def zaT:N2:=(3611395798403580372189180981549434777847917790633063236702417299179272465463714843962369288472002469087378085294992,423613093348586218576377851437437729690830432842722856441196780662664494552025968214749014884639894158037286276385)
theorem zs8:inv (ar (ai P6 xT))=ar zaI:=nk (fR (by decide +kernel))
theorem zAN:ar zaT*ar zaT=rD (ar vo*ar zaI):=fR (by decide +kernel)
theorem zKi:ar (ai vo (bU (ai P6 xT)))=ar vo*ar zaI:=by rw [dw,ra,zs8]
theorem zs9:sf (ar (di (ai vo (bU (ai P6 xT))))):=⟨ar zaT,by rw [Bo,zKi,zAN]⟩
theorem zBP:sA≠0:=fun h=>by
 have:=congrArg dr h
 exact absurd this (by decide +kernel)
theorem WH{w x v a b:F2}(h1:a*x=-(b*(1+v)))(h2:(w*w+w)*v=1):
  w*x*(w*x)*(w*x)+a*(w*x)+b=w*w*w*(x*x*x+a*x+b):=
 zb (ρ:=aZ [w,x,v,a,b]) (x0*x1*(x0*x1)*(x0*x1)+x3*(x0*x1)+x4) (x0*x0*x0*(x1*x1*x1+x3*x1+x4))
  (x0*(1-x0*x0)) (x3*x1) (-(x4*(1+x2))) (-(x4*(1-x0))) ((x0*x0+x0)*x2) 1 h1 h2 (by decide +kernel)
theorem zdC{z n g s:F}(hs:s*s=z*g):z_ (z*(n*n)*(z*(n*n))*(z*(n*n))*g):=by
 refine ⟨z*(n*(n*n))*s,?_⟩
 have e:z*(n*(n*n))*s*(z*(n*(n*n))*s)=z*z*(n*n*(n*n)*(n*n))*(s*s):=ak (aZ [z,n,s]) (x0*(x1*(x1*x1))*x2*(x0*(x1*(x1*x1))*x2)) (x0*x0*(x1*x1*(x1*x1)*(x1*x1))*(x2*x2)) (by decide +kernel)
 rw [e,hs]
 exact ak (aZ [z,n,g]) (x0*x0*(x1*x1*(x1*x1)*(x1*x1))*(x0*x2)) (x0*(x1*x1)*(x0*(x1*x1))*(x0*(x1*x1))*x2) (by decide +kernel)
theorem Xn{w x u:F2}(hw:w=sZ*(u*u))(hg:rD (w*x)=w*w*w*rD x)(hn:¬sf (rD x)):sf (rD (w*x)):=by
 refine Al ?_
 have n1:¬z_ (rD x).norm:=fun h=>hn (Al h)
 obtain ⟨s,hs⟩:=zlO zuz n1
 rw [hg,iV,iV,iV,hw,iV,iV]
 exact zdC hs
theorem Kz(x y:N2):bk x y=dr (ar x+ar y):=rfl
theorem Ti{x:N2}{z:F2}(hx:x=dr z)(h:x≠(0,0)):ar x≠0:=fun e=>h (by
 rw [hx,bW] at e
 rw [hx,e];exact zKh.symm)
theorem znG{X t:N2}(hx:X=ai (gl (ai vo (bU xT))) (bk (1,0) (bU t))):sA*ar X=-(sB*(1+inv (ar t))):=by
 rw [hx,dw,HF,dw,ra,pu,ra,zlt]
 have e:sA*(-(ar vo*inv (ar xT))*(1+inv (ar t)))=-(sB*(1+inv (ar t)))*(sA*inv sA):=
  ak (aZ [sA,sB,inv sA,inv (ar t)]) (x0*(-(x1*x2)*(1+x3))) (-(x1*(1+x3))*(x0*x2)) (by decide +kernel)
 rw [e,bs zBP,mul_one]
theorem zCB{u:N2}(h:yR u=(0,0)):Mv u=ai vo (bU (ai P6 xT)):=by
 show mpX (mpE u) u=_
 have:mpE u=true:=decide_eq_true h
 rw [this];rfl
theorem zrv{u:N2}(h:yR u≠(0,0)):Mv u=ai (gl (ai vo (bU xT))) (bk (1,0) (bU (yR u))):=by
 show mpX (mpE u) u=_
 have:mpE u=false:=decide_eq_false h
 rw [this];rfl
theorem Ja{u:N2}:mpI u=true↔sf (ar (di (Mv u))):=⟨fun h=>⟨_,rv h⟩,fun h=>m9 h⟩
theorem zwT(w x:N2):Yj true w x=x:=rfl
theorem zwX(w x:N2):Yj false w x=ai w x:=rfl
theorem zdW{u:N2}(h:mpI u=true):mE u=Mv u:=by
 unfold mE
 rw [h,zwT]
theorem zdX{u:N2}(h:mpI u=false):mE u=ai (Bb u) (Mv u):=by
 unfold mE
 rw [h,zwX]
theorem zl5(u:N2):yR u=dr (ar (ai (Bb u) (Bb u))+ar (Bb u)):=by unfold yR;exact Kz _ _
theorem zal(u:N2):ar (yR u)=ar (Bb u)*ar (Bb u)+ar (Bb u):=by
 unfold yR
 rw [pu,dw]
theorem zs3(u:N2):ar (Bb u)=sZ*(ar u*ar u):=by
 unfold Bb
 rw [dw,dw];rfl
theorem zv7(u:N2):sf (ar (di (mE u))):=by
 cases hI:mpI u with
 | true=>rw [zdW hI];exact Ja.1 hI
 | false=>
  have hn:¬sf (ar (di (Mv u))):=fun h=>by rw [Ja.2 h] at hI;cases hI
  have hT:yR u≠(0,0):=fun h=>hn (by rw [zCB h];exact zs9)
  have hT2:ar (yR u)≠0:=Ti (zl5 u) hT
  have h1:=znG (zrv hT)
  have h2:=bs hT2
  rw [zal u] at h2
  rw [zal u] at h1
  rw [Bo] at hn
  rw [zdX hI,Bo,dw]
  exact Xn (zs3 u) (WH h1 h2) hn
theorem zb4(x y:Nat):ar (EZ true x,EZ true y)=-ar (x,y):=Quad.ext' (q_ x) (q_ y)
theorem zBT(x u:N2):ar (LU x u,LS x u)*ar (LU x u,LS x u)=ar (kt (di x),kq (di x))*ar (kt (di x),kq (di x)):=by
 have hx:LU x u=EZ (rtB x u) (kt (di x)):=rfl
 have hy:LS x u=EZ (rtB x u) (kq (di x)):=rfl
 rw [hx,hy]
 cases rtB x u with
 | true=>
  rw [zb4,gk,lM,bm]
 | false=>rfl
theorem zv8(u:N2):ar (LU (mE u) u,LS (mE u) u)*ar (LU (mE u) u,LS (mE u) u)=rD (ar (mE u)):=by
 rw [zBT,←Bo]
 exact rv (m9 (zv7 u))
def tm{R:Type}[Ops R](x:R):List R→R
 | []=>0
 | c::l=>tm x l*x+c
def ZQ{R:Type}[Ops R]:List R→List R→List R
 | [],m=>m
 | l,[]=>l
 | a::l,b::m=>(a+b)::ZQ l m
def zch{R:Type}[Ops R](c:R)(l:List R):List R:=l.map fun a=>c*a
def oT{R:Type}[Ops R]:List R→List R→List R
 | [],_=>[]
 | a::l,m=>ZQ (zch a m) (0::oT l m)
section
variable {R:Type}[CRing R](x:R)
theorem Vk:∀ l m:List R,tm x (ZQ l m)=tm x l+tm x m:=by
 intro l
 induction l with
 | nil=>intro m;show tm x m=0+tm x m;rw [bG]
 | cons a l ih=>
  intro m
  cases m with
  | nil=>show tm x (a::l)=tm x (a::l)+0;rw [add_zero]
  | cons b m=>
   show tm x (ZQ l m)*x+(a+b)=(tm x l*x+a)+(tm x m*x+b)
   rw [ih m]
   exact ak (aZ [tm x l,tm x m,x,a,b]) ((x0+x1)*x2+(x3+x4)) (x0*x2+x3+(x1*x2+x4)) (by decide +kernel)
theorem Vj(c:R)(l:List R):tm x (zch c l)=c*tm x l:=by
 induction l with
 | nil=>show (0:R)=c*0;rw [aq]
 | cons a l ih=>
  show tm x (zch c l)*x+c*a=c*(tm x l*x+a)
  rw [ih,mul_add,mul_assoc]
theorem mG(l m:List R):tm x (oT l m)=tm x l*tm x m:=by
 induction l with
 | nil=>show (0:R)=0*tm x m;rw [aS]
 | cons a l ih=>
  show tm x (ZQ (zch a m) (0::oT l m))=(tm x l*x+a)*tm x m
  rw [Vk,Vj]
  show a*tm x m+(tm x (oT l m)*x+0)=_
  rw [ih]
  exact ak (aZ [tm x l,tm x m,x,a]) (x3*x1+(x0*x1*x2+0)) ((x0*x2+x3)*x1) (by decide +kernel)
end
theorem Ac:∀ l m:List F2,l.map dr=m.map dr→l=m:=by
 intro l
 induction l with
 | nil=>intro m h;cases m with
  | nil=>rfl
  | cons b m=>cases h
 | cons a l ih=>intro m h;cases m with
  | nil=>cases h
  | cons b m=>
   rw [List.map_cons,List.map_cons,List.cons.injEq] at h
   rw [fR h.1,ih m h.2]
def l1:List F2:=[ar ze6,ar ze5,ar ze4,ar ze3]
def l2:List F2:=[ar zeY,ar zeX,ar zeW]
def l3:List F2:=[ar zeV,ar zeU,ar zeT,ar zeS]
def l4:List F2:=[ar ze2,ar ze1,ar ze0,ar zeZ]
def lg:List F2:=[sB,sA,0,1]
theorem zwL:oT l4 l4=oT l2 (oT l2 l2):=Ac _ _ (by decide +kernel)
theorem zwM:oT lg (oT l3 l3)=ZQ (oT l1 (oT l1 l1)) (zch b2 (oT l2 (oT l2 l2))):=Ac _ _ (by decide +kernel)
theorem zan(x:N2):ar (mY x)=tm (ar x) l1:=by
 unfold mY
 simp only [pu,dw,tp];rfl
theorem FM(x:N2):ar (cR x)=tm (ar x) l2:=by
 unfold cR
 simp only [pu,dw,tp];rfl
theorem zae(x:N2):ar (mX x)=tm (ar x) l3:=by
 unfold mX
 simp only [pu,dw,tp];rfl
theorem Wp(x:N2):ar (c6 x)=tm (ar x) l4:=by
 unfold c6
 simp only [pu,dw,tp];rfl
theorem zwW(x:F2):tm x lg=rD x:=by
 show (((0*x+1)*x+0)*x+sA)*x+sB=_
 exact TY _ _ _
theorem YE{g f1 f2 f3 f4 i2 i4 y b:F2}(hy:y*y=g)(h2:f2*i2=1)(h4:f4*i4=1)(e4:f4*f4=f2*(f2*f2))(e3:g*(f3*f3)=f1*(f1*f1)+b*(f2*(f2*f2))):
  y*(f3*i4)*(y*(f3*i4))=f1*i2*(f1*i2)*(f1*i2)+b:=by
 have hi:i4*i4=i2*(i2*i2):=by
  have a1:(f4*f4)*(i4*i4)=1:=by
   have e:(f4*f4)*(i4*i4)=(f4*i4)*(f4*i4):=ak (aZ [f4,i4]) (x0*x0*(x1*x1)) (x0*x1*(x0*x1)) (by decide +kernel)
   rw [e,h4,mul_one]
  have a2:(f4*f4)*(i2*(i2*i2))=1:=by
   have e:(f2*(f2*f2))*(i2*(i2*i2))=(f2*i2)*((f2*i2)*(f2*i2)):=ak (aZ [f2,i2]) (x0*(x0*x0)*(x1*(x1*x1))) (x0*x1*(x0*x1*(x0*x1))) (by decide +kernel)
   rw [e4,e,h2,mul_one,mul_one]
  exact DG a1 a2
 have e:y*(f3*i4)*(y*(f3*i4))=y*y*(f3*f3)*(i4*i4):=ak (aZ [y,f3,i4]) (x0*(x1*x2)*(x0*(x1*x2))) (x0*x0*(x1*x1)*(x2*x2)) (by decide +kernel)
 have e2:(f1*(f1*f1)+b*(f2*(f2*f2)))*(i2*(i2*i2))=f1*i2*(f1*i2)*(f1*i2)+b*(f2*i2*(f2*i2*(f2*i2))):=
  ak (aZ [f1,b,f2,i2]) ((x0*(x0*x0)+x1*(x2*(x2*x2)))*(x3*(x3*x3))) (x0*x3*(x0*x3)*(x0*x3)+x1*(x2*x3*(x2*x3*(x2*x3)))) (by decide +kernel)
 rw [e,hy,e3,hi,e2,h2,mul_one,mul_one,mul_one]
structure OnS(p:P2):Prop where
 on:On b2 (ιP2 p)
theorem zwK{x y:N2}(h:ar y*ar y=rD (ar x)):OnS (Ff x y):=by
 constructor
 cases hb:Be x with
 | true=>rw [Rv hb];trivial
 | false=>
  rw [Rw hb]
  have JE:(decide (cR x=(0,0)) || decide (c6 x=(0,0)))=false:=hb
  rw [Bool.or_eq_false_iff] at JE
  have n2:cR x≠(0,0):=of_decide_eq_false JE.1
  have n4:c6 x≠(0,0):=of_decide_eq_false JE.2
  have m2:=Ti (by unfold cR;exact Kz _ _) n2
  have m4:=Ti (by unfold c6;exact Kz _ _) n4
  have g2:=bs m2
  have g4:=bs m4
  show ar (Bd x y)*ar (Bd x y)=ar (zf x)*ar (zf x)*ar (zf x)+b2
  have eX:ar (zf x)=ar (mY x)*inv (ar (cR x)):=by
   unfold zf
   rw [dw,ra]
  have eY:ar (Bd x y)=ar y*(ar (mX x)*inv (ar (c6 x))):=by
   unfold Bd
   rw [dw,dw,ra]
  rw [eX,eY]
  refine YE h g2 g4 ?_ ?_
  ·rw [FM,Wp,←mG,←mG,←mG,zwL]
  ·rw [zan,FM,zae,←zwW,←mG,←mG,←mG,←mG,←mG,←mG,←Vj,←Vk,zwM]
theorem zlw{x y:N2}{P:P2}(h:ar y*ar y=rD (ar x))(hP:P=Ff x y):OnS P:=by rw [hP];exact zwK h
theorem sG(u:N2):OnS (ib u):=zlw (zv8 u) (by unfold ib;kernel_rfl)
theorem zlx{U V S:P2}(hU:OnS U)(hV:OnS V)(hS:S=cS (padd (ιP2 U) (ιP2 V))):OnS S:=⟨by rw [hS,jN];exact fL ic hU.on hV.on⟩
theorem LO(u v:N2):OnS (Gg u v):=zlx (sG u) (sG v) (by unfold Gg;rfl)
theorem zhM{S Q:P2}(h:OnS S)(hQ:Q=(jJ S qO).1):Q=cS (smul qO (ιP2 S)):=by
 rw [hQ,wQ ((fM _).2 h.on)]
theorem zot{S Q:P2}(h:OnS S)(hQ:Q=(jJ S qO).1):Tor b2 aO (ιP2 Q):=by
 rw [zhM h hQ,jN]
 exact Sz h.on
theorem LN(u v:N2):ku u v=(jJ (Gg u v) qO).1:=by
 unfold ku Zy;rfl
theorem zcb(u v:N2):Tor b2 aO (ιP2 (ku u v)):=zot (LO u v) (LN u v)
def nxL(l:List Int):Int:=nz (nz (nz (zl8 (l.getD 1 0) 17 19 10) (l.getD 6 0)) (zl8 (l.getD 14 0) 7 18 3)) (l.getD 15 0)
def ZX:Nat→List Int→List Int
 | 0,l=>l
 | n+1,l=>ZX n (nxL l::l)
def tg(f:Nat→Int):Nat→List Int
 | 0=>[]
 | k+1=>f k::tg f k
theorem vR(f:Nat→Int):∀ k i,i<k→(tg f k).getD i 0=f (k-1-i):=by
 intro k
 induction k with
 | zero=>intro i h;omega
 | succ k ih=>
  intro i h
  cases i with
  | zero=>rfl
  | succ i=>
   show (tg f k).getD i 0=_
   rw [ih i (by omega)]
   congr 1;omega
theorem C4{f g:Nat→Int}:∀ k,(∀ i,i<k→f i=g i)→tg f k=tg g k:=by
 intro k
 induction k with
 | zero=>intro _;rfl
 | succ k ih=>intro h;show f k::_=g k::_;rw [h k (by omega),ih fun i hi=>h i (by omega)]
theorem zlM(f:Nat→Int)(k:Nat)(h:16≤k):nxL (tg f k)=nxI f k:=by
 unfold nxL nxI
 rw [vR f k 1 (by omega),vR f k 6 (by omega),vR f k 14 (by omega),vR f k 15 (by omega)]
 have e1:k-1-1=k-2:=by omega
 have e2:k-1-6=k-7:=by omega
 have e3:k-1-14=k-15:=by omega
 have e4:k-1-15=k-16:=by omega
 rw [e1,e2,e3,e4]
theorem zck(m:Nat→Int)(n:Nat):tg (pK m (n+1)) (16+n+1)=nxL (tg (pK m n) (16+n))::tg (pK m n) (16+n):=by
 show pK m (n+1) (16+n)::tg (pK m (n+1)) (16+n)=_
 have h1:pK m (n+1) (16+n)=nxI (pK m n) (16+n):=by
  show upd (pK m n) (16+n) (nxI (pK m n) (16+n)) (16+n)=_
  unfold upd;rw [if_pos rfl]
 rw [h1,zlM _ _ (by omega),C4 (16+n) fun i hi=>?_]
 show upd (pK m n) (16+n) (nxI (pK m n) (16+n)) i=_
 unfold upd;rw [if_neg (by omega)]
theorem zkO:∀ n j l,ZX (n+j) l=ZX j (ZX n l):=by
 intro n
 induction n with
 | zero=>intro j l;rw [aay];rfl
 | succ n ih=>
  intro j l
  rw [show n+1+j=(n+j)+1 by omega]
  show ZX (n+j) (nxL l::l)=ZX j (ZX n (nxL l::l))
  exact ih j _
theorem zcj(n:Nat)(l:List Int):ZX (n+1) l=nxL (ZX n l)::ZX n l:=by
 rw [zkO n 1];rfl
theorem zux(m:Nat→Int):∀ n,ZX n (tg (pK m 0) 16)=tg (pK m n) (16+n):=by
 intro n
 induction n with
 | zero=>rfl
 | succ n ih=>rw [zcj,ih,←zck,Nat.add_assoc]
def rdL(k w a b c d e f g h:Int):List Int:=
 (fun t1 t2=>[nz t1 t2,a,b,c,nz d t1,e,f,g]) (nz (nz (nz (nz h (zpb e 6 11 25)) (Eng.bits .xor .u32 g (Eng.bits .and .u32 e (Eng.bits .xor .u32 f g)))) k) w)
  (nz (zpb a 2 13 22) (Eng.bits .or .u32 (Eng.bits .and .u32 a b) (Eng.bits .and .u32 c (Eng.bits .or .u32 a b))))
def rnL(k w:Int):List Int→List Int
 | [a,b,c,d,e,f,g,h]=>rdL k w a b c d e f g h
 | l=>l
def QT:List Int→List Int→List Int→List Int
 | k::ks,w::ws,s=>QT ks ws (rnL k w s)
 | _,_,s=>s
def l8(s:Nat→Int):List Int:=[s 0,s 1,s 2,s 3,s 4,s 5,s 6,s 7]
theorem zuJ(k w:Int)(s:Nat→Int):rnL k w (l8 s)=l8 (rnI k w s):=rfl
theorem zk0(s:Nat→Int)(kf wf:Nat→Int):∀ n j,QT (bn kf j n) (bn wf j n) (l8 (Nat.rec s (fun i x=>rnI (kf i) (wf i) x) j:Nat→Int))=l8 (Nat.rec s (fun i x=>rnI (kf i) (wf i) x) (j+n):Nat→Int):=by
 intro n
 induction n with
 | zero=>intro j;rfl
 | succ n ih=>
  intro j
  have h1:QT (bn kf j (n+1)) (bn wf j (n+1)) (l8 (Nat.rec s (fun i x=>rnI (kf i) (wf i) x) j:Nat→Int))=QT (bn kf (j+1) n) (bn wf (j+1) n) (l8 (Nat.rec s (fun i x=>rnI (kf i) (wf i) x) (j+1):Nat→Int)):=by
   show QT (bn kf (j+1) n) (bn wf (j+1) n) (rnL (kf j) (wf j) (l8 _))=_
   rw [zuJ]
  rw [h1,ih (j+1),show j+1+n=j+(n+1) by omega]
theorem zcG(w s:Nat→Int):∀ n,Iz w s n=Nat.rec s (fun i x=>rnI (jE Dv i) (w i) x) n:=by
 intro n
 induction n with
 | zero=>rfl
 | succ n ih=>show rnI (jE Dv n) (w n) (Iz w s n)=_;rw [ih]
theorem zmt:bn (jE Dv) 0 64=Dv:=by decide +kernel
theorem zk2(f:Nat→Int):∀ k,(tg f k).reverse=bn f 0 k:=by
 have h:∀ k j,bn f j (k+1)=bn f j k++[f (j+k)]:=by
  intro k
  induction k with
  | zero=>intro j;rfl
  | succ k ih=>
   intro j
   show f j::bn f (j+1) (k+1)=f j::(bn f (j+1) k++[f (j+(k+1))])
   rw [ih (j+1),show j+1+k=j+(k+1) by omega]
 intro k
 induction k with
 | zero=>rfl
 | succ k ih=>show (f k::tg f k).reverse=_;rw [List.reverse_cons,ih,h,aay]
def zsP:List Int→List Int→List Int
 | a::l,b::m=>nz a b::zsP l m
 | _,_=>[]
def PB(m:List Int):List Int:=tg (wdI fun i=>m.getD i 0) 16
def stL(h m:List Int):List Int:=zsP (QT Dv (ZX 48 (PB m)).reverse h) h
theorem Wu{f g:Nat→Int}{t:Nat}(h:∀ i,i<64→f i=g i)(ht:t<16):wdI f t=wdI g t:=by
 unfold wdI
 rw [h _ (by omega),h _ (by omega),h _ (by omega),h _ (by omega)]
theorem KT(m:Nat→Int)(L:List Int)(h:∀ i,i<64→m i=L.getD i 0):PB L=tg (pK m 0) 16:=by
 unfold PB
 refine C4 16 fun i hi=>?_
 show wdI (fun i=>L.getD i 0) i=if i<16 then wdI m i else 0
 rw [if_pos hi]
 exact (Wu h hi).symm
theorem ztP(h m:Nat→Int)(L:List Int)(hm:∀ i,i<64→m i=L.getD i 0):stL (l8 h) L=l8 (Cr h m):=by
 unfold stL
 rw [KT m L hm,zux,zk2,←zmt]
 have e:=zk0 h (jE Dv) (pK m 48) 64 0
 have e2:QT (bn (jE Dv) 0 64) (bn (pK m 48) 0 (16+48)) (l8 h)=l8 (Iz (pK m 48) h 64):=by
  rw [zcG];exact e
 rw [e2]
 rfl
theorem zwl{f:Nat→Int}{l:List Int}(h:l8 f=l){i:Nat}(hi:i<8):f i=l.getD i 0:=by
 rw [←h]
 match i,hi with
 | 0,_=>rfl
 | 1,_=>rfl
 | 2,_=>rfl
 | 3,_=>rfl
 | 4,_=>rfl
 | 5,_=>rfl
 | 6,_=>rfl
 | 7,_=>rfl
theorem Ld(h g:Nat→Int)(L:List Int)(hm:∀ i,i<64→g i=L.getD i 0):l8 (Cp h g)=stL (l8 h) L:=by
 unfold Cp
 rw [←ztP _ g L hm]
 rfl
def dgL(h:List Int):List Int:=bn (zgK fun i=>h.getD i 0) 0 32
theorem F0:∀ {f g:Nat→Int} k j,(∀ i,j≤i→i<j+k→f i=g i)→bn f j k=bn g j k:=by
 intro f g k
 induction k with
 | zero=>intro j _;rfl
 | succ k ih=>
  intro j h
  simp only [bn]
  rw [h j (by omega) (by omega),ih (j+1) fun i h1 h2=>h i (by omega) (by omega)]
theorem zGy:l8 bgF=[0x6a09e667,0xbb67ae85,0x3c6ef372,0xa54ff53a,0x510e527f,0x9b05688c,0x1f83d9ab,0x5be0cd19]:=rfl
theorem zj9{n:Nat}{f:Nat→Int}(hn:dl n=128){L1 L2 H1 H2 D:List Int}(h1:∀ i,i<64→lk n f i=L1.getD i 0)(h2:∀ i,i<64→lk n f (64+i)=L2.getD i 0)
  (e1:stL [0x6a09e667,0xbb67ae85,0x3c6ef372,0xa54ff53a,0x510e527f,0x9b05688c,0x1f83d9ab,0x5be0cd19] L1=H1) (e2:stL H1 L2=H2) (e3:dgL H2=D):bn (lf n f) 0 32=D:=by
 have a1:l8 (hS (lk n f) 1)=H1:=by
  show l8 (Cp bgF fun i=>lk n f (64*0+i))=H1
  rw [Ld _ _ L1 (fun i hi=>by rw [Nat.mul_zero,aay];exact h1 i hi),zGy];exact e1
 have a2:l8 (hS (lk n f) 2)=H2:=by
  show l8 (Cp (hS (lk n f) 1) fun i=>lk n f (64*1+i))=H2
  rw [Ld _ _ L2 (fun i hi=>by rw [Nat.mul_one];exact h2 i hi),a1];exact e2
 unfold lf
 rw [hn,←e3]
 unfold dgL
 refine F0 32 0 fun i _ hi=>?_
 unfold zgK
 rw [show (128:Nat)/64=2 from rfl,zwl a2 (show i/4<8 by omega)]
def bgL:List Int:=[0x6a09e667,0xbb67ae85,0x3c6ef372,0xa54ff53a,0x510e527f,0x9b05688c,0x1f83d9ab,0x5be0cd19]
theorem HY{n:Nat}{f:Nat→Int}(hn:dl n=128){H1 H2 D:List Int}(e1:stL bgL (bn (lk n f) 0 64)=H1)(e2:stL H1 (bn (fun i=>lk n f (64+i)) 0 64)=H2)(e3:dgL H2=D):bn (lf n f) 0 32=D:=
 zj9 hn (L1:=bn (lk n f) 0 64) (L2:=bn (fun i=>lk n f (64+i)) 0 64) (fun i hi=>by rw [j1 64 0 i hi,aay]) (fun i hi=>by rw [j1 64 0 i hi,aay]) e1 e2 e3
theorem TG{A:Nat→Int}{D:List Int}(h:bn A 0 32=D){i:Nat}(hi:i<32):A i=jE D i:=by
 unfold jE
 rw [←h,j1 32 0 i hi,aay]
theorem zvc{A B:Nat→Int}{DA DB:List Int}(hA:bn A 0 32=DA)(hB:bn B 0 32=DB)(k:Int):th A B k=th (jE DA) (jE DB) k:=by
 have e:bn (fun i=>Eng.bits .xor .u8 (B i) (A i)) 0 32=bn (fun i=>Eng.bits .xor .u8 (jE DB i) (jE DA i)) 0 32:=F0 32 0 fun i _ hi=>by
  show Eng.bits .xor .u8 (B i) (A i)=Eng.bits .xor .u8 (jE DB i) (jE DA i)
  rw [TG hA (by omega),TG hB (by omega)]
 unfold th
 rw [e]
theorem ml{A B:Nat→Int}{DA DB:List Int}(hA:bn A 0 32=DA)(hB:bn B 0 32=DB)(k:Int){H1 H2 D:List Int}(e1:stL bgL (bn (lk 77 (qj (th (jE DA) (jE DB) k))) 0 64)=H1)
  (e2:stL H1 (bn (fun i=>lk 77 (qj (th (jE DA) (jE DB) k)) (64+i)) 0 64)=H2) (e3:dgL H2=D):bn (lf (fO (th A B k)) (qj (th A B k))) 0 32=D:=by
 rw [Hr,zvc hA hB k]
 exact HY (by decide +kernel) e1 e2 e3
theorem nX{X:Nat→Nat→Int}(k:Nat){D1 D2:List Int}(h1:bn (X (2*k)) 0 32=D1)(h2:bn (X (2*k+1)) 0 32=D2){U:Nat}(hU:eo (jE (D1++(D2++[]))) 64%pw 8%pN=U):kP X k=U:=by
 rw [←hU,←h1,←h2];rfl
def zz:List Int:=bn (fun _=>0) 0 32
def dA0:List Int:=[11,155,51,249,122,240,223,159,57,39,197,79,80,101,28,133,6,25,28,24,202,164,111,161,26,220,225,202,39,143,45,99]
def c9:Nat→Int:=tW true 0 (fun _=>0)
theorem tA0:bn c9 0 32=dA0:=HY (n:=fO (IL true 0 (fun _=>0))) (f:=qj (IL true 0 (fun _=>0))) (H1:=[3663108286,398046313,1647531929,2006957770,2363872401,3235013187,3137272298,406301144]) (H2:=[194720761,2062606239,958907727,1348803717,102308888,3399774113,450683338,663694691]) (by decide +kernel) (by decide +kernel) (by decide +kernel) (by decide +kernel)
def zsp:List Int:=[29,96,45,207,35,29,207,172,47,130,217,15,251,69,7,244,56,4,65,237,116,229,37,6,73,128,26,131,75,63,107,29]
theorem zq4:bn (iL c9 0) 0 32=zsp:=ml (A:=c9) (B:=fun _=>0) (DB:=zz) tA0 rfl ((1:Nat):Int) (H1:=[685887298,2022973167,1123336306,1566914829,1671698509,2844912670,1417270904,442412853]) (H2:=[492842447,589156268,797104399,4215605236,939803117,1961174278,1233132163,1262447389]) (by decide +kernel) (by decide +kernel) (by decide +kernel)
def zso:List Int:=[156,94,249,34,123,148,68,76,142,192,97,244,106,114,163,98,160,105,121,77,11,69,137,12,215,235,9,46,135,194,14,172]
theorem zq3:bn (iL c9 1) 0 32=zso:=ml (A:=c9) (B:=iL c9 0) (DB:=zsp) tA0 zq4 ((2:Nat):Int) (H1:=[3389585518,3863354105,995353000,2163292981,731660332,456213494,2348676608,48301544]) (H2:=[2623469858,2073314380,2394972660,1785897826,2691266893,189106444,3622504750,2277641900]) (by decide +kernel) (by decide +kernel) (by decide +kernel)
def zsn:List Int:=[99,216,138,84,240,15,191,147,95,162,6,129,221,71,4,177,227,19,136,219,161,14,95,47,54,193,173,38,208,74,64,72]
theorem zq2:bn (iL c9 2) 0 32=zsn:=ml (A:=c9) (B:=iL c9 1) (DB:=zso) tA0 zq3 ((3:Nat):Int) (H1:=[3893846574,1755841787,2250717454,1823937615,2821934417,2457265169,3135999920,2130733847]) (H2:=[1675135572,4027563923,1604454017,3712418993,3809708251,2702073647,918662438,3494527048]) (by decide +kernel) (by decide +kernel) (by decide +kernel)
def zsm:List Int:=[38,93,130,58,114,70,41,104,222,15,203,202,205,130,174,165,76,218,192,8,191,153,37,5,126,1,58,197,159,127,83,227]
theorem zq1:bn (iL c9 3) 0 32=zsm:=ml (A:=c9) (B:=iL c9 2) (DB:=zsn) tA0 zq2 ((4:Nat):Int) (H1:=[455220675,3581168111,2876453920,3094588174,3489922056,2499355519,1147738593,3848185289]) (H2:=[643662394,1917200744,3725577162,3447893669,1289404424,3214484741,2114009797,2675921891]) (by decide +kernel) (by decide +kernel) (by decide +kernel)
def zsl:List Int:=[159,111,25,227,106,200,102,234,148,27,113,247,126,26,142,12,54,126,66,155,153,12,131,152,156,197,9,240,85,39,94,10]
theorem zq0:bn (iL c9 4) 0 32=zsl:=ml (A:=c9) (B:=iL c9 3) (DB:=zsm) tA0 zq1 ((5:Nat):Int) (H1:=[3992638314,714898982,3551535058,757039917,4202791097,817186232,4222783897,1290745539]) (H2:=[2674858467,1791518442,2484826615,2115669516,914244251,2567734168,2630158832,1428643338]) (by decide +kernel) (by decide +kernel) (by decide +kernel)
def zsk:List Int:=[98,84,17,146,6,53,164,10,224,125,125,198,84,110,209,35,214,233,78,187,21,0,183,82,38,62,44,123,51,154,7,84]
theorem zqZ:bn (iL c9 5) 0 32=zsk:=ml (A:=c9) (B:=iL c9 4) (DB:=zsl) tA0 zq0 ((6:Nat):Int) (H1:=[3806298060,755869343,646982705,773710630,2238522770,2461686169,240074183,4095999911]) (H2:=[1649676690,104178698,3766320582,1416548643,3605614267,352368466,641608827,865732436]) (by decide +kernel) (by decide +kernel) (by decide +kernel)
def zsj:List Int:=[41,164,196,86,87,227,171,85,93,205,253,37,208,152,22,20,170,86,170,86,240,251,83,137,199,175,255,219,168,230,72,213]
theorem zqY:bn (iL c9 6) 0 32=zsj:=ml (A:=c9) (B:=iL c9 5) (DB:=zsk) tA0 zqZ ((7:Nat):Int) (H1:=[1497364335,1263001050,991095297,319647667,3846415680,1943976232,3575149623,2147337529]) (H2:=[698664022,1474538325,1573780773,3499628052,2857806422,4043002761,3350200283,2833664213]) (by decide +kernel) (by decide +kernel) (by decide +kernel)
def zE0:List Int:=[86,16,79,150,180,38,101,247,215,216,90,50,238,97,104,68,230,161,34,158,86,67,151,154,234,117,197,236,64,240,183,218]
theorem zBk:bn (iL c9 7) 0 32=zE0:=ml (A:=c9) (B:=iL c9 6) (DB:=zsj) tA0 zqY ((8:Nat):Int) (H1:=[2799285619,2586327781,1939097132,1919824768,2338879247,285892554,853327109,1118678022]) (H2:=[1443909526,3022415351,3621280306,3999361092,3869319838,1447270298,3933586924,1089517530]) (by decide +kernel) (by decide +kernel) (by decide +kernel)
theorem zBs:kP (iL c9) 0=29049427705470064014372021539200946731799999421508007424058975406727614446045474101630850618806446883308850416212:=nX 0 zq4 zq3 (by decide +kernel)
theorem zBr:kP (iL c9) 1=1902536696277558307181953186589646430378426314321017542292852776971493752529393071590138748612350933458183942594017:=nX 1 zq2 zq1 (by decide +kernel)
theorem zBq:kP (iL c9) 2=1469261503385240180838932949518429345203566614064503355039321556894749047984560599095216903263030533722651807245292:=nX 2 zq0 zqZ (by decide +kernel)
theorem zBp:kP (iL c9) 3=572729459443939985969475830277770585760085104819073756927946494897811696192971610777692627017094870085003613417370:=nX 3 zqY zBk (by decide +kernel)
def dA1:List Int:=[99,159,51,142,229,89,184,152,187,122,199,214,41,20,223,160,47,182,255,32,46,153,42,145,113,77,146,197,185,141,83,37]
def nq:Nat→Int:=tW false 1 (fun i=>[(1:Int)].getD i 0)
theorem tA1:bn nq 0 32=dA1:=HY (n:=fO (IL false 1 (fun i=>[(1:Int)].getD i 0))) (f:=qj (IL false 1 (fun i=>[(1:Int)].getD i 0))) (H1:=[3663108286,398046313,1647531929,2006957770,2363872401,3235013187,3137272298,406301144]) (H2:=[1671377806,3847862424,3145385942,689233824,800522016,781789841,1900909253,3113046821]) (by decide +kernel) (by decide +kernel) (by decide +kernel) (by decide +kernel)
def zsi:List Int:=[172,196,143,216,93,55,167,234,92,34,187,65,118,194,120,75,129,34,70,189,147,236,57,148,105,105,69,217,57,240,197,176]
theorem zqX:bn (iL nq 0) 0 32=zsi:=ml (A:=nq) (B:=fun _=>0) (DB:=zz) tA1 rfl ((1:Nat):Int) (H1:=[1529352122,1148877848,602350505,551551755,1577162572,1607723406,1091791844,4079162326]) (H2:=[2898563032,1563928554,1545780033,1992456267,2166507197,2481731988,1768506841,972080560]) (by decide +kernel) (by decide +kernel) (by decide +kernel)
def zsh:List Int:=[205,74,90,230,143,17,185,42,110,244,83,215,200,51,34,0,150,62,18,252,162,65,33,98,162,69,49,243,239,168,149,119]
theorem zqW:bn (iL nq 1) 0 32=zsh:=ml (A:=nq) (B:=iL nq 0) (DB:=zsi) tA1 zqX ((2:Nat):Int) (H1:=[2538518553,3256770290,2908121186,2550702589,3902447703,3026390786,975262710,2065838846]) (H2:=[3444202214,2400303402,1861506007,3358794240,2520650492,2722177378,2722443763,4020802935]) (by decide +kernel) (by decide +kernel) (by decide +kernel)
def zsg:List Int:=[71,127,122,126,44,118,85,73,116,224,171,82,198,47,212,187,176,131,111,174,236,135,166,93,148,203,37,80,230,32,78,65]
theorem zqV:bn (iL nq 2) 0 32=zsg:=ml (A:=nq) (B:=iL nq 1) (DB:=zsh) tA1 zqW ((3:Nat):Int) (H1:=[2141986540,4167159894,2884581667,3735252483,3237477023,3567592711,711891257,2841422352]) (H2:=[1199536766,745952585,1960880978,3325023419,2961403822,3968312925,2496341328,3860876865]) (by decide +kernel) (by decide +kernel) (by decide +kernel)
def zsf:List Int:=[79,235,249,76,28,13,126,212,210,216,250,95,253,77,137,146,118,104,221,16,248,81,207,84,98,31,86,43,149,207,32,95]
theorem zqU:bn (iL nq 3) 0 32=zsf:=ml (A:=nq) (B:=iL nq 2) (DB:=zsg) tA1 zqV ((4:Nat):Int) (H1:=[2120673748,926618222,2460750860,2874800059,3968856072,2737973332,2112313552,502256918]) (H2:=[1340864844,470646484,3537435231,4249717138,1986583824,4166111060,1646220843,2513379423]) (by decide +kernel) (by decide +kernel) (by decide +kernel)
def zse:List Int:=[223,227,50,250,15,34,222,163,145,6,127,73,52,61,225,234,173,140,164,57,95,78,184,171,30,44,232,202,209,77,255,101]
theorem zqT:bn (iL nq 4) 0 32=zse:=ml (A:=nq) (B:=iL nq 3) (DB:=zsf) tA1 zqU ((5:Nat):Int) (H1:=[2694147926,4265223955,3662057607,1559274500,1227888533,3722996420,3247454754,3562026426]) (H2:=[3756208890,253943459,2433122121,876470762,2911675449,1598994603,506259658,3511549797]) (by decide +kernel) (by decide +kernel) (by decide +kernel)
def zsd:List Int:=[146,111,139,86,0,79,73,24,74,2,92,149,245,6,19,19,253,199,186,131,182,11,23,83,164,35,110,15,15,247,252,137]
theorem zqS:bn (iL nq 5) 0 32=zsd:=ml (A:=nq) (B:=iL nq 4) (DB:=zse) tA1 zqT ((6:Nat):Int) (H1:=[3629053166,453123984,2307143118,286023338,2649634115,3871450852,2819909775,2858560111]) (H2:=[2456783702,5196056,1241668757,4110816019,4257725059,3054180179,2753785359,267910281]) (by decide +kernel) (by decide +kernel) (by decide +kernel)
def zsc:List Int:=[116,229,20,238,181,205,109,141,218,136,254,4,121,30,47,177,164,113,191,184,176,235,137,218,143,81,221,77,12,188,225,177]
theorem zqR:bn (iL nq 6) 0 32=zsc:=ml (A:=nq) (B:=iL nq 5) (DB:=zsd) tA1 zqS ((7:Nat):Int) (H1:=[1445490459,4036553322,2175937980,3661812821,1143792194,1315596491,3621544990,3170672384]) (H2:=[1961170158,3050139021,3666411012,2032021425,2758918072,2968226266,2404506957,213705137]) (by decide +kernel) (by decide +kernel) (by decide +kernel)
def zEZ:List Int:=[241,37,116,157,60,9,170,31,11,113,243,12,11,184,134,78,176,228,241,168,206,64,180,164,6,171,84,172,185,158,200,4]
theorem zBj:bn (iL nq 7) 0 32=zEZ:=ml (A:=nq) (B:=iL nq 6) (DB:=zsc) tA1 zqR ((8:Nat):Int) (H1:=[565505705,3547900373,141067258,1871481693,2528409587,1301938489,2781486553,2205219465]) (H2:=[4045763741,1007266335,192017164,196642382,2967794088,3460347044,111891628,3114190852]) (by decide +kernel) (by decide +kernel) (by decide +kernel)
theorem zBo:kP (iL nq) 0=81430369995292892790304106256316947729427243046433498828751540538669501672178667841178534697249393353485551974805:=nX 0 zqX zqW (by decide +kernel)
theorem zBn:kP (iL nq) 1=1034620123887222799211151623974203871395665359228685269126364348424784409322132036032531151347713168730963501698558:=nX 1 zqV zqU (by decide +kernel)
theorem zBm:kP (iL nq) 2=3607922939825291997323471043728737534110379527842771286626063642240947134789402375305585583223497110967565341810295:=nX 2 zqT zqS (by decide +kernel)
theorem zBl:kP (iL nq) 3=3737383509801777508078526659645002172458227669881728670981428870758616428883996295021484468390254002932564673278255:=nX 3 zqR zBj (by decide +kernel)
end Sh
end Go.Proofs.YtcafpgpahbplaaaGreat
