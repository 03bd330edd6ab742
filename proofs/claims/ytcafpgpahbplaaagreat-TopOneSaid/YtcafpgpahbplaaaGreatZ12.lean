/-
 The proof, part 12 of 25.
-/
import Derived.Test.YtcafpgpahbplaaaGreatZ11
import Derived.Test.YtcafpgpahbplaaaGreatZ10
import Derived.Test.YtcafpgpahbplaaaGreatZ07
import Derived.Test.YtcafpgpahbplaaaGreatZ08
import Derived.Test.YtcafpgpahbplaaaGreatZ09
open Bool renaming and_eq_true->aaf,not_eq_true'->acx
open Go.Code renaming wp->aaT
open List renaming forall_mem_cons->aab,mem_cons_of_mem->aaa,mem_cons_self->aac
open Nat renaming div_eq_of_lt->abf,lt_of_lt_of_le->abk,mod_two_eq_zero_or_one->abF,pow_le_pow_right->adw
noncomputable section
set_option linter.unusedVariables false
set_option linter.unusedSimpArgs false
namespace Go.Proofs.YtcafpgpahbplaaaGreat
open Go Go.Eng Go.RowKit Go.Wd Go.Alg Go.Pr
abbrev SF:=dv×Pt F2
def ub(p:Pt F)(s:SF)(q:Pt F2):SF:=(s.1*Qf s.2 q p,padd s.2 q)
def qg(p:Pt F)(s:SF):SF:=(s.1*s.1*Qf s.2 s.2 p,padd s.2 s.2)
def E0(p:Pt F)(q:Pt F2)(i:Nat)(s:SF):SF:=match xF i with
 | true=>ub p (qg p s) q
 | false=>qg p s
def G3(p:Pt F)(q:Pt F2):Nat→SF→SF
 | 0,s=>s
 | i+1,s=>G3 p q i (E0 p q i s)
def xW(s:SM):SF:=(c_ s.1,ιP2 s.2)
theorem zaf(p:P1)(s:SM)(q:P2):xW (F4 p s q)=ub (bO p) (xW s) (ιP2 q):=by
 unfold xW F4 ub
 refine Prod.ext ?_ ?_
 ·show c_ (cH s.1 (cr (Qf (ιP2 s.2) (ιP2 q) (bO p))))=_
  unfold cH
  rw [bP,bP]
 ·show ιP2 (pj s.2 q)=_
  unfold pj
  rw [jN]
theorem Tj(p:P1)(s:SM):xW (FF p s)=qg (bO p) (xW s):=by
 unfold xW FF qg
 refine Prod.ext ?_ ?_
 ·show c_ (cH (cH s.1 s.1) (cr (Qf (ιP2 s.2) (ιP2 s.2) (bO p))))=_
  unfold cH
  rw [bP,bP,bP]
 ·show ιP2 (pj s.2 s.2)=_
  unfold pj
  rw [jN]
theorem Wo(p:P1)(q:P2)(i:Nat)(s:SM):xW (rH p q i s)=E0 (bO p) (ιP2 q) i (xW s):=by
 unfold rH E0
 cases xF i with
 | true=>rw [zaf,Tj]
 | false=>rw [Tj]
theorem zs4(p:P1)(q:P2):∀ i s,xW (Z0 p q i s)=G3 (bO p) (ιP2 q) i (xW s):=by
 intro i
 induction i with
 | zero=>intro s;rfl
 | succ i ih=>intro s;show xW (Z0 p q i (rH p q i s))=G3 _ _ i (E0 _ _ i (xW s));rw [ih,Wo]
def iO(p:Pt F)(q:Pt F2):dv:=(G3 p q 63 (1,q)).1
theorem KO(p:P1)(q:P2)(i:Nat):c_ (Z0 p q i (cr 1,cS (ιP2 q))).1=(G3 (bO p) (ιP2 q) i (1,ιP2 q)).1:=by
 have h:=zs4 p q i (cr 1,cS (ιP2 q))
 have e:xW (cr 1,cS (ιP2 q))=(1,ιP2 q):=Prod.ext (bP 1) (jN _)
 rw [e] at h
 exact congrArg Prod.fst h
theorem zam(p:P1)(q:P2):c_ (AB p q).1=iO (bO p) (ιP2 q):=by
 unfold AB iO
 exact KO p q 63
def Yl(xq yq:F2)(px py:F):Nat→List F2→dv→F2→F2→Option dv
 | 0,_,f,_,_=>some f
 | _+1,[],_,_,_=>none
 | i+1,l::ls,f,x,y=>match TC (l*(y+y)-(x*x+x*x+x*x)) && !(TC y) with
  | false=>none
  | true=>match xF i with
   | false=>Yl xq yq px py i ls (f*f*Rm l x y px py) (l*l-x-x) (l*(x-(l*l-x-x))-y)
   | true=>match ls with
    | []=>none
    | m::ms=>match TC (m*(xq-(l*l-x-x))-(yq-(l*(x-(l*l-x-x))-y))) && !(TC (xq-(l*l-x-x))) with
     | false=>none
     | true=>Yl xq yq px py i ms (f*f*Rm l x y px py*Rm m (l*l-x-x) (l*(x-(l*l-x-x))-y) px py) (m*m-(l*l-x-x)-xq) (m*((l*l-x-x)-(m*m-(l*l-x-x)-xq))-(l*(x-(l*l-x-x))-y))
theorem Xf{l x y:F2}(h:(TC (l*(y+y)-(x*x+x*x+x*x)) && !(TC y))=true):y≠0∧(x*x+x*x+x*x)*inv (y+y)=l:=by
 rw [aaf,acx,fq] at h
 have hy:y≠0:=fun e=>by have:=(fq y).2 e;rw [h.2] at this;cases this
 refine ⟨hy,?_⟩
 rw [←m5 h.1,mul_assoc,bs (zA ic hy),mul_one]
theorem Xg{m a b:F2}(h:(TC (m*a-b) && !(TC a))=true):a≠0∧b*inv a=m:=by
 rw [aaf,acx,fq] at h
 have hy:a≠0:=fun e=>by have:=(fq a).2 e;rw [h.2] at this;cases this
 refine ⟨hy,?_⟩
 rw [←m5 h.1,mul_assoc,bs hy,mul_one]
theorem Eg{l x y:F2}(h:(TC (l*(y+y)-(x*x+x*x+x*x)) && !(TC y))=true)(px py:F)(f:dv):qg (.aff px py) (f,.aff x y)=(f*f*Rm l x y px py,.aff (l*l-x-x) (l*(x-(l*l-x-x))-y)):=by
 obtain ⟨hy,hl⟩:=Xf h
 unfold qg
 dsimp only
 have hn:¬(y≠y∨y=0):=by rintro (e | e);exact e rfl;exact hy e
 rw [pG,eI,if_pos rfl,if_pos rfl,if_neg hn,if_neg hn,hl]
 rfl
theorem P_{m x y xq yq:F2}(h:(TC (m*(xq-x)-(yq-y)) && !(TC (xq-x)))=true)(px py:F)(f:dv):ub (.aff px py) (f,.aff x y) (.aff xq yq)=(f*Rm m x y px py,.aff (m*m-x-xq) (m*(x-(m*m-x-xq))-y)):=by
 obtain ⟨hx,hm⟩:=Xg h
 unfold ub
 dsimp only
 have hn:¬x=xq:=fun e=>hx (by rw [e,cL])
 rw [pG,eI,if_neg hn,if_neg hn,hm]
 rfl
theorem zma(xq yq:F2)(px py:F):∀ i ls f x y r,Yl xq yq px py i ls f x y=some r→(G3 (.aff px py) (.aff xq yq) i (f,.aff x y)).1=r:=by
 intro i
 induction i with
 | zero=>intro ls f x y r h;cases h;rfl
 | succ i ih=>
  intro ls f x y r h
  cases ls with
  | nil=>cases h
  | cons l ls=>
   unfold Yl at h
   split at h
   ·cases h
   ·rename_i h1
    show (G3 _ _ i (E0 _ _ i (f,.aff x y))).1=r
    unfold E0
    split at h
    ·rename_i hb
     rw [hb]
     show (G3 _ _ i (qg _ _)).1=r
     rw [Eg h1]
     exact ih _ _ _ _ _ h
    ·rename_i hb
     rw [hb]
     show (G3 _ _ i (ub _ (qg _ _) _)).1=r
     cases ls with
     | nil=>cases h
     | cons m ms=>
      dsimp only at h
      split at h
      ·cases h
      ·rename_i h2
       rw [Eg h1,P_ h2]
       exact ih _ _ _ _ _ h
def Yn:b9:=(((0x751557ccd0e568de8f2b6c9f8f0c3bcbd02d177144b44df610160b7a5c9df7b7084529642e3f9f6c6a0c093f01edb9a,0x3a018fa8cb36c23248e299ea03286248eeed1f2c477cfb32d68411a7a4c39c8741d2f067c4dd900046c11057db6c575),(0x687e3f086b7fe854eb89ec494de48b9e990f2ab5c5fe133e1208a380c74369889fb3d2a78177955e698be2dd2fb45c3,0x3acc6bf13ea3ac3b01a5c03abfef0c65cef58c07e598ffa21262310c5c2546736e1ee12c6dae45c57cf14fdb4e6267a),(0x7dda3a1efb947cc5d9b7061a85915bf24fb6353fe36d140edbff59fb68939a96ee5b7ab1a42c199edce862e308ff8f1,0x10cc233519fa1da957cef3a4a301bf377e55ec0d97992861f1b11d171adf7408eff43fd7b9da15f8b4457b89b4436c89)),((0x561a60b89349ab4c1588e00f947f89e0399f1db01e296680a8676d7a09c1aa0228137835f3785c862c07a51633e9827,0x942697638f329bab144afd26647be9054081e8cbded9967d18dc6743108dd74a3c9192e0144f5f2e49b3c2a6dcc8031),(0xb236d849561bab4b1f77b57cb239fea2be7fe053dad9633df74103a97aea745b282344eb89cefc69cef32172fd991ca,0xb72354a46c6ab3f59daa873619913479319807d21d60483fcac8615a4947d9e963d2162b242d34a16a3b267671044b2),(0xecae24d88e6a1c653c20e9a46d901d9cb46546b243182a91bfdfa4742a7e961ccf3ee8c5babca70e8635cfd91b9e4eb,0x19a1163b48107ce80131adee28ba723847b582239eb55a22663968b12bdbc72c03f16a1ccd75cc6e8b84f06847c637c6)))
def zfW:b9:=(((0x6be97656430a72bbddd2956af84b739f8abb1dc15e1abfd461b6e8450f45bca343f06c866221c965d6d06ac6eb21fb9,0x168f12763552999c495652cfccddcb22945426184855a20815b1763a7f0ae7cc09871f67d473f57e857be0867dd65ab3),(0x107727221dcb2fb68fa53e5c6380d55d477423701aba45b38c62fbd7c6d0b04aa5c642f478b44a8516b8ae48314d71f9,0x1781930be186b1c9604d6860d7fa6722b3aa7908761ff643cd3f71133ac3bea92e0e1e6d0dee35160762410a36a5808),(0x78b930cd2d5ad3b9b71607969d0d4d5a2d1417639651dd74b27fe1d0d09a97ff7ee1b4af9c7f67f19490eed12aefb70,0xef470ef7a657259b997edd40b7371eb34dba4afea1ce79893779a85683edabdae92cad020ca82cbea735373845221bb)),((0x727da4570d2feb481c847e5e498b5d01684324260c6fcd48164a7a47d6be22e00472b9b0a1109147081364dcbc4966c,0x167e86fdf01f1a103acffce274f15f76da2c4277c03bdd0df21a0303384fd44a9823832b02251c73653f8e88941f0822),(0x145e4616905624ea83de2d2364309b5b8575a4b1e9d283709c3699d761131a7e0ccdeff3a9fc4ce99cb5a2e3b9de7c6,0x85e479e64e98cfee90d8647e0841082aaec92385571fc83a4f68ed51b8edeffe676a0f80ccdd09a9a99961a1fd29c82),(0x1334ef8a76dfbceb0e836bc4507fc268e53914445405b0f9750b35a125cd4ab67bda7937f7c3de3aa2748fbb8a3305eb,0x152ab35cd1b00ea4b37fd8b6f9c3edc8fb2ecd385dbec5d2214ba3ba1a2c7161fa36d5a114226bf3b2637218140ef36b)))
def zy9:b9:=(((0x18373d939bdfb578fa74b763fc2c7fcde9a0cd2693308aef3c262a19eead3a9dd2f0eaaa105b43d0d12aea494e0b3b09,0xbf3c57a6cc7ade98e80874383b909812c14674b5bd941f1987f5f7c5d01c6448e8f1bcbe22dd807866d46fb8428ceed),(0xa4444012e18920251e69dfd4c05a5bce502fb51a8a5a9cc8d54f7cf8f51b98a9bc814776a8f005b27a29f5f210f782a,0x68929295ba90c75b62622cda15254367b6bb8b75afac003a0253c79c9945e17cfb610e84b60f52c5a3707020d0f2036),(0xa4dbf069716b9bcc9704b2520f6761291e498711a3bf4485a6d3cb56ed801add1e0cd28dd44ca8f6a34c0ce94d03595,0x7cbd6138db6da241d03db996e8febbf9e42dba1479544fe7e102fe6ec13774ba6dff647d682c9b9166ab11438a49680)),((0x381a1b6ca71f16c0affe49dbce06a512915bd65db0bc225ff119843788569f93bf5240d64343a76b705ba2597dce510,0x22674389bc1b06e4314bd0369084a1860d109221b9aa84af17c2e204af3936fb38843af6cc4e75f7f410ebd5454ed1d),(0x12745220cc0ba9404b311b98731373da12a9aa0bd7e60cb088e90d81198d14f7355d2738de761e222387fc4f1947cf52,0x84227f1738ba956dd2250ca12598791d8bafb493f20611a87274477726f5ff30d576896fd8aeed39162fe69494cc4be),(0x8bd6139437964915c6db1f70da0b5896f55c3fee6e6f87a413b3903c80dbc44a96e0ab17f18a1ac44864ac510636a50,0x84fbf706a05c1f9e7942742030a9917de3793b61faf1ff2fe098c18ac5374954e65ec10552daddb4ba4826744a74ea0)))
def zpg:b9:=(((0xf9a1fc1bef57daf38bba8de45ed67bc15afaaae5d3274e51841b4de24a13c8e221f40f847307b7ee9d92456111cee0b,0xd02cfd56c4c486d2aa02a25986ce4aa982143d819af937a19481f946c1e201128c5aa6f3068152c5ef95b27ea08ad82),(0x13acd54c3c60cb9d93bdfa7c94ad440b39d17498f44e37672d0d4bd205438bbb82994c3a3242f2dd5827008f79cea6e4,0xbce2c03effad10a41b4282b3b1c5c97a5d77e62929025979c1c14380a428a1159dc6ebede19fdd8c6710cdc84e0cf1),(0x1a7d7d9d6352550fa555c7257954ec0c228eca9da7da75d8996d448d55eb301f664ffb28d9e337c6828ca55437e841,0x811d7628e7eb087d666ede06f586655c50657450b650904dd7ede0302af710ce6a8fea41ba858974924ec27c11dea95)),((0x8f319bf97cf64140db145adb6b087eecaf93ac30159bb07c982f118b5f797931fcefc6477492a7f1cb85289140da5b3,0x19f77db0d99c5b711bc795a4cd0cd7a206d2acff76b010abf578bd66a3e318835fdc21057c4fbea15c4eedbe998c98f7),(0x44fcfc2d8f7e62b516c028589b7f4e43d0b2b3988cb3ce61a3cf7655a842cf295a008443330b3054ecd4af4cf5e7b2,0x9ff9f62bbb9548fbcae3b452c4be607163221473f734e209ab6f358652f4484014c7c2751deae70a8a8efcf02f67afa),(0x2c32efe8583ab2abf8564a13bd32cfdc9de1ea344433c720a6edb93a1b1c15f6aeed59822e7d9e2b95f263a235e421f,0x18a12e2d77a0519c548314abe08ca9670438d2c681bf329ec0eda81db3426dc91f92d62832fd550269641d23b7f373da)))
def zsL:b9:=(((0xad4bbef9b3132e31571aac400a6e30b271ff3ae6b5dad57c542a09cdc08cc7b2e1e9bd16bb39ad4b4fee9ad8cb8a6f6,0x165600d4ca026fb618ad0ed83bc90b257ab11becd1dd41e328f1701cf9371b959e4cf338e062a324b058882558901d00),(0x449a7197d783ada796f96167266653e72b3f29474cfc06bb5450b484c50f190731ec1954e22aea79cff5531c9883328,0x8b7270cc009d45673bcf919913ed02c9e126e5ba5c4551ae97fbbcd6ed0be734d2eed901ae927b4cf6db7b4a37fc63c),(0x17f85bb3ef1432948f7814797665399d5f4e46a9fbef76d7b4087770e477ed325b90fb733e940f9e73ad3ab2845ecae1,0xd00b827f93f8041208d263a7ce97e59fbd5a03f1ce145771a6aad9e1bee438079df90e68028edbf52b602820dc04fce)),((0x32063efacc8af4420f57b57c92fe62234ed1a6df204e451dcc065ef4849f42735b322d95a3ea163c00bfc330a689c44,0xb8eaca8f9b2f4aabd837df2f8dd16c647ec7e86e58d5b2691dbb27e63da309032a9316d92e5153090e1eb681304bdf9),(0x1765db652b8d3a407921dc72ba6bcc5a50716bd5c26d73a3dc21686fdc22d2bc57e571d336362cfd4c5ac17e3f7c2581,0xfcac87454bcd1292346e1b39390d269a844591ecd0726a4a13dfddab26f429e17996a610077c088241630cde2d2d62b),(0xaa7eb1b25b90d953a1618cc450c9724a311c74de7782bf8f122da73386a71b7b2b3c1695c384af23158c1628ccf246f,0x4bc1d11d15d1d345eb484a5c985f7528a05a60f53568096008f72bfacf901c8274c0ae898343ce895c484f374a1d299)))
def zEU:b9:=(((0x11619b45f61edfe3b47a15fac19442526ff489dcda25e59121d9931438907dfd448299a87dde3a649bdba96e84d54558,0x153ce14a76a53e205ba8f275ef1137c56a566f638b52d34ba3bf3bf22f277d70f76316218c0dfd583a394b8448d2be7f),(0x95668fb4a02fe930ed44767834c915b283b1c6ca98c047bd4c272e9ac3f3ba6ff0b05a93e59c71fba77bce995f04692,0x16deedaa683124fe7260085184d88f7d036b86f53bb5b7f1fc5e248814782065413e7d958d17960109ea006b2afdeb5f),(0x9c92cf02f3cd3d2f9d34bc44eee0dd50314ed44ca5d30ce6a9ec0539be7a86b121edc61839ccc908c4bdde256cd6048,0x111061f398efc2a97ff825b04d21089e24fd8b93a47e41e60eae7e9b2a38d54fa4dedced0811c34ce528781ab9e929c7)),((0x1ecfcf31c86257ab00b4709c33f1c9c4e007659dd5ffc4a735192167ce197058cfb4c94225e7f1b6c26ad9ba68f63bc,0x8890726743a1f94a8193a166800b7787744a8ad8e2f9365db76863e894b7a11d83f90d873567e9d645ccf725b32d26f),(0xe61c752414ca5dfd258e9606bac08daec29b3e2c57062669556954fb227d3f1260eedf25446a086b0844bcd43646c10,0xfe63f185f56dd29150fc498bbeea78969e7e783043620db33f75a05a0a2ce5c442beaff9da195ff15164c00ab66bdde),(0x10900338a92ed0b47af211636f7cfdec717b7ee43900eee9b5fc24f0000c5874d4801372db478987691c566a8c474978,0x1454814f3085f0e6602247671bc408bbce2007201536818c901dbd4d2095dd86c1ec8b888e59611f60a301af7776be3d)))
def zEQ:Nat→Nat→Nat→Int→Int→Int
 | 0,_,_,s,_=>s
 | n+1,a,b,s,t=>match b with
  | 0=>s
  | b+1=>zEQ n (b+1) (a%(b+1)) t (s-((a/(b+1):Nat):Int)*t)
def zNl(x:F):F:=φ ((zEQ 1000 x.val pN 1 0)%(pN:Int)).toNat
def zr9(z:F2):F2:=(fun n=>⟨z.a*n,-(z.b*n)⟩) (zNl (z.a*z.a+z.b*z.b))
def frc{α:Type}(z:F)(k:F→α):α:=match z.val with
 | 0=>k 0
 | n+1=>k (φ (n+1))
def Fw{α:Type}(z:F2)(k:F2→α):α:=frc z.a fun a=>frc z.b fun b=>k ⟨a,b⟩
def zxv{α:Type}(z:F6)(k:F6→α):α:=Fw z.a fun a=>Fw z.b fun b=>Fw z.c fun c=>k ⟨a,b,c⟩
def AM{α:Type}(z:dv)(k:dv→α):α:=zxv z.a fun a=>zxv z.b fun b=>k ⟨a,b⟩
theorem zxu{α:Type}(z:F)(k:F→α):frc z k=k z:=by
 unfold frc
 split
 ·rename_i h
  have e:z=0:=by rw [←cM z,h];exact Z.ext (by decide +kernel)
  rw [e]
 ·rename_i n h
  have e:=cM z
  rw [h] at e
  exact congrArg k e
theorem NL{α:Type}(z:dv)(k:dv→α):AM z k=k z:=by
 unfold AM zxv Fw
 simp only [zxu]
def slp(xq yq:F2):Nat→F2→F2→List F2
 | 0,_,_=>[]
 | i+1,x,y=>Fw ((x*x+x*x+x*x)*zr9 (y+y)) fun l=>Fw (l*l-x-x) fun x2=>Fw (l*(x-x2)-y) fun y2=>match xF i with
  | false=>l::slp xq yq i x2 y2
  | true=>Fw ((yq-y2)*zr9 (xq-x2)) fun m=>Fw (m*m-x2-xq) fun x3=>Fw (m*(x2-x3)-y2) fun y3=>l::m::slp xq yq i x3 y3
def Qo:List F2:=slp bx2 by2 63 bx2 by2
set_option maxRecDepth 100000 in
theorem zl9:(Yl bx2 by2 bx1 by1 63 Qo 1 bx2 by2).map cr=some Yn:=by decide +kernel
theorem MA:iO (bO dj) (ιP2 gI)=c_ Yn:=by
 have h:=zl9
 cases hr:Yl bx2 by2 bx1 by1 63 Qo 1 bx2 by2 with
 | none=>rw [hr] at h;cases h
 | some r=>
  rw [hr] at h
  have h:=Option.some.inj h
  rw [←h,bP]
  exact zma bx2 by2 bx1 by1 63 Qo 1 bx2 by2 r hr
theorem Tg{x y:dv}(h:cr x≠cr y):x≠y:=fun e=>h (by rw [e])
theorem ve{x:dv}{y:b9}(h:cr x=y):x=c_ y:=by rw [←h,bP]
theorem zvZ:iO (bO dj) (ιP2 gI)≠0:=by
 rw [MA]
 exact Tg (by decide +kernel)
theorem zxh:cr (c_ zfW*(c_ Yn).conj)=Yn:=by decide +kernel
theorem zEy:c_ zfW*(c_ Yn).conj=c_ Yn:=ve zxh
theorem zEz{m g:dv}(h0:m≠0)(h:g*m.conj=m):gF m.conj=g:=by
 unfold gF
 rw [qh]
 have h2:g*m.conj*inv m.conj=m*inv m.conj:=by rw [h]
 rw [mul_assoc,bs (BX h0),mul_one] at h2
 exact h2.symm
theorem zxi:gF (iO (bO dj) (ιP2 gI)).conj=c_ zfW:=zEz zvZ (by rw [MA];exact zEy)
theorem pB1(z:dv):nb 1 z 127 xl=pow z xl:=pR z 127 xl (by decide +kernel)
theorem pB2(z:dv):nb 1 z 64 xP=ZU z:=pR z 64 xP (by decide +kernel)
theorem zGI:cr (AM (q8 (c_ zfW)) fun h=>nb 1 h 127 xl)=zy9:=by decide +kernel
theorem zGB:cr (AM (nb 1 (c_ zy9) 64 xP) fun a1=>a1.conj*qR 1 (c_ zy9))=zpg:=by decide +kernel
theorem zyN:cr (nb 1 (c_ zpg) 64 xP)=zsL:=by decide +kernel
theorem zET:cr (AM (nb 1 (c_ zsL) 64 xP) fun b2=>b2*qR 2 (c_ zpg)*(c_ zpg).conj*q8 (c_ zfW))=zEU:=by decide +kernel
theorem Sg{f g a b b1 e:dv}(h0:gF f=g)(h1:AM (q8 g) (fun h=>nb 1 h 127 xl)=a)(h2:AM (nb 1 a 64 xP) (fun a1=>a1.conj*qR 1 a)=b)(h3:nb 1 b 64 xP=b1)(h4:AM (nb 1 b1 64 xP) (fun b2=>b2*qR 2 b*b.conj*q8 g)=e):mJ f=e:=by
 rw [NL,pB1] at h1
 rw [NL,pB2] at h2 h4
 rw [pB2] at h3
 unfold mJ bF cF
 rw [h0,h1,h2,h3,h4]
theorem zqk:GF (iO (bO dj) (ιP2 gI))=c_ zEU:=Sg zxi (ve zGI) (ve zGB) (ve zyN) (ve zET)
theorem S_:GF (iO (bO dj) (ιP2 gI))≠1:=by
 rw [zqk]
 exact Tg (by decide +kernel)
theorem zAX:xP<2^64:=by decide +kernel
theorem zcU:smul xP (ιP2 gI)=(psiP (ιP2 gI)).neg:=by
 have e1:ιP2 gI = .aff bx2 by2:=by kernel_rfl
 have e2:(psiP (.aff bx2 by2)).neg = .aff (bx2.conj*ar psX) (-(by2.conj*ar psY)):=by kernel_rfl
 rw [e1,e2]
 exact gO ic fq j4 64 zAX (by decide +kernel)
theorem zle(n:Nat):smul xP (smul n (ιP2 gI))=(psiP (smul n (ιP2 gI))).neg:=by
 rw [←ji ic j4,Nat.mul_comm,ji ic j4,zcU,vG ic ((IG _).2 j4),Me j4]
theorem Th:c_ ll=1:=by rw [zls,bP]
theorem pr(x:b9):cH ll x=cr (c_ x):=by unfold cH;rw [Th,aP]
theorem zfM:ti RP%pw 2=xl:=by decide +kernel
theorem zAW:ti xWs%pw 1=xP:=by decide +kernel
theorem zAK(f:b9):c_ (gN f)=gF (c_ f):=by unfold gN gF;rw [pr];unfold cH jv DF;rw [bP,bP,bP,bP]
theorem DX(x:b9)(n:Nat):R5 x (n:Int)=cr (qR n (c_ x)):=by unfold R5;rw [zje]
theorem zAJ(g:b9):c_ (hN g)=q8 (c_ g):=by
 unfold hN q8
 rw [pr,show (2:Int)=((2:Nat):Int) from rfl,DX]
 unfold cH
 rw [bP,bP,bP]
theorem zAL(h:b9):c_ (aN h)=pow (c_ h) xl:=by unfold aN nc;rw [zfM,bP]
theorem Px(z:b9):c_ (ZT z)=ZU (c_ z):=by unfold ZT nc ZU;rw [zAW,bP]
theorem zs6(a:b9):c_ (baN a)=bF (c_ a):=by
 unfold baN zyK bF
 rw [pr,show (1:Int)=((1:Nat):Int) from rfl,DX]
 unfold cH jv
 rw [bP,bP,bP,bP,Px]
theorem zs5(b:b9):c_ (cbN b)=cF (c_ b):=by
 unfold cbN ccN cF
 rw [pr,show (2:Int)=((2:Nat):Int) from rfl,DX]
 unfold cH jv
 rw [bP,bP,bP,bP,bP,Px,Px]
theorem zx5(c h:b9):dlN c h=cr (c_ c*c_ h):=by
 unfold dlN
 rw [pr]
 unfold cH
 rw [bP]
theorem Vv(f:b9):Si f=cr (mJ (c_ f)):=by
 unfold Si mJ
 rw [zx5,zs5,zs6,zAL,zAJ,zAK]
theorem zrt(x:b9):cH (cH ll ll) x=cr (c_ x):=by
 rw [pr,Th]
 unfold cH
 rw [bP,aP]
theorem mT(p:P1)(q:P2):fW p q=cr (mJ (c_ (nT p q).1)):=by unfold fW;rw [Vv,zrt,bP]
theorem zeb{p:A1}{q:A2}(hp:e_ (p,false)=true)(hq:fw (q,false)=true):c_ (nT (p,false) (q,false)).1=(iO (bO (p,false)) (ιP2 (q,false))).conj:=by
 rw [UQ hp hq]
 show c_ (jv (AB (p,false) (q,false)).1)=_
 unfold jv
 rw [bP,zam]
theorem Q6{p:A1}{q:A2}(hp:e_ (p,false)=true)(hq:fw (q,false)=true):fW (p,false) (q,false)=cr (GF (iO (bO (p,false)) (ιP2 (q,false)))):=by
 rw [mT,zeb hp hq];rfl
theorem zgn:mJ 1=1:=sT rfl bB
theorem Dc{p:P1}{q:P2}(h:(e_ p&&fw q)=true)(k:(p.2 || q.2)=true):fW p q=cr 1:=by
 rw [mT,Ji h k]
 show cr (mJ (c_ (cr 1)))=_
 rw [bP,zgn]
theorem MZ{p:P1}(h:eV p=true):e_ p=true:=(gS p).2 ((M1 p).1 h).1
theorem MW{p:P2}(h:dW p=true):fw p=true:=(fM p).2 ((MY p).1 h).1
end Go.Proofs.YtcafpgpahbplaaaGreat
namespace Go.Alg
section
variable {K:Type}[CRing K]{b:K}{T S V:K→Prop}{G:K→K}
theorem zwi(H:Halves K T S V){l x1 y1 x y:K}(f:Far T S V b x y)(hl:S l)(h1:S x1)(h2:S y1):kn l x1 y1 x y≠0:=by
 have e:kn l x1 y1 x y=y+(l*x1-y1-l*x):=add_comm _ _
 rw [e]
 exact f.add_ne H (H.ssub (H.ssub (H.smul _ _ hl h1) h2) (H.smul _ _ hl f.xs))
end
section
variable {K:Type}[CRing K][IsField K]{b:K}{T S V:K→Prop}{G:K→K}
theorem zx1(H:Halves K T S V)(C:Cv K b){x y:K}(f:Far T S V b x y){A B:Pt K}(hA:On b A)(hB:On b B)(tA:TPt T A)(tB:TPt T B):ell A B x y≠0:=by
 cases A with
 | inf=>rw [nV];exact bB
 | aff x1 y1=>cases B with
  | inf=>rw [nY];exact bB
  | aff x2 y2=>
   by_cases hn:x1=x2∧y2=-y1
   ·obtain ⟨rfl,rfl⟩:=hn
    rw [BU C]
    exact f.ne_sub H tA.1
   ·obtain ⟨l,hl⟩:=kH C hA hB hn
    rw [gY C hl hn]
    exact zwi H f (H.ts _ (hl.inT H C hn tA.1 tA.2 tB.1 tB.2)) (H.ts _ tA.1) (H.ts _ tA.2)
theorem Gc(C:Cv K b){p:Pt K}(hp:On b p){r m k c:Nat}(hr:smul r p = .inf)(hm:smul m p = .inf)(e:r=k*m+c):smul c p = .inf:=by
 rw [e,rA C hp,ji C hp,hm,jZ,b6] at hr
 exact hr
theorem FY(C:Cv K b){x y:K}(hp:On b (.aff x y)){r:Nat}(hr:smul r (.aff x y) = .inf)(h2:r%2=1):y≠0:=by
 intro e
 have hd:smul 2 (.aff x y) = .inf:=by
  rw [show 2=2*1 from rfl,gb C hp,eF,eI,if_pos rfl,if_pos (.inr e)]
 have:=Gc C hp hr hd (k:=r/2) (c:=1) (by omega)
 rw [eF] at this
 cases this
theorem zBe(C:Cv K b){x y:K}(hp:On b (.aff x y)){r:Nat}(hr:smul r (.aff x y) = .inf)(h2:r%2=1)(h3:r%3=1):x≠0:=by
 intro e
 subst e
 have hy:=FY C hp hr h2
 have hn:¬((0:K)=0∧y=-y):=fun k=>hy (kg C k.2)
 have hl:Ln b 0 y 0 y 0:=⟨hp,by rw [aS,add_zero],by rw [aS,aq,add_zero,add_zero]⟩
 have hd:smul 2 (.aff 0 y) = .aff 0 (-y):=by
  rw [show 2=2*1 from rfl,gb C hp,eF,dm C hl hn]
  unfold sumBy
  have e1:(0:K)*0-0-0=0:=by rw [aq,cL,cL]
  rw [e1]
  have e2:(0:K)*(0-0)-y=-y:=by rw [aS];exact bG _
  rw [e2]
 have h3':smul 3 (.aff 0 y) = .inf:=by
  show padd (smul 2 (.aff 0 y)) (.aff 0 y) = .inf
  rw [hd]
  have e:=bI C (db hp) hp
  exact (show padd (.aff 0 (-y)) (.aff 0 y)=padd (.aff 0 y) (.aff 0 (-y)) from e).trans (dT _ _ C)
 have:=Gc C hp hr h3' (k:=r/3) (c:=1) (by omega)
 rw [eF] at this
 cases this
end
section
variable {K:Type}[CRing K]{b:K}{T S V:K→Prop}{G:K→K}
theorem zlj(g i:K)(h:g*i=1):g*g*(i*i)=1:=fN (aZ [g,i]) (v0*v0*(v1*v1)) 1 (v0*v1+1) (v0*v1) 1 h (by decide +kernel)
end
section
variable {K:Type}[CRing K]{b:K}{T S V:K→Prop}{G:K→K}
theorem zli(g i:K)(h:g*i=1):g*g*g*(i*i*i)=1:=fN (aZ [g,i]) (v0*v0*v0*(v1*v1*v1)) 1 (v0*v1*(v0*v1)+v0*v1+1) (v0*v1) 1 h (by decide +kernel)
end
section
variable {K:Type}[CRing K]{b:K}{T S V:K→Prop}{G:K→K}
theorem zAU(x w g u:K)(h:g*u=1):x*(g*w*(g*w))*(u*u)=x*(w*w):=fN (aZ [x,w,g,u]) (v0*(v2*v1*(v2*v1))*(v3*v3)) (v0*(v1*v1)) (v0*(v1*v1)*(v2*v3+1)) (v2*v3) 1 h (by decide +kernel)
end
section
variable {K:Type}[CRing K]{b:K}{T S V:K→Prop}{G:K→K}
theorem zAQ(y w g u:K)(h:g*u=1):y*(g*w*(g*w)*(g*w))*(u*u*u)=y*(w*w*w):=fN (aZ [y,w,g,u]) (v0*(v2*v1*(v2*v1)*(v2*v1))*(v3*v3*v3)) (v0*(v1*v1*v1)) (v0*(v1*v1*v1)*(v2*v3*(v2*v3)+v2*v3+1)) (v2*v3) 1 h (by decide +kernel)
end
section
variable {K:Type}[CRing K]{b:K}{T S V:K→Prop}{G:K→K}
theorem zB8(H g1 g2 g3 e11 e22 e12 e33 e44:K)(h:H*g3=g1*g2*e12)(k:e11*e22*e44=e12*e12*e33):H*H*(g3*g3*e33)=g1*g1*e11*(g2*g2*e22)*e44:=
 zb (aZ [H,g1,g2,g3,e11,e22,e12,e33,e44]) (v0*v0*(v3*v3*v7)) (v1*v1*v4*(v2*v2*v5)*v8) (v7*(v0*v3+v1*v2*v6)) (v0*v3) (v1*v2*v6) (-(v1*v1*v2*v2)) (v4*v5*v8) (v6*v6*v7) h k (by decide +kernel)
end
section
variable {K:Type}[CRing K]{b:K}{T S V:K→Prop}{G:K→K}
theorem zB6(H h1 g1 g2 g3 a1 a2 e12 e3 e4:K)(h:H*g3=g1*g2*e12)(k:a1*a2*e4=e12*h1*e3):H*h1*(g3*e3)=g1*a1*(g2*a2)*e4:=
 zb (aZ [H,h1,g1,g2,g3,a1,a2,e12,e3,e4]) (v0*v1*(v4*v8)) (v2*v5*(v3*v6)*v9) (v1*v8) (v0*v4) (v2*v3*v7) (-(v2*v3)) (v5*v6*v9) (v7*v1*v8) h k (by decide +kernel)
end
section
variable {K:Type}[CRing K]{b:K}{T S V:K→Prop}{G:K→K}
theorem zB7(f1 f2 f3 hx hp n:K)(h:hx*f3=f1*f2*n)(k:hp*n=1)(hr:hx*hp=1):f3=f1*f2:=
 Jl (aZ [f1,f2,f3,hx,hp,n]) v2 (v0*v1) v4 (v3*v2) (v0*v1*v5) (v0*v1) (v4*v5) 1 (-v2) (v3*v4) 1 h k hr (by decide +kernel)
end
section
variable {K:Type}[CRing K]{b:K}{T S V:K→Prop}{G:K→K}
theorem zCg(g1 g2 g3 e1 e2 e3 m m2 M:K)(h:g1*g2*m=g3*M)(k:e1*e2*m2=e3*(m*m)):g1*g1*e1*(g2*g2*e2)*m2=g3*g3*e3*(M*M):=
 zb (aZ [g1,g2,g3,e1,e2,e3,m,m2,M]) (v0*v0*v3*(v1*v1*v4)*v7) (v2*v2*v5*(v8*v8)) (v5*(v0*v1*v6+v2*v8)) (v0*v1*v6) (v2*v8) (v0*v0*v1*v1) (v3*v4*v7) (v5*(v6*v6)) h k (by decide +kernel)
end
section
variable {K:Type}[CRing K]{b:K}{T S V:K→Prop}{G:K→K}
theorem zCd(g1 g2 g3 e1 e2 e3 m m2 M q:K)(h:g1*g2*m=g3*M)(k:e1*e2*m2=e3*(m*q)):g1*e1*(g2*e2)*m2=g3*e3*(M*q):=
 zb (aZ [g1,g2,g3,e1,e2,e3,m,m2,M,q]) (v0*v3*(v1*v4)*v7) (v2*v5*(v8*v9)) (v5*v9) (v0*v1*v6) (v2*v8) (v0*v1) (v3*v4*v7) (v5*(v6*v9)) h k (by decide +kernel)
end
section
variable {K:Type}[CRing K]{b:K}{T S V:K→Prop}{G:K→K}
theorem zCf(f1 f2 f3 n mx mp:K)(h:f1*f2*n=f3*mx)(k:mp*n=1)(hr:mx*mp=1):f3=f1*f2:=
 Jl (aZ [f1,f2,f3,n,mx,mp]) v2 (v0*v1) (-v5) (v0*v1*v3) (v2*v4) (v0*v1) (v5*v3) 1 (-v2) (v4*v5) 1 h k hr (by decide +kernel)
end
section
variable {K:Type}[CRing K]{b:K}{T S V:K→Prop}{G:K→K}
theorem C_{r a c:Nat}{h:K}(h0:pow h r=1)(hd:(a+c)%r=0):pow h a*pow h c=1:=by
 rw [←ed]
 obtain ⟨m,hm⟩:=Nat.dvd_of_mod_eq_zero hd
 rw [hm,cC,h0,fT]
end
end Go.Alg
namespace Go.Proofs.YtcafpgpahbplaaaGreat
open Go Go.Eng Go.RowKit Go.Wd Go.Alg Go.Pr
theorem GA:aO%2=1:=by decide +kernel
theorem zk6:aO%3=1:=by decide +kernel
theorem p8{px py:F}(h:Tor b1 aO (.aff px py)):Far Tp Sp Vp b12 (xw px) (yw py):=
 zxO h.on (zBe oi h.on h.tor GA zk6) (FY oi h.on h.tor GA)
theorem zdy{A:Pt F2}(h:Tor b2 aO A):Ny (l9 up A):=by
 cases A with
 | inf=>trivial
 | aff x y=>exact fun e=>FY ic h.on h.tor GA (bQ.eq0.1 e)
def eS(P:Pt F)(A B:Pt F2):dv:=GF (Qf A B P)
theorem S9:GF 1=1:=gq.one _ rfl bB
theorem qe(A B:Pt F2):eS .inf A B=1:=by unfold eS;rw [zbJ];exact S9
theorem nu(px py:F)(A B:Pt F2):eS (.aff px py) A B=GF (ell (l9 up A) (l9 up B) (xw px) (yw py)):=by unfold eS;rw [TU]
theorem Qe{P:Pt F}(hP:Tor b1 aO P){A B:Pt F2}(hA:On b2 A)(hB:On b2 B):Qf A B P≠0:=by
 cases P with
 | inf=>rw [zbJ];exact bB
 | aff px py=>rw [TU];exact zx1 p5 Sx (p8 hP) (jf hA) (jf hB) (iu _) (iu _)
theorem zNn{P:Pt F}(hP:Tor b1 aO P){A B:Pt F2}(hA:On b2 A)(hB:On b2 B):pow (eS P A B) rP=1:=zIW (Qe hP hA hB)
theorem VE{P:Pt F}(hP:Tor b1 aO P){A B D E:Pt F2}(hA:On b2 A)(hB:On b2 B)(hD:On b2 D)(hE:On b2 E):
  eS P A B*eS P D E*eS P (padd A B) (padd D E)=eS P A D*eS P B E*eS P (padd A D) (padd B E):=by
 cases P with
 | inf=>simp only [qe]
 | aff px py=>
  simp only [nu,bQ.padd]
  exact zgH p5 gq Sx (p8 hP) (jf hA) (jf hB) (jf hD) (jf hE) (iu _) (iu _) (iu _) (iu _)
theorem zdF(px py:F):(Pt.aff px py).neg = .aff px (-py):=rfl
theorem zgI{P:Pt F}(hP:Tor b1 aO P){A B:Pt F2}(hA:On b2 A)(hB:On b2 B):eS P A B*eS P.neg A B=1:=by
 cases P with
 | inf=>rw [show (Pt.inf:Pt F).neg = .inf from rfl,qe,mul_one]
 | aff px py=>
  rw [zdF,nu,nu,show yw (-py)=-yw py by unfold yw;rw [HP.neg,gk]]
  exact qa p5 gq Sx (p8 hP) (jf hA) (jf hB) (iu _) (iu _)
theorem znZ{P:Pt F}(hP:Tor b1 aO P){A B:Pt F2}(hA:On b2 A)(hB:On b2 B):eS P A B*eS P A.neg B.neg=1:=by
 cases P with
 | inf=>rw [qe,qe,mul_one]
 | aff px py=>
  rw [nu,nu,bQ.neg_pt,bQ.neg_pt,D9 p5 gq Sx (p8 hP) (jf hA) (jf hB) (iu _) (iu _)]
  exact qa p5 gq Sx (p8 hP) (jf hA) (jf hB) (iu _) (iu _)
theorem zs1:Emb σ where
 add:=Pw
 mul:=tU
 neg x:=by
  have h:=Pw x (-x)
  rw [add_neg] at h
  have h0:σ 0=0:=by
   have:=Pw 0 0
   rw [add_zero] at this
   exact (mj (this.symm.trans (add_zero _).symm))
  rw [h0] at h
  exact iF h.symm
 one:=by rw [←nr,fT]
 inj x y h:=by
  have:qR 12 x=qR 12 y:=by
   rw [show 12=11+1 from rfl,Bn,Bn]
   exact congrArg (qR 11) h
  rwa [zjf,zjf] at this
theorem HC(z:F2):σ (up z)=up z.conj:=by rw [←nr,zBa]
theorem zqy:σ ww=up g1*ww:=by rw [←nr,zAZ]
theorem zf0:dr (ar psX*(g1*g1))=dr 1∧dr (ar psY*(g1*g1*g1))=dr 1:=by decide +kernel
theorem AL:g1≠0:=fun e=>by
 have:=fR zf0.1
 rw [e,aq,aq] at this
 exact bB this.symm
def gi:F2:=inv g1
theorem zu6:ar psX=gi*gi:=by
 have h:=fR zf0.1
 have i:=bs AL
 refine ch (bo AL AL) ?_
 rw [mul_comm,h]
 unfold gi
 exact (zlj _ _ i).symm
theorem zu4:ar psY=gi*gi*gi:=by
 have h:=fR zf0.2
 have i:=bs AL
 refine ch (bo (bo AL AL) AL) ?_
 rw [mul_comm,h]
 unfold gi
 exact (zli _ _ i).symm
def ug:dv:=up gi
theorem zaR:up g1*ug=1:=by unfold ug gi;rw [Ck,bs AL];rfl
theorem FU:ug≠0:=fun e=>bB (R:=dv) (by rw [←zaR,e,aq])
def MP(X:Pt dv):Pt dv:=T5 ug (l9 σ X)
theorem S8(A:Pt F2):l9 up (psiP A)=MP (l9 up A):=by
 cases A with
 | inf=>rfl
 | aff x y=>
  show Pt.aff (up (x.conj*ar psX)) (up (y.conj*ar psY)) = .aff (σ (up x)*(ug*ug)) (σ (up y)*(ug*ug*ug))
  rw [HC,HC,zu6,zu4,bQ.mul,bQ.mul,bQ.mul,bQ.mul,bQ.mul]
  rfl
theorem zAV(x:F):σ (xw x)*(ug*ug)=xw x:=by
 have h0:σ (EN x)=EN x:=by
  unfold EN
  rw [HC]
  exact congrArg up (Quad.ext' rfl a_)
 unfold xw
 rw [tU,tU,h0,zqy]
 exact zAU _ _ _ _ zaR
theorem zAR(y:F):σ (yw y)*(ug*ug*ug)=yw y:=by
 have h0:σ (EN y)=EN y:=by
  unfold EN
  rw [HC]
  exact congrArg up (Quad.ext' rfl a_)
 unfold yw
 rw [tU,tU,tU,h0,zqy]
 exact zAQ _ _ _ _ zaR
theorem zsV(P:Pt F):MP (PK P)=PK P:=by
 cases P with
 | inf=>rfl
 | aff x y=>
  show Pt.aff (σ (xw x)*(ug*ug)) (σ (yw y)*(ug*ug*ug)) = .aff (xw x) (yw y)
  rw [zAV,zAR]
theorem ztm:Sp ug:=rfl
theorem NJ(A B:Pt dv)(x y:dv):GF (ell (MP A) (MP B) (σ x*(ug*ug)) (σ y*(ug*ug*ug)))=pow (GF (ell A B x y)) pN:=by
 rw [←zIU,←zs1.ell]
 unfold MP
 have s2:Sp (ug*ug):=p5.smul _ _ ztm ztm
 rcases zkN FU (l9 σ A) (l9 σ B) (σ x) (σ y) with h|h|h
 ·rw [h]
 ·rw [h,gq.mul,gq.one _ s2 (bo FU FU),mul_one]
 ·rw [h,gq.mul,gq.one _ (p5.smul _ _ s2 ztm) (bo (bo FU FU) FU),mul_one]
theorem zx2(P:Pt F)(A B:Pt F2):eS P (psiP A) (psiP B)=pow (eS P A B) pN:=by
 cases P with
 | inf=>rw [qe,qe,fT]
 | aff px py=>
  rw [nu,nu,S8,S8,←NJ,zAV,zAR]
theorem zqG:(xP+pN)%rP=0:=by decide +kernel
structure InvQ(P:Pt F)(Q1 Q2:Pt F2)(n:Nat)(s1 s2 s3:SF):Prop where
 t1:s1.2=smul n Q1
 t2:s2.2=smul n Q2
 t3:s3.2=smul n (padd Q1 Q2)
 e:pow (eS P Q1 Q2) n*GF s3.1=GF s1.1*GF s2.1*eS P s1.2 s2.2
theorem sY(P:Pt F)(s:SF):GF (qg P s).1=GF s.1*GF s.1*eS P s.2 s.2:=by unfold qg eS;rw [gq.mul,gq.mul]
theorem sr(P:Pt F)(s:SF)(Q:Pt F2):GF (ub P s Q).1=GF s.1*eS P s.2 Q:=by unfold ub eS;rw [gq.mul]
theorem xy(P:Pt F)(s:SF):(qg P s).2=padd s.2 s.2:=rfl
theorem vr(P:Pt F)(s:SF)(Q:Pt F2):(ub P s Q).2=padd s.2 Q:=rfl
theorem ze9{P:Pt F}(hP:Tor b1 aO P){Q1 Q2:Pt F2}(h1:On b2 Q1)(h2:On b2 Q2){n:Nat}{s1 s2 s3:SF}(h:InvQ P Q1 Q2 n s1 s2 s3):InvQ P Q1 Q2 (2*n) (qg P s1) (qg P s2) (qg P s3):=by
 have o1:On b2 s1.2:=by rw [h.t1];exact dN ic h1 n
 have o2:On b2 s2.2:=by rw [h.t2];exact dN ic h2 n
 have e3:s3.2=padd s1.2 s2.2:=by rw [h.t1,h.t2,h.t3,pJ ic h1 h2]
 refine ⟨?_,?_,?_,?_⟩
 ·show padd s1.2 s1.2=_;rw [h.t1,gb ic h1]
 ·show padd s2.2 s2.2=_;rw [h.t2,gb ic h2]
 ·show padd s3.2 s3.2=_;rw [h.t3,gb ic (fL ic h1 h2)]
 ·rw [sY,sY,sY,xy,xy,e3,Nat.two_mul,ed]
  have four:=VE hP o1 o1 o2 o2
  exact zB8 _ _ _ _ _ _ _ _ _ h.e four
theorem ze8{P:Pt F}(hP:Tor b1 aO P){Q1 Q2:Pt F2}(h1:On b2 Q1)(h2:On b2 Q2){n:Nat}{s1 s2 s3:SF}(h:InvQ P Q1 Q2 n s1 s2 s3):InvQ P Q1 Q2 (n+1) (ub P s1 Q1) (ub P s2 Q2) (ub P s3 (padd Q1 Q2)):=by
 have o1:On b2 s1.2:=by rw [h.t1];exact dN ic h1 n
 have o2:On b2 s2.2:=by rw [h.t2];exact dN ic h2 n
 have e3:s3.2=padd s1.2 s2.2:=by rw [h.t1,h.t2,h.t3,pJ ic h1 h2]
 refine ⟨?_,?_,?_,?_⟩
 ·show padd s1.2 Q1=_;rw [h.t1];rfl
 ·show padd s2.2 Q2=_;rw [h.t2];rfl
 ·show padd s3.2 (padd Q1 Q2)=_;rw [h.t3];rfl
 ·rw [sr,sr,sr,vr,vr,e3,aC]
  have four:=VE hP o1 h1 o2 h2
  exact zB6 _ _ _ _ _ _ _ _ _ _ h.e four
theorem BZ(i:Nat):xF i=Nat.beq (xP/2^i%2) 1:=rfl
theorem zm1{P:Pt F}(hP:Tor b1 aO P){Q1 Q2:Pt F2}(h1:On b2 Q1)(h2:On b2 Q2):∀ i s1 s2 s3,InvQ P Q1 Q2 (xP/2^i) s1 s2 s3→InvQ P Q1 Q2 xP (G3 P Q1 i s1) (G3 P Q2 i s2) (G3 P (padd Q1 Q2) i s3):=by
 intro i
 induction i with
 | zero=>intro s1 s2 s3 h;rw [Nat.pow_zero,Nat.div_one] at h;exact h
 | succ i ih=>
  intro s1 s2 s3 h
  refine ih _ _ _ ?_
  have hd:=ze9 hP h1 h2 h
  have e:=JF xP i
  unfold E0
  rcases abF (xP/2^i) with h0|h0
  ·have hb:xF i=false:=by rw [BZ,h0];rfl
   rw [hb,e,h0];exact hd
  ·have hb:xF i=true:=by rw [BZ,h0];rfl
   rw [hb,e,h0];exact ze8 hP h1 h2 hd
theorem zqF:xP/2^63=1:=by decide +kernel
structure TorQ(Q:Pt F2):Prop extends Tor b2 aO Q where
 psi:smul xP Q=(psiP Q).neg
theorem rM{P:Pt F}(hP:Tor b1 aO P){Q1 Q2:Pt F2}(h1:TorQ Q1)(h2:TorQ Q2):GF (iO P (padd Q1 Q2))=GF (iO P Q1)*GF (iO P Q2):=by
 have start:InvQ P Q1 Q2 (xP/2^63) (1,Q1) (1,Q2) (1,padd Q1 Q2):=by
  rw [zqF]
  refine ⟨(eF _).symm,(eF _).symm,(eF _).symm,?_⟩
  dsimp only
  rw [S9,ft,mul_one,mul_one,aP]
 have h:=zm1 hP h1.on h2.on 63 _ _ _ start
 have he:=h.e
 rw [h.t1,h.t2,h1.psi,h2.psi] at he
 have o1:=(IG _).2 h1.on
 have o2:=(IG _).2 h2.on
 have hn:=znZ hP o1 o2
 rw [zx2] at hn
 have hr:=C_ (zNn hP h1.on h2.on) zqG
 unfold iO
 exact zB7 _ _ _ _ _ _ he hn hr
theorem yp{K:Type}[CRing K](n:Nat)(p:Pt K):smul (n+1) p=padd (smul n p) p:=rfl
theorem zDq{P:Pt F}(hP:Tor b1 aO P){Q:Pt F2}(hQ:On b2 Q):∀ i s,s.1≠0→On b2 s.2→(G3 P Q i s).1≠0:=by
 intro i
 induction i with
 | zero=>intro s h _;exact h
 | succ i ih=>
  intro s h ho
  have d1:(qg P s).1≠0:=bo (bo h h) (Qe hP ho ho)
  have d2:On b2 (qg P s).2:=fL ic ho ho
  show (G3 P Q i (E0 P Q i s)).1≠0
  unfold E0
  cases xF i with
  | true=>exact ih _ (bo d1 (Qe hP d2 hQ)) (fL ic d2 hQ)
  | false=>exact ih _ d1 d2
theorem Dp{P:Pt F}(hP:Tor b1 aO P){Q:Pt F2}(hQ:On b2 Q):iO P Q≠0:=by
 unfold iO
 exact zDq hP hQ 63 (1,Q) bB hQ
theorem Rk(Q:Pt F2)(hQ:On b2 Q):iO .inf Q≠0:=Dp Tor.inf hQ
def mP(P1 P2:Pt F)(X:Pt F2):dv:=zik (fun x y=>GF (ell (PK P1) (PK P2) x y)) (l9 up X)
theorem zd0(P1 P2:Pt F):mP P1 P2 .inf=1:=rfl
theorem zwc(P1 P2:Pt F)(x y:F2):mP P1 P2 (.aff x y)=GF (ell (PK P1) (PK P2) (up x) (up y)):=rfl
theorem vj(x y:F):PK (.aff x y) = .aff (xw x) (yw y):=rfl
theorem VD{p1 q1 p2 q2 p3 q3:F}(f1:Tor b1 aO (.aff p1 q1))(f2:Tor b1 aO (.aff p2 q2))(f3:Tor b1 aO (.aff p3 q3))(hp:padd (.aff p1 q1) (.aff p2 q2) = .aff p3 q3){A B:Pt F2}(hA:Tor b2 aO A)(hB:Tor b2 aO B):
  eS (.aff p1 q1) A B*eS (.aff p2 q2) A B*mP (.aff p1 q1) (.aff p2 q2) (padd A B)=eS (.aff p3 q3) A B*(mP (.aff p1 q1) (.aff p2 q2) A*mP (.aff p1 q1) (.aff p2 q2) B):=by
 have e:=congrArg PK hp
 rw [zjM,vj,vj,vj] at e
 rw [nu,nu,nu]
 unfold mP
 rw [bQ.padd,vj,vj]
 exact zgG p5 gq Sx (p8 f1) (p8 f2) (p8 f3) e (jf hA.on) (jf hB.on) (iu _) (iu _) (zdy hA) (zdy hB) (by rw [←bQ.padd];exact zdy (hA.add ic hB))
theorem Sn{P:Pt F}(hP:Tor b1 aO P)(A:Pt F2):eS P A A.neg=1:=by
 cases P with
 | inf=>exact qe _ _
 | aff px py=>
  rw [nu,bQ.neg_pt]
  exact c8 p5 gq Sx (p8 hP) (iu _)
theorem zdZ{p1 q1 p2 q2 p3 q3:F}(f1:Tor b1 aO (.aff p1 q1))(f2:Tor b1 aO (.aff p2 q2))(f3:Tor b1 aO (.aff p3 q3))(hp:padd (.aff p1 q1) (.aff p2 q2) = .aff p3 q3){A:Pt F2}(hA:Tor b2 aO A):
  mP (.aff p1 q1) (.aff p2 q2) A*mP (.aff p1 q1) (.aff p2 q2) A.neg=1:=by
 have h:=VD f1 f2 f3 hp hA (hA.neg ic)
 rw [Sn f1,Sn f2,Sn f3,dZ ic,zd0,aP,aP,aP] at h
 exact h.symm
theorem zwb(P1 P2:Pt F)(A:Pt F2):mP P1 P2 (psiP A)=pow (mP P1 P2 A) pN:=by
 unfold mP
 rw [S8]
 cases A with
 | inf=>exact (fT pN).symm
 | aff x y=>
  have:=NJ (PK P1) (PK P2) (up x) (up y)
  rw [zsV,zsV] at this
  exact this
theorem zqj:GF 0=0:=by
 unfold GF
 rw [show (0:dv).conj=0 from Quad.ext' rfl a_,Y5]
theorem zIV{z:dv}(h:GF z≠0):pow (GF z) rP=1:=zIW fun e=>h (by rw [e,zqj])
theorem zLn(P1 P2:Pt F)(A:Pt F2)(h:mP P1 P2 A≠0):pow (mP P1 P2 A) rP=1:=by
 cases A with
 | inf=>rw [zd0,fT]
 | aff x y=>rw [zwc] at h ⊢; exact zIV h
structure InvP(M:Pt F2→dv)(Q:Pt F2)(n:Nat)(s1 s2 s3:SF):Prop where
 t1:s1.2=smul n Q
 t2:s2.2=smul n Q
 t3:s3.2=smul n Q
 e:GF s1.1*GF s2.1*M (smul n Q)=GF s3.1*pow (M Q) n
section
variable {P1 P2 P3:Pt F}{M:Pt F2→dv}{Q:Pt F2}(hQ:Tor b2 aO Q)
 (hM:∀ A B,Tor b2 aO A→Tor b2 aO B→eS P1 A B*eS P2 A B*M (padd A B)=eS P3 A B*(M A*M B))
include hQ hM
theorem zfb{n:Nat}{s1 s2 s3:SF}(h:InvP M Q n s1 s2 s3):InvP M Q (2*n) (qg P1 s1) (qg P2 s2) (qg P3 s3):=by
 refine ⟨?_,?_,?_,?_⟩
 ·rw [xy,h.t1,gb ic hQ.on]
 ·rw [xy,h.t2,gb ic hQ.on]
 ·rw [xy,h.t3,gb ic hQ.on]
 ·rw [sY,sY,sY,h.t1,h.t2,h.t3,gb ic hQ.on,Nat.two_mul,ed]
  have k:=hM _ _ (hQ.smul ic n) (hQ.smul ic n)
  exact zCg _ _ _ _ _ _ _ _ _ h.e k
theorem zfa{n:Nat}{s1 s2 s3:SF}(h:InvP M Q n s1 s2 s3):InvP M Q (n+1) (ub P1 s1 Q) (ub P2 s2 Q) (ub P3 s3 Q):=by
 refine ⟨?_,?_,?_,?_⟩
 ·rw [vr,h.t1];rfl
 ·rw [vr,h.t2];rfl
 ·rw [vr,h.t3];rfl
 ·rw [sr,sr,sr,h.t1,h.t2,h.t3,aC,yp]
  have k:=hM _ _ (hQ.smul ic n) hQ
  exact zCd _ _ _ _ _ _ _ _ _ _ h.e k
theorem zm2:∀ i s1 s2 s3,InvP M Q (xP/2^i) s1 s2 s3→InvP M Q xP (G3 P1 Q i s1) (G3 P2 Q i s2) (G3 P3 Q i s3):=by
 intro i
 induction i with
 | zero=>intro s1 s2 s3 h;rw [Nat.pow_zero,Nat.div_one] at h;exact h
 | succ i ih=>
  intro s1 s2 s3 h
  refine ih _ _ _ ?_
  have hd:=zfb hQ hM h
  have e:=JF xP i
  unfold E0
  rcases abF (xP/2^i) with h0|h0
  ·have hb:xF i=false:=by rw [BZ,h0];rfl
   rw [hb,e,h0];exact hd
  ·have hb:xF i=true:=by rw [BZ,h0];rfl
   rw [hb,e,h0];exact zfa hQ hM hd
theorem DH:InvP M Q xP (G3 P1 Q 63 (1,Q)) (G3 P2 Q 63 (1,Q)) (G3 P3 Q 63 (1,Q)):=by
 refine zm2 hQ hM 63 _ _ _ ?_
 rw [zqF]
 refine ⟨(eF _).symm,(eF _).symm,(eF _).symm,?_⟩
 dsimp only
 rw [S9,ft,eF,mul_one]
end
theorem gv(Q:Pt F2)(hQ:Tor b2 aO Q):GF (iO .inf Q)=1:=by
 have h:=(DH (P1:=.inf) (P2:=.inf) (P3:=.inf) (M:=fun _=>1) hQ (fun A B _ _=>by simp only [qe,mul_one])).e
 rw [mul_one,fT,mul_one] at h
 have h0:GF (iO .inf Q)≠0:=zsX (Rk Q hQ.on)
 unfold iO at h0 ⊢
 refine ch h0 ?_
 rw [mul_one];exact h
theorem tL{P:Pt F}(hP:Tor b1 aO P){Q:Pt F2}(hQ:Tor b2 aO Q):GF (iO P Q)*GF (iO P.neg Q)=1:=by
 have h:=(DH (P1:=P) (P2:=P.neg) (P3:=.inf) (M:=fun _=>1) hQ (fun A B hA hB=>by rw [zgI hP hA.on hB.on,qe,mul_one,mul_one])).e
 rw [mul_one,fT,mul_one] at h
 have e:=gv Q hQ
 unfold iO at e ⊢
 rw [h,e]
theorem E6{P1 P2:Pt F}(h1:Tor b1 aO P1)(h2:Tor b1 aO P2){Q:Pt F2}(hQ:TorQ Q):GF (iO (padd P1 P2) Q)=GF (iO P1 Q)*GF (iO P2 Q):=by
 have h3:=h1.add oi h2
 cases hp:padd P1 P2 with
 | inf=>
  have e:P2=P1.neg:=by
   have:=ka oi h1.on h2.on
   rw [hp,b6] at this
   rw [←this,lm]
  rw [e,tL h1 hQ.toTor,gv Q hQ.toTor]
 | aff p3 q3=>
  rw [hp] at h3
  cases P1 with
  | inf=>
   rw [b6] at hp
   rw [gv Q hQ.toTor,aP,hp]
  | aff p1 q1=>cases P2 with
   | inf=>
    rw [dq] at hp
    rw [gv Q hQ.toTor,mul_one,hp]
   | aff p2 q2=>
    have h:=(DH (P1:=.aff p1 q1) (P2:=.aff p2 q2) (P3:=.aff p3 q3) (M:=mP (.aff p1 q1) (.aff p2 q2)) hQ.toTor (fun A B hA hB=>VD h1 h2 h3 hp hA hB)).e
    rw [hQ.psi] at h
    have hq:Tor b2 aO (psiP Q):=⟨(IG _).2 hQ.on,by rw [←Me hQ.on,hQ.tor];rfl⟩
    have hn:=zdZ h1 h2 h3 hp hq
    have DP:=zdZ h1 h2 h3 hp hQ.toTor
    rw [zwb] at hn
    have hr:=C_ (zLn _ _ Q (fun e=>by rw [e,aS] at DP;exact bB DP.symm)) zqG
    unfold iO
    exact zCf _ _ _ _ _ _ h hn hr
theorem rL(P:Pt F)(hP:Tor b1 aO P):GF (iO P .inf)=1:=by
 have hi:TorQ .inf:=⟨Tor.inf,jZ _⟩
 have h:=rM hP hi hi
 rw [b6] at h
 have h0:GF (iO P .inf)≠0:=zsX (Dp hP trivial)
 refine ch h0 ?_
 rw [mul_one];exact h.symm
theorem Db{P:Pt F}(hP:Tor b1 aO P){Q:Pt F2}(hQ:TorQ Q)(n:Nat):GF (iO (smul n P) Q)=pow (GF (iO P Q)) n:=by
 induction n with
 | zero=>exact gv Q hQ.toTor
 | succ n ih=>rw [yp,E6 (hP.smul oi n) hP hQ,ih,aC]
theorem yb(n:Nat):TorQ (smul n (ιP2 gI)):=⟨ph.smul ic n,zle n⟩
theorem zbi:TorQ (ιP2 gI):=by
 have:=yb 1
 rwa [eF] at this
theorem A9{P:Pt F}(hP:Tor b1 aO P)(n:Nat):GF (iO P (smul n (ιP2 gI)))=pow (GF (iO P (ιP2 gI))) n:=by
 induction n with
 | zero=>exact rL P hP
 | succ n ih=>rw [yp,rM hP (yb n) zbi,ih,aC]
theorem nd(n m:Nat):GF (iO (smul n (bO dj)) (smul m (ιP2 gI)))=pow (GF (iO (bO dj) (ιP2 gI))) (n*m):=by
 rw [Db dX (yb m),A9 dX,←cC,Nat.mul_comm]
end Go.Proofs.YtcafpgpahbplaaaGreat
namespace Go.Proofs.YtcafpgpahbplaaaGreat
open Go Go.Eng Go.RowKit Go.Wd Go.ChangeShapes Go.WideShapes Go.Alg
def Stands(w:World)(b o:Nat)(vs:List Value):Prop:=b<w.heap.size∧∀ i v,vs[i]? = some v→w.cell? ⟨b,o+i,none⟩=some v
def cj:List (Nat×List It)→St
 | []=>[]
 | (id,l)::m=>(2*id+1,.bl l)::cj m
def aH:List (Nat×(Nat×Nat))→Rho
 | [],_=>none
 | (id,q)::m,x=>if id=x then some q else aH m x
theorem xC(l:List (Nat×List It))(id:Nat):(cj l).blk id=Eng.look l id:=by
 induction l with
 | nil=>rfl
 | cons p l ih=>
  obtain ⟨k,v⟩:=p
  unfold St.blk at ih ⊢
  simp only [cj,Eng.look,beq_iff_eq]
  by_cases h:k=id
  ·subst h;simp
  ·have e:¬2*k+1=2*id+1:=by omega
   simp only [h,e,if_false]
   exact ih
theorem dU{w:World}:∀ (l:List (Nat×List It×(Nat×Nat)×List Value)),(∀ x∈l,x.1<16∧conc rho0 x.2.1=some x.2.2.2∧Stands w x.2.2.1.1 x.2.2.1.2 x.2.2.2) →
  Mem (aH (l.map fun x=>(x.1,x.2.2.1))) (cj (l.map fun x=>(x.1,x.2.1))) w:=by
 intro l h
 have key:∀ (l:List (Nat×List It×(Nat×Nat)×List Value)) (id:Nat),(∃ x∈l,x.1=id∧aH (l.map fun x=>(x.1,x.2.2.1)) id=some x.2.2.1∧Eng.look (l.map fun x=>(x.1,x.2.1)) id=some x.2.1) ∨
   (aH (l.map fun x=>(x.1,x.2.2.1)) id=none∧Eng.look (l.map fun x=>(x.1,x.2.1)) id=none):=by
  intro l id
  induction l with
  | nil=>exact .inr ⟨rfl,rfl⟩
  | cons x l ih=>
   by_cases e:x.1=id
   ·exact .inl ⟨x,aac,e,by simp [aH,e],by simp [Eng.look,e]⟩
   ·simp only [List.map_cons,aH,Eng.look,e,if_false,beq_iff_eq]
    rcases ih with ⟨y,hy,h⟩|h
    ·exact .inl ⟨y,aaa _ hy,h⟩
    ·exact .inr h
 refine ⟨⟨fun id its hl=>?_⟩,⟨fun id id' b' o1 o2 _ _ ho _ _ _ _ e1 _=>?_⟩,fun id q hq=>?_⟩
 ·rw [xC] at hl
  rcases key l id with ⟨x,hx,he,h1,h2⟩|⟨_,h2⟩
  ·rw [h2] at hl;cases hl
   obtain ⟨h16,hc,hs⟩:=h x hx
   refine ⟨x.2.2.1.1,x.2.2.1.2,x.2.2.2,h1,eR (ky _) _ _ hc,hs.1,fun ho=>?_,fun _ _=>hs.2,fun ho=>?_⟩
   ·simp only [own,aaf,decide_eq_true_eq] at ho;omega
   ·simp only [app,aaf,decide_eq_true_eq] at ho;omega
  ·rw [h2] at hl;cases hl
 ·rcases key l id with ⟨x,hx,he,h1,h2⟩|⟨h1,_⟩
  ·have:=(h x hx).1
   simp only [own,app,aaf,decide_eq_true_eq] at ho;omega
  ·rw [h1] at e1;cases e1
 ·rw [xC]
  rcases key l id with ⟨x,hx,he,h1,h2⟩|⟨h1,_⟩
  ·exact ⟨_,h2⟩
  ·rw [h1] at hq;cases hq
theorem iD{w:World}(l:List (Nat×List It×(Nat×Nat)×List Value))(h:∀ x∈l,x.1<16∧conc rho0 x.2.1=some x.2.2.2∧Stands w x.2.2.1.1 x.2.2.1.2 x.2.2.2):∀ c,¬Own (aH (l.map fun x=>(x.1,x.2.2.1))) c:=by
 rintro c ⟨id,_,ho,hq⟩
 simp only [own,app,aaf,decide_eq_true_eq] at ho
 induction l with
 | nil=>cases hq
 | cons x l ih=>
  simp only [List.map_cons,aH] at hq
  split at hq
  ·rename_i e
   have:=(h x aac).1
   omega
  ·exact ih (fun y hy=>h y (aaa _ hy)) hq
end Go.Proofs.YtcafpgpahbplaaaGreat
namespace Go.Proofs.YtcafpgpahbplaaaGreat
open Go Go.Eng Go.RowKit Go.Wd Go.Alg Go.Pr
def nS(k:Int):Nat:=ti [k]%pw 1
def ent(id b o len n:Nat):Nat×List It×(Nat×Nat)×List Value:=(id,iZ len n,(b,o),au len n)
theorem zP(ρ:Rho)(len n:Nat):conc ρ (iZ len n)=some (au len n):=by simp [iZ,conc,It.cs,au]
theorem oF{w:World}{b o len n:Nat}(h:qQ w b o len n):Stands w b o (au len n):=⟨h.1,h.2⟩
theorem mg{T:CallT}(hT:ag Tryz.prog T){f:FuncId}{args:List AV}{m:St}{hints:List (Nat×Bool)}{s:SV}{ob:List Prop}(h:j9 T f args m hints=some (s,ob))(ax:∀ p∈ob,p){ρ:Rho}{w:World}(hM:Mem ρ m w)
  (cv:∀ c,¬Own ρ c) {vs:List Value} (hv:ay ρ args=some vs) {v:Value} (hval:∀ ρ u,s.val ρ=some u→u=v):Invoked Tryz.prog f vs.toArray w fun u w'=>u=v∧Below w.heap.size w w':=by
 unfold j9 at h
 split at h
 ·rename_i d hd
  split at h
  ·rename_i o ho
   cases h
   refine .inr ⟨(aB _ _ hd).enter _ _,(fB an ab (dd an ab hT aB 1000 6) (aB _ _ hd) ho ax hv hM).mono ?_⟩
   rintro e w' ⟨u,rfl,ρ',hE,hu,_⟩
   exact ⟨u,rfl,hval ρ' u hu,hE.below cv⟩
  ·cases h
 ·cases h
def eD(id len cap:Nat):AV:=⟨false,[.s id 0 len cap]⟩
def iA(i:Int):AV:=⟨false,[.v (.int .i64 i)]⟩
theorem pA(ρ:Rho)(i:Int):(iA i).val ρ=some (.int .i64 i):=AV.val_v (ρ:=ρ) (x:=.int .i64 i) rfl
theorem lH{ρ:Rho}{id b o:Nat}(h:ρ id=some (b,o))(len cap:Nat)(cl:app id=false:=by rfl):(eD id len cap).val ρ=some (.slice (some ⟨b,o,none⟩) len cap):=AV.val_mk (by simp [It.cs,Rho.at_not cl,h])
theorem zph(len cap n:Nat)(i:Int):j9 ni 100 [eD 1 len cap,iA i] (y_ len n) [(8,true),(11,false)]=some (.one ⟨false,[.v (pv n (0+i.toNat*1))]⟩,[i<(len:Int)↔true=true,0≤i∧i<(len:Int),0+i.toNat*1<len]):=by kernel_rfl
theorem zpj(len cap n:Nat)(i:Int):j9 ni 100 [eD 1 len cap,iA i] (y_ len n) [(8,false)]=some (.one ⟨false,[.v (.int .u64 0)]⟩,[i<(len:Int)↔false=true]):=by kernel_rfl
theorem zpi(i:Int):j9 ni 100 [⟨false,[.v (.slice none 0 0)]⟩,iA i] [] [(8,false)]=some (.one ⟨false,[.v (.int .u64 0)]⟩,[i<((0:Nat):Int)↔false=true]):=by kernel_rfl
theorem yK(k:Nat):0<pw k:=Nat.two_pow_pos _
theorem zu{n len i:Nat}:dg (n%pw len) i=if i<len then dg n i else 0:=by
 unfold dg pw
 by_cases h:i<len
 ·rw [if_pos h]
  have e:(2:Nat)^(64*len)=2^(64*i)*2^64*2^(64*(len-i-1)):=by
   rw [←Nat.pow_add,←Nat.pow_add];congr 1;omega
  rw [e,Nat.mul_assoc,Nat.mod_mul_right_div_self,Nat.mod_mul_right_mod]
 ·rw [if_neg h]
  have:n%2^(64*len)<2^(64*i):=abk (Nat.mod_lt _ (Nat.two_pow_pos _)) (adw (by omega) (by omega))
  rw [abf this,Nat.zero_mod]
def atV(len n:Nat)(i:Int):Value:=.int .u64 ((dg (n%pw len) i.toNat:Nat):Int)
theorem zmh{i:Int}(hi:0≤i)(b o len cap n:Nat)(w:World)(h:qQ w b o len n):Invoked Tryz.prog 100 [.slice (some ⟨b,o,none⟩) len cap,.int .i64 i].toArray w fun u w'=>u=atV len n i∧Below w.heap.size w w':=by
 have hv:ay (kw b o) [eD 1 len cap,iA i]=some [.slice (some ⟨b,o,none⟩) len cap,.int .i64 i]:=by simp only [ay,pA,lH (ρ:=kw b o) (id:=1) (b:=b) (o:=o) (by simp [kw])]
 have hz:Nat.cast i.toNat=i:=Int.toNat_of_nonneg hi
 by_cases hl:i<(len:Int)
 ·refine mg iM (zph len cap n i) (aa (bD hl) (aa ⟨hi,hl⟩ (aa (by omega) ad))) (j0 h) (lL b o) hv fun ρ u hu=>?_
  have:AV.val ρ ⟨false,[.v (pv n (0+i.toNat*1))]⟩=some (pv n (0+i.toNat*1)):=AV.val_v (ρ:=ρ) (x:=pv n (0+i.toNat*1)) rfl
  rw [show SV.val ρ (.one ⟨false,[.v (pv n (0+i.toNat*1))]⟩)=AV.val ρ ⟨false,[.v (pv n (0+i.toNat*1))]⟩ from rfl,this] at hu
  cases hu
  unfold atV
  rw [Nat.mul_one,Nat.zero_add,my,zu,if_pos (by omega)]
 ·refine mg iM (zpj len cap n i) (aa (br hl) ad) (j0 h) (lL b o) hv fun ρ u hu=>?_
  have:AV.val ρ ⟨false,[.v (.int .u64 0)]⟩=some (.int .u64 0):=AV.val_v (ρ:=ρ) (x:=.int .u64 0) rfl
  rw [show SV.val ρ (.one ⟨false,[.v (.int .u64 0)]⟩)=AV.val ρ ⟨false,[.v (.int .u64 0)]⟩ from rfl,this] at hu
  cases hu
  unfold atV
  rw [zu,if_neg (by omega)];rfl
theorem MF{i:Int}(hi:0≤i)(w:World):Invoked Tryz.prog 100 [.slice none 0 0,.int .i64 i].toArray w fun u w'=>u=atV 0 0 i∧Below w.heap.size w w':=by
 have e0:AV.val rho0 ⟨false,[.v (.slice none 0 0)]⟩=some (.slice none 0 0):=AV.val_v (ρ:=rho0) (x:=.slice none 0 0) rfl
 have hv:ay rho0 [⟨false,[.v (.slice none 0 0)]⟩,iA i]=some [.slice none 0 0,.int .i64 i]:=by simp only [ay,pA,e0]
 refine mg iM (zpi i) (aa (br (by omega)) ad) (ρ:=rho0) (dU [] (fun x hx=>by cases hx)) (fun c ⟨_,_,_,h⟩=>by cases h) hv fun ρ u hu=>?_
 have:AV.val ρ ⟨false,[.v (.int .u64 0)]⟩=some (.int .u64 0):=AV.val_v (ρ:=ρ) (x:=.int .u64 0) rfl
 rw [show SV.val ρ (.one ⟨false,[.v (.int .u64 0)]⟩)=AV.val ρ ⟨false,[.v (.int .u64 0)]⟩ from rfl,this] at hu
 cases hu
 unfold atV
 rw [zu,if_neg (by omega)];rfl
def zyR(len n:Nat)(i:Int):SV:=.one ⟨false,[.v (.int .u64 ((dg (n%pw len) i.toNat:Nat):Int))]⟩
theorem ztj(ρ:Rho)(len n:Nat)(i:Int):(zyR len n i).val ρ=some (atV len n i):=AV.val_v (ρ:=ρ) (x:=atV len n i) rfl
def atT:CallT:=fun f args m _=>match f==100 with
 | true=>match args with
  | [y,⟨false,[.v (.int .i64 i)]⟩]=>match CM y m with
   | some (len,n,ob)=>some { val:=zyR len n i,wr:=[],news:=[],ob:=(0≤i)::ob }
   | none=>none
  | _=>none
 | false=>none
theorem zij:ag Tryz.prog atT:=by
 intro f args m nid out af ax ρ w vs hv hM df
 unfold atT at af
 split at af
 ·rename_i hf
  rw [beq_iff_eq] at hf
  subst hf
  split at af
  ·rename_i y i
   split at af
   ·rename_i len n ob hs
    cases af
    obtain ⟨v1,us,h1,h2,rfl⟩:=aj hv
    obtain ⟨v2,ov,h3,h4,rfl⟩:=aj h2
    cases h4
    rw [show AV.val ρ ⟨false,[.v (.int .i64 i)]⟩=some (.int .i64 i) from pA ρ i] at h3
    cases h3
    have hi:0≤i:=ax _ aac
    have zfy:∀ p∈ob,p:=fun p hp=>ax p (aaa _ hp)
    have fin:∀ (u:Value) (w':World),u=atV len n i∧Below w.heap.size w w'→∃ ρ',Ext ρ w ρ' w'∧(zyR len n i).val ρ'=some u∧Mem ρ' (aX m (ia ([]++[]))) w':=by
     rintro u w' ⟨rfl,hb⟩
     exact ⟨ρ,Ext.of_below hb,ztj _ _ _ _,hM.of_below hb⟩
    rcases vJ hs zfy hM h1 with ⟨rfl,rfl,rfl⟩|⟨b,o,cap,rfl,hlen,jX⟩
    ·exact (MF hi w).mono fun u w' hu=>fin u w' hu
    ·exact (zmh hi b o len cap n w jX).mono fun u w' hu=>fin u w' hu
   ·cases af
  ·cases af
 ·cases af
def dCm:Fn1:=match fJ 55 with
 | some d=>d
 | none=>⟨.skip,[],0⟩
theorem zhz:FnOk Tryz.prog 55 dCm:=aB _ _ (by kernel_rfl)
def Pj:Eng:={ tab:=bh,call:=jw bh atT fJ 1000 6,N:=32 }
theorem r_:ag Tryz.prog Pj.call:=dd an ab zij aB 1000 6
def zBN:Code→Code
 | .scope b=>b
 | c=>c
def zGo:Code:=bJ dCm.body
def zoH:Code:=zBN (aJ dCm.body)
def zGl:Code:=bJ zoH
def zGn:Code:=bJ (bJ (aJ zoH))
def ZI:Code:=gw (dh (aJ (bJ (aJ zoH))))
def zGm:Code:=aJ (aJ zoH)
theorem zhA:dCm.body = .seq zGo (.scope (.seq zGl (.seq (.seq zGn (.block 0 (.loop ZI))) zGm))):=by kernel_rfl
theorem zO:dCm.ntmps=32:=by kernel_rfl
theorem OC:dCm.results=[.tmp 4]:=by kernel_rfl
def te(la ca x lb cb y:Nat)(i:Int):St:=[(0,sS 1 la ca),(2,sS 2 lb cb),(8,sI 0),(10,sI i),(3,.bl (iZ la x)),(5,.bl (iZ lb y))]
def Ai(la ca x lb cb y:Nat):St:=[(0,sS 1 la ca),(2,sS 2 lb cb),(8,sI 0),(3,.bl (iZ la x)),(5,.bl (iZ lb y))]
def vD(la ca x lb cb y:Nat)(r:Int):St:=[(8,sI r),(3,.bl (iZ la x)),(5,.bl (iZ lb y))]
def zDE(la ca x lb cb y:Nat):St:=aW 0 [eD 1 la ca,eD 2 lb cb] (32 - [eD 1 la ca,eD 2 lb cb].length)++cj [(1,iZ la x),(2,iZ lb y)]
def iCm(la lb:Nat):Int:=IntKind.i64.wrap ((if (lb:Int)>(la:Int) then (lb:Int) else (la:Int))-1)
theorem ziV(la ca x lb cb y:Nat):probe Pj 100 zGo (zDE la ca x lb cb y) 16 [] ((Ai la ca x lb cb y).map (·.1))=some (0,[],(Ai la ca x lb cb y).map fun p=>some p.2):=by kernel_rfl
theorem ziW(la ca x lb cb y:Nat):probe Pj 100 zGl (Ai la ca x lb cb y) 16 [] ((Ai la ca x lb cb y).map (·.1))=some (0,[],(Ai la ca x lb cb y).map fun p=>some p.2):=by kernel_rfl
theorem zqw(la ca x lb cb y:Nat):probe Pj 100 zGn (Ai la ca x lb cb y) 16 [] ((te la ca x lb cb y (iCm la lb)).map (·.1))=some (0,[],(te la ca x lb cb y (iCm la lb)).map fun p=>some p.2):=by kernel_rfl
theorem zqx(la ca x lb cb y:Nat)(i:Int):probe Pj 100 ZI (te la ca x lb cb y i) 16 [(15,false)] ((te la ca x lb cb y i).map (·.1))=some (2,[i≥0↔false=true],(te la ca x lb cb y i).map fun p=>some p.2):=by kernel_rfl
def wA(len n:Nat)(i:Int):Int:=((dg (n%pw len) i.toNat:Nat):Int)
def zlL(la x lb y:Nat)(i:Int):List Prop:=[i≥0↔true=true,0≤i,0=0,la=la,la<4294967296,0≤i,0=0,lb=lb,lb<4294967296]
theorem zI0(la ca x lb cb y:Nat)(i:Int):probe Pj 100 ZI (te la ca x lb cb y i) 16 [(15,true),(27,true)] ((te la ca x lb cb y (IntKind.i64.wrap (i-1))).map (·.1))=some (0,zlL la x lb y i++[wA la x i=wA lb y i↔true=true],(te la ca x lb cb y (IntKind.i64.wrap (i-1))).map fun p=>some p.2):=by kernel_rfl
theorem zIY(la ca x lb cb y:Nat)(i:Int):probe Pj 100 ZI (te la ca x lb cb y i) 16 [(15,true),(27,false),(31,true)] ((vD la ca x lb cb y (-1)).map (·.1))=some (1,zlL la x lb y i++[wA la x i=wA lb y i↔false=true,wA la x i<wA lb y i↔true=true],(vD la ca x lb cb y (-1)).map fun p=>some p.2):=by kernel_rfl
theorem zIZ(la ca x lb cb y:Nat)(i:Int):probe Pj 100 ZI (te la ca x lb cb y i) 16 [(15,true),(27,false),(31,false)] ((vD la ca x lb cb y 1).map (·.1))=some (1,zlL la x lb y i++[wA la x i=wA lb y i↔false=true,wA la x i<wA lb y i↔false=true],(vD la ca x lb cb y 1).map fun p=>some p.2):=by kernel_rfl
theorem zqu(la ca x lb cb y:Nat)(i:Int):probe Pj 100 zGm (te la ca x lb cb y i) 16 [] ((vD la ca x lb cb y 0).map (·.1))=some (1,[],(vD la ca x lb cb y 0).map fun p=>some p.2):=by kernel_rfl
theorem Jv(la ca x lb cb y:Nat)(i:Int):aw (te la ca x lb cb y i) [1,2]=true:=by kernel_rfl
theorem MM(la ca x lb cb y:Nat):aw (Ai la ca x lb cb y) [1,2]=true:=by kernel_rfl
theorem DC(la ca x lb cb y:Nat)(i:Int):aw (vD la ca x lb cb y i) [1,2]=true:=by kernel_rfl
theorem x_{P:Nat→Prop}(h1:P 1)(h2:P 2):∀ id∈[1,2],P id:=by
 intro id cl
 simp only [List.mem_cons,List.not_mem_nil,or_false] at cl
 rcases cl with rfl|rfl
 ·exact h1
 ·exact h2
theorem SU(la ca x lb cb y:Nat)(i:Int):∀ id∈[1,2],∃ l,(te la ca x lb cb y i).blk id=some l:=x_ ⟨_,rfl⟩ ⟨_,rfl⟩
theorem VX(la ca x lb cb y:Nat):∀ id∈[1,2],∃ l,(Ai la ca x lb cb y).blk id=some l:=x_ ⟨_,rfl⟩ ⟨_,rfl⟩
theorem Kt(la ca x lb cb y:Nat)(i:Int):∀ id∈[1,2],∃ l,(vD la ca x lb cb y i).blk id=some l:=x_ ⟨_,rfl⟩ ⟨_,rfl⟩
def jH(b1 o1 b2 o2:Nat):Rho:=aH [(1,(b1,o1)),(2,(b2,o2))]
theorem kF{b1 o1 b2 o2:Nat}:∀ id q,jH b1 o1 b2 o2 id=some q→id∈[1,2]:=by
 intro id q h
 unfold jH aH at h
 split at h
 ·rename_i e;rw [←e];simp
 ·unfold aH at h
  split at h
  ·rename_i e;rw [←e];simp
  ·cases h
theorem r7(n j:Nat):n/pw j=n/pw (j+1)*18446744073709551616+dg n j:=by
 unfold dg
 rw [dA,←Nat.div_div_eq_div_mul,rp]
 omega
theorem GP{a b k:Nat}(h:a/k<b/k):a<b:=by
 refine Nat.lt_of_not_le fun hle=>?_
 exact absurd h (Nat.not_lt.2 (Nat.div_le_div_right hle))
theorem zlK{la x lb y:Nat}{i:Int}(hi:0≤i)(h1:la<4294967296)(h2:lb<4294967296):∀ p∈zlL la x lb y i,p:=
 aa (bD hi) (aa hi (aa rfl (aa rfl (aa h1 (aa hi (aa rfl (aa rfl (aa h2 ad))))))))
theorem zqv{b1 o1 b2 o2:Nat}{w0:World}{la ca x lb cb y:Nat}(hla:la<4294967296)(hlb:lb<4294967296){Q:Exit→Act→World→Prop}
  (hE:∀ a w,At 32 (jH b1 o1 b2 o2) w0 (vD la ca x lb cb y (jG (x%pw la) (y%pw lb))) a w→Q .ret a w)
  (hX:x%pw la=y%pw lb→∀ a w,At 32 (jH b1 o1 b2 o2) w0 (te la ca x lb cb y (-1)) a w→Q (.exit 0) a w) {a:Act} {w:World}
  (hA:At 32 (jH b1 o1 b2 o2) w0 (te la ca x lb cb y (iCm la lb)) a w):(Code.loop ZI).wp Tryz.prog Q a w:=by
 obtain ⟨L,hLa,hLb,hL2,hL⟩:∃ L,la≤L∧lb≤L∧L<4294967296∧iCm la lb=((L:Nat):Int)-1:=by
  refine ⟨max la lb,Nat.le_max_left _ _,Nat.le_max_right _ _,by omega,?_⟩
  unfold iCm
  have e:(if (lb:Int)>(la:Int) then (lb:Int) else (la:Int))=((max la lb:Nat):Int):=by
   split<;>omega
  rw [e,bq (by omega) (by omega)]
 refine dG (w0:=w0) (dL:=jH b1 o1 b2 o2) (N:=32) (ι:=Nat) (fun j=>j≤L∧x%pw la/pw j=y%pw lb/pw j) (fun j=>te la ca x lb cb y ((j:Int)-1)) (fun j=>j) ?_ L ⟨Nat.le_refl _,?_⟩ a w ?_
 ·rintro j ⟨hj,he⟩ a w hA
  rcases Nat.eq_zero_or_pos j with hj0|hj0
  ·subst hj0
   refine At.probe (E:=Pj) an ab r_ (zqx la ca x lb cb y _) (aa (br (by omega)) ad) hA [1,2] (SU _ _ _ _ _ _ _) (Jv _ _ _ _ _ _ _) kF fun a' w' bY=>hX ?_ a' w' bY
   simpa [pw] using he
  ·obtain ⟨j,rfl⟩:∃ k,j=k+1:=⟨j-1,by omega⟩
   have e1:(((j+1:Nat):Int)-1)=(j:Int):=by omega
   rw [e1] at hA
   have ew:∀ len n,wA len n (j:Int)=((dg (n%pw len) j:Nat):Int):=fun len n=>by unfold wA;rw [Int.toNat_natCast]
   have dx:=r7 (x%pw la) j
   have dy:=r7 (y%pw lb) j
   have ax:=zlK (la:=la) (x:=x) (lb:=lb) (y:=y) (i:=(j:Int)) (by omega) hla hlb
   rcases Nat.lt_trichotomy (dg (x%pw la) j) (dg (y%pw lb) j) with h|h|h
   ·refine At.probe (E:=Pj) an ab r_ (zIY la ca x lb cb y _) (fQ ax (aa (br (by rw [ew,ew];omega)) (aa (bD (by rw [ew,ew];omega)) ad))) hA [1,2] (Kt _ _ _ _ _ _ _) (DC _ _ _ _ _ _ _) kF fun a' w' bY=>hE a' w' ?_
    rw [s9 (GP (k:=pw j) (by rw [dx,dy,he];omega))]
    exact bY
   ·refine At.probe (E:=Pj) an ab r_ (zI0 la ca x lb cb y _) (fQ ax (aa (bD (by rw [ew,ew,h])) ad)) hA [1,2] (SU _ _ _ _ _ _ _) (Jv _ _ _ _ _ _ _) kF fun a' w' bY=>⟨j,⟨by omega,by rw [dx,dy,he,h]⟩,Nat.lt_succ_self j,?_⟩
    rw [bq (by omega) (by omega)] at bY
    exact bY
   ·refine At.probe (E:=Pj) an ab r_ (zIZ la ca x lb cb y _) (fQ ax (aa (br (by rw [ew,ew];omega)) (aa (br (by rw [ew,ew];omega)) ad))) hA [1,2] (Kt _ _ _ _ _ _ _) (DC _ _ _ _ _ _ _) kF fun a' w' bY=>hE a' w' ?_
    rw [s_ (GP (k:=pw j) (by rw [dx,dy,he];omega))]
    exact bY
 ·have hz:∀ n len,len≤L→n%pw len/pw L=0:=fun n len h=>abf (abk (Nat.mod_lt _ (yK len)) (adw (by omega) (Nat.mul_le_mul_left 64 h)))
  rw [hz x la hLa,hz y lb hLb]
 ·rw [←hL];exact hA
theorem zej{b1 o1 la ca x b2 o2 lb cb y:Nat}(hla:la<4294967296)(hlb:lb<4294967296)(w:World)(h1:qQ w b1 o1 la x)(h2:qQ w b2 o2 lb y):
  Invoked Tryz.prog 55 [.slice (some ⟨b1,o1,none⟩) la ca,.slice (some ⟨b2,o2,none⟩) lb cb].toArray w fun u w'=>u = .int .i64 (jG (x%pw la) (y%pw lb))∧Below w.heap.size w w':=by
 refine .inr ⟨zhz.enter _ _,?_⟩
 have jd:∀ e∈[ent 1 b1 o1 la x,ent 2 b2 o2 lb y],e.1<16∧conc rho0 e.2.1=some e.2.2.2∧Stands w e.2.2.1.1 e.2.2.1.2 e.2.2.2:=
  aab.2 ⟨⟨(by show 1<16;decide),zP _ _ _,oF h1⟩,aab.2 ⟨⟨(by show 2<16;decide),zP _ _ _,oF h2⟩,fun _ h=>by cases h⟩⟩
 have hM:Mem (jH b1 o1 b2 o2) (cj [(1,iZ la x),(2,iZ lb y)]) w:=dU _ jd
 have cv:∀ c,¬Own (jH b1 o1 b2 o2) c:=iD (w:=w) _ jd
 have hv:ay (jH b1 o1 b2 o2) [eD 1 la ca,eD 2 lb cb]=some [.slice (some ⟨b1,o1,none⟩) la ca,.slice (some ⟨b2,o2,none⟩) lb cb]:=by
  simp only [ay,lH (ρ:=jH b1 o1 b2 o2) (id:=1) (b:=b1) (o:=o1) rfl,lH (ρ:=jH b1 o1 b2 o2) (id:=2) (b:=b2) (o:=o2) rfl]
 refine (bX (G:=fun xs st=>xs=[iA (jG (x%pw la) (y%pw lb))]) ab zhz hM (by kernel_rfl) hv (by rw [zO];simp) fun a c9=>?_).mono ?_
 ·rw [zO] at c9
  have c9:At 32 (jH b1 o1 b2 o2) w (zDE la ca x lb cb y) a w:=c9
  rw [zO,OC,zhA]
  refine wp_seq (At.probe (E:=Pj) an ab r_ (ziV la ca x lb cb y) (fun p hp=>by cases hp) c9 [1,2] (VX _ _ _ _ _ _) (MM _ _ _ _ _ _) kF fun a1 w1 g1=>?_)
  show aaT _ _ _ _ _
  refine wp_scope_straight ?_
  refine wp_seq (At.probe (E:=Pj) an ab r_ (ziW la ca x lb cb y) (fun p hp=>by cases hp) g1 [1,2] (VX _ _ _ _ _ _) (MM _ _ _ _ _ _) kF fun a2 w2 g2=>?_)
  show aaT _ _ _ _ _
  refine wp_seq (wp_seq (At.probe (E:=Pj) an ab r_ (zqw la ca x lb cb y) (fun p hp=>by cases hp) g2 [1,2] (SU _ _ _ _ _ _ _) (Jv _ _ _ _ _ _ _) kF fun a3 w3 g3=>?_))
  show aaT _ _ _ _ _
  refine wp_block (zqv hla hlb (fun a4 w4 g4=>?_) (fun he a4 w4 g4=>?_) g3)
  ·exact ⟨.inr rfl,_,[iA (jG (x%pw la) (y%pw lb))],g4,by kernel_rfl,rfl⟩
  ·show aaT _ _ _ _ _
   refine At.probe (E:=Pj) an ab r_ (zqu la ca x lb cb y _) (fun p hp=>by cases hp) g4 [1,2] (Kt _ _ _ _ _ _ _) (DC _ _ _ _ _ _ _) kF fun a5 w5 g5=>?_
   rw [he,xA]
   exact ⟨.inr rfl,_,[iA 0],g5,by kernel_rfl,rfl⟩
 ·rintro e w' ⟨v,rfl,xs,st,ρ',hE,hval,Bg,rfl⟩
  refine ⟨v,rfl,?_,hE.below cv⟩
  have:(iA (jG (x%pw la) (y%pw lb))).val ρ'=some v:=hval
  rw [pA] at this
  cases this;rfl
end Go.Proofs.YtcafpgpahbplaaaGreat
