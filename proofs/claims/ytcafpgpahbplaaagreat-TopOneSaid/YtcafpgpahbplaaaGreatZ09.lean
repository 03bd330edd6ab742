/-
 The proof, part 9 of 25.
-/
import Derived.Test.YtcafpgpahbplaaaGreatZ08
open Classical renaming propDecidable->acB
open Go.Code renaming wp->aaT
open List renaming forall_mem_cons->aab,mem_append->aaw,mem_cons->aae,not_mem_nil->aad
open Nat renaming beq->aaK,beq_eq->ada,div_eq_of_lt->abf
noncomputable section
set_option linter.unusedVariables false
set_option linter.unusedSimpArgs false
namespace Go.Proofs.YtcafpgpahbplaaaGreat
open Go Go.Eng Go.RowKit Go.Wd Go.Alg Go.Pr
def lZ(x:P1)(m:Nat):P1×Int:=match e_ x with
 | true=>(gJ (smul m (bO x)),0)
 | false=>(((0,0),false),120)
def uj:Rs (P1×Int):=tI (dV A1) tj
def QN(b:Bool):List Row:=tJ (dV A1) AG.rs 24 (fun _=>b) (fun x=>e_ x=b)::L6 (kV J1) (dV A1) (kV J1).rs 89 pl1 (fun f _=>RdJ1 f) ::
 tJ (kV J1) (dV A1).rs 90 (fun f=>gJ (Po (im f))) RdJ1::Is
theorem XE(b:Bool):∀ r∈QN b,bE Tryz.prog r:=by
 simp only [QN,aab]
 exact ⟨lU fun x hx=>by rw [←hx];exact Vt x,C0 fun f q hf=>znp f q hf,lU zf1,Gr⟩
def TM1(b:Bool):CallT:=aA (QN b)
theorem zZ(b:Bool):ag Tryz.prog (TM1 b):=ap (XE b)
def dM1:Fn1:=match fJ 40 with
 | some d=>d
 | none=>⟨.skip,[],0⟩
theorem zht:FnOk Tryz.prog 40 dM1:=aB _ _ (by kernel_rfl)
def Tb:Eng:={ tab:=bh,call:=jw bh (TM1 true) fJ 1000 6,N:=44 }
set_option maxRecDepth 100000 in
theorem zU:ag Tryz.prog Tb.call:=dd an ab (zZ true) aB 1000 6
def zF5:Code:=bJ dM1.body
def zhW:Code:=vM (aJ dM1.body)
def zGa:Code:=bJ zhW
def zF9:Code:=bJ (aJ zhW)
def zF8:Code:=bJ (aJ (aJ zhW))
def zF7:Code:=bJ (aJ (aJ (aJ zhW)))
def zyw:Code:=aJ (aJ (aJ (aJ zhW)))
def zF6:Code:=bJ (bJ zyw)
def zoF:Code:=gw (dh (aJ (bJ zyw)))
def zF4:Code:=aJ zyw
theorem zhu:dM1.body = .seq zF5 (.scope (gG [zGa,zF9] (gG [zF8,zF7] (.seq (.seq zF6 (.block 1 (.loop zoF))) zF4)))):=by kernel_rfl
theorem zL:dM1.ntmps=44:=by kernel_rfl
theorem Oy:dM1.results=[.cell 4 29,.tmp 5]:=by kernel_rfl
def Z5(x:P1):Ct:=.bl ((Nm.toL x.1).map (It.w 6)++[.v (.bool x.2)])
def zP1:P1:=((0,0),false)
def zJ1:J1:=(0,0,0)
theorem zqE:(im zJ1).z=0:=by
 unfold im zJ1
 dsimp only
 exact zad
theorem zcL:RdJ1 zJ1:=by unfold RdJ1;decide +kernel
def Um(x:A1):P1:=((fV x.1,fV x.2),false)
def zDB(x:A1)(len cap n:Nat):St:=aW 0 [⟨false,[.s 1 0 len cap]⟩,wP (x,false)] (44 - [(⟨false,[.s 1 0 len cap]⟩:AV),wP (x,false)].length)++y_ len n
def Lv(x:A1)(len cap n:Nat):St:=[(0,sS 1 len cap),(6,jy 16),(8,jy 17),(10,sI 0),(3,.bl (iZ len n)),(33,Z5 (x,false)),(35,Z5 zP1)]
def Lu(x:A1)(len cap n:Nat):St:=[(0,sS 1 len cap),(6,jy 16),(8,jy 17),(10,sI 0),(3,.bl (iZ len n)),(33,Z5 (Um x)),(35,Z5 zP1)]
def Lt(x:A1)(len cap n:Nat):St:=[(0,sS 1 len cap),(6,jy 16),(8,jy 17),(10,sI 0),(12,jy 60),(3,.bl (iZ len n)),(33,Z5 (Um x)),(35,Z5 zP1),(121,bN zJ1)]
def ud(x:A1)(len cap n:Nat)(i:Int)(o:J1):St:=[(0,sS 1 len cap),(6,jy 16),(8,jy 17),(10,sI 0),(12,jy 60),(14,sI i),(3,.bl (iZ len n)),(33,Z5 (Um x)),(35,Z5 zP1),(121,bN o)]
theorem zOG(x:A1)(len cap n:Nat):probe Tb 100 zF5 (zDB x len cap n) 16 [] ((Lv x len cap n).map (·.1))=some (0,[],(Lv x len cap n).map fun p=>some p.2):=by kernel_rfl
theorem zOF(x:A1)(len cap n:Nat):probes Tb 100 [zGa,zF9] (Lv x len cap n) 40 [] ((Lu x len cap n).map (·.1))=some (0,[e_ (Um x)=true],(Lu x len cap n).map fun p=>some p.2):=by kernel_rfl
theorem zOE(x:A1)(len cap n:Nat):probes Tb 100 [zF8,zF7] (Lu x len cap n) 60 [] ((Lt x len cap n).map (·.1))=some (0,[],(Lt x len cap n).map fun p=>some p.2):=by kernel_rfl
theorem zOD(x:A1)(len cap n:Nat):probe Tb 100 zF6 (Lt x len cap n) 80 [] ((ud x len cap n (iT len) zJ1).map (·.1))=some (0,[],(ud x len cap n (iT len) zJ1).map fun p=>some p.2):=by kernel_rfl
theorem zqg(x:A1)(len cap n:Nat)(i:Int)(o:J1):probe Tb 100 zoF (ud x len cap n i o) 100 [(24,false)] ((ud x len cap n i o).map (·.1))=some (3,[i≥0↔false=true],(ud x len cap n i o).map fun p=>some p.2):=by kernel_rfl
def zvC(len n:Nat)(i:Int)(b:Bool)(o:J1):List Prop:=match b with
 | true=>obZ len n i true++[RdJ1 (Pm o)]
 | false=>obZ len n i false
theorem zqe(x:A1)(len cap n:Nat)(i:Int)(o:J1):probe Tb 100 zoF (ud x len cap n i o) 100 [(24,true),(32,false),(36,true),(38,true)] ((ud x len cap n (IntKind.i64.wrap (i-1)) (Pm o)).map (·.1)) =
 some (0,zvC len n i false o,(ud x len cap n (IntKind.i64.wrap (i-1)) (Pm o)).map fun p=>some p.2):=by kernel_rfl
theorem zzD(x:A1)(len cap n:Nat)(i:Int)(o:J1):probe Tb 100 zoF (ud x len cap n i o) 100 [(24,true),(32,false),(36,true),(38,false)] ((ud x len cap n (IntKind.i64.wrap (i-1)) (pl1 (Pm o) (Um x))).map (·.1)) =
 some (0,zvC len n i true o,(ud x len cap n (IntKind.i64.wrap (i-1)) (pl1 (Pm o) (Um x))).map fun p=>some p.2):=by kernel_rfl
def Od(len n:Nat)(o:J1):St:=[(8,jy 17),(10,sI 0),(3,.bl (iZ len n)),(35,Z5 (gJ (Po (im o))))]
theorem zqf(x:A1)(len cap n:Nat)(i:Int)(o:J1):probe Tb 100 zF4 (ud x len cap n i o) 100 [] ((Od len n o).map (·.1))=some (1,[RdJ1 o],(Od len n o).map fun p=>some p.2):=by kernel_rfl
theorem zeD(x:A1)(len cap n:Nat):aw (Lv x len cap n) [1,16,17]=true:=by kernel_rfl
theorem zeC(x:A1)(len cap n:Nat):aw (Lu x len cap n) [1,16,17]=true:=by kernel_rfl
theorem zeB(x:A1)(len cap n:Nat):aw (Lt x len cap n) [1,16,17,60]=true:=by kernel_rfl
theorem UX(x:A1)(len cap n:Nat)(i:Int)(o:J1):aw (ud x len cap n i o) [1,16,17,60]=true:=by kernel_rfl
theorem zeA(len n:Nat)(o:J1):aw (Od len n o) [1,17]=true:=by kernel_rfl
theorem zo3(x:A1)(len cap n:Nat):∀ id∈[1,16,17],∃ l,(Lv x len cap n).blk id=some l:=by
 intro id cl
 simp only [aae,aad,or_false] at cl
 rcases cl with rfl|rfl|rfl<;>exact ⟨_,rfl⟩
theorem zo2(x:A1)(len cap n:Nat):∀ id∈[1,16,17],∃ l,(Lu x len cap n).blk id=some l:=by
 intro id cl
 simp only [aae,aad,or_false] at cl
 rcases cl with rfl|rfl|rfl<;>exact ⟨_,rfl⟩
theorem zo1(x:A1)(len cap n:Nat):∀ id∈[1,16,17,60],∃ l,(Lt x len cap n).blk id=some l:=by
 intro id cl
 simp only [aae,aad,or_false] at cl
 rcases cl with rfl|rfl|rfl|rfl<;>exact ⟨_,rfl⟩
theorem zh9(x:A1)(len cap n:Nat)(i:Int)(o:J1):∀ id∈[1,16,17,60],∃ l,(ud x len cap n i o).blk id=some l:=by
 intro id cl
 simp only [aae,aad,or_false] at cl
 rcases cl with rfl|rfl|rfl|rfl<;>exact ⟨_,rfl⟩
theorem zo0(len n:Nat)(o:J1):∀ id∈[1,17],∃ l,(Od len n o).blk id=some l:=by
 intro id cl
 simp only [aae,aad,or_false] at cl
 rcases cl with rfl|rfl<;>exact ⟨_,rfl⟩
def IM1(p:Pt F)(m j:Nat)(o:J1):Prop:=RdJ1 o∧Wi (im o) (smul (m/2^j) p)
theorem zcN(o:J1):RdJ1 (Pm o):=by
 unfold Pm RdJ1
 rw [HE]
theorem zuM(o:J1)(x:A1):RdJ1 (pl1 o (Um x)):=by
 unfold RdJ1
 rw [zaj]
 unfold pl1
 split
 ·rename_i h
  unfold w_
  rw [if_pos (show (im o).z=0 from h)]
  unfold AY Um
  simp only [fV,mc]
  rw [zqB]
 ·rfl
theorem ziP{p:Pt F}(hp:On b1 p){m j:Nat}{o:J1}(h:IM1 p m (j+1) o)(e:m/2^j%2=0):IM1 p m j (Pm o):=by
 refine ⟨zcN o,?_⟩
 have hh:=lz m j
 rw [e,Nat.add_zero] at hh
 rw [hh,gb oi hp]
 unfold Pm
 rw [HE]
 exact pM oi (dN oi hp _) h.2
theorem zqi{x:A1}(hp:On b1 (bO (x,false))){m j:Nat}{o:J1}(h:IM1 (bO (x,false)) m (j+1) o)(e:m/2^j%2=1):IM1 (bO (x,false)) m j (pl1 (Pm o) (Um x)):=by
 refine ⟨zuM _ _,?_⟩
 have hh:=lz m j
 rw [e] at hh
 rw [hh]
 show Wi _ (padd (smul (2*(m/2^(j+1))) _) _)
 rw [gb oi hp,zaj]
 unfold Pm
 rw [HE]
 have e1:φ (Um x).1.1=φ x.1:=mc _
 have e2:φ (Um x).1.2=φ x.2:=mc _
 rw [e1,e2]
 exact IC oi (fL oi (dN oi hp _) (dN oi hp _)) hp (pM oi (dN oi hp _) h.2)
theorem zah(x:A1):bO (Um x)=bO (x,false):=by
 show Pt.aff (φ (fV x.1)) (φ (fV x.2))=Pt.aff (φ x.1) (φ x.2)
 simp only [fV,mc]
theorem Ch(b o len cap:Nat)(x:P1):ay (kw b o) [⟨false,[.s 1 0 len cap]⟩,wP x]=some [.slice (some ⟨b,o,none⟩) len cap,i_ x]:=by simp only [ay,jO,Bq]
theorem znq(x:A1)(hp:On b1 (bO (x,false))):AW Tryz.prog 40 (fun s=>[s,i_ (x,false)]) (fun len n=>uj.vl (gJ (smul (n%pw len) (bO (x,false))),0)):=by
 intro b o len cap n hlen w jX
 refine .inr ⟨zht.enter _ _,?_⟩
 have hv:=Ch b o len cap (x,false)
 refine (bX (G:=fun xs st=>xs=[wP (gJ (smul (n%pw len) (bO (x,false)))),pp 0]) ab zht (j0 jX) (by kernel_rfl) hv (by rw [zL];simp) fun a c9=>?_).mono ?_
 ·rw [zL] at c9
  have c9:At 44 (kw b o) w (zDB x len cap n) a w:=c9
  rw [zL,Oy,zhu]
  refine wp_seq (At.probe (E:=Tb) an ab zU (zOG x len cap n) (fun p hp=>by cases hp) c9 [1,16,17] (zo3 _ _ _ _) (zeD _ _ _ _) (dp (by simp)) fun a1 w1 h1=>?_)
  refine wp_scope_straight (At.probes (E:=Tb) an ab zU (zOF x len cap n) (cQ ((gS _).2 (by rw [zah];exact hp))) h1 [1,16,17] (zo2 _ _ _ _) (zeC _ _ _ _) (dp (by simp)) fun a2 w2 h2=>?_)
  show aaT _ _ _ _ _
  refine At.probes (E:=Tb) an ab zU (zOE x len cap n) (fun p hp=>by cases hp) h2 [1,16,17,60] (zo1 _ _ _ _) (zeB _ _ _ _) (dp (by simp)) fun a3 w3 h3=>?_
  show aaT _ _ _ _ _
  refine wp_seq (wp_seq (At.probe (E:=Tb) an ab zU (zOD x len cap n) (fun p hp=>by cases hp) h3 [1,16,17,60] (zh9 _ _ _ _ _ _) (UX _ _ _ _ _ _) (dp (by simp)) fun a' w' bY=>?_))
  rw [zfn hlen] at bY
  show aaT _ _ _ _ _
  have hm:n%pw len<2^(64*len):=Nat.mod_lt _ (Nat.two_pow_pos _)
  refine wp_block (Ey (E:=Tb) ab zU (ud x len cap n) [1,16,17,60] (by simp) (UX x len cap n) (zh9 x len cap n) hlen Pm (fun o=>pl1 o (Um x)) (IM1 (bO (x,false)) (n%pw len))
   (kx:=1) (zqg x len cap n) (zvC len n) (fun j b s hj _ hb=>?_) (zqe x len cap n) (zzD x len cap n) (fun j s _ hI e=>ziP hp hI e) (fun j s _ hI e=>zqi hp hI e) (fun s a2 w2 hI h2=>?_) ?_ bY)
  ·cases b with
   | true=>
    intro p hp
    rcases aaw.1 hp with hp|hp
    ·exact IX hlen hj hb p hp
    ·exact cQ (zcN s) p hp
   | false=>exact IX hlen hj hb
  ·have e3:Po (im s)=smul (n%pw len) (bO (x,false)):=by
    have:=yF hI.2
    rwa [Nat.pow_zero,Nat.div_one] at this
   show aaT _ _ _ _ _
   refine At.probe (E:=Tb) an ab zU (zqf x len cap n _ s) (cQ hI.1) h2 [1,17] (zo0 _ _ _) (zeA _ _ _) (dp (by simp)) fun a3 w3 h3=>?_
   unfold Od at h3
   rw [e3] at h3
   exact ⟨.inr rfl,_,_,h3,by kernel_rfl,rfl⟩
  ·have e:n%pw len/2^(64*len)=0:=abf hm
   refine ⟨?_,?_⟩
   ·exact zcL
   ·rw [e]
    exact zqE
 ·rintro e w' ⟨v,rfl,xs,st,ρ',hE,hval,Bg,rfl⟩
  refine ⟨v,rfl,?_,hE.below (lL b o)⟩
  have e:=uj.val ρ' (gJ (smul (n%pw len) (bO (x,false))),0)
  have:(uj.sv (gJ (smul (n%pw len) (bO (x,false))),0)).val ρ'=some v:=hval
  rw [e] at this
  cases this;rfl
theorem lJ{T:CallT}(hT:ag Tryz.prog T){f:FuncId}{args:List AV}{m:St}{hints:List (Nat×Bool)}{s:SV}{ob:List Prop}(h:j9 T f args m hints=some (s,ob))(ax:∀ p∈ob,p){ρ:Rho}{w:World}(hM:Mem ρ m w)
  (cv:∀ c,¬Own ρ c) {vs:List Value} (hv:ay ρ args=some vs) {v:Value} (hval:∀ ρ u,s.val ρ=some u→u=v):Invoked Tryz.prog f vs.toArray w fun u w'=>u=v∧Below w.heap.size w w':=by
 unfold j9 at h
 split at h
 ·rename_i d hd
  split at h
  ·rename_i o ho
   cases h
   refine .inr ⟨(aB _ _ hd).enter _ _,(fB an ab (dd an ab hT aB 1000 6) (aB _ _ hd) ho ax hv hM).mono ?_⟩
   rintro e w' ⟨u,rfl,ρ',hE,hu,_⟩
   exact ⟨u,rfl,hval ρ' u hu,hE.below cv⟩
  ·cases h
 ·cases h
theorem ND(x:P1)(len cap n:Nat):j9 (TM1 false) 40 [⟨false,[.s 1 0 len cap]⟩,wP x] (y_ len n) []=some (.tup [wP (((0,0),false):P1),pp 120],[e_ (gJ (bO x))=false]):=by kernel_rfl
theorem NE(x:A1)(len cap n:Nat):j9 (TM1 true) 40 [⟨false,[.s 1 0 len cap]⟩,wP (x,true)] (y_ len n) []=some (.tup [wP (((0,0),true):P1),pp 0],[e_ (gJ (bO (x,true)))=true]):=by kernel_rfl
theorem NF(x:P1):aK (TM1 false) 40 [⟨false,[.v (.slice none 0 0)]⟩,wP x] []=some (.tup [wP (((0,0),false):P1),pp 120],[e_ (gJ (bO x))=false]):=by kernel_rfl
theorem NG(x:A1):aK (TM1 true) 40 [⟨false,[.v (.slice none 0 0)]⟩,wP (x,true)] []=some (.tup [wP (((0,0),true):P1),pp 0],[e_ (gJ (bO (x,true)))=true]):=by kernel_rfl
theorem NH(x:A1):aK (TM1 true) 40 [⟨false,[.v (.slice none 0 0)]⟩,wP (x,false)] []=some (.tup [wP (gJ (Po (im zJ1))),pp 0],[e_ (Um x)=true,RdJ1 zJ1]):=by kernel_rfl
theorem xZ(x:P1):ay rho0 [⟨false,[.v (.slice none 0 0)]⟩,wP x]=some [.slice none 0 0,i_ x]:=by
 have e:AV.val rho0 ⟨false,[.v (.slice none 0 0)]⟩=some (.slice none 0 0):=AV.val_v (ρ:=rho0) (x:=.slice none 0 0) rfl
 simp only [ay,jO,e]
theorem rl(x:P1)(i:Int):∀ ρ u,(SV.tup [wP x,pp i]).val ρ=some u→u=uj.vl (x,i):=by
 intro ρ u hu
 have e:=uj.val ρ (x,i)
 have:(uj.sv (x,i)).val ρ=some u:=hu
 rw [e] at this
 cases this;rfl
theorem wC(x:P1):e_ (gJ (bO x))=e_ x:=by unfold e_;rw [tV]
theorem zxp(x:P1):AW Tryz.prog 40 (fun s=>[s,i_ x]) (fun len n=>uj.vl (lZ x (n%pw len))):=by
 by_cases nH:On b1 (bO x)
 ·have hb:=(gS x).2 nH
  unfold lZ
  rw [hb]
  obtain ⟨x,c⟩:=x
  cases c with
  | false=>exact znq x nH
  | true=>
   intro b o len cap n hlen w jX
   have h0:smul (n%pw len) (bO (x,true)) = .inf:=jZ _
   show Invoked _ _ _ _ fun u w'=>u=uj.vl (gJ (smul (n%pw len) (bO (x,true))),0)∧_
   rw [h0]
   exact lJ (zZ true) (NE x len cap n) (cQ (by rw [wC];exact hb)) (j0 jX) (lL b o) (Ch b o len cap (x,true)) (rl _ _)
 ·have hb:=Mj nH
  unfold lZ
  rw [hb]
  intro b o len cap n hlen w jX
  exact lJ (zZ false) (ND x len cap n) (cQ (by rw [wC];exact hb)) (j0 jX) (lL b o) (Ch b o len cap x) (rl _ _)
theorem RY(x:P1):bj Tryz.prog 40 [.slice none 0 0,i_ x] (uj.vl (lZ x 0)):=by
 by_cases nH:On b1 (bO x)
 ·have hb:=(gS x).2 nH
  unfold lZ
  rw [hb]
  obtain ⟨x,c⟩:=x
  cases c with
  | false=>
   refine bi (zZ true) (NH x) ?_ (xZ _) fun ρ u hu=>?_
   ·simp only [aab,aad,false_imp_iff,implies_true,and_true]
    exact ⟨(gS _).2 (by rw [zah];exact nH),zcL⟩
   ·rw [rl _ _ ρ u hu]
    have e:Po (im zJ1) = .inf:=yF (p:=.inf) zqE
    rw [e];rfl
  | true=>
   refine bi (zZ true) (NG x) (cQ (by rw [wC];exact hb)) (xZ _) fun ρ u hu=>?_
   rw [rl _ _ ρ u hu];rfl
 ·have hb:=Mj nH
  unfold lZ
  rw [hb]
  exact bi (zZ false) (NF x) (cQ (by rw [wC];exact hb)) (xZ _) (rl _ _)
theorem RX:ag Tryz.prog (Gx (dV A1) uj 40 lZ):=L0 zxp RY
def dj:P1:=((0x17f1d3a73197d7942695638c4fa9ac0fc3688c4f9774b905a14e3a3f171bac586c55e83ff97a1aeffb3af00adb22c6bb,0x08b3f481e3aaa0f1a09e30ed741d8ae4fcf5e095d5d00af600db18cb2c04b3edd03cc744a2888ae40caa232946c5e7e1),false)
def zc8(r:Option (SV×List Prop)):AV:=match r with
 | some (.one x,_)=>x
 | _=>⟨false,[]⟩
theorem NI:aK ni 11 [] []=some (.one (zc8 (aK ni 11 [] [])),[]):=by kernel_rfl
theorem RZ:(dV A1).rd (zc8 (aK ni 11 [] []))=some dj:=by kernel_rfl
theorem znr:bj Tryz.prog 11 [] (i_ dj):=pP iM (dV A1) NI RZ (fun _ h=>by cases h) zqK rfl
def E9(x:P1):Bool:=match x.2 with
 | true=>true
 | false=>aaK (ao x.1.2 x.1.2) (bZ (ao (ao x.1.1 x.1.1) x.1.1) 4)
theorem BC(x:P1):e_ x=E9 x:=by
 have key:e_ x=true↔E9 x=true:=by
  rw [gS]
  obtain ⟨x,b⟩:=x
  cases b with
  | true=>exact ⟨fun _=>rfl,fun _=>trivial⟩
  | false=>
   show φ x.2*φ x.2=φ x.1*φ x.1*φ x.1+b1↔aaK (ao x.2 x.2) (bZ (ao (ao x.1 x.1) x.1) 4)=true
   have e:bZ (ao (ao x.1 x.1) x.1) 4=jz (φ x.1*φ x.1*φ x.1+b1):=by
    show jz (φ (jz (φ (jz (φ x.1*φ x.1))*φ x.1))+b1)=_
    rw [mc,mc]
   rw [e,ada]
   constructor
   ·intro h
    show jz (φ x.2*φ x.2)=_
    rw [h]
   ·intro h
    exact u_ h
 cases h1:e_ x<;>cases h2:E9 x<;>simp_all
theorem O6:e_ dj=true:=by rw [BC];decide +kernel
theorem O7:On b1 (bO dj):=(gS _).1 O6
theorem Dl{x:P1}(h:e_ x=true)(m:Nat):lZ x m=(gJ (smul m (bO x)),0):=by unfold lZ;rw [h]
theorem Yh{x:P1}(h:e_ x=false)(m:Nat):lZ x m=(zP1,120):=by unfold lZ;rw [h];rfl
def Im:List Row:=
 zcC (dV A1).rs 11 dj ::
 jb (dV A1) (dV A1).rs 96 (fun x=>gJ (bO x).neg) ::
 jb (dV A1) AG.rs 24 E9::jb (dV A1) (dV A1).rs 87 (fun x=>gJ (bO x))::pL
theorem Gk:∀ r∈Im,bE Tryz.prog r:=by
 unfold Im
 refine aab.2 ⟨zcB znr,?_⟩
 refine aab.2 ⟨cW zxo,?_⟩
 simp only [aab]
 exact ⟨cW (fun x=>by rw [show AG.rs.vl (E9 x)=Value.bool (e_ x) by rw [BC];rfl];exact Vt x),cW Hb,lj⟩
def yy(x y:N2):Bool:=aaK x.1 y.1&&aaK x.2 y.2
theorem Qt{x y:N2}:yy x y=true↔x=y:=by
 unfold yy
 rw [Bool.and_eq_true,ada,ada]
 exact ⟨fun h=>Prod.ext h.1 h.2,fun h=>by rw [h];exact ⟨rfl,rfl⟩⟩
abbrev A2:=N2×N2
abbrev P2:=A2×Bool
abbrev J2:=N2×N2×N2
def b2:F2:=ar (4,4)
theorem ic:Cv F2 b2 where
 two h:=by
  have:dr ((1:F2)+1)=dr 0:=by rw [h]
  revert this
  decide +kernel
 three h:=by
  have:dr ((1:F2)+1+1)=dr 0:=by rw [h]
  revert this
  decide +kernel
 bne h:=by
  have:dr b2=dr 0:=by rw [h]
  revert this
  decide +kernel
def ιP2(x:P2):Pt F2:=match x.2 with
 | true=>.inf
 | false=>.aff (ar x.1.1) (ar x.1.2)
def cS(p:Pt F2):P2:=match p with
 | .inf=>(((0,0),(0,0)),true)
 | .aff x y=>((dr x,dr y),false)
theorem jN(p:Pt F2):ιP2 (cS p)=p:=by
 cases p with
 | inf=>rfl
 | aff x y=>show Pt.aff (ar (dr x)) (ar (dr y))=_;rw [bW,bW]
def il(f:J2):Jc F2:=⟨ar f.1,ar f.2.1,ar f.2.2⟩
def AX(f:Jc F2):J2:=(dr f.x,dr f.y,dr f.z)
theorem HD(f:Jc F2):il (AX f)=f:=by
 unfold il AX
 rw [bW,bW,bW]
theorem u9:((0,0):N2)=dr 0:=by decide +kernel
theorem zqA:((1,0):N2)=dr 1:=by decide +kernel
theorem zqC:ar (0,0)=0:=by rw [u9,bW]
theorem zAH:ar (1,0)=1:=by rw [zqA,bW]
def RdJ2(f:J2):Prop:=AX (il f)=f
def fw(x:P2):Bool:=@decide (On b2 (ιP2 x)) (acB _)
theorem fM(x:P2):fw x=true↔On b2 (ιP2 x):=by unfold fw;exact @decide_eq_true_iff _ (acB _)
theorem Mi{x:P2}(h:¬On b2 (ιP2 x)):fw x=false:=by
 cases e:fw x with
 | false=>rfl
 | true=>exact absurd ((fM x).1 e) h
def Z6:CallT:=aA j_
theorem oq:ag Tryz.prog Z6:=ap fF
theorem DT(x:A2):aK Z6 104 [wP (x,true)] []=some (.one (wP (((0,0),(0,0)),true)),[]):=by kernel_rfl
theorem DU(x:A2):aK Z6 104 [wP (x,false)] []=some (.one (wP ((aE x.1,aE x.2),false)),[]):=by kernel_rfl
theorem Ha(x:P2):bj Tryz.prog 104 [i_ x] (i_ (cS (ιP2 x))):=by
 obtain ⟨x,b⟩:=x
 cases b with
 | true=>exact ah oq (dV A2).rs (DT x) (fun _ h=>by cases h) (ir (dV _) _) rfl
 | false=>exact ah oq (dV A2).rs (DU x) (fun _ h=>by cases h) (ir (dV _) _) rfl
theorem RR(x:A2):aK Z6 31 [wP (x,true)] []=some (vB true,[]):=by kernel_rfl
def zvm(x:A2)(h:Bool):Prop:=dJ (ai x.2 x.2) (bk (ai (ai x.1 x.1) x.1) (4,4)) h
theorem RS(x:A2):∀ h:Bool,aK Z6 31 [wP (x,false)] [(21,h)]=some (vB h,[zvm x h])
 | true=>by kernel_rfl
 | false=>by kernel_rfl
theorem zlu{x:A2}{h:Bool}(e:On b2 (.aff (ar x.1) (ar x.2))↔h=true):zvm x h:=by
 unfold zvm
 simp only [ai,bk]
 refine znM ?_
 rw [bW,bW]
 exact e
theorem Vs(x:P2):bj Tryz.prog 31 [i_ x] (.bool (fw x)):=by
 obtain ⟨x,b⟩:=x
 cases b with
 | true=>exact sH oq (RR x) (fun _ h=>by cases h) (ir (dV _) _) (((fM (x,true)).2 trivial).symm)
 | false=>exact sH oq (RS x (fw (x,false))) (cQ (zlu (fM (x,false)).symm)) (ir (dV _) _) rfl
def Iu:List Row:=jb (dV A2) (dV A2).rs 104 (fun x=>cS (ιP2 x))::jb (dV A2) AG.rs 31 fw::j_
theorem Gs:∀ r∈Iu,bE Tryz.prog r:=by
 simp only [Iu,aab]
 exact ⟨cW Ha,cW Vs,fF⟩
def TA2:CallT:=aA Iu
theorem z7:ag Tryz.prog TA2:=ap Gs
def zyi(l x1 x2:N2):N2:=d_ (d_ (ai l l) x1) x2
def zFs(l x1 y1 x2:N2):N2:=d_ (ai l (d_ x1 (zyi l x1 x2))) y1
def ch2(l x1 y1 x2:N2):P2:=((zyi l x1 x2,zFs l x1 y1 x2),false)
def Xi(x y:A2):N2:=ai (d_ (aE y.2) (aE x.2)) (bU (d_ (aE y.1) (aE x.1)))
def Xh(x:A2):N2:=ai (bk (bk (ai (aE x.1) (aE x.1)) (ai (aE x.1) (aE x.1))) (ai (aE x.1) (aE x.1))) (bU (bk (aE x.2) (aE x.2)))
theorem Nv(x:A2)(y:P2):aK TA2 79 [wP (x,true),wP y] []=some (.one (wP (cS (ιP2 y))),[]):=by kernel_rfl
theorem JN(x y:A2):aK TA2 79 [wP (x,false),wP (y,true)] []=some (.one (wP ((aE x.1,aE x.2),false)),[]):=by kernel_rfl
theorem NA(x y:A2):aK TA2 79 [wP (x,false),wP (y,false)] [(42,false)]=some (.one (wP (ch2 (Xi x y) (aE x.1) (aE x.2) (aE y.1))),[dJ (aE x.1) (aE y.1) false]):=by kernel_rfl
theorem Nz(x y:A2):aK TA2 79 [wP (x,false),wP (y,false)] [(42,true),(58,false)]=some (.one (wP (((0,0),(0,0)),true)),[dJ (aE x.1) (aE y.1) true,dJ (aE x.2) (aE y.2) false]):=by kernel_rfl
theorem Nx(x y:A2):aK TA2 79 [wP (x,false),wP (y,false)] [(42,true),(58,true),(63,true)]=some (.one (wP (((0,0),(0,0)),true)),[dJ (aE x.1) (aE y.1) true,dJ (aE x.2) (aE y.2) true,dJ (aE x.2) (0,0) true]):=by kernel_rfl
theorem Nw(x y:A2):aK TA2 79 [wP (x,false),wP (y,false)] [(42,true),(58,true),(63,false)]=some (.one (wP (ch2 (Xh x) (aE x.1) (aE x.2) (aE y.1))),[dJ (aE x.1) (aE y.1) true,dJ (aE x.2) (aE y.2) true,dJ (aE x.2) (0,0) false]):=by kernel_rfl
theorem xu{x y:N2}{b:Bool}(h:ar x=ar y↔b=true):dJ (aE x) (aE y) b:=znM h
theorem znL{x:N2}{b:Bool}(h:ar x=0↔b=true):dJ (aE x) (0,0) b:=by
 have:dJ (aE x) (dr 0) b:=znM h
 rw [←u9] at this
 exact this
theorem sj{l x1 y1 x2:N2}{L X1 Y1 X2:F2}(hl:ar l=L)(h1:ar x1=X1)(h2:ar y1=Y1)(h3:ar x2=X2):ch2 l x1 y1 x2=cS (sumBy L X1 Y1 X2):=by
 subst hl h1 h2 h3
 unfold ch2 zFs zyi sumBy cS
 simp only [d_,ai,bW]
theorem zxn(x y:P2):bj Tryz.prog 79 [i_ x,i_ y] (i_ (cS (padd (ιP2 x) (ιP2 y)))):=by
 obtain ⟨x,b⟩:=x
 have hr:∀ t:N2,ar (aE t)=ar t:=fun t=>bW _
 cases b with
 | true=>
  refine ah z7 (dV A2).rs (Nv x y) (fun _ h=>by cases h) (ri (dV _) (dV _) _ _) ?_
  show cS (ιP2 y)=cS (padd .inf (ιP2 y))
  rw [b6]
 | false=>
  obtain ⟨y,c⟩:=y
  cases c with
  | true=>exact ah z7 (dV A2).rs (JN x y) (fun _ h=>by cases h) (ri (dV _) (dV _) _ _) rfl
  | false=>
   show bj _ _ _ (i_ (cS (padd (.aff (ar x.1) (ar x.2)) (.aff (ar y.1) (ar y.2)))))
   rw [eI]
   by_cases hx:ar x.1=ar y.1
   ·rw [if_pos hx]
    by_cases hy:ar x.2=ar y.2
    ·by_cases h0:ar x.2=0
     ·rw [if_pos (.inr h0)]
      refine ah z7 (dV A2).rs (Nx x y) ?_ (ri (dV _) (dV _) _ _) rfl
      simp only [aab,aad,false_imp_iff,implies_true,and_true]
      exact ⟨xu (bD hx),xu (bD hy),znL (bD h0)⟩
     ·rw [if_neg (by rintro (e | e)<;>contradiction)]
      refine ah z7 (dV A2).rs (Nw x y) ?_ (ri (dV _) (dV _) _ _) ?_
      ·simp only [aab,aad,false_imp_iff,implies_true,and_true]
       exact ⟨xu (bD hx),xu (bD hy),znL (br h0)⟩
      ·refine sj ?_ (hr _) (hr _) (hr _)
       unfold Xh
       simp only [ai,bk,bU,aE,bW]
    ·rw [if_pos (.inl hy)]
     refine ah z7 (dV A2).rs (Nz x y) ?_ (ri (dV _) (dV _) _ _) rfl
     simp only [aab,aad,false_imp_iff,implies_true,and_true]
     exact ⟨xu (bD hx),xu (br hy)⟩
   ·rw [if_neg hx]
    refine ah z7 (dV A2).rs (NA x y) (cQ (xu (br hx))) (ri (dV _) (dV _) _ _) ?_
    refine sj ?_ (hr _) (hr _) (hr _)
    unfold Xi
    simp only [ai,d_,bU,aE,bW]
def Pl(f:J2):J2:=AX (Fe (il f))
theorem JI(f:J2):aK Z6 105 [wN f] []=some (.one (wN (((d_ (ai (bk (bk (ai f.1 f.1) (ai f.1 f.1)) (ai f.1 f.1)) (bk (bk (ai f.1 f.1) (ai f.1 f.1)) (ai f.1 f.1))) (bk (bk (bk (ai f.1 (ai f.2.1 f.2.1)) (ai f.1 (ai f.2.1 f.2.1))) (bk (ai f.1 (ai f.2.1 f.2.1)) (ai f.1 (ai f.2.1 f.2.1)))) (bk (bk (ai f.1 (ai f.2.1 f.2.1)) (ai f.1 (ai f.2.1 f.2.1))) (bk (ai f.1 (ai f.2.1 f.2.1)) (ai f.1 (ai f.2.1 f.2.1)))))),(d_ (ai (bk (bk (ai f.1 f.1) (ai f.1 f.1)) (ai f.1 f.1)) (d_ (bk (bk (ai f.1 (ai f.2.1 f.2.1)) (ai f.1 (ai f.2.1 f.2.1))) (bk (ai f.1 (ai f.2.1 f.2.1)) (ai f.1 (ai f.2.1 f.2.1)))) (d_ (ai (bk (bk (ai f.1 f.1) (ai f.1 f.1)) (ai f.1 f.1)) (bk (bk (ai f.1 f.1) (ai f.1 f.1)) (ai f.1 f.1))) (bk (bk (bk (ai f.1 (ai f.2.1 f.2.1)) (ai f.1 (ai f.2.1 f.2.1))) (bk (ai f.1 (ai f.2.1 f.2.1)) (ai f.1 (ai f.2.1 f.2.1)))) (bk (bk (ai f.1 (ai f.2.1 f.2.1)) (ai f.1 (ai f.2.1 f.2.1))) (bk (ai f.1 (ai f.2.1 f.2.1)) (ai f.1 (ai f.2.1 f.2.1)))))))) (bk (bk (bk (ai (ai f.2.1 f.2.1) (ai f.2.1 f.2.1)) (ai (ai f.2.1 f.2.1) (ai f.2.1 f.2.1))) (bk (ai (ai f.2.1 f.2.1) (ai f.2.1 f.2.1)) (ai (ai f.2.1 f.2.1) (ai f.2.1 f.2.1)))) (bk (bk (ai (ai f.2.1 f.2.1) (ai f.2.1 f.2.1)) (ai (ai f.2.1 f.2.1) (ai f.2.1 f.2.1))) (bk (ai (ai f.2.1 f.2.1) (ai f.2.1 f.2.1)) (ai (ai f.2.1 f.2.1) (ai f.2.1 f.2.1)))))),(bk (ai f.2.1 f.2.2) (ai f.2.1 f.2.2))):J2)),[]):=by kernel_rfl
theorem zfX(f:J2):bj Tryz.prog 105 [wv f] (wv (Pl f)):=by
 refine ah oq (kV J2).rs (JI f) (fun _ h=>by cases h) (ir (kV _) _) ?_
 unfold Pl AX Fe il
 simp only [ai,bk,d_,bW]
open Classical in
def pl2(f:J2)(q:P2):J2:=if ar f.2.2=0 then (q.1.1,q.1.2,(1,0)) else AX (w_ (il f) (ar q.1.1) (ar q.1.2))
theorem zai(f:J2)(q:P2):il (pl2 f q)=w_ (il f) (ar q.1.1) (ar q.1.2):=by
 unfold pl2
 split
 ·rename_i h
  unfold w_
  rw [if_pos (show (il f).z=0 from h)]
  unfold il
  rw [zAH]
 ·rw [HD]
def Ir:List Row:=jk 105 Pl::Iu
theorem Gq:∀ r∈Ir,bE Tryz.prog r:=by
 simp only [Ir,aab]
 exact ⟨da zfX,Gs⟩
def TB2:CallT:=aA Ir
theorem uR:ag Tryz.prog TB2:=ap Gq
def uF(f:J2)(q:P2):N2:=d_ (ai q.1.1 (ai f.2.2 f.2.2)) f.1
def XL(f:J2)(q:P2):N2:=d_ (ai q.1.2 (ai (ai f.2.2 f.2.2) f.2.2)) f.2.1
theorem JM(f:J2)(q:P2):aK TB2 106 [wN f,wP q] [(17,true)]=some (.one ⟨true,(Nm.toL q.1).map (It.w 6)++zde⟩,[dJ f.2.2 ((0,0):N2) true]):=by kernel_rfl
theorem JL(f:J2)(q:P2):aK TB2 106 [wN f,wP q] [(17,false),(50,true),(54,true)]=some (.one (wN (Pl f)),[dJ f.2.2 ((0,0):N2) false,dJ (uF f q) (0,0) true,dJ (XL f q) (0,0) true]):=by kernel_rfl
theorem JK(f:J2)(q:P2):aK TB2 106 [wN f,wP q] [(17,false),(50,true),(54,false),(61,true)]=some (.one (wN (((0,0),(0,0),(0,0)):J2)),[dJ f.2.2 ((0,0):N2) false,dJ (uF f q) (0,0) true,dJ (XL f q) (0,0) false,dJ (uF f q) (0,0) true]):=by kernel_rfl
theorem JJ(f:J2)(q:P2):aK TB2 106 [wN f,wP q] [(17,false),(50,false),(61,false)] =
  some (.one (wN (((d_ (d_ (ai (XL f q) (XL f q)) (ai (ai (uF f q) (uF f q)) (uF f q))) (bk (ai f.1 (ai (uF f q) (uF f q))) (ai f.1 (ai (uF f q) (uF f q))))),(d_ (ai (XL f q) (d_ (ai f.1 (ai (uF f q) (uF f q))) (d_ (d_ (ai (XL f q) (XL f q)) (ai (ai (uF f q) (uF f q)) (uF f q))) (bk (ai f.1 (ai (uF f q) (uF f q))) (ai f.1 (ai (uF f q) (uF f q))))))) (ai f.2.1 (ai (ai (uF f q) (uF f q)) (uF f q)))),(ai f.2.2 (uF f q))):J2)),[dJ f.2.2 ((0,0):N2) false,dJ (uF f q) (0,0) false,dJ (uF f q) (0,0) false]):=by kernel_rfl
theorem zxT{x:F2}{b:Bool}(h:x=0↔b=true):dJ (dr x) ((0,0):N2) b:=by
 have:dJ (dr x) (dr 0) b:=znM h
 rw [←u9] at this
 exact this
theorem AO{x:N2}{b:Bool}(hx:dr (ar x)=x)(h:ar x=0↔b=true):dJ x ((0,0):N2) b:=by
 have:=zxT h
 rwa [hx] at this
theorem RdJ2.z{f:J2}(h:RdJ2 f):dr (ar f.2.2)=f.2.2:=congrArg (fun t:J2=>t.2.2) h
theorem znn(f:J2)(q:P2)(hf:RdJ2 f):bj Tryz.prog 106 [wv f,i_ q] (wv (pl2 f q)):=by
 have hv:=ri (kV J2) (dV A2) f q
 have hz:=hf.z
 have hh:ar (uF f q)=ar q.1.1*(ar f.2.2*ar f.2.2)-ar f.1:=by
  unfold uF
  simp only [ai,d_,bW]
 have hr:ar (XL f q)=ar q.1.2*(ar f.2.2*ar f.2.2*ar f.2.2)-ar f.2.1:=by
  unfold XL
  simp only [ai,d_,bW]
 have eh:∀ {b:Bool},(ar (uF f q)=0↔b=true)→dJ (uF f q) ((0,0):N2) b:=fun h=>AO (congrArg dr (bW _)) h
 have er:∀ {b:Bool},(ar (XL f q)=0↔b=true)→dJ (XL f q) ((0,0):N2) b:=fun h=>AO (congrArg dr (bW _)) h
 unfold pl2
 by_cases h0:ar f.2.2=0
 ·rw [if_pos h0]
  exact pP uR (kV J2) (a:=(q.1.1,q.1.2,(1,0))) (JM f q) (by kernel_rfl) (cQ (AO hz (bD h0))) hv rfl
 ·rw [if_neg h0]
  unfold w_
  rw [if_neg (show ¬(il f).z=0 from h0)]
  by_cases h1:ar (uF f q)=0
  ·rw [if_pos (show ar q.1.1*((il f).z*(il f).z)-(il f).x=0 from hh.symm.trans h1)]
   by_cases h2:ar (XL f q)=0
   ·rw [if_pos (show ar q.1.2*((il f).z*(il f).z*(il f).z)-(il f).y=0 from hr.symm.trans h2)]
    refine ah uR (kV J2).rs (JL f q) ?_ hv rfl
    simp only [aab,aad,false_imp_iff,implies_true,and_true]
    exact ⟨AO hz (br h0),eh (bD h1),er (bD h2)⟩
   ·rw [if_neg (show ¬ar q.1.2*((il f).z*(il f).z*(il f).z)-(il f).y=0 from fun e=>h2 (hr.trans e))]
    refine ah uR (kV J2).rs (JK f q) ?_ hv ?_
    ·simp only [aab,aad,false_imp_iff,implies_true,and_true]
     exact ⟨AO hz (br h0),eh (bD h1),er (br h2),eh (bD h1)⟩
    ·unfold AX
     rw [u9]
  ·rw [if_neg (show ¬ar q.1.1*((il f).z*(il f).z)-(il f).x=0 from fun e=>h1 (hh.trans e))]
   refine ah uR (kV J2).rs (JJ f q) ?_ hv ?_
   ·simp only [aab,aad,false_imp_iff,implies_true,and_true]
    exact ⟨AO hz (br h0),eh (br h1),eh (br h1)⟩
   ·unfold AX U_ il uF XL
    simp only [ai,d_,bk,bW]
theorem Fq(f:J2):aK TB2 107 [wN f] [(7,true)]=some (.one (wP (((0,0),(0,0)),true)),[dJ f (((0,0),(0,0),(0,0)):J2) true]):=by kernel_rfl
theorem Fp(f:J2):aK TB2 107 [wN f] [(7,false),(12,true)]=some (.one (wP (((0,0),(0,0)),true)),[dJ f (((0,0),(0,0),(0,0)):J2) false,dJ f.2.2 ((0,0):N2) true]):=by kernel_rfl
theorem Fo(f:J2):aK TB2 107 [wN f] [(7,false),(12,false)] =
  some (.one (wP ((ai f.1 (ai (bU f.2.2) (bU f.2.2)),ai f.2.1 (ai (ai (bU f.2.2) (bU f.2.2)) (bU f.2.2))),false)),[dJ f (((0,0),(0,0),(0,0)):J2) false,dJ f.2.2 ((0,0):N2) false]):=by kernel_rfl
theorem zBI(f:Jc F2):Sm (AX f):=lh (mf _) (lh (mf _) (mf _))
theorem zxY{f:J2}(hf:RdJ2 f){b:Bool}(h:f=((0,0),(0,0),(0,0))↔b=true):dJ f (((0,0),(0,0),(0,0)):J2) b:=by
 have e:(((0,0),(0,0),(0,0)):J2)=AX ⟨0,0,0⟩:=by
  unfold AX
  rw [u9]
 refine ej (by rw [←hf];exact zBI _) (by rw [e];exact zBI _) h
theorem zfY(f:J2)(hf:RdJ2 f):bj Tryz.prog 107 [wv f] (i_ (cS (Po (il f)))):=by
 have hv:=ir (kV J2) f
 unfold Po
 by_cases h0:ar f.2.2=0
 ·rw [if_pos (show (il f).z=0 from h0)]
  by_cases hz:f=((0,0),(0,0),(0,0))
  ·exact ah uR (dV A2).rs (Fq f) (cQ (zxY hf (bD hz))) hv rfl
  ·refine ah uR (dV A2).rs (Fp f) ?_ hv rfl
   simp only [aab,aad,false_imp_iff,implies_true,and_true]
   exact ⟨zxY hf (br hz),AO hf.z (bD h0)⟩
 ·rw [if_neg (show ¬(il f).z=0 from h0)]
  have hz:f≠((0,0),(0,0),(0,0)):=fun e=>h0 (by rw [e];exact zqC)
  refine ah uR (dV A2).rs (Fo f) ?_ hv ?_
  ·simp only [aab,aad,false_imp_iff,implies_true,and_true]
   exact ⟨zxY hf (br hz),AO hf.z (br h0)⟩
  ·unfold cS il
   simp only [ai,bU,bW]
end Go.Proofs.YtcafpgpahbplaaaGreat
namespace Go.Proofs.YtcafpgpahbplaaaGreat
open Go Go.Eng Go.RowKit Go.Wd Go.Alg Go.Pr
def jJ(x:P2)(m:Nat):P2×Int:=match fw x with
 | true=>(cS (smul m (ιP2 x)),0)
 | false=>((((0,0),(0,0)),false),120)
def nE:Rs (P2×Int):=tI (dV A2) tj
def QM(b:Bool):List Row:=tJ (dV A2) AG.rs 31 (fun _=>b) (fun x=>fw x=b)::L6 (kV J2) (dV A2) (kV J2).rs 106 pl2 (fun f _=>RdJ2 f) ::
 tJ (kV J2) (dV A2).rs 107 (fun f=>cS (Po (il f))) RdJ2::Ir
theorem XD(b:Bool):∀ r∈QM b,bE Tryz.prog r:=by
 simp only [QM,aab]
 exact ⟨lU fun x hx=>by rw [←hx];exact Vs x,C0 fun f q hf=>znn f q hf,lU zfY,Gq⟩
def TM2(b:Bool):CallT:=aA (QM b)
theorem zY(b:Bool):ag Tryz.prog (TM2 b):=ap (XD b)
def dM2:Fn1:=match fJ 70 with
 | some d=>d
 | none=>⟨.skip,[],0⟩
theorem zhr:FnOk Tryz.prog 70 dM2:=aB _ _ (by kernel_rfl)
def Ta:Eng:={ tab:=bh,call:=jw bh (TM2 true) fJ 1000 6,N:=44 }
set_option maxRecDepth 100000 in
theorem zT:ag Tryz.prog Ta.call:=dd an ab (zY true) aB 1000 6
def zFY:Code:=bJ dM2.body
def zhV:Code:=vM (aJ dM2.body)
def zF3:Code:=bJ zhV
def zF2:Code:=bJ (aJ zhV)
def zF1:Code:=bJ (aJ (aJ zhV))
def zF0:Code:=bJ (aJ (aJ (aJ zhV)))
def zyv:Code:=aJ (aJ (aJ (aJ zhV)))
def zFZ:Code:=bJ (bJ zyv)
def zoE:Code:=gw (dh (aJ (bJ zyv)))
def zFX:Code:=aJ zyv
theorem zhs:dM2.body = .seq zFY (.scope (gG [zF3,zF2] (gG [zF1,zF0] (.seq (.seq zFZ (.block 1 (.loop zoE))) zFX)))):=by kernel_rfl
theorem zK:dM2.ntmps=44:=by kernel_rfl
theorem Ox:dM2.results=[.cell 4 36,.tmp 5]:=by kernel_rfl
def V3(x:P2):Ct:=.bl ((Nm.toL x.1).map (It.w 6)++[.v (.bool x.2)])
def zP2:P2:=(((0,0),(0,0)),false)
def zJ2:J2:=((0,0),(0,0),(0,0))
theorem zqD:(il zJ2).z=0:=by
 unfold il zJ2
 dsimp only
 exact zqC
theorem zcK:RdJ2 zJ2:=by unfold RdJ2;decide +kernel
def Ul(x:A2):P2:=((aE x.1,aE x.2),false)
def zDA(x:A2)(len cap n:Nat):St:=aW 0 [⟨false,[.s 1 0 len cap]⟩,wP (x,false)] (44 - [(⟨false,[.s 1 0 len cap]⟩:AV),wP (x,false)].length)++y_ len n
def Ls(x:A2)(len cap n:Nat):St:=[(0,sS 1 len cap),(6,jy 16),(8,jy 17),(10,sI 0),(3,.bl (iZ len n)),(33,V3 (x,false)),(35,V3 zP2)]
def Lr(x:A2)(len cap n:Nat):St:=[(0,sS 1 len cap),(6,jy 16),(8,jy 17),(10,sI 0),(3,.bl (iZ len n)),(33,V3 (Ul x)),(35,V3 zP2)]
def Lq(x:A2)(len cap n:Nat):St:=[(0,sS 1 len cap),(6,jy 16),(8,jy 17),(10,sI 0),(12,jy 60),(3,.bl (iZ len n)),(33,V3 (Ul x)),(35,V3 zP2),(121,bN zJ2)]
def uc(x:A2)(len cap n:Nat)(i:Int)(o:J2):St:=[(0,sS 1 len cap),(6,jy 16),(8,jy 17),(10,sI 0),(12,jy 60),(14,sI i),(3,.bl (iZ len n)),(33,V3 (Ul x)),(35,V3 zP2),(121,bN o)]
theorem zOC(x:A2)(len cap n:Nat):probe Ta 100 zFY (zDA x len cap n) 16 [] ((Ls x len cap n).map (·.1))=some (0,[],(Ls x len cap n).map fun p=>some p.2):=by kernel_rfl
theorem zOB(x:A2)(len cap n:Nat):probes Ta 100 [zF3,zF2] (Ls x len cap n) 40 [] ((Lr x len cap n).map (·.1))=some (0,[fw (Ul x)=true],(Lr x len cap n).map fun p=>some p.2):=by kernel_rfl
theorem zOA(x:A2)(len cap n:Nat):probes Ta 100 [zF1,zF0] (Lr x len cap n) 60 [] ((Lq x len cap n).map (·.1))=some (0,[],(Lq x len cap n).map fun p=>some p.2):=by kernel_rfl
theorem zOz(x:A2)(len cap n:Nat):probe Ta 100 zFZ (Lq x len cap n) 80 [] ((uc x len cap n (iT len) zJ2).map (·.1))=some (0,[],(uc x len cap n (iT len) zJ2).map fun p=>some p.2):=by kernel_rfl
theorem zqd(x:A2)(len cap n:Nat)(i:Int)(o:J2):probe Ta 100 zoE (uc x len cap n i o) 100 [(24,false)] ((uc x len cap n i o).map (·.1))=some (3,[i≥0↔false=true],(uc x len cap n i o).map fun p=>some p.2):=by kernel_rfl
def zvB(len n:Nat)(i:Int)(b:Bool)(o:J2):List Prop:=match b with
 | true=>obZ len n i true++[RdJ2 (Pl o)]
 | false=>obZ len n i false
theorem zqb(x:A2)(len cap n:Nat)(i:Int)(o:J2):probe Ta 100 zoE (uc x len cap n i o) 100 [(24,true),(32,false),(36,true),(38,true)] ((uc x len cap n (IntKind.i64.wrap (i-1)) (Pl o)).map (·.1)) =
 some (0,zvB len n i false o,(uc x len cap n (IntKind.i64.wrap (i-1)) (Pl o)).map fun p=>some p.2):=by kernel_rfl
theorem zzC(x:A2)(len cap n:Nat)(i:Int)(o:J2):probe Ta 100 zoE (uc x len cap n i o) 100 [(24,true),(32,false),(36,true),(38,false)] ((uc x len cap n (IntKind.i64.wrap (i-1)) (pl2 (Pl o) (Ul x))).map (·.1)) =
 some (0,zvB len n i true o,(uc x len cap n (IntKind.i64.wrap (i-1)) (pl2 (Pl o) (Ul x))).map fun p=>some p.2):=by kernel_rfl
def Oc(len n:Nat)(o:J2):St:=[(8,jy 17),(10,sI 0),(3,.bl (iZ len n)),(35,V3 (cS (Po (il o))))]
theorem zqc(x:A2)(len cap n:Nat)(i:Int)(o:J2):probe Ta 100 zFX (uc x len cap n i o) 100 [] ((Oc len n o).map (·.1))=some (1,[RdJ2 o],(Oc len n o).map fun p=>some p.2):=by kernel_rfl
theorem zez(x:A2)(len cap n:Nat):aw (Ls x len cap n) [1,16,17]=true:=by kernel_rfl
theorem zey(x:A2)(len cap n:Nat):aw (Lr x len cap n) [1,16,17]=true:=by kernel_rfl
theorem zex(x:A2)(len cap n:Nat):aw (Lq x len cap n) [1,16,17,60]=true:=by kernel_rfl
theorem UW(x:A2)(len cap n:Nat)(i:Int)(o:J2):aw (uc x len cap n i o) [1,16,17,60]=true:=by kernel_rfl
theorem zew(len n:Nat)(o:J2):aw (Oc len n o) [1,17]=true:=by kernel_rfl
theorem zoZ(x:A2)(len cap n:Nat):∀ id∈[1,16,17],∃ l,(Ls x len cap n).blk id=some l:=by
 intro id cl
 simp only [aae,aad,or_false] at cl
 rcases cl with rfl|rfl|rfl<;>exact ⟨_,rfl⟩
theorem zoY(x:A2)(len cap n:Nat):∀ id∈[1,16,17],∃ l,(Lr x len cap n).blk id=some l:=by
 intro id cl
 simp only [aae,aad,or_false] at cl
 rcases cl with rfl|rfl|rfl<;>exact ⟨_,rfl⟩
theorem zoX(x:A2)(len cap n:Nat):∀ id∈[1,16,17,60],∃ l,(Lq x len cap n).blk id=some l:=by
 intro id cl
 simp only [aae,aad,or_false] at cl
 rcases cl with rfl|rfl|rfl|rfl<;>exact ⟨_,rfl⟩
theorem zh8(x:A2)(len cap n:Nat)(i:Int)(o:J2):∀ id∈[1,16,17,60],∃ l,(uc x len cap n i o).blk id=some l:=by
 intro id cl
 simp only [aae,aad,or_false] at cl
 rcases cl with rfl|rfl|rfl|rfl<;>exact ⟨_,rfl⟩
theorem zoW(len n:Nat)(o:J2):∀ id∈[1,17],∃ l,(Oc len n o).blk id=some l:=by
 intro id cl
 simp only [aae,aad,or_false] at cl
 rcases cl with rfl|rfl<;>exact ⟨_,rfl⟩
def IM2(p:Pt F2)(m j:Nat)(o:J2):Prop:=RdJ2 o∧Wi (il o) (smul (m/2^j) p)
theorem zcM(o:J2):RdJ2 (Pl o):=by
 unfold Pl RdJ2
 rw [HD]
theorem zuL(o:J2)(x:A2):RdJ2 (pl2 o (Ul x)):=by
 unfold RdJ2
 rw [zai]
 unfold pl2
 split
 ·rename_i h
  unfold w_
  rw [if_pos (show (il o).z=0 from h)]
  unfold AX Ul
  simp only [aE,bW]
  rw [zqA]
 ·rfl
theorem ziO{p:Pt F2}(hp:On b2 p){m j:Nat}{o:J2}(h:IM2 p m (j+1) o)(e:m/2^j%2=0):IM2 p m j (Pl o):=by
 refine ⟨zcM o,?_⟩
 have hh:=lz m j
 rw [e,Nat.add_zero] at hh
 rw [hh,gb ic hp]
 unfold Pl
 rw [HD]
 exact pM ic (dN ic hp _) h.2
theorem zqh{x:A2}(hp:On b2 (ιP2 (x,false))){m j:Nat}{o:J2}(h:IM2 (ιP2 (x,false)) m (j+1) o)(e:m/2^j%2=1):IM2 (ιP2 (x,false)) m j (pl2 (Pl o) (Ul x)):=by
 refine ⟨zuL _ _,?_⟩
 have hh:=lz m j
 rw [e] at hh
 rw [hh]
 show Wi _ (padd (smul (2*(m/2^(j+1))) _) _)
 rw [gb ic hp,zai]
 unfold Pl
 rw [HD]
 have e1:ar (Ul x).1.1=ar x.1:=bW _
 have e2:ar (Ul x).1.2=ar x.2:=bW _
 rw [e1,e2]
 exact IC ic (fL ic (dN ic hp _) (dN ic hp _)) hp (pM ic (dN ic hp _) h.2)
theorem zag(x:A2):ιP2 (Ul x)=ιP2 (x,false):=by
 show Pt.aff (ar (aE x.1)) (ar (aE x.2))=Pt.aff (ar x.1) (ar x.2)
 simp only [aE,bW]
theorem Cg(b o len cap:Nat)(x:P2):ay (kw b o) [⟨false,[.s 1 0 len cap]⟩,wP x]=some [.slice (some ⟨b,o,none⟩) len cap,i_ x]:=by simp only [ay,jO,Bq]
theorem zno(x:A2)(hp:On b2 (ιP2 (x,false))):AW Tryz.prog 70 (fun s=>[s,i_ (x,false)]) (fun len n=>nE.vl (cS (smul (n%pw len) (ιP2 (x,false))),0)):=by
 intro b o len cap n hlen w jX
 refine .inr ⟨zhr.enter _ _,?_⟩
 have hv:=Cg b o len cap (x,false)
 refine (bX (G:=fun xs st=>xs=[wP (cS (smul (n%pw len) (ιP2 (x,false)))),pp 0]) ab zhr (j0 jX) (by kernel_rfl) hv (by rw [zK];simp) fun a c9=>?_).mono ?_
 ·rw [zK] at c9
  have c9:At 44 (kw b o) w (zDA x len cap n) a w:=c9
  rw [zK,Ox,zhs]
  refine wp_seq (At.probe (E:=Ta) an ab zT (zOC x len cap n) (fun p hp=>by cases hp) c9 [1,16,17] (zoZ _ _ _ _) (zez _ _ _ _) (dp (by simp)) fun a1 w1 h1=>?_)
  refine wp_scope_straight (At.probes (E:=Ta) an ab zT (zOB x len cap n) (cQ ((fM _).2 (by rw [zag];exact hp))) h1 [1,16,17] (zoY _ _ _ _) (zey _ _ _ _) (dp (by simp)) fun a2 w2 h2=>?_)
  show aaT _ _ _ _ _
  refine At.probes (E:=Ta) an ab zT (zOA x len cap n) (fun p hp=>by cases hp) h2 [1,16,17,60] (zoX _ _ _ _) (zex _ _ _ _) (dp (by simp)) fun a3 w3 h3=>?_
  show aaT _ _ _ _ _
  refine wp_seq (wp_seq (At.probe (E:=Ta) an ab zT (zOz x len cap n) (fun p hp=>by cases hp) h3 [1,16,17,60] (zh8 _ _ _ _ _ _) (UW _ _ _ _ _ _) (dp (by simp)) fun a' w' bY=>?_))
  rw [zfn hlen] at bY
  show aaT _ _ _ _ _
  have hm:n%pw len<2^(64*len):=Nat.mod_lt _ (Nat.two_pow_pos _)
  refine wp_block (Ey (E:=Ta) ab zT (uc x len cap n) [1,16,17,60] (by simp) (UW x len cap n) (zh8 x len cap n) hlen Pl (fun o=>pl2 o (Ul x)) (IM2 (ιP2 (x,false)) (n%pw len))
   (kx:=1) (zqd x len cap n) (zvB len n) (fun j b s hj _ hb=>?_) (zqb x len cap n) (zzC x len cap n) (fun j s _ hI e=>ziO hp hI e) (fun j s _ hI e=>zqh hp hI e) (fun s a2 w2 hI h2=>?_) ?_ bY)
  ·cases b with
   | true=>
    intro p hp
    rcases aaw.1 hp with hp|hp
    ·exact IX hlen hj hb p hp
    ·exact cQ (zcM s) p hp
   | false=>exact IX hlen hj hb
  ·have e3:Po (il s)=smul (n%pw len) (ιP2 (x,false)):=by
    have:=yF hI.2
    rwa [Nat.pow_zero,Nat.div_one] at this
   show aaT _ _ _ _ _
   refine At.probe (E:=Ta) an ab zT (zqc x len cap n _ s) (cQ hI.1) h2 [1,17] (zoW _ _ _) (zew _ _ _) (dp (by simp)) fun a3 w3 h3=>?_
   unfold Oc at h3
   rw [e3] at h3
   exact ⟨.inr rfl,_,_,h3,by kernel_rfl,rfl⟩
  ·have e:n%pw len/2^(64*len)=0:=abf hm
   refine ⟨?_,?_⟩
   ·exact zcK
   ·rw [e]
    exact zqD
 ·rintro e w' ⟨v,rfl,xs,st,ρ',hE,hval,Bg,rfl⟩
  refine ⟨v,rfl,?_,hE.below (lL b o)⟩
  have e:=nE.val ρ' (cS (smul (n%pw len) (ιP2 (x,false))),0)
  have:(nE.sv (cS (smul (n%pw len) (ιP2 (x,false))),0)).val ρ'=some v:=hval
  rw [e] at this
  cases this;rfl
theorem Nq(x:P2)(len cap n:Nat):j9 (TM2 false) 70 [⟨false,[.s 1 0 len cap]⟩,wP x] (y_ len n) []=some (.tup [wP ((((0,0),(0,0)),false):P2),pp 120],[fw (cS (ιP2 x))=false]):=by kernel_rfl
theorem Nr(x:A2)(len cap n:Nat):j9 (TM2 true) 70 [⟨false,[.s 1 0 len cap]⟩,wP (x,true)] (y_ len n) []=some (.tup [wP ((((0,0),(0,0)),true):P2),pp 0],[fw (cS (ιP2 (x,true)))=true]):=by kernel_rfl
theorem Ns(x:P2):aK (TM2 false) 70 [⟨false,[.v (.slice none 0 0)]⟩,wP x] []=some (.tup [wP ((((0,0),(0,0)),false):P2),pp 120],[fw (cS (ιP2 x))=false]):=by kernel_rfl
theorem Nt(x:A2):aK (TM2 true) 70 [⟨false,[.v (.slice none 0 0)]⟩,wP (x,true)] []=some (.tup [wP ((((0,0),(0,0)),true):P2),pp 0],[fw (cS (ιP2 (x,true)))=true]):=by kernel_rfl
theorem Nu(x:A2):aK (TM2 true) 70 [⟨false,[.v (.slice none 0 0)]⟩,wP (x,false)] []=some (.tup [wP (cS (Po (il zJ2))),pp 0],[fw (Ul x)=true,RdJ2 zJ2]):=by kernel_rfl
theorem xY(x:P2):ay rho0 [⟨false,[.v (.slice none 0 0)]⟩,wP x]=some [.slice none 0 0,i_ x]:=by
 have e:AV.val rho0 ⟨false,[.v (.slice none 0 0)]⟩=some (.slice none 0 0):=AV.val_v (ρ:=rho0) (x:=.slice none 0 0) rfl
 simp only [ay,jO,e]
theorem rk(x:P2)(i:Int):∀ ρ u,(SV.tup [wP x,pp i]).val ρ=some u→u=nE.vl (x,i):=by
 intro ρ u hu
 have e:=nE.val ρ (x,i)
 have:(nE.sv (x,i)).val ρ=some u:=hu
 rw [e] at this
 cases this;rfl
theorem wz(x:P2):fw (cS (ιP2 x))=fw x:=by unfold fw;rw [jN]
theorem zxm(x:P2):AW Tryz.prog 70 (fun s=>[s,i_ x]) (fun len n=>nE.vl (jJ x (n%pw len))):=by
 by_cases nH:On b2 (ιP2 x)
 ·have hb:=(fM x).2 nH
  unfold jJ
  rw [hb]
  obtain ⟨x,c⟩:=x
  cases c with
  | false=>exact zno x nH
  | true=>
   intro b o len cap n hlen w jX
   have h0:smul (n%pw len) (ιP2 (x,true)) = .inf:=jZ _
   show Invoked _ _ _ _ fun u w'=>u=nE.vl (cS (smul (n%pw len) (ιP2 (x,true))),0)∧_
   rw [h0]
   exact lJ (zY true) (Nr x len cap n) (cQ (by rw [wz];exact hb)) (j0 jX) (lL b o) (Cg b o len cap (x,true)) (rk _ _)
 ·have hb:=Mi nH
  unfold jJ
  rw [hb]
  intro b o len cap n hlen w jX
  exact lJ (zY false) (Nq x len cap n) (cQ (by rw [wz];exact hb)) (j0 jX) (lL b o) (Cg b o len cap x) (rk _ _)
theorem RU(x:P2):bj Tryz.prog 70 [.slice none 0 0,i_ x] (nE.vl (jJ x 0)):=by
 by_cases nH:On b2 (ιP2 x)
 ·have hb:=(fM x).2 nH
  unfold jJ
  rw [hb]
  obtain ⟨x,c⟩:=x
  cases c with
  | false=>
   refine bi (zY true) (Nu x) ?_ (xY _) fun ρ u hu=>?_
   ·simp only [aab,aad,false_imp_iff,implies_true,and_true]
    exact ⟨(fM _).2 (by rw [zag];exact nH),zcK⟩
   ·rw [rk _ _ ρ u hu]
    have e:Po (il zJ2) = .inf:=yF (p:=.inf) zqD
    rw [e];rfl
  | true=>
   refine bi (zY true) (Nt x) (cQ (by rw [wz];exact hb)) (xY _) fun ρ u hu=>?_
   rw [rk _ _ ρ u hu];rfl
 ·have hb:=Mi nH
  unfold jJ
  rw [hb]
  exact bi (zY false) (Ns x) (cQ (by rw [wz];exact hb)) (xY _) (rk _ _)
theorem RT:ag Tryz.prog (Gx (dV A2) nE 70 jJ):=L0 zxm RU
def gI:P2:=(((0x024aa2b2f08f0a91260805272dc51051c6e47ad4fa403b02b4510b647ae3d1770bac0326a805bbefd48056c8c121bdb8,0x13e02b6052719f607dacd3a088274f65596bd0d09920b61ab5da61bbdc7f5049334cf11213945d57e5ac7d055d042b7e),
 (0x0ce5d527727d6e118cc9cdc6da2e351aadfd9baa8cbdd3a76d429a695160d12c923ac9cc3baca289e193548608b82801,0x0606c4a02ea734cc32acd2b02bc28b99cb3e287e85a763af267492ab572e99ab3f370d275cec1da1aaa9075ff05f79be)),false)
def yN(x:P2):Bool:=match x.2 with
 | true=>true
 | false=>yy (ai x.1.2 x.1.2) (bk (ai (ai x.1.1 x.1.1) x.1.1) (4,4))
theorem BB(x:P2):fw x=yN x:=by
 have key:fw x=true↔yN x=true:=by
  rw [fM]
  obtain ⟨x,b⟩:=x
  cases b with
  | true=>exact ⟨fun _=>rfl,fun _=>trivial⟩
  | false=>
   show ar x.2*ar x.2=ar x.1*ar x.1*ar x.1+b2↔yy (ai x.2 x.2) (bk (ai (ai x.1 x.1) x.1) (4,4))=true
   have e:bk (ai (ai x.1 x.1) x.1) (4,4)=dr (ar x.1*ar x.1*ar x.1+b2):=by
    show dr (ar (dr (ar (dr (ar x.1*ar x.1))*ar x.1))+b2)=_
    rw [bW,bW]
   rw [e,Qt]
   constructor
   ·intro h
    show dr (ar x.2*ar x.2)=_
    rw [h]
   ·intro h
    exact fR h
 cases h1:fw x<;>cases h2:yN x<;>simp_all
theorem zic:fw gI=true:=by rw [BB];decide +kernel
theorem j4:On b2 (ιP2 gI):=(fM _).1 zic
def pj(x y:P2):P2:=cS (padd (ιP2 x) (ιP2 y))
theorem wQ{x:P2}(h:fw x=true)(m:Nat):jJ x m=(cS (smul m (ιP2 x)),0):=by unfold jJ;rw [h]
theorem Yg{x:P2}(h:fw x=false)(m:Nat):jJ x m=(zP2,120):=by unfold jJ;rw [h];rfl
def Il:List Row:=
 C1 (dV A2) (dV A2) (dV A2).rs 79 (fun x y=>cS (padd (ιP2 x) (ιP2 y))) ::
 jb (dV A2) AG.rs 31 yN::jb (dV A2) (dV A2).rs 104 (fun x=>cS (ιP2 x))::j_
theorem Gj:∀ r∈Il,bE Tryz.prog r:=by
 unfold Il
 refine aab.2 ⟨rG zxn,?_⟩
 simp only [aab]
 exact ⟨cW (fun x=>by rw [show AG.rs.vl (yN x)=Value.bool (fw x) by rw [BB];rfl];exact Vs x),cW Ha,fF⟩
def ti:List Int→Nat
 | []=>0
 | w::l=>w.toNat+ti l*18446744073709551616
def okW(l:List Int):List Prop:=l.map fun w=>0≤w∧w<18446744073709551616
theorem uA{l:List Int}(h:l.all (fun w=>decide (0≤w)&&decide (w<18446744073709551616))=true):∀ p∈okW l,p:=by
 intro p hp
 obtain ⟨w,hw,rfl⟩:=List.mem_map.1 hp
 simpa using List.all_eq_true.1 h w hw
theorem fQ{l m:List Prop}(h:∀ q∈l,q)(k:∀ q∈m,q):∀ q∈l++m,q:=fun q hq=>(aaw.1 hq).elim (h q) (k q)
def XK:List Int:=[18446744069414584321,6034159408538082302,3691218898639771653,8353516859464449352]
def aO:Nat:=0x73eda753299d7d483339d80809a1d80553bda402fffe5bfeffffffff00000001
theorem Uk:ti XK%pw 4=aO:=by decide +kernel
def zyB:List Int:=[0xe8020005aaa95551,0x59894c0adebbf6b4,0xe954cbc06689f6a3,0x2ec0ec69d7477c1a,0x6d82bf015d1212b0,0x329c2f178731db95,0x9986ff031508ffe1,0x88e2a8e9145ad768,0x584c6a0ea91b3528,0xbc69f08f2ee75b3]
def qO:Nat:=0xbc69f08f2ee75b3584c6a0ea91b352888e2a8e9145ad7689986ff031508ffe1329c2f178731db956d82bf015d1212b02ec0ec69d7477c1ae954cbc06689f6a359894c0adebbf6b4e8020005aaa95551
theorem zhZ:ti zyB%pw 10=qO:=by decide +kernel
def TS1:CallT:=jV (aA Im) (jV (Gx (dV A1) uj 40 lZ) (jV (aA Il) (Gx (dV A2) nE 70 jJ)))
theorem oo:ag Tryz.prog TS1:=aT (ap Gk) (aT RX (aT (ap Gj) RT))
def zkK(b c:Bool):Bool:=match b with
 | true=>c
 | false=>false
theorem zcf(c:Bool):zkK true c=c:=rfl
theorem zcg(c:Bool):zkK false c=false:=rfl
def eV(p:P1):Bool:=zkK (e_ p) (gJ (smul aO (bO p))).2
def dW(p:P2):Bool:=zkK (fw p) (cS (smul aO (ιP2 p))).2
theorem zxr(A:P1):(A,(0:Int)).1.2=A.2:=rfl
theorem ztX(A:P1):(A,(0:Int)).2=0:=rfl
theorem Vg{p:P1}(h:e_ p=true):eV p=(gJ (smul aO (bO p))).2:=by unfold eV;rw [h,zcf]
theorem M0{p:P1}(h:e_ p=false):eV p=false:=by unfold eV;rw [h,zcg]
theorem zl2{p:P1}(h:e_ p=true):(lZ p (ti XK%pw 4)).1.2=(gJ (smul aO (bO p))).2:=by rw [Uk,Dl h,zxr]
theorem zxq(A:P2):(A,(0:Int)).1.2=A.2:=rfl
theorem ztW(A:P2):(A,(0:Int)).2=0:=rfl
theorem Vf{p:P2}(h:fw p=true):dW p=(cS (smul aO (ιP2 p))).2:=by unfold dW;rw [h,zcf]
theorem MX{p:P2}(h:fw p=false):dW p=false:=by unfold dW;rw [h,zcg]
theorem zl1{p:P2}(h:fw p=true):(jJ p (ti XK%pw 4)).1.2=(cS (smul aO (ιP2 p))).2:=by rw [Uk,wQ h,zxq]
def hIn(b:Bool)(f:FuncId):List (Nat×Bool):=match aaK f 59 || aaK f 69 with
 | true=>[(19,b)]
 | false=>[]
theorem zfi(p:P1):CR TS1 (hIn true) 25 [wP p]=some (.one (cY (lZ p (ti XK%pw 4)).1.2),(4<4294967296)::okW XK++[(lZ p (ti XK%pw 4)).2=0↔true=true]):=by kernel_rfl
theorem zfj(p:P1):CR TS1 (hIn false) 25 [wP p]=some (.one (cY false),(4<4294967296)::okW XK++[(lZ p (ti XK%pw 4)).2=0↔false=true]):=by kernel_rfl
theorem zfg(p:P2):CR TS1 (hIn true) 32 [wP p]=some (.one (cY (jJ p (ti XK%pw 4)).1.2),(4<4294967296)::okW XK++[(jJ p (ti XK%pw 4)).2=0↔true=true]):=by kernel_rfl
theorem zfh(p:P2):CR TS1 (hIn false) 32 [wP p]=some (.one (cY false),(4<4294967296)::okW XK++[(jJ p (ti XK%pw 4)).2=0↔false=true]):=by kernel_rfl
theorem TL(p:P1):bj Tryz.prog 25 [i_ p] (.bool (eV p)):=by
 cases h:e_ p with
 | true=>
  refine kA oo AG.rs (zfi p) (fQ (aa (by omega) (uA (by decide +kernel))) (cQ (bD ?_))) (ir (dV A1) p) ?_
  ·rw [Dl h,ztX]
  ·rw [zl2 h,Vg h]
 | false=>
  refine kA oo AG.rs (zfj p) (fQ (aa (by omega) (uA (by decide +kernel))) (cQ (br ?_))) (ir (dV A1) p) ?_
  ·rw [Yh h];intro e;cases e
  ·rw [M0 h]
theorem TK(p:P2):bj Tryz.prog 32 [i_ p] (.bool (dW p)):=by
 cases h:fw p with
 | true=>
  refine kA oo AG.rs (zfg p) (fQ (aa (by omega) (uA (by decide +kernel))) (cQ (bD ?_))) (ir (dV A2) p) ?_
  ·rw [wQ h,ztW]
  ·rw [zl1 h,Vf h]
 | false=>
  refine kA oo AG.rs (zfh p) (fQ (aa (by omega) (uA (by decide +kernel))) (cQ (br ?_))) (ir (dV A2) p) ?_
  ·rw [Yg h];intro e;cases e
  ·rw [MX h]
theorem zab{p:Pt F}:(gJ p).2=true↔p = .inf:=by
 cases p with
 | inf=>exact ⟨fun _=>rfl,fun _=>rfl⟩
 | aff x y=>exact ⟨fun h=>(by cases h),fun h=>(by cases h)⟩
theorem zaa{p:Pt F2}:(cS p).2=true↔p = .inf:=by
 cases p with
 | inf=>exact ⟨fun _=>rfl,fun _=>rfl⟩
 | aff x y=>exact ⟨fun h=>(by cases h),fun h=>(by cases h)⟩
theorem M1(p:P1):eV p=true↔On b1 (bO p)∧smul aO (bO p) = .inf:=by
 cases h:e_ p with
 | true=>rw [Vg h,zab];exact ⟨fun e=>⟨(gS p).1 h,e⟩,fun e=>e.2⟩
 | false=>rw [M0 h];exact ⟨fun e=>(by cases e),fun e=>by have:=(gS p).2 e.1;rw [h] at this;cases this⟩
theorem MY(p:P2):dW p=true↔On b2 (ιP2 p)∧smul aO (ιP2 p) = .inf:=by
 cases h:fw p with
 | true=>rw [Vf h,zaa];exact ⟨fun e=>⟨(fM p).1 h,e⟩,fun e=>e.2⟩
 | false=>rw [MX h];exact ⟨fun e=>(by cases e),fun e=>by have:=(fM p).2 e.1;rw [h] at this;cases this⟩
def zsI:Nat:=0x5f19672fdf76ce51ba69c6076a0f77eaddb3a93be6f89688de17d813620a00022e01fffffffefffe
def psX:N2:=(0,0x1a0111ea397fe699ec02408663d4de85aa0d857d89759ad4897d29650fb85f9b409427eb4f49fffd8bfd00000000aaad)
def psY:N2:=(0x135203e60180a68ee2e9c448d77a2cd91c3dedd930b1cf60ef396489f61eb45e304466cf3e67fa0af1ee7b04121bdea2,0x6af0e0437ff400b6831e36d6bd17ffe48395dabc2d3435e77f76e17009241c5ee67992f72ec05f4c81084fbede3cc09)
def psiP:Pt F2→Pt F2
 | .inf=>.inf
 | .aff x y=>.aff (x.conj*ar psX) (y.conj*ar psY)
def Zy(p:P2):P2×Int:=jJ p qO
theorem SA(p:P2):aK TS1 78 [wP p] []=some (nE.sv (jJ p (ti zyB%pw 10)),(10<4294967296)::okW zyB):=by kernel_rfl
theorem P9(p:P2):bj Tryz.prog 78 [i_ p] (nE.vl (Zy p)):=
 ah oo nE (SA p) (aa (by omega) (uA (by decide +kernel))) (ir (dV A2) p) (by rw [zhZ];rfl)
def QD:List Row:=
 jb (dV A2) nE 78 Zy ::
 [jb (dV A1) AG.rs 25 eV,jb (dV A2) AG.rs 32 dW]
theorem Xz:∀ r∈QD,bE Tryz.prog r:=by
 unfold QD
 refine aab.2 ⟨cW P9,?_⟩
 simp only [aab,aad,false_imp_iff,implies_true,and_true]
 exact ⟨cW TL,cW TK⟩
def TSb:CallT:=jV (aA QD) TS1
theorem EA:ag Tryz.prog TSb:=aT (ap Xz) oo
end Go.Proofs.YtcafpgpahbplaaaGreat
