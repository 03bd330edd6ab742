/-
 The proof, part 23 of 25.
-/
import Derived.Test.YtcafpgpahbplaaaGreatZ22
open Go.Fence renaming wide->abU
open List renaming all_eq_true->aaF,forall_mem_cons->aab,mem_append_left->aau,mem_append_right->aaq,mem_cons->aae,mem_cons_of_mem->aaa,mem_cons_self->aac,not_mem_nil->aad
open Nat renaming lt_or_ge->abS
open Option.some renaming inj->abn
open Prod.mk renaming injEq->abq
noncomputable section
set_option linter.unusedVariables false
set_option linter.unusedSimpArgs false
namespace Go.Proofs.YtcafpgpahbplaaaGreat
open Go Go.Eng Go.RowKit Go.Wd Go.Alg Go.Pr
namespace Sh
abbrev jr:List Nat:=[2,3,4,5,6,16,27,30408704]
theorem Td(b:Bool):ag Tryz.prog (Te b).call:=gm an ab (zti b) aB 1000 (fun _=>[]) 6
theorem zy7(b ok ip:Bool)(px py:Nat)(zp z zs:Bool)(c2 c4 np cp n c ns cs:Nat)(fp fm fs:Nat→Int):Eng.probe (Te b) 100 asA (aX (aX (eD zs c4 ns cs++b8 zp z np cp n c ns fp fm fs++gH false dt++h_ c2) [(2*24,.sl (.one (wP (aQ px py ip))))]) [(2*25,.sl (.one (cY ok)))]) 40 [] ((eD zs c4 ns cs++ysA ok++b8 zp z np cp n c ns fp fm fs++gH false dt++h_ c2++GI (aQ px py ip)).map (·.1))=some (0,[],(eD zs c4 ns cs++ysA ok++b8 zp z np cp n c ns fp fm fs++gH false dt++h_ c2++GI (aQ px py ip)).map fun p=>some p.2):=by cases zp<;>cases z<;>cases zs<;>kernel_rfl
theorem zy6(b ok ip:Bool)(px py:Nat)(qx qy:Nat)(zp z zs:Bool)(c2 c4 np cp n c ns cs:Nat)(fp fm fs:Nat→Int):Eng.probe (Te b) 100 asA (aX (aX (eD zs c4 ns cs++b8 zp z np cp n c ns fp fm fs++gH false u7++h_ c2++tc (aQ qx qy false)) [(2*24,.sl (.one (wP (aQ px py ip))))]) [(2*25,.sl (.one (cY ok)))]) 40 [] ((eD zs c4 ns cs++b8 zp z np cp n c ns fp fm fs++gH false u7++h_ c2++tc (aQ qx qy false)).map (·.1))=some (0,[],(eD zs c4 ns cs++b8 zp z np cp n c ns fp fm fs++gH false u7++h_ c2++tc (aQ qx qy false)).map fun p=>some p.2):=by cases zp<;>cases z<;>cases zs<;>kernel_rfl
theorem zeK(zp z zs:Bool)(c2 c4 np cp n c ns cs:Nat)(fp fm fs:Nat→Int):jr.all (fun id=>(St.blk (eD zs c4 ns cs++Pu++b8 zp z np cp n c ns fp fm fs++gH false dt++h_ c2) id).isSome)=true∧aw (eD zs c4 ns cs++Pu++b8 zp z np cp n c ns fp fm fs++gH false dt++h_ c2) jr=true∧oa (eD zs c4 ns cs++Pu++b8 zp z np cp n c ns fp fm fs++gH false dt++h_ c2)=true∧(fP (eD zs c4 ns cs++Pu++b8 zp z np cp n c ns fp fm fs++gH false dt++h_ c2)).all (fun id=>jr.contains id)=true:=by cases zp<;>cases z<;>cases zs<;>exact ⟨by kernel_rfl,by kernel_rfl,by kernel_rfl,by kernel_rfl⟩
theorem YD(zp z zs:Bool)(c2 c4 np cp n c ns cs:Nat)(fp fm fs:Nat→Int):jr.all (fun id=>(St.blk (eD zs c4 ns cs++b8 zp z np cp n c ns fp fm fs++gH false dt++h_ c2) id).isSome)=true∧aw (eD zs c4 ns cs++b8 zp z np cp n c ns fp fm fs++gH false dt++h_ c2) jr=true∧oa (eD zs c4 ns cs++b8 zp z np cp n c ns fp fm fs++gH false dt++h_ c2)=true∧(fP (eD zs c4 ns cs++b8 zp z np cp n c ns fp fm fs++gH false dt++h_ c2)).all (fun id=>jr.contains id)=true:=by cases zp<;>cases z<;>cases zs<;>exact ⟨by kernel_rfl,by kernel_rfl,by kernel_rfl,by kernel_rfl⟩
theorem YB(px py:Nat)(ip ok:Bool)(zp z zs:Bool)(c2 c4 np cp n c ns cs:Nat)(fp fm fs:Nat→Int):(40::jr).all (fun id=>(St.blk (eD zs c4 ns cs++ysA ok++b8 zp z np cp n c ns fp fm fs++gH false dt++h_ c2++GI (aQ px py ip)) id).isSome)=true∧aw (eD zs c4 ns cs++ysA ok++b8 zp z np cp n c ns fp fm fs++gH false dt++h_ c2++GI (aQ px py ip)) (40::jr)=true∧oa (eD zs c4 ns cs++ysA ok++b8 zp z np cp n c ns fp fm fs++gH false dt++h_ c2++GI (aQ px py ip))=true∧(fP (eD zs c4 ns cs++ysA ok++b8 zp z np cp n c ns fp fm fs++gH false dt++h_ c2++GI (aQ px py ip))).all (fun id=>(40::jr).contains id)=true:=by cases zp<;>cases z<;>cases zs<;>exact ⟨by kernel_rfl,by kernel_rfl,by kernel_rfl,by kernel_rfl⟩
theorem YC(px py:Nat)(zp z zs:Bool)(c2 c4 np cp n c ns cs:Nat)(fp fm fs:Nat→Int):(cU 59::jr).all (fun id=>(St.blk (eD zs c4 ns cs++b8 zp z np cp n c ns fp fm fs++gH false u7++h_ c2++tc (aQ px py false)) id).isSome)=true∧aw (eD zs c4 ns cs++b8 zp z np cp n c ns fp fm fs++gH false u7++h_ c2++tc (aQ px py false)) (cU 59::jr)=true∧oa (eD zs c4 ns cs++b8 zp z np cp n c ns fp fm fs++gH false u7++h_ c2++tc (aQ px py false))=true∧(fP (eD zs c4 ns cs++b8 zp z np cp n c ns fp fm fs++gH false u7++h_ c2++tc (aQ px py false))).all (fun id=>(cU 59::jr).contains id)=true:=by cases zp<;>cases z<;>cases zs<;>exact ⟨by kernel_rfl,by kernel_rfl,by kernel_rfl,by kernel_rfl⟩
theorem zDm(px py:Nat)(ip ok:Bool)(zp z zs:Bool)(c2 c4 np cp n c ns cs:Nat)(fp fm fs:Nat→Int):jr.all (fun id=>(St.blk (aX (aX (eD zs c4 ns cs++b8 zp z np cp n c ns fp fm fs++gH false dt++h_ c2) [(2*24,.sl (.one (wP (aQ px py ip))))]) [(2*25,.sl (.one (cY ok)))]) id).isSome)=true∧aw (aX (aX (eD zs c4 ns cs++b8 zp z np cp n c ns fp fm fs++gH false dt++h_ c2) [(2*24,.sl (.one (wP (aQ px py ip))))]) [(2*25,.sl (.one (cY ok)))]) jr=true∧oa (aX (aX (eD zs c4 ns cs++b8 zp z np cp n c ns fp fm fs++gH false dt++h_ c2) [(2*24,.sl (.one (wP (aQ px py ip))))]) [(2*25,.sl (.one (cY ok)))])=true∧(fP (aX (aX (eD zs c4 ns cs++b8 zp z np cp n c ns fp fm fs++gH false dt++h_ c2) [(2*24,.sl (.one (wP (aQ px py ip))))]) [(2*25,.sl (.one (cY ok)))])).all (fun id=>jr.contains id)=true:=by cases zp<;>cases z<;>cases zs<;>exact ⟨by kernel_rfl,by kernel_rfl,by kernel_rfl,by kernel_rfl⟩
theorem zDl(px py:Nat)(ip ok:Bool)(qx qy:Nat)(zp z zs:Bool)(c2 c4 np cp n c ns cs:Nat)(fp fm fs:Nat→Int):(cU 59::jr).all (fun id=>(St.blk (aX (aX (eD zs c4 ns cs++b8 zp z np cp n c ns fp fm fs++gH false u7++h_ c2++tc (aQ qx qy false)) [(2*24,.sl (.one (wP (aQ px py ip))))]) [(2*25,.sl (.one (cY ok)))]) id).isSome)=true∧aw (aX (aX (eD zs c4 ns cs++b8 zp z np cp n c ns fp fm fs++gH false u7++h_ c2++tc (aQ qx qy false)) [(2*24,.sl (.one (wP (aQ px py ip))))]) [(2*25,.sl (.one (cY ok)))]) (cU 59::jr)=true∧oa (aX (aX (eD zs c4 ns cs++b8 zp z np cp n c ns fp fm fs++gH false u7++h_ c2++tc (aQ qx qy false)) [(2*24,.sl (.one (wP (aQ px py ip))))]) [(2*25,.sl (.one (cY ok)))])=true∧(fP (aX (aX (eD zs c4 ns cs++b8 zp z np cp n c ns fp fm fs++gH false u7++h_ c2++tc (aQ qx qy false)) [(2*24,.sl (.one (wP (aQ px py ip))))]) [(2*25,.sl (.one (cY ok)))])).all (fun id=>(cU 59::jr).contains id)=true:=by cases zp<;>cases z<;>cases zs<;>exact ⟨by kernel_rfl,by kernel_rfl,by kernel_rfl,by kernel_rfl⟩
theorem zDk(px py:Nat)(b:Bool)(zp z zs:Bool)(c2 c4 np cp n c ns cs:Nat)(fp fm fs:Nat→Int):(cU 59::jr).all (fun id=>(St.blk (Ly zp z c2 np cp n c ns fp fm fs b++tc (aQ px py false)) id).isSome)=true∧aw (Ly zp z c2 np cp n c ns fp fm fs b++tc (aQ px py false)) (cU 59::jr)=true∧oa (Ly zp z c2 np cp n c ns fp fm fs b++tc (aQ px py false))=true∧(fP (Ly zp z c2 np cp n c ns fp fm fs b++tc (aQ px py false))).all (fun id=>(cU 59::jr).contains id)=true:=by cases zp<;>cases z<;>cases zs<;>exact ⟨by kernel_rfl,by kernel_rfl,by kernel_rfl,by kernel_rfl⟩
theorem zeJ(px py:Nat)(b:Bool)(zp z zs:Bool)(c2 c4 np cp n c ns cs:Nat)(fp fm fs:Nat→Int):cO bh (Ly zp z c2 np cp n c ns fp fm fs b++tc (aQ px py false)) Hz=some [cY b]∧cO bh (eD zs c4 ns cs++b8 zp z np cp n c ns fp fm fs++gH false dt++h_ c2) Hz=some [cY false]:=by cases zp<;>cases z<;>cases zs<;>exact ⟨by kernel_rfl,by kernel_rfl⟩
theorem zrL(zp z zs:Bool)(c2 c4 np cp n c ns cs:Nat)(fp fm fs:Nat→Int):St.slot (eD zs c4 ns cs++Pu++b8 zp z np cp n c ns fp fm fs++gH false dt++h_ c2) 23=some (.one (bT (.f 94 [(29*1048576,0)])))∧St.blk (eD zs c4 ns cs++Pu++b8 zp z np cp n c ns fp fm fs++gH false dt++h_ c2) 30408704=some [.s 2 0 1 (c2+1)]∧St.blk (eD zs c4 ns cs++Pu++b8 zp z np cp n c ns fp fm fs++gH false dt++h_ c2) 2=some (gn zp 3 np cp).its∧St.blk (eD zs c4 ns cs++Pu++b8 zp z np cp n c ns fp fm fs++gH false dt++h_ c2) 3=some (gM np fp):=by cases zp<;>cases z<;>cases zs<;>exact ⟨by kernel_rfl,by kernel_rfl,by kernel_rfl,by kernel_rfl⟩
theorem zDi(zp z zs:Bool)(c2 c4 np cp n c ns cs:Nat)(fp fm fs:Nat→Int):((eD zs c4 ns cs++b8 zp z np cp n c ns fp fm fs++gH false dt++h_ c2).map fun p=>Eng.look (eD zs c4 ns cs++Pu++b8 zp z np cp n c ns fp fm fs++gH false dt++h_ c2) p.1)=(eD zs c4 ns cs++b8 zp z np cp n c ns fp fm fs++gH false dt++h_ c2).map fun p=>some p.2:=by cases zp<;>cases z<;>cases zs<;>kernel_rfl
theorem zDj(px py:Nat)(ip ok:Bool)(zp z zs:Bool)(c2 c4 np cp n c ns cs:Nat)(fp fm fs:Nat→Int):((eD zs c4 ns cs++b8 zp z np cp n c ns fp fm fs++gH false dt++h_ c2).map fun p=>Eng.look (eD zs c4 ns cs++ysA ok++b8 zp z np cp n c ns fp fm fs++gH false dt++h_ c2++GI (aQ px py ip)) p.1)=(eD zs c4 ns cs++b8 zp z np cp n c ns fp fm fs++gH false dt++h_ c2).map fun p=>some p.2:=by cases zp<;>cases z<;>cases zs<;>kernel_rfl
theorem sC{st kb:St}{l:List (Nat×SV)}(h:(l.map fun p=>Eng.look kb (2*p.1))=l.map fun p=>some (Ct.sl p.2))(hk:∀ t x,st.slot t=some x→(t,x)∈l):∀ t x,st.slot t=some x→kb.slot t=some x:=fun t x hx=>by
 have hm:=hk t x hx
 have:∀ (l:List (Nat×SV)),(l.map fun p=>Eng.look kb (2*p.1))=(l.map fun p=>some (Ct.sl p.2))→∀ p∈l,Eng.look kb (2*p.1)=some (Ct.sl p.2):=by
  intro l
  induction l with
  | nil=>intro _ p hp;cases hp
  | cons q l ih=>
   intro hl p hp
   simp only [List.map_cons,List.cons.injEq] at hl
   rcases aae.1 hp with rfl|hp
   ·exact hl.1
   ·exact ih hl.2 p hp
 unfold St.slot
 rw [this l h _ hm]
def sD(st:St):List (Nat×SV):=st.filterMap fun p=>match p.2 with
 | .sl x=>if p.1%2=0 then some (p.1/2,x) else none
 | .bl _=>none
theorem nM{st:St}{t:Nat}{x:SV}(h:st.slot t=some x):(t,x)∈sD st:=by
 unfold St.slot at h
 split at h
 ·rename_i y hy
  cases h
  unfold sD
  rw [List.mem_filterMap]
  refine ⟨_,lr _ _ _ hy,?_⟩
  simp only
  rw [if_pos (by omega)]
  congr 2
  omega
 ·cases h
theorem wY(px py:Nat)(zp z zs:Bool)(c2 c4 np cp n c ns cs:Nat)(fp fm fs:Nat→Int):((sD (eD zs c4 ns cs++b8 zp z np cp n c ns fp fm fs++gH false dt++h_ c2)).map fun p=>Eng.look (eD zs c4 ns cs++Pu++b8 zp z np cp n c ns fp fm fs++gH false dt++h_ c2) (2*p.1))=(sD (eD zs c4 ns cs++b8 zp z np cp n c ns fp fm fs++gH false dt++h_ c2)).map (fun p=>some (Ct.sl p.2))∧((sD (eD zs c4 ns cs++b8 zp z np cp n c ns fp fm fs++gH false u7++h_ c2++tc (aQ px py false))).map fun p=>Eng.look (eD zs c4 ns cs++Pu++b8 zp z np cp n c ns fp fm fs++gH false dt++h_ c2) (2*p.1))=(sD (eD zs c4 ns cs++b8 zp z np cp n c ns fp fm fs++gH false u7++h_ c2++tc (aQ px py false))).map fun p=>some (Ct.sl p.2):=by cases zp<;>cases z<;>cases zs<;>exact ⟨by kernel_rfl,by kernel_rfl⟩
theorem Mo{qD:Rho}{w1 w:World}{a:Act}{px py:Nat}{zp z zs:Bool}{c2 c4 np cp n c ns cs:Nat}{fp fm fs:Nat→Int}(h1:At 41 qD w1 (eD zs c4 ns cs++b8 zp z np cp n c ns fp fm fs++gH false dt++h_ c2) a w)(h2:At 41 qD w1 (eD zs c4 ns cs++b8 zp z np cp n c ns fp fm fs++gH false u7++h_ c2++tc (aQ px py false)) a w):False:=by
  obtain ⟨ρ,_,hs⟩:=h1
  obtain ⟨ρ',_,fD⟩:=h2
  have s1:St.slot (eD zs c4 ns cs++b8 zp z np cp n c ns fp fm fs++gH false dt++h_ c2) 9=some (.one (bT (.p 27 0))):=by cases zp<;>cases z<;>cases zs<;>kernel_rfl
  have s2:St.slot (eD zs c4 ns cs++b8 zp z np cp n c ns fp fm fs++gH false u7++h_ c2++tc (aQ px py false)) 9=some (.one (bT (.p 27 0))):=by cases zp<;>cases z<;>cases zs<;>kernel_rfl
  have b1:St.blk (eD zs c4 ns cs++b8 zp z np cp n c ns fp fm fs++gH false dt++h_ c2) 27=some [dt]:=by cases zp<;>cases z<;>cases zs<;>kernel_rfl
  have b2:St.blk (eD zs c4 ns cs++b8 zp z np cp n c ns fp fm fs++gH false u7++h_ c2++tc (aQ px py false)) 27=some [u7]:=by cases zp<;>cases z<;>cases zs<;>kernel_rfl
  obtain ⟨q,hq,e1⟩:=dY (id:=27) (off:=0) rfl (hs.slots 9 _ s1)
  obtain ⟨q',EH,e2⟩:=dY (id:=27) (off:=0) rfl (fD.slots 9 _ s2)
  rw [e1] at e2
  obtain ⟨c1,o1,vs1,f1,g1,hb1⟩:=hs.mem.blk 27 _ b1
  obtain ⟨c2',o2,vs2,f2,g2,tP⟩:=fD.mem.blk 27 _ b2
  obtain ⟨ho1,t1,k1⟩:=hb1.2.1 rfl
  obtain ⟨ho2,t2,k2⟩:=tP.2.1 rfl
  rw [Rho.at_not (by rfl),f1] at hq
  rw [Rho.at_not (by rfl),f2] at EH
  cases hq;cases EH
  have hc:c1=c2':=by
    have:=e2
    simp only [mo,Value.pointer.injEq,Option.some.injEq,Addr.mk.injEq] at this
    exact this.1
  subst hc
  rw [k1] at k2
  have g1':conc ρ [dt]=some [.slice none 0 0]:=rfl
  rw [g1'] at g1;cases g1
  obtain ⟨v,hv,Pq⟩:∃ v,AV.val ρ' (bT u7)=some v∧vs2=[v]:=by
    have:∃ v,vs2=[v]:=by
      have hl:=c7 _ _ g2
      match vs2,hl with
      | [v],_=>exact ⟨v,rfl⟩
    obtain ⟨v,rfl⟩:=this
    exact ⟨v, by have g3 : conc ρ' (bT u7).its = some [v] := g2
                 unfold AV.val;rw [g3];rfl,rfl⟩
  subst Pq
  obtain ⟨b,o,cap,_,rfl⟩:=OS hv (by rfl)
  simp at k2
structure AlMem(w:World)(zp z zs:Bool)(u2 o2 u3 o3 u4 o4 u5 o5 u6 o6 np cp n c ns:Nat)(fp fm fs:Nat→Int):Prop where
 ks:Stands w u2 o2 [byV zp u3 o3 np cp]
 key:Stands w u3 o3 (gvals .u8 np fp)
 ms:Stands w u4 o4 [byV z u5 o5 n c]
 msg:Stands w u5 o5 (gvals .u8 n fm)
 sig:Stands w u6 o6 (gvals .u8 ns fs)
def Bl(u2 o2 u3 o3 u4 o4 u5 o5 u6 o6:Nat):List (Nat×(Nat×Nat)):=[(2,(u2,o2)),(3,(u3,o3)),(4,(u4,o4)),(5,(u5,o5)),(6,(u6,o6))]
theorem zsO{u2 o2 u3 o3 u4 o4 u5 o5 u6 o6 id:Nat}{q:Nat×Nat}(hq:aH (Bl u2 o2 u3 o3 u4 o4 u5 o5 u6 o6) id=some q):id=2∨id=3∨id=4∨id=5∨id=6:=by
 rw [fX] at hq
 have:=lq _ _ _ hq
 simp only [Bl,aae,abq,aad,or_false] at this
 omega
theorem zy0(u2 o2 u3 o3 u4 o4 u5 o5 u6 o6:Nat):∀ c,¬Eng.Own (aH (Bl u2 o2 u3 o3 u4 o4 u5 o5 u6 o6)) c:=by
 rintro c ⟨id,o,ho,hq⟩
 rcases zsO hq with rfl|rfl|rfl|rfl|rfl<;>(rcases ho with ho|ho<;>cases ho)
theorem V6{u2 o2 u3 o3 u4 o4 u5 o5 u6 o6:Nat}{keep:List Nat}(h:[2,3,4,5,6].all (fun i=>keep.contains i)=true):∀ id q,aH (Bl u2 o2 u3 o3 u4 o4 u5 o5 u6 o6) id=some q→id∈keep:=by
 intro id q hq
 simp only [List.all_cons,List.all_nil,Bool.and_true,Bool.and_eq_true,List.contains_eq_mem,decide_eq_true_eq] at h
 obtain ⟨h2,h3,h4,h5,h6⟩:=h
 rcases zsO hq with rfl|rfl|rfl|rfl|rfl<;>assumption
theorem VR{ρ:Rho}{id u o n c:Nat}{z:Bool}(h:ρ.at id=some (u,o)):conc ρ (gn z id n c).its=some [byV z u o n c]:=by
 cases z with
 | true=>rfl
 | false=>
  refine gZ (x:=.s id 0 n c) ?_
  have e:=bu (ρ:=ρ) (id:=id) (q:=(u,o)) h 0 n c
  simpa [iG,SV.val,bT,byV] using e
theorem lD{ρ:Rho}{id u o n c:Nat}{z:Bool}(h:ρ.at id=some (u,o)):AV.val ρ (gn z id n c)=some (byV z u o n c):=by
 cases z with
 | true=>exact AV.val_v rfl
 | false=>
  have e:=bu (ρ:=ρ) (id:=id) (q:=(u,o)) h 0 n c
  simpa [iG,SV.val,gn,byV] using e
theorem zy3{w:World}{u2 o2 u3 o3 u4 o4 u5 o5 u6 o6:Nat}{zp z zs:Bool}{c2 c4 np cp n c ns cs:Nat}{fp fm fs:Nat→Int}(h:AlMem w zp z zs u2 o2 u3 o3 u4 o4 u5 o5 u6 o6 np cp n c ns fp fm fs):Mem (aH (Bl u2 o2 u3 o3 u4 o4 u5 o5 u6 o6)) (cj [(2,(gn zp 3 np cp).its),(3,gM np fp),(4,(gn z 5 n c).its),(5,gM n fm),(6,gM ns fs)]) w:=by
 obtain ⟨h2,h3,h4,h5,h6⟩:=h
 have r3:(aH (Bl u2 o2 u3 o3 u4 o4 u5 o5 u6 o6)).at 3=some (u3,o3):=by simp [aH,Bl]
 have r5:(aH (Bl u2 o2 u3 o3 u4 o4 u5 o5 u6 o6)).at 5=some (u5,o5):=by simp [aH,Bl]
 refine oU (l:=[(2,(gn zp 3 np cp).its),(3,gM np fp),(4,(gn z 5 n c).its),(5,gM n fm),(6,gM ns fs)]) rfl rfl fun id its q g1 g2=>?_
 have m1:=lq _ _ _ g1
 rw [←fX] at g2
 simp only [aae,abq,aad,or_false] at m1
 rcases m1 with ⟨rfl,rfl⟩|⟨rfl,rfl⟩|⟨rfl,rfl⟩|⟨rfl,rfl⟩|⟨rfl,rfl⟩
 ·have:q=(u2,o2):=by simpa [aH,Bl] using g2.symm
  subst this;exact ⟨_,VR r3,h2⟩
 ·have:q=(u3,o3):=by simpa [aH,Bl] using g2.symm
  subst this;exact ⟨_,aD,h3⟩
 ·have:q=(u4,o4):=by simpa [aH,Bl] using g2.symm
  subst this;exact ⟨_,VR r5,h4⟩
 ·have:q=(u5,o5):=by simpa [aH,Bl] using g2.symm
  subst this;exact ⟨_,aD,h5⟩
 ·have:q=(u6,o6):=by simpa [aH,Bl] using g2.symm
  subst this;exact ⟨_,aD,h6⟩
theorem zpp(zs:Bool)(u2 o2 u3 o3 u4 o4 u5 o5 u6 o6 c2 c4 ns cs:Nat):ay (aH (Bl u2 o2 u3 o3 u4 o4 u5 o5 u6 o6)) [bT (.s 2 0 1 (c2+1)),bT (.s 4 0 1 (c4+1)),gn zs 6 ns cs,⟨false,[.v (.string cT)]⟩]=some [.slice (some ⟨u2,o2,none⟩) 1 (c2+1),.slice (some ⟨u4,o4,none⟩) 1 (c4+1),byV zs u6 o6 ns cs,.string cT]:=by
 have e1:AV.val (aH (Bl u2 o2 u3 o3 u4 o4 u5 o5 u6 o6)) (bT (.s 2 0 1 (c2+1)))=some (.slice (some ⟨u2,o2,none⟩) 1 (c2+1)):=by
  have e:=bu (ρ:=aH (Bl u2 o2 u3 o3 u4 o4 u5 o5 u6 o6)) (id:=2) (q:=(u2,o2)) (by simp [aH,Bl]) 0 1 (c2+1)
  simpa [iG,SV.val,bT] using e
 have e2:AV.val (aH (Bl u2 o2 u3 o3 u4 o4 u5 o5 u6 o6)) (bT (.s 4 0 1 (c4+1)))=some (.slice (some ⟨u4,o4,none⟩) 1 (c4+1)):=by
  have e:=bu (ρ:=aH (Bl u2 o2 u3 o3 u4 o4 u5 o5 u6 o6)) (id:=4) (q:=(u4,o4)) (by simp [aH,Bl]) 0 1 (c4+1)
  simpa [iG,SV.val,bT] using e
 have e3:=lD (ρ:=aH (Bl u2 o2 u3 o3 u4 o4 u5 o5 u6 o6)) (id:=6) (u:=u6) (o:=o6) (n:=ns) (c:=cs) (z:=zs) (by simp [aH,Bl])
 have e4:AV.val (aH (Bl u2 o2 u3 o3 u4 o4 u5 o5 u6 o6)) ⟨false,[.v (.string cT)]⟩=some (.string cT):=AV.val_v rfl
 simp only [ay,e1,e2,e3,e4]
theorem zy2(zp z:Bool)(np cp n c ns:Nat)(fp fm fs:Nat→Int):(cj [(2,(gn zp 3 np cp).its),(3,gM np fp),(4,(gn z 5 n c).its),(5,gM n fm),(6,gM ns fs)]).all (fun p=>p.1%2==1)=true:=by cases zp<;>cases z<;>kernel_rfl
def uO(x:P1×Bool)(H:P2)(D:P2×Int):Bool:=match x.2 && !x.1.2 with
 | true=>KH x.1 H D
 | false=>false
theorem ziy{fn:Func}{w0 wL w':World}{dL nC:Rho}{st:St}{a':Act}{D:Nat}{b:Bool}(oX:fn.results.toList=Hz)(hE0:Ext dL w0 nC wL)(cv:∀ c,¬Eng.Own dL c)(hA:At 41 nC wL st a' w')(hD:wL.heap.size≤D)(hk:w'.heap[D]? = some (.deferred (some [])))(ho:cO bh st Hz=some [cY b]){m:Nat}:
  bodyPostM abU m Tryz.prog fn (fun e W'=>e = .returned (.bool b)∧Below w0.heap.size w0 W') .ret (j8 [{ target:=.collected D,args:=#[] }] a') w':=by
 obtain ⟨ρ,hE,hs⟩:=hA
 have hg:w'.grownBy (w'.putObj D (.deferred none)) (some D):=grownBy_putObj' _ D (.deferred none)
 have DN:=hs.grown hg fun r e=>by cases e;exact ⟨_,hk,rfl⟩
 obtain ⟨v,qL,uX⟩:=jl ab DN oX ho
 have hvb:v = .bool b:=by
  have e:SV.val ρ (pT [cY b])=some (.bool b):=ga ρ b
  rw [e] at qL;exact (abn qL).symm
 subst hvb
 have hb1:Below w0.heap.size w0 w':=(hE0.trans hE).below cv
 have tP:Below w0.heap.size w' (w'.putObj D (.deferred none)):=⟨hg.os,hg.tape,hg.output,hg.size,fun k hk=>hg.block k (Nat.lt_of_lt_of_le hk hb1.size) (fun e=>by cases e;have:=hE0.keep.size;omega)⟩
 have hd:a'.defers=[]:=hs.calm
 show LeavesInM _ _ _ _ a'.tmps _ (a'.defers++_) .returning w'
 rw [hd,List.nil_append]
 refine ⟨by simp,.inl ⟨_,_,rfl,run_takeDeferred hk,?_⟩⟩
 exact ⟨_,uX,rfl,hb1.trans tP⟩
theorem zy4(b:Bool)(px py:Nat)(zp z zs:Bool)(c2 c4 np cp n c ns cs:Nat)(fp fm fs:Nat→Int):Eng.probe (Te b) 100 bdA (eD zs c4 ns cs++ysA true++b8 zp z np cp n c ns fp fm fs++gH false dt++h_ c2++GI (aQ px py false)) 50 [] ((eD zs c4 ns cs++b8 zp z np cp n c ns fp fm fs++gH false u7++h_ c2++tc (aQ px py false)++GI (aQ px py false)).map (·.1))=some (0,[],(eD zs c4 ns cs++b8 zp z np cp n c ns fp fm fs++gH false u7++h_ c2++tc (aQ px py false)++GI (aQ px py false)).map fun p=>some p.2):=by cases zp<;>cases z<;>cases zs<;>kernel_rfl
theorem zyY(b ok ip:Bool)(h:(ok && !ip)=false)(px py:Nat)(zp z zs:Bool)(c2 c4 np cp n c ns cs:Nat)(fp fm fs:Nat→Int):Eng.probe (Te b) 100 bdA (eD zs c4 ns cs++ysA ok++b8 zp z np cp n c ns fp fm fs++gH false dt++h_ c2++GI (aQ px py ip)) 50 [] ((eD zs c4 ns cs++b8 zp z np cp n c ns fp fm fs++gH false dt++h_ c2++GI (aQ px py ip)).map (·.1))=some (1,[],(eD zs c4 ns cs++b8 zp z np cp n c ns fp fm fs++gH false dt++h_ c2++GI (aQ px py ip)).map fun p=>some p.2):=by
 cases ok
 ·cases ip<;>cases zp<;>cases z<;>cases zs<;>kernel_rfl
 ·cases ip
  ·cases h
  ·cases zp<;>cases z<;>cases zs<;>kernel_rfl
theorem zeI(px py:Nat)(zp z zs:Bool)(c2 c4 np cp n c ns cs:Nat)(fp fm fs:Nat→Int):(40::cU 59::jr).all (fun id=>(St.blk (eD zs c4 ns cs++b8 zp z np cp n c ns fp fm fs++gH false u7++h_ c2++tc (aQ px py false)++GI (aQ px py false)) id).isSome)=true∧aw (eD zs c4 ns cs++b8 zp z np cp n c ns fp fm fs++gH false u7++h_ c2++tc (aQ px py false)++GI (aQ px py false)) (40::cU 59::jr)=true∧((eD zs c4 ns cs++b8 zp z np cp n c ns fp fm fs++gH false u7++h_ c2++tc (aQ px py false)).map fun p=>Eng.look (eD zs c4 ns cs++b8 zp z np cp n c ns fp fm fs++gH false u7++h_ c2++tc (aQ px py false)++GI (aQ px py false)) p.1)=(eD zs c4 ns cs++b8 zp z np cp n c ns fp fm fs++gH false u7++h_ c2++tc (aQ px py false)).map fun p=>some p.2:=by cases zp<;>cases z<;>cases zs<;>exact ⟨by kernel_rfl,by kernel_rfl,by kernel_rfl⟩
theorem zeH(px py:Nat)(ip:Bool)(zp z zs:Bool)(c2 c4 np cp n c ns cs:Nat)(fp fm fs:Nat→Int):(40::jr).all (fun id=>(St.blk (eD zs c4 ns cs++b8 zp z np cp n c ns fp fm fs++gH false dt++h_ c2++GI (aQ px py ip)) id).isSome)=true∧aw (eD zs c4 ns cs++b8 zp z np cp n c ns fp fm fs++gH false dt++h_ c2++GI (aQ px py ip)) (40::jr)=true∧((eD zs c4 ns cs++b8 zp z np cp n c ns fp fm fs++gH false dt++h_ c2).map fun p=>Eng.look (eD zs c4 ns cs++b8 zp z np cp n c ns fp fm fs++gH false dt++h_ c2++GI (aQ px py ip)) p.1)=(eD zs c4 ns cs++b8 zp z np cp n c ns fp fm fs++gH false dt++h_ c2).map fun p=>some p.2:=by cases zp<;>cases z<;>cases zs<;>exact ⟨by kernel_rfl,by kernel_rfl,by kernel_rfl⟩
section
def IA(nC:Rho)(wL:World)(aL:Act)(zp z zs:Bool)(c2 c4 np cp n c ns cs:Nat)(fp fm fs:Nat→Int)(pre:List (P1×Bool))(W:World):Prop:=
 (pre=[]∧At 41 nC wL (eD zs c4 ns cs++b8 zp z np cp n c ns fp fm fs++gH false dt++h_ c2) aL W)∨∃ px py,pre=[(aQ px py false,true)]∧At 41 nC wL (eD zs c4 ns cs++b8 zp z np cp n c ns fp fm fs++gH false u7++h_ c2++tc (aQ px py false)) aL W
def IxA(nC:Rho)(wL:World)(aL:Act)(zp z zs:Bool)(c2 c4 np cp n c ns cs:Nat)(fp fm fs:Nat→Int)(c0:Code)(pre:List (P1×Bool))(W:World):Prop:=
 c0 = .ret∧(∃ x,pre=[x]∧(x.2 && !x.1.2)=false)∧At 41 nC wL (eD zs c4 ns cs++b8 zp z np cp n c ns fp fm fs++gH false dt++h_ c2) aL W
def AxA(nC:Rho)(wL:World)(aL:Act)(zp z zs:Bool)(c2 c4 np cp n c ns cs:Nat)(fp fm fs:Nat→Int)(x:P1×Bool)(a':Act)(W:World):Prop:=
 At 41 nC wL (eD zs c4 ns cs++ysA x.2++b8 zp z np cp n c ns fp fm fs++gH false dt++h_ c2++GI x.1) a' W∨∃ qx qy,At 41 nC wL (eD zs c4 ns cs++b8 zp z np cp n c ns fp fm fs++gH false u7++h_ c2++tc (aQ qx qy false)) aL W
theorem zfP{nC:Rho}{N:Nat}{a:Act}{w:World}{st:St}{l:List Nat}(hs:Sim nC N st a w)(h:(fP st).all (fun id=>l.contains id)=true):∀ id q,nC id=some q→id∈l:=fun id q hq=>by
 obtain ⟨b,hb⟩:=hs.dom id q hq
 rw [aaF] at h
 simpa using h id (Ew hb)
theorem MU{st:St}{l:List Nat}(h:(fP st).all (fun id=>l.contains id)=true):∀ id∈fP st,id∈l:=fun id cl=>by
 rw [aaF] at h
 simpa using h id cl
theorem zpu(nC:Rho)(wL:World)(aL:Act)(zp z zs:Bool)(c2 c4 np cp n c ns cs:Nat)(fp fm fs:Nat→Int):OwnFrom wL.heap.size (IA nC wL aL zp z zs c2 c4 np cp n c ns cs fp fm fs):=fun s W W' row hs hg hr=>by
 rcases hs with ⟨h1,h2⟩|⟨px,py,h1,h2⟩
 ·exact .inl ⟨h1,h2.grown hg hr⟩
 ·exact .inr ⟨px,py,h1,h2.grown hg hr⟩
theorem zpt(nC:Rho)(wL:World)(aL:Act)(zp z zs:Bool)(c2 c4 np cp n c ns cs:Nat)(fp fm fs:Nat→Int)(c0:Code):OwnFrom wL.heap.size (IxA nC wL aL zp z zs c2 c4 np cp n c ns cs fp fm fs c0):=fun s W W' row hs hg hr=>⟨hs.1,hs.2.1,hs.2.2.grown hg hr⟩
theorem zps(nC:Rho)(wL:World)(aL:Act)(zp z zs:Bool)(c2 c4 np cp n c ns cs:Nat)(fp fm fs:Nat→Int)(x:P1×Bool)(a':Act):OwnFrom wL.heap.size (fun (_:Unit) W=>AxA nC wL aL zp z zs c2 c4 np cp n c ns cs fp fm fs x a' W):=fun s W W' row hs hg hr=>by
 rcases hs with h|⟨qx,qy,h⟩
 ·exact .inl (h.grown hg hr)
 ·exact .inr ⟨qx,qy,h.grown hg hr⟩
theorem zGF{N:Nat}{nC:Rho}{wL W:World}{st:St}{aL:Act}(hA:At N nC wL st aL W)(h24:24<N)(h25:25<N)(p:P1)(ok:Bool):At N nC wL (aX (aX st [(2*24,.sl (.one (wP p)))]) [(2*25,.sl (.one (cY ok)))]) { tmps:=(#[24,25].zip (zgA (p,ok))).foldl (fun t (q:Nat×Value)=>t.setIfInBounds q.1 q.2) aL.tmps,defers:=[] } W:=by
 obtain ⟨ρ,hE,hs⟩:=hA
 have h1:=(hs.put h24 (x:=.one (wP p)) (v:=i_ p) (jO ρ p)).put h25 (x:=.one (cY ok)) (v:=.bool ok) (ga ρ ok)
 have e:({ tmps:=(#[24,25].zip (zgA (p,ok))).foldl (fun t (q:Nat×Value)=>t.setIfInBounds q.1 q.2) aL.tmps,defers:=[] }:Act)=(aL.put (some 24) (i_ p)).put (some 25) (.bool ok):=by
  have hd:aL.defers=[]:=hs.calm
  simp [Act.put,zgA,hd]
 rw [e]
 exact ⟨ρ,hE,h1⟩
theorem ZP{b:Bool}{nC:Rho}{wL:World}{aL:Act}{zp z zs:Bool}{c2 c4 np cp n c ns cs:Nat}{fp fm fs:Nat→Int}(hL:Sim nC 41 (eD zs c4 ns cs++Pu++b8 zp z np cp n c ns fp fm fs++gH false dt++h_ c2) aL wL)(l m:Nat)(pre:List (P1×Bool))(x:P1×Bool)(W:World)(K:Act→World→Prop)(hI:IA nC wL aL zp z zs c2 c4 np cp n c ns cs fp fm fs pre W)
  (hK:∀ a' W',KeepsFrom wL.heap.size W W'→True→IA nC wL aL zp z zs c2 c4 np cp n c ns cs fp fm fs pre W'→AxA nC wL aL zp z zs c2 c4 np cp n c ns cs fp fm fs x a' W'→K a' W') :
  asA.wpIn (abU.inRound l) m Tryz.prog (Exit.then K (fun _ _ _=>False)) { tmps:=(#[24,25].zip (zgA x)).foldl (fun t (q:Nat×Value)=>t.setIfInBounds q.1 q.2) aL.tmps,defers:=[] } W:=by
 obtain ⟨⟨⟨px,py⟩,ip⟩,ok⟩:=x
 have hT:=Td b
 have h8:=zfP hL (zeK zp z zs c2 c4 np cp n c ns cs fp fm fs).2.2.2
 rcases hI with ⟨rfl,hA⟩|⟨qx,qy,rfl,hA⟩
 ·have nq:=zGF hA (by omega) (by omega) (aQ px py ip) ok
  refine At.runL (E:=Te b) (lgR Tryz.prog l m) ab hT (zy7 b ok ip px py zp z zs c2 c4 np cp n c ns cs fp fm fs) zix (fun p hp=>by cases hp) nq (zDm px py ip ok zp z zs c2 c4 np cp n c ns cs fp fm fs).2.2.1 (40::jr) (ba (YB px py ip ok zp z zs c2 c4 np cp n c ns cs fp fm fs).1) (YB px py ip ok zp z zs c2 c4 np cp n c ns cs fp fm fs).2.1 (fun id cl=>aaa _ (MU (zDm px py ip ok zp z zs c2 c4 np cp n c ns cs fp fm fs).2.2.2 id cl)) fun a' W' bY hKF=>?_
  have hN:=At.sub bY (zDj px py ip ok zp z zs c2 c4 np cp n c ns cs fp fm fs) jr (ba (YD zp z zs c2 c4 np cp n c ns cs fp fm fs).1) (YD zp z zs c2 c4 np cp n c ns cs fp fm fs).2.1 h8
  have hS:=At.swap hL hN (sC (wY px py zp z zs c2 c4 np cp n c ns cs fp fm fs).1 (fun t x hx=>nM hx)) (fun _=>rfl)
  exact hK a' W' (hKF _) trivial (.inl ⟨rfl,hS⟩) (.inl bY)
 ·have nq:=zGF hA (by omega) (by omega) (aQ px py ip) ok
  refine At.runL (E:=Te b) (lgR Tryz.prog l m) ab hT (zy6 b ok ip px py qx qy zp z zs c2 c4 np cp n c ns cs fp fm fs) zix (fun p hp=>by cases hp) nq (zDl px py ip ok qx qy zp z zs c2 c4 np cp n c ns cs fp fm fs).2.2.1 (cU 59::jr) (ba (YC qx qy zp z zs c2 c4 np cp n c ns cs fp fm fs).1) (YC qx qy zp z zs c2 c4 np cp n c ns cs fp fm fs).2.1 (MU (zDl px py ip ok qx qy zp z zs c2 c4 np cp n c ns cs fp fm fs).2.2.2) fun a' W' bY hKF=>?_
  have hS:=At.swap hL bY (sC (wY qx qy zp z zs c2 c4 np cp n c ns cs fp fm fs).2 (fun t x hx=>nM hx)) (fun _=>rfl)
  exact hK a' W' (hKF _) trivial (.inr ⟨qx,qy,rfl,hS⟩) (.inr ⟨qx,qy,hS⟩)
theorem ziv{b:Bool}{nC:Rho}{wL:World}{aL:Act}{zp z zs:Bool}{c2 c4 np cp n c ns cs:Nat}{fp fm fs:Nat→Int}(hL:Sim nC 41 (eD zs c4 ns cs++Pu++b8 zp z np cp n c ns fp fm fs++gH false dt++h_ c2) aL wL)(l m:Nat)(pre:List (P1×Bool))(x:P1×Bool)(a':Act)(W:World)(hI:IA nC wL aL zp z zs c2 c4 np cp n c ns cs fp fm fs pre W)(hX:AxA nC wL aL zp z zs c2 c4 np cp n c ns cs fp fm fs x a' W)(hlen:pre.length<1):
  bdA.wpIn (abU.inRound l) m Tryz.prog (ownPostG wL.heap.size (fun _ _=>True) (IA nC wL aL zp z zs c2 c4 np cp n c ns cs fp fm fs) (IxA nC wL aL zp z zs c2 c4 np cp n c ns cs fp fm fs) (pre++[x]) W) a' W:=by
 have h8:=zfP hL (zeK zp z zs c2 c4 np cp n c ns cs fp fm fs).2.2.2
 rcases hI with ⟨rfl,hA⟩|⟨qx,qy,rfl,hA⟩
 ·rcases hX with hX|⟨qx,qy,hX⟩
  ·obtain ⟨⟨⟨px,py⟩,ip⟩,ok⟩:=x
   have hT:=Td b
   cases hg:ok && !ip with
   | true=>
    have od:ok=true:=by cases ok<;>simp_all
    have hip:ip=false:=by cases ip<;>simp_all
    subst od
    subst hip
    refine At.runL (E:=Te b) (lgR Tryz.prog l m) ab hT (zy4 b px py zp z zs c2 c4 np cp n c ns cs fp fm fs) ziw (fun p hp=>by cases hp) hX (YB px py false true zp z zs c2 c4 np cp n c ns cs fp fm fs).2.2.1 (40::cU 59::jr) (ba (zeI px py zp z zs c2 c4 np cp n c ns cs fp fm fs).1) (zeI px py zp z zs c2 c4 np cp n c ns cs fp fm fs).2.1 (fun id cl=>by
     have:=MU (YB px py false true zp z zs c2 c4 np cp n c ns cs fp fm fs).2.2.2 id cl
     rcases aae.1 this with rfl|h
     ·exact aac
     ·exact aaa _ (aaa _ h)) fun a2 W' bY hKF=>?_
    have hN:=At.sub bY (zeI px py zp z zs c2 c4 np cp n c ns cs fp fm fs).2.2 (cU 59::jr) (ba (YC px py zp z zs c2 c4 np cp n c ns cs fp fm fs).1) (YC px py zp z zs c2 c4 np cp n c ns cs fp fm fs).2.1 (fun id q hq=>aaa _ (h8 id q hq))
    have hS:=At.swap hL hN (sC (wY px py zp z zs c2 c4 np cp n c ns cs fp fm fs).2 (fun t x hx=>nM hx)) (fun _=>rfl)
    exact ⟨hKF _,trivial,.inr ⟨px,py,rfl,hS⟩⟩
   | false=>
    refine At.runL (E:=Te b) (lgR Tryz.prog l m) ab hT (zyY b ok ip hg px py zp z zs c2 c4 np cp n c ns cs fp fm fs) ziw (fun p hp=>by cases hp) hX (YB px py ip ok zp z zs c2 c4 np cp n c ns cs fp fm fs).2.2.1 (40::jr) (ba (zeH px py ip zp z zs c2 c4 np cp n c ns cs fp fm fs).1) (zeH px py ip zp z zs c2 c4 np cp n c ns cs fp fm fs).2.1 (MU (YB px py ip ok zp z zs c2 c4 np cp n c ns cs fp fm fs).2.2.2) fun a2 W' bY hKF=>?_
    have hN:=At.sub bY (zeH px py ip zp z zs c2 c4 np cp n c ns cs fp fm fs).2.2 jr (ba (YD zp z zs c2 c4 np cp n c ns cs fp fm fs).1) (YD zp z zs c2 c4 np cp n c ns cs fp fm fs).2.1 h8
    have hS:=At.swap hL hN (sC (wY px py zp z zs c2 c4 np cp n c ns cs fp fm fs).1 (fun t x hx=>nM hx)) (fun _=>rfl)
    exact ⟨hKF _,rfl,⟨_,rfl,hg⟩,hS⟩
  ·exact (Mo hA hX).elim
 ·simp at hlen
end
def pkA(c2:Nat):St:=[(0,sl (.s 2 0 1 (c2+1)))]
theorem zpr(b:Bool)(zp z zs:Bool)(c2 c4 np cp n c ns cs:Nat)(fp fm fs:Nat→Int):Eng.probes (Te b) 100 [cAl 0,cAl 1,cAl 2] (zL3 zp z zs c2 c4 np cp n c ns cs fp fm fs) 16 [] ((pkA c2++eD zs c4 ns cs++b8 zp z np cp n c ns fp fm fs++gH false dt).map (·.1))=some (0,[],(pkA c2++eD zs c4 ns cs++b8 zp z np cp n c ns fp fm fs++gH false dt).map fun p=>some p.2):=by cases zp<;>cases z<;>cases zs<;>kernel_rfl
theorem zpq(b:Bool)(zp z zs:Bool)(c2 c4 np cp n c ns cs:Nat)(fp fm fs:Nat→Int):Eng.probe (Te b) 100 r4A (pkA c2++eD zs c4 ns cs++b8 zp z np cp n c ns fp fm fs++gH false dt) 28 [] ((eD zs c4 ns cs++Pu++b8 zp z np cp n c ns fp fm fs++gH false dt++h_ c2).map (·.1))=some (0,[],(eD zs c4 ns cs++Pu++b8 zp z np cp n c ns fp fm fs++gH false dt++h_ c2).map fun p=>some p.2):=by cases zp<;>cases z<;>cases zs<;>kernel_rfl
theorem zDn(zp z zs:Bool)(c2 c4 np cp n c ns cs:Nat)(fp fm fs:Nat→Int):[2,3,4,5,6,16,27].all (fun id=>(St.blk (pkA c2++eD zs c4 ns cs++b8 zp z np cp n c ns fp fm fs++gH false dt) id).isSome)=true∧aw (pkA c2++eD zs c4 ns cs++b8 zp z np cp n c ns fp fm fs++gH false dt) [2,3,4,5,6,16,27]=true:=by cases zp<;>cases z<;>cases zs<;>exact ⟨by kernel_rfl,by kernel_rfl⟩
theorem gU{z:Bool}{n c:Nat}{f:Nat→Int}(h:z=false→n≤c∧bOk n f):∀ q∈GM z n c f,q:=by
 have e0:(fun i=>f (0+i))=f:=nI f
 cases z with
 | true=>exact ad
 | false=>
  obtain ⟨h1,h2⟩:=h rfl
  exact aa h1 (aa (by rw [e0];exact h2) (aa (by omega) ad))
theorem zfN(z:Bool)(n:Nat)(f:Nat→Int):hV z (nZ z n) (fZ z f)=hV z n f:=by
 have e0:(fun i=>f (0+i))=f:=nI f
 cases z
 ·show hV false n (fun i=>f (0+i))=_;rw [e0]
 ·rfl
theorem Oj(z:Bool)(n:Nat)(f:Nat→Int):kW z (nZ z n) (fZ z f)=kW z n f:=by
 have e0:(fun i=>f (0+i))=f:=nI f
 cases z
 ·show kW false n (fun i=>f (0+i))=_;rw [e0]
 ·rfl
theorem zvG{p:P1}{z zs:Bool}{c4 n c ns cs:Nat}{fm fs:Nat→Int}{b:Bool}(hn:n≤90000)(hp:eV p=true)(hm:z=false→n≤c∧bOk n fm)(hs:zs=false→ns≤cs∧bOk ns fs)(hb:KH p (hV z n fm) (kW zs ns fs)=b):∀ q∈obE p z zs c4 n c ns cs fm fs b,q:=by
 refine al ?_ (al (gU hm) (gU hs))
 refine aa ⟨by rfl,rfl,rfl,rfl,rfl,rfl,rfl,by rfl⟩ (aa rfl (aa (by omega) (aa ?_ (aa hp (aa ?_ ad)))))
 ·cases z
  ·exact hn
  ·show 0≤90000;omega
 ·rw [zfN,Oj];exact hb
theorem zu3{X Y:Nat}{on nG:Bool}:ptA X Y on nG=(((X,Y),false),0)∧nG=true∨∃ e,e≠0∧ptA X Y on nG=(EJ,e):=by
 cases on
 ·exact .inr ⟨204,by decide,rfl⟩
 ·cases nG
  ·exact .inr ⟨205,by decide,rfl⟩
  ·exact .inl ⟨rfl,rfl⟩
theorem Ee(z:Bool)(n:Nat)(f:Nat→Int):(BV z n f).2=0∧eV (BV z n f).1=true∨∃ e,e≠0∧BV z n f=(EJ,e):=by
 cases z with
 | true=>exact .inr ⟨200,by decide,rfl⟩
 | false=>
  show (J_ n f).2=0∧eV (J_ n f).1=true∨∃ e,e≠0∧J_ n f=(EJ,e)
  unfold J_
  split
  ·exact .inr ⟨200,by decide,rfl⟩
  ·split
   ·exact .inr ⟨201,by decide,rfl⟩
   ·split
    ·split
     ·exact .inl ⟨rfl,(kM _).2 Tor.inf⟩
     ·exact .inr ⟨202,by decide,rfl⟩
    ·split
     ·generalize eo (cn f) 48=X
      generalize jT f=b
      unfold pt1
      generalize dcY X b=Y
      rcases zu3 (X:=X) (Y:=Y) (on:=E9 ((X,Y),false)) (nG:=eV ((X,Y),false)) with ⟨h1,h2⟩|h
      ·left;rw [h1];exact ⟨rfl,h2⟩
      ·right;exact h
     ·exact .inr ⟨203,by decide,rfl⟩
theorem zoP{w:World}{u2 o2 u3 o3 u4 o4 u5 o5 u6 o6:Nat}{zp z zs:Bool}{c2 c4 np cp n c ns cs:Nat}{fp fm fs:Nat→Int}(hm:AlMem w zp z zs u2 o2 u3 o3 u4 o4 u5 o5 u6 o6 np cp n c ns fp fm fs)(hn:n≤90000)(zML:zp=false→np≤cp∧bOk np fp)(zfB:z=false→n≤c∧bOk n fm)(zMs:zs=false→ns≤cs∧bOk ns fs):
  cX Tryz.prog 17 #[.slice (some ⟨u2,o2,none⟩) 1 (c2+1),.slice (some ⟨u4,o4,none⟩) 1 (c4+1),byV zs u6 o6 ns cs,.string cT] (.bool (uO (xK zp np fp) (hV z n fm) (kW zs ns fs))) w:=by
 obtain ⟨fn,Fi,l7,oX,RF,_⟩:=(aB _ _ zgi).ok
 have zrV:fn.results.toList=Hz:=oX.trans zyZ
 obtain ⟨bt,hbt⟩:∃ bt,KH (xK zp np fp).1 (hV z n fm) (kW zs ns fs)=bt:=⟨_,rfl⟩
 have hT:=Td bt
 have cv:=zy0 u2 o2 u3 o3 u4 o4 u5 o5 u6 o6
 refine (callsIn_wide (n:=5)).1 (callsIn_of_wp_marks Fi l7 trivial ?_)
 refine wpIn_wide.2 ?_
 rw [RF,zN7,zpv]
 have c9:=At.begin (N:=41) (zy3 (c2:=c2) (c4:=c4) (cs:=cs) hm) (zy2 zp z np cp n c ns fp fm fs) (zpp zs u2 o2 u3 o3 u4 o4 u5 o5 u6 o6 c2 c4 ns cs) (by show 4≤41;omega)
 refine At.probes (E:=Te bt) an ab hT (zpr bt zp z zs c2 c4 np cp n c ns cs fp fm fs) (fun p hp=>by cases hp) c9 [2,3,4,5,6,16,27] (ba (zDn zp z zs c2 c4 np cp n c ns cs fp fm fs).1) (zDn zp z zs c2 c4 np cp n c ns cs fp fm fs).2 (V6 rfl) fun a1 w1 nq=>?_
 refine wp_seq ?_
 rw [zGH]
 refine wp_seq ?_
 refine At.probe (E:=Te bt) an ab hT (zpq bt zp z zs c2 c4 np cp n c ns cs fp fm fs) (fun p hp=>by cases hp) nq jr (ba (zeK zp z zs c2 c4 np cp n c ns cs fp fm fs).1) (zeK zp z zs c2 c4 np cp n c ns cs fp fm fs).2.1 (V6 rfl) fun aL wL YM=>?_
 obtain ⟨nC,hE0,hL⟩:=YM
 have h8:=zfP hL (zeK zp z zs c2 c4 np cp n c ns cs fp fm fs).2.2.2
 have znh:Below w.heap.size w wL:=hE0.below cv
 have r2:nC 2=some (u2,o2):=hE0.le _ _ (by simp [aH,Bl])
 obtain ⟨q,hq,hfv⟩:=zEN (hL.slots 23 _ (zrL zp z zs c2 c4 np cp n c ns cs fp fm fs).1)
 obtain ⟨B,oB,vs,e1,e2,e3⟩:=hL.mem.blk 30408704 _ (zrL zp z zs c2 c4 np cp n c ns cs fp fm fs).2.1
 have hqB:q=(B,oB):=by
  rw [Rho.at_not (by rfl)] at hq
  have:(29*1048576:Nat)=30408704:=by decide
  rw [this,e1] at hq;exact (abn hq).symm
 subst hqB
 have Pq:vs=[.slice (some ⟨u2,o2,none⟩) 1 (c2+1)]:=by
  have e:=bu (ρ:=nC) (id:=2) (q:=(u2,o2)) (by rw [Rho.at_not (by rfl)];exact r2) 0 1 (c2+1)
  have:=gZ (ρ:=nC) (x:=.s 2 0 1 (c2+1)) (v:=.slice (some ⟨u2,o2,none⟩) 1 (c2+1)) (by simpa [iG,SV.val,bT] using e)
  rw [this] at e2;cases e2;rfl
 subst Pq
 have zMU:Stands wL B oB [.slice (some ⟨u2,o2,none⟩) 1 (c2+1)]:=yk e1 e3 (by rfl) (q:=(B,oB)) (by rw [Rho.at_not (by rfl)];exact e1)
 have hks:KsMem wL zp B oB u2 o2 u3 o3 c2 np cp fp:=⟨zMU,kp hm.ks znh,kp hm.key znh⟩
 have zMu:=MI 4 hks zML
 have hg:aL.eval (.tmp 23) = .func (.func 94) #[] #[.pointer (some ⟨B,oB,none⟩)]:=hfv
 have hN:=At.sub (⟨nC,.refl _ _,hL⟩:At 41 nC wL (eD zs c4 ns cs++Pu++b8 zp z np cp n c ns fp fm fs++gH false dt++h_ c2) aL wL) (zDi zp z zs c2 c4 np cp n c ns cs fp fm fs) jr (ba (YD zp z zs c2 c4 np cp n c ns cs fp fm fs).1) (YD zp z zs c2 c4 np cp n c ns cs fp fm fs).2.1 h8
 have hd0:aL.defers=[]:=hL.calm
 refine (wpIn_wide (n:=5)).1 ?_
 refine wpIn_block ?_
 refine wpIn_rangeFunc_ownH (F:=abU) (n:=5) rfl (by omega) (gf:=94) (lb:=#[.pointer (some ⟨B,oB,none⟩)]) hg trivial (fun args w=>(aB _ _ zgh).enter _ _) zMu (fun _ _=>trivial) (fun _ _ _ _ _ _ _ _=>trivial) (Below.refl _ _) (fun _=>rfl)
  (IA nC wL aL zp z zs c2 c4 np cp n c ns cs fp fm fs) (IxA nC wL aL zp z zs c2 c4 np cp n c ns cs fp fm fs) (zpu nC wL aL zp z zs c2 c4 np cp n c ns cs fp fm fs) (zpt nC wL aL zp z zs c2 c4 np cp n c ns cs fp fm fs) (.inl ⟨rfl,hN⟩) (AxA nC wL aL zp z zs c2 c4 np cp n c ns cs fp fm fs) (zps nC wL aL zp z zs c2 c4 np cp n c ns cs fp fm fs)
  (fun l pre x W K hI hK=>ZP (b:=bt) hL l _ pre x W K hI hK) (fun l pre x a' W _ _ hI hX hlen=>ziv (b:=bt) hL l _ pre x a' W hI hX hlen) ?_ ?_
 ·intro D xs W hD hS hI hk
  have hS:xs=[xK zp np fp]:=hS
  subst hS
  rcases hI with ⟨h,_⟩|⟨px,py,h,hA⟩
  ·cases h
  ·have hx:xK zp np fp=(aQ px py false,true):=by simpa using h
   have sP:eV (aQ px py false)=true:=by
    rcases Ee zp np fp with ⟨_,h⟩|⟨e,he,h⟩
    ·have:(xK zp np fp).1=aQ px py false:=by rw [hx]
     rw [←this];exact h
    ·have:(xK zp np fp).2=true:=by rw [hx]
     unfold xK at this
     rw [h] at this
     simp only [beq_iff_eq] at this
     exact absurd this he
   have hval:uO (xK zp np fp) (hV z n fm) (kW zs ns fs)=bt:=by
    rw [←hbt,hx];rfl
   have hb1:KH (aQ px py false) (hV z n fm) (kW zs ns fs)=bt:=by rw [←hbt,hx]
   rw [hval]
   have hsh:({ aL with defers:={ target:=.collected D,args:=#[] }::aL.defers }:Act)=j8 [{ target:=.collected D,args:=#[] }] aL:=by
    unfold j8;rw [hd0];rfl
   rw [hsh]
   show (bAl 4).wp _ _ _ W
   have DQ:=At.runL (E:=Te bt) (lgD Tryz.prog [{ target:=.collected D,args:=#[] }]) ab hT (zy5 bt zp z zs px py c2 c4 np cp n c ns cs fp fm fs) zy1 (zvG hn sP zfB zMs hb1) hA (YC px py zp z zs c2 c4 np cp n c ns cs fp fm fs).2.2.1 (cU 59::jr) (ba (zDk px py bt zp z zs c2 c4 np cp n c ns cs fp fm fs).1) (zDk px py bt zp z zs c2 c4 np cp n c ns cs fp fm fs).2.1 (MU (YC px py zp z zs c2 c4 np cp n c ns cs fp fm fs).2.2.2)
    (Q:=fun e a' w'=>e = .ret∧At 41 nC wL (Ly zp z c2 np cp n c ns fp fm fs bt++tc (aQ px py false)) a' w'∧w'.heap[D]? = some (.deferred (some []))) (fun a' w' bY hKF=>⟨rfl,bY,(hKF 0).same D _ (Nat.zero_le _) hk rfl⟩)
   refine wp_mono DQ ?_
   rintro e a3 w3 ⟨a4,rfl,rfl,Fm,hk4⟩
   exact ziy zrV hE0 cv Fm hD hk4 (zeJ px py bt zp z zs c2 c4 np cp n c ns cs fp fm fs).1
 ·intro D c0 pre W hD hS hI hk
  have hS:pre=[xK zp np fp]:=hS
  subst hS
  obtain ⟨rfl,⟨x,hx,bC⟩,hA⟩:=hI
  have hx:xK zp np fp=x:=by simpa using hx
  have hval:uO (xK zp np fp) (hV z n fm) (kW zs ns fs)=false:=by
   rw [hx];unfold uO;rw [bC]
  rw [hval]
  have hsh:({ aL with defers:={ target:=.collected D,args:=#[] }::aL.defers }:Act)=j8 [{ target:=.collected D,args:=#[] }] aL:=by
   unfold j8;rw [hd0];rfl
  rw [hsh]
  refine wpIn_ret ?_
  exact ziy zrV hE0 cv hA hD hk (zeJ 0 0 bt zp z zs c2 c4 np cp n c ns cs fp fm fs).2
def alT(b:Bool):CallT:=fun f args m _=>match f==17 with
 | true=>match args with
  | [⟨false,[.s id off len c2]⟩,⟨false,[.s id4 zCm zCM c4]⟩,y,⟨false,[.v (.string s)]⟩]=>match m.blk id,m.blk id4 with
   | some [it],some [it4]=>match tn m ⟨false,[it]⟩,tn m ⟨false,[it4]⟩,tn m y with
    | some (zp,np,fp,ob),some (z,n,fm,Dh),some (zs,ns,fs,ob3)=>some { val:=.one (cY b),wr:=[],news:=[],ob:=(off=0∧len=1∧zCm=0∧zCM=1∧app id=false∧app id4=false)::(s=cT)::(1≤c2)::(1≤c4)::(n≤90000)::(uO (xK zp np fp) (hV z n fm) (kW zs ns fs)=b)::(ob++(Dh++ob3)) }
    | _,_,_=>none
   | _,_=>none
  | _=>none
 | false=>none
theorem zdd{ρ:Rho}{m:St}{w:World}(hM:Mem ρ m w){id:Nat}{it:It}(hi:m.blk id=some [it])(ha:app id=false){q:Nat×Nat}(hq:ρ.at id=some q){z:Bool}{n:Nat}{f:Nat→Int}{ob:List Prop}(hz:tn m ⟨false,[it]⟩=some (z,n,f,ob))(ax:∀ p∈ob,p):
  ∃ u o c,Stands w q.1 q.2 [byV z u o n c]∧Stands w u o (gvals .u8 n f)∧(z=false→n≤c∧bOk n f):=by
 obtain ⟨b,o,vs,e1,c1,hB⟩:=hM.ok.blk id [it] hi
 obtain ⟨v,rfl⟩:=OU hz ρ vs c1
 have hv:AV.val ρ ⟨false,[it]⟩=some v:=by unfold AV.val;rw [c1]
 have hS:=yk e1 hB ha hq
 obtain ⟨u,o',c,rfl,hs,hk⟩:=dF (lN hM hz ax hv) q.1 hS.1
 exact ⟨u,o',c,hS,hs,hk⟩
theorem ziA(b:Bool):ag Tryz.prog (alT b):=by
 intro f args m nid out af ax ρ w vs hv hM df
 unfold alT at af
 split at af
 ·rename_i hf
  rw [beq_iff_eq] at hf
  subst hf
  split at af
  ·rename_i id off len c2 id4 zCm zCM c4 y s
   split at af
   ·rename_i it it4 hi1 Vo
    split at af
    ·rename_i zp np fp ob z n fm Dh zs ns fs ob3 hp hz hzs
     cases af
     obtain ⟨v1,us,h1,h2,rfl⟩:=aj hv
     obtain ⟨v2,ov,h3,h4,rfl⟩:=aj h2
     obtain ⟨v3,ov,h5,h6,rfl⟩:=aj h4
     obtain ⟨v4,ov,h7,h8,rfl⟩:=aj h6
     cases h8
     obtain ⟨rfl,rfl,rfl,rfl,ha1,ha4⟩:=ax _ aac
     have hs:s=cT:=ax _ (aaa _ aac)
     have RJ:1≤c2:=ax _ (aaa _ (aaa _ aac))
     have hc4:1≤c4:=ax _ (aaa _ (aaa _ (aaa _ aac)))
     have hn:n≤90000:=ax _ (aaa _ (aaa _ (aaa _ (aaa _ aac))))
     have hb:uO (xK zp np fp) (hV z n fm) (kW zs ns fs)=b:=ax _ (aaa _ (aaa _ (aaa _ (aaa _ (aaa _ aac)))))
     have mH:∀ q∈ob++(Dh++ob3),q:=fun q hq=>ax q (aaa _ (aaa _ (aaa _ (aaa _ (aaa _ (aaa _ hq))))))
     subst hs
     rw [show AV.val ρ ⟨false,[.v (.string cT)]⟩=some (.string cT) from AV.val_v (ρ:=ρ) (x:=.string cT) rfl] at h7
     cases h7
     obtain ⟨q1,hq1,rfl⟩:=aY h1
     obtain ⟨q2,hq2,rfl⟩:=aY h3
     obtain ⟨k2,rfl⟩:∃ k,c2=k+1:=⟨c2-1,by omega⟩
     obtain ⟨k4,rfl⟩:∃ k,c4=k+1:=⟨c4-1,by omega⟩
     obtain ⟨u3,o3,cp,s2,s3,k3⟩:=zdd hM hi1 ha1 hq1 hp (fun q hq=>mH q (aau _ hq))
     obtain ⟨u5,o5,cm,s4,s5,k5⟩:=zdd hM Vo ha4 hq2 hz (fun q hq=>mH q (aaq _ (aau _ hq)))
     obtain ⟨u6,o6,cs,rfl,s6,k6⟩:=dF (lN hM hzs (fun q hq=>mH q (aaq _ (aaq _ hq))) h5) q1.1 s2.1
     have jt:AlMem w zp z zs q1.1 q1.2 u3 o3 q2.1 q2.2 u5 o5 u6 o6 np cp n cm ns fp fm fs:=⟨s2,s3,s4,s5,s6⟩
     have key:=zoP (c2:=k2) (c4:=k4) (cs:=cs) jt hn k3 k5 k6
     refine .inr ⟨(aB _ _ zgi).enter _ _,key.mono ?_⟩
     rintro e w' ⟨rfl,hB⟩
     rw [hb]
     exact ⟨_,rfl,ρ,Ext.of_below hB,ga ρ b,hM.of_below hB⟩
    ·cases af
   ·cases af
  ·cases af
 ·cases af
def vyM(np n ns:Nat)(fp fm fs:Nat→Int):St:=cj [(1,gM np fp),(2,gM n fm),(3,gM ns fs)]
def zvw(zp z zs:Bool)(np cp n c ns cs:Nat)(fp fm fs:Nat→Int)(b:Bool):List Prop:=
 [0=0∧1=1∧0=0∧1=1∧app 18=false∧app 20=false,cT=cT,1≤1,1≤1,nZ z n≤90000,uO (xK zp (nZ zp np) (fZ zp fp)) (hV z (nZ z n) (fZ z fm)) (kW zs (nZ zs ns) (fZ zs fs))=b]++(GM zp np cp fp++(GM z n c fm++GM zs ns cs fs))
theorem ztf(b zp z zs:Bool)(np cp n c ns cs:Nat)(fp fm fs:Nat→Int):cV (alT b) 6 [gn zp 1 np cp,gn z 2 n c,gn zs 3 ns cs] (vyM np n ns fp fm fs) [] (fun _=>[])=some (.one (cY b),zvw zp z zs np cp n c ns cs fp fm fs b):=by cases zp<;>cases z<;>cases zs<;>kernel_rfl
theorem zAY(z:Bool)(n:Nat)(f:Nat→Int):xK z (nZ z n) (fZ z f)=xK z n f:=by
 have e0:(fun i=>f (0+i))=f:=nI f
 cases z
 ·show xK false n (fun i=>f (0+i))=_;rw [e0]
 ·rfl
theorem Ux{zp z zs:Bool}{np cp n c ns cs:Nat}{fp fm fs:Nat→Int}{b:Bool}(hn:n≤90000)(h1:zp=false→np≤cp∧bOk np fp)(h2:z=false→n≤c∧bOk n fm)(h3:zs=false→ns≤cs∧bOk ns fs)
  (hb:uO (xK zp np fp) (hV z n fm) (kW zs ns fs)=b):∀ q∈zvw zp z zs np cp n c ns cs fp fm fs b,q:=by
 refine al ?_ (al (gU h1) (al (gU h2) (gU h3)))
 refine aa ⟨rfl,rfl,rfl,rfl,by rfl,by rfl⟩ (aa rfl (aa (by omega) (aa (by omega) (aa ?_ (aa ?_ ad)))))
 ·cases z
  ·exact hn
  ·show 0≤90000;omega
 ·rw [zAY,zfN,Oj];exact hb
theorem zjp(b:Bool)(f:Nat→Int):cV (alT b) 6 [gn true 1 0 0,gn true 2 0 0,gn true 3 0 0] [] [] (fun _=>[])=some (.one (cY b),zvw true true true 0 0 0 0 0 0 f f f b):=by kernel_rfl
theorem nP(ρ:Rho)(id n c:Nat):AV.val ρ (gn true id n c)=some (.slice none 0 0):=AV.val_v (ρ:=ρ) (x:=.slice none 0 0) rfl
theorem Ci{ρ:Rho}{a b c:AV}{x y z:Value}(h1:AV.val ρ a=some x)(h2:AV.val ρ b=some y)(h3:AV.val ρ c=some z):ay ρ [a,b,c]=some [x,y,z]:=by simp only [ay,h1,h2,h3]
def yE(u1 o1 u2 o2 u3 o3:Nat):Rho:=aH [(1,(u1,o1)),(2,(u2,o2)),(3,(u3,o3))]
theorem zv0{w:World}{u1 o1 u2 o2 u3 o3 n1 n2 n3:Nat}{f1 f2 f3:Nat→Int}(h1:Stands w u1 o1 (gvals .u8 n1 f1))(h2:Stands w u2 o2 (gvals .u8 n2 f2))(h3:Stands w u3 o3 (gvals .u8 n3 f3)):
  Mem (yE u1 o1 u2 o2 u3 o3) (vyM n1 n2 n3 f1 f2 f3) w∧(∀ c,¬Eng.Own (yE u1 o1 u2 o2 u3 o3) c):=by
 have jd:∀ e∈[((1:Nat),gM n1 f1,(u1,o1),gvals .u8 n1 f1),(2,gM n2 f2,(u2,o2),gvals .u8 n2 f2),(3,gM n3 f3,(u3,o3),gvals .u8 n3 f3)],e.1<16∧conc rho0 e.2.1=some e.2.2.2∧Stands w e.2.2.1.1 e.2.2.1.2 e.2.2.2:=
  aab.2 ⟨⟨(by show 1<16;decide),aD,h1⟩,aab.2 ⟨⟨(by show 2<16;decide),aD,h2⟩,aab.2 ⟨⟨(by show 3<16;decide),aD,h3⟩,fun _ h=>by cases h⟩⟩⟩
 exact ⟨dU _ jd,iD (w:=w) _ jd⟩
theorem zA3{w:World}{zp z zs:Bool}{np n ns:Nat}{fp fm fs:Nat→Int}{v1 v2 v3:Value}(h1:ByAt w zp np fp v1)(h2:ByAt w z n fm v2)(h3:ByAt w zs ns fs v3)(hn:n≤90000):
  cX Tryz.prog 6 #[v1,v2,v3] (.bool (uO (xK zp np fp) (hV z n fm) (kW zs ns fs))) w:=by
 obtain ⟨b,hb⟩:∃ b,uO (xK zp np fp) (hV z n fm) (kW zs ns fs)=b:=⟨_,rfl⟩
 rw [hb]
 have hval:∀ ρ u,SV.val ρ (.one (cY b))=some u→u = .bool b:=fun ρ u hu=>by
  rw [show SV.val ρ (.one (cY b))=AV.val ρ (cY b) from rfl,ga] at hu;cases hu;rfl
 rcases abS 0 w.heap.size with hw|hw
 ·obtain ⟨u1,o1,c1,rfl,s1,k1⟩:=dF h1 0 hw
  obtain ⟨u2,o2,c2,rfl,s2,k2⟩:=dF h2 0 hw
  obtain ⟨u3,o3,c3,rfl,s3,k3⟩:=dF h3 0 hw
  obtain ⟨hM,cv⟩:=zv0 s1 s2 s3
  exact ae (ziA b) (ztf b zp z zs np c1 n c2 ns c3 fp fm fs) (Ux hn k1 k2 k3 hb) hM cv (Ci (lD (by simp [yE,aH])) (lD (by simp [yE,aH])) (lD (by simp [yE,aH]))) hval
 ·cases h1 with
  | pt _ _ hs=>exact absurd hs.1 (by omega)
  | nil=>
   cases h2 with
   | pt _ _ hs=>exact absurd hs.1 (by omega)
   | nil=>
    cases h3 with
    | pt _ _ hs=>exact absurd hs.1 (by omega)
    | nil=>exact ae (ziA b) (zjp b (fun _=>0)) (Ux hn (fun h=>by cases h) (fun h=>by cases h) (fun h=>by cases h) hb) (fU (w:=w)).1 (fU (w:=w)).2 (Ci (nP _ _ _ _) (nP _ _ _ _) (nP _ _ _ _)) hval
def vyT(bf:Bool→Bool→Bool):CallT:=fun f args m _=>match f==6 with
 | true=>match args with
  | [x,y,s]=>match tn m x,tn m y,tn m s with
   | some (zp,np,fp,ob),some (z,n,fm,Dh),some (zs,ns,fs,ob3)=>some { val:=.one (cY (bf zp z)),wr:=[],news:=[],ob:=(n≤90000)::(uO (xK zp np fp) (hV z n fm) (kW zs ns fs)=bf zp z)::(ob++(Dh++ob3)) }
   | _,_,_=>none
  | _=>none
 | false=>none
theorem zxH:∃ d,fJ 6=some d:=⟨match fJ 6 with | some d=>d | none=>⟨.skip,[],0⟩,by kernel_rfl⟩
theorem PC(bf:Bool→Bool→Bool):ag Tryz.prog (vyT bf):=by
 intro f args m nid out af ax ρ w vs hv hM df
 unfold vyT at af
 split at af
 ·rename_i hf
  rw [beq_iff_eq] at hf
  subst hf
  split at af
  ·rename_i x y s
   split at af
   ·rename_i zp np fp ob z n fm Dh zs ns fs ob3 e1 e2 e3
    cases af
    obtain ⟨v1,us,h1,h2,rfl⟩:=aj hv
    obtain ⟨v2,ov,h3,h4,rfl⟩:=aj h2
    obtain ⟨v3,ov,h5,h6,rfl⟩:=aj h4
    cases h6
    have hn:n≤90000:=ax _ aac
    have hb:uO (xK zp np fp) (hV z n fm) (kW zs ns fs)=bf zp z:=ax _ (aaa _ aac)
    have mH:∀ q∈ob++(Dh++ob3),q:=fun q hq=>ax q (aaa _ (aaa _ hq))
    have b1:=lN hM e1 (fun q hq=>mH q (aau _ hq)) h1
    have b2:=lN hM e2 (fun q hq=>mH q (aaq _ (aau _ hq))) h3
    have b3:=lN hM e3 (fun q hq=>mH q (aaq _ (aaq _ hq))) h5
    obtain ⟨d,hd⟩:=zxH
    refine .inr ⟨(aB _ _ hd).enter _ _,(zA3 b1 b2 b3 hn).mono ?_⟩
    rintro e w' ⟨rfl,hB⟩
    rw [hb]
    exact ⟨_,rfl,ρ,Ext.of_below hB,ga ρ _,hM.of_below hB⟩
   ·cases af
  ·cases af
 ·cases af
def skT(k:Nat)(g:Nat→Int):CallT:=fun f args m nid=>match f==16 with
 | true=>match args with
  | [x]=>match qp m x with
   | some (n,h,ob)=>some { val:=.tup [bT (.s (gC nid) 0 48 48),bT (.v (.int .i64 0))],wr:=[],news:=[(gC nid,gM 48 g)],ob:=(n=32)::bOk n h::(eo h n=k)::(k≠0∧k<aO)::(uW k=g)::ob }
   | none=>none
  | _=>none
 | false=>none
theorem zbX(k:Nat)(g:Nat→Int):ag Tryz.prog (skT k g):=by
 intro f args m nid out af ax ρ w vs hv hM df
 unfold skT at af
 split at af
 ·rename_i hf
  rw [beq_iff_eq] at hf
  subst hf
  split at af
  ·rename_i x
   split at af
   ·rename_i n h ob hb
    cases af
    obtain ⟨v1,us,h1,h2,rfl⟩:=aj hv
    cases h2
    have hn:n=32:=ax _ aac
    subst hn
    have o1:bOk 32 h:=ax _ (aaa _ aac)
    have o2:eo h 32=k:=ax _ (aaa _ (aaa _ aac))
    obtain ⟨o3,o4⟩:k≠0∧k<aO:=ax _ (aaa _ (aaa _ (aaa _ aac)))
    have o5:uW k=g:=ax _ (aaa _ (aaa _ (aaa _ (aaa _ aac))))
    subst o5
    have hB:=ny hM hb (fun q hq=>ax q (aaa _ (aaa _ (aaa _ (aaa _ (aaa _ hq)))))) h1
    rcases hB with ⟨_,h0⟩|⟨u,o,c,rfl,hs⟩
    ·cases h0
    ·refine .inr ⟨(aB _ _ zgf).enter _ _,(SN o1 o2 o3 o4 hs).mono ?_⟩
     rintro e w' ⟨v,rfl,hu⟩
     exact ⟨v,rfl,wu hM (df _ aac) hu⟩
   ·cases af
  ·cases af
 ·cases af
def sgT(k:Nat)(g:Nat→Int):CallT:=fun f args m nid=>match f==37 with
 | true=>match args with
  | [x,y,⟨false,[.v (.string s)]⟩]=>match qp m x,tn m y with
   | some (n,h,ob),some (z,n2,fm,Dh)=>some { val:=.tup [bT (.s (gC nid) 0 96 96),bT (.v (.int .i64 0))],wr:=[],news:=[(gC nid,gM 96 g)],ob:=(n=32)::bOk n h::(eo h n=k)::(k≠0∧k<aO)::(n2≤90000)::(s=cT)::(Bt k (hV z n2 fm)=g)::(ob++Dh) }
   | _,_=>none
  | _=>none
 | false=>none
theorem zb7(k:Nat)(g:Nat→Int):ag Tryz.prog (sgT k g):=by
 intro f args m nid out af ax ρ w vs hv hM df
 unfold sgT at af
 split at af
 ·rename_i hf
  rw [beq_iff_eq] at hf
  subst hf
  split at af
  ·rename_i x y s
   split at af
   ·rename_i n h ob z n2 fm Dh hb tP
    cases af
    obtain ⟨v1,us,h1,h2,rfl⟩:=aj hv
    obtain ⟨v2,ov,h3,h4,rfl⟩:=aj h2
    obtain ⟨v3,ov,h5,h6,rfl⟩:=aj h4
    cases h6
    have hn:n=32:=ax _ aac
    subst hn
    have o1:bOk 32 h:=ax _ (aaa _ aac)
    have o2:eo h 32=k:=ax _ (aaa _ (aaa _ aac))
    obtain ⟨o3,o4⟩:k≠0∧k<aO:=ax _ (aaa _ (aaa _ (aaa _ aac)))
    have o5:n2≤90000:=ax _ (aaa _ (aaa _ (aaa _ (aaa _ aac))))
    have o6:s=cT:=ax _ (aaa _ (aaa _ (aaa _ (aaa _ (aaa _ aac)))))
    have o7:Bt k (hV z n2 fm)=g:=ax _ (aaa _ (aaa _ (aaa _ (aaa _ (aaa _ (aaa _ aac))))))
    have mH:∀ q∈ob++Dh,q:=fun q hq=>ax q (aaa _ (aaa _ (aaa _ (aaa _ (aaa _ (aaa _ (aaa _ hq)))))))
    subst o6
    rw [show AV.val ρ ⟨false,[.v (.string cT)]⟩=some (.string cT) from AV.val_v (ρ:=ρ) (x:=.string cT) rfl] at h5
    cases h5
    have hB:=ny hM hb (fun q hq=>mH q (aau _ hq)) h1
    have hB2:=lN hM tP (fun q hq=>mH q (aaq _ hq)) h3
    rcases hB with ⟨_,h0⟩|⟨u,o,c,rfl,hs⟩
    ·cases h0
    ·obtain ⟨u2,o2',c2,rfl,s2,_⟩:=dF hB2 u hs.1
     refine .inr ⟨(aB _ _ zgg).enter _ _,(OW z o1 o2 o3 o4 o5 hs s2 rfl rfl o7).mono ?_⟩
     rintro e w' ⟨v,rfl,hu⟩
     exact ⟨v,rfl,wu hM (df _ aac) hu⟩
   ·cases af
  ·cases af
 ·cases af
def dSm:Fn1:=match fJ 14 with
 | some d=>d
 | none=>⟨.skip,[],0⟩
theorem zge:fJ 14=some dSm:=by kernel_rfl
def Wn:Eng:={ tab:=bh,call:=jw bh T0 fJ 1000 6,N:=26 }
theorem zS:ag Tryz.prog Wn.call:=by
 have h:ag Tryz.prog (jw bh T0 fJ 1000 6):=dd an ab pk aB 1000 6
 unfold Wn
 with_reducible exact h
def zFF:List Code:=Dz.zbo 2 dSm.body
def zFE:Code:=bJ (bJ (Dz.Of 2 dSm.body))
def zox:Code:=gw (dh (aJ (bJ (Dz.Of 2 dSm.body))))
def zFD:Code:=aJ (Dz.Of 2 dSm.body)
theorem zhh:dSm.body=gG zFF (.seq (.seq zFE (.block 0 (.loop zox))) zFD):=by kernel_rfl
theorem zF:dSm.ntmps=26:=by kernel_rfl
theorem Oq:dSm.results=[.tmp 4]:=by kernel_rfl
def zDw(n m c1 c2:Nat)(f g:Nat→Int):St:=aW 0 [gn false 1 n c1,gn false 2 m c2] (26-2)++cj [(1,gM n f),(2,gM m g)]
def ES(n m c1 c2:Nat)(f g:Nat→Int)(b:Bool)(x:Int):St:=[(0,sl (.s 1 0 n c1)),(2,sl (.s 2 0 m c2)),(8,sl (.v (.bool b))),(10,sl (.v (.int .i64 x))),(3,.bl (gM n f)),(5,.bl (gM m g))]
def zbF(n m c1 c2:Nat)(f g:Nat→Int):St:=[(0,sl (.s 1 0 n c1)),(2,sl (.s 2 0 m c2)),(8,sl (.v (.bool false))),(3,.bl (gM n f)),(5,.bl (gM m g))]
def tv(n m:Nat)(f g:Nat→Int)(b:Bool):St:=[(8,sl (.v (.bool b))),(3,.bl (gM n f)),(5,.bl (gM m g))]
theorem ziK(n m c1 c2:Nat)(f g:Nat→Int):probes Wn 100 zFF (zDw n m c1 c2 f g) 16 [(10,false)] ((zbF n m c1 c2 f g).map (·.1))=some (0,[(n:Int)≠(m:Int)↔false=true],(zbF n m c1 c2 f g).map fun p=>some p.2):=by kernel_rfl
theorem zpN(n m c1 c2:Nat)(f g:Nat→Int):probe Wn 100 zFE (zbF n m c1 c2 f g) 16 [] ((ES n m c1 c2 f g false 0).map (·.1))=some (0,[],(ES n m c1 c2 f g false 0).map fun p=>some p.2):=by kernel_rfl
def zlG(n m:Nat)(f g:Nat→Int)(b:Bool)(x:Int):List Prop:=[x<(n:Int)↔true=true,0≤x∧x<(n:Int),0+x.toNat*1+1≤n,0≤x∧x<(m:Int),0+x.toNat*1+1≤m,f (0+x.toNat*1)≠g (0+x.toNat*1)↔b=true]
theorem zpP(n m c1 c2:Nat)(f g:Nat→Int)(x:Int):probe Wn 100 zox (ES n m c1 c2 f g false x) 16 [(14,true),(19,false),(23,false),(25,false)] ((ES n m c1 c2 f g false (IntKind.i64.wrap (x+1))).map (·.1))=some (0,zlG n m f g false x,(ES n m c1 c2 f g false (IntKind.i64.wrap (x+1))).map fun p=>some p.2):=by kernel_rfl
theorem zpR(n m c1 c2:Nat)(f g:Nat→Int)(x:Int):probe Wn 100 zox (ES n m c1 c2 f g false x) 16 [(14,true),(19,false),(23,false),(25,true)] ((tv n m f g false).map (·.1))=some (1,zlG n m f g true x,(tv n m f g false).map fun p=>some p.2):=by kernel_rfl
theorem zpQ(n m c1 c2:Nat)(f g:Nat→Int)(x:Int):probe Wn 100 zox (ES n m c1 c2 f g false x) 16 [(14,false)] ((tv n m f g false).map (·.1))=some (2,[x<(n:Int)↔false=true],(tv n m f g false).map fun p=>some p.2):=by kernel_rfl
theorem zpO(n m:Nat)(f g:Nat→Int):probe Wn 100 zFD (tv n m f g false) 16 [] ((tv n m f g true).map (·.1))=some (1,[],(tv n m f g true).map fun p=>some p.2):=by kernel_rfl
theorem td(n m c1 c2:Nat)(f g:Nat→Int)(x:Int):[1,2].all (fun id=>((ES n m c1 c2 f g false x).blk id).isSome)=true∧aw (ES n m c1 c2 f g false x) [1,2]=true∧[1,2].all (fun id=>((zbF n m c1 c2 f g).blk id).isSome)=true∧aw (zbF n m c1 c2 f g) [1,2]=true:=⟨by kernel_rfl,by kernel_rfl,by kernel_rfl,by kernel_rfl⟩
theorem pn(n m:Nat)(f g:Nat→Int)(b:Bool):[1,2].all (fun id=>((tv n m f g b).blk id).isSome)=true∧aw (tv n m f g b) [1,2]=true:=⟨by kernel_rfl,by kernel_rfl⟩
def cZ(u1 o1 u2 o2:Nat):Rho:=aH [(1,(u1,o1)),(2,(u2,o2))]
theorem mS{u1 o1 u2 o2:Nat}:∀ id q,cZ u1 o1 u2 o2 id=some q→id∈[1,2]:=by
 intro id q hq
 unfold cZ at hq
 rw [fX] at hq
 have:=lq _ _ _ hq
 simp only [aae,abq,aad,or_false] at this ⊢
 omega
theorem Dr{w:World}{u1 o1 u2 o2 n1 n2:Nat}{f1 f2:Nat→Int}(h1:Stands w u1 o1 (gvals .u8 n1 f1))(h2:Stands w u2 o2 (gvals .u8 n2 f2)):
  Mem (cZ u1 o1 u2 o2) (cj [(1,gM n1 f1),(2,gM n2 f2)]) w∧(∀ c,¬Eng.Own (cZ u1 o1 u2 o2) c):=by
 have jd:∀ e∈[((1:Nat),gM n1 f1,(u1,o1),gvals .u8 n1 f1),(2,gM n2 f2,(u2,o2),gvals .u8 n2 f2)],e.1<16∧conc rho0 e.2.1=some e.2.2.2∧Stands w e.2.2.1.1 e.2.2.1.2 e.2.2.2:=
  aab.2 ⟨⟨(by show 1<16;decide),aD,h1⟩,aab.2 ⟨⟨(by show 2<16;decide),aD,h2⟩,fun _ h=>by cases h⟩⟩
 exact ⟨dU _ jd,iD (w:=w) _ jd⟩
theorem Qs{w:World}{u1 o1 c1 u2 o2 c2 n:Nat}{f g:Nat→Int}(hn:n<1000000)(h1:Stands w u1 o1 (gvals .u8 n f))(h2:Stands w u2 o2 (gvals .u8 n g)){b:Bool}(hb:(∀ i,i<n→f i=g i)↔b=true):
  cX Tryz.prog 14 #[.slice (some ⟨u1,o1,none⟩) n c1,.slice (some ⟨u2,o2,none⟩) n c2] (.bool b) w:=by
 obtain ⟨hM,cv⟩:=Dr h1 h2
 have hv:ay (cZ u1 o1 u2 o2) [gn false 1 n c1,gn false 2 n c2]=some [.slice (some ⟨u1,o1,none⟩) n c1,.slice (some ⟨u2,o2,none⟩) n c2]:=by
  have e1:=lD (ρ:=cZ u1 o1 u2 o2) (id:=1) (u:=u1) (o:=o1) (n:=n) (c:=c1) (z:=false) (by simp [cZ,aH])
  have e2:=lD (ρ:=cZ u1 o1 u2 o2) (id:=2) (u:=u2) (o:=o2) (n:=n) (c:=c2) (z:=false) (by simp [cZ,aH])
  simp only [ay,e1,e2,byV]
 refine (bX (G:=fun xs st=>xs=[cY b]) ab (aB _ _ zge) hM (by kernel_rfl) hv (by rw [zF];simp) fun a c9=>?_).mono ?_
 ·rw [zF] at c9
  have c9:At 26 (cZ u1 o1 u2 o2) w (zDw n n c1 c2 f g) a w:=c9
  rw [zF,Oq,zhh]
  have fin:∀ a' w',At 26 (cZ u1 o1 u2 o2) w (tv n n f g b) a' w'→(Exit.ret=Exit.normal∨Exit.ret=Exit.ret)∧∃ st xs,At 26 (cZ u1 o1 u2 o2) w st a' w'∧cO bh st [.tmp 4]=some xs∧xs=[cY b]:=fun a' w' hA=>⟨.inr rfl,_,[cY b],hA,by kernel_rfl,rfl⟩
  refine At.probes (E:=Wn) an ab zS (ziK n n c1 c2 f g) (aa (br (fun h=>h rfl)) ad) c9 [1,2] (ba (td n n c1 c2 f g 0).2.2.1) (td n n c1 c2 f g 0).2.2.2 mS fun a1 w1 g1=>?_
  show Code.wp _ _ _ _ _
  refine wp_seq (wp_seq ?_)
  refine At.probe (E:=Wn) an ab zS (zpN n n c1 c2 f g) ad g1 [1,2] (ba (td n n c1 c2 f g 0).1) (td n n c1 c2 f g 0).2.1 mS fun a2 w2 g2=>?_
  show Code.wp _ _ _ _ _
  refine wp_block ?_
  refine dG (w0:=w) (dL:=cZ u1 o1 u2 o2) (N:=26) (ι:=Nat) (fun j=>j≤n∧∀ i,i<j→f i=g i) (fun j=>ES n n c1 c2 f g false (j:Int)) (fun j=>n-j) ?_ 0 ⟨Nat.zero_le _,fun i hi=>absurd hi (Nat.not_lt_zero i)⟩ a2 w2 g2
  rintro j ⟨hj,he⟩ a w' hA
  rcases abS j n with hlt|hge
  ·have ax:∀ b',(f j≠g j↔b'=true)→∀ p∈zlG n n f g b' (j:Int),p:=fun b' JE=>by
    have e:0+((j:Int)).toNat*1=j:=by rw [Int.toNat_natCast];omega
    unfold zlG
    rw [e]
    exact aa (bD (by omega)) (aa (by omega) (aa hlt (aa (by omega) (aa hlt (aa JE ad)))))
   by_cases hd:f j=g j
   ·refine At.probe (E:=Wn) an ab zS (zpP n n c1 c2 f g (j:Int)) (ax false (br (fun h=>h hd))) hA [1,2] (ba (td n n c1 c2 f g _).1) (td n n c1 c2 f g _).2.1 mS fun a' uV bY=>⟨j+1,⟨hlt,fun i hi=>?_⟩,by show n-(j+1)<n-j;omega,?_⟩
    ·rcases abS i j with h|h
     ·exact he i h
     ·obtain rfl:i=j:=by omega
      exact hd
    ·rw [bq (by omega) (by omega)] at bY
     exact bY
   ·have hbf:b=false:=by
     cases b with
     | false=>rfl
     | true=>exact absurd (hb.2 rfl j hlt) hd
    refine At.probe (E:=Wn) an ab zS (zpR n n c1 c2 f g (j:Int)) (ax true (bD hd)) hA [1,2] (ba (pn n n f g false).1) (pn n n f g false).2 mS fun a' uV bY=>?_
    rw [←hbf] at bY
    exact fin a' uV bY
  ·obtain rfl:j=n:=by omega
   refine At.probe (E:=Wn) an ab zS (zpQ j j c1 c2 f g (j:Int)) (aa (br (by omega)) ad) hA [1,2] (ba (pn j j f g false).1) (pn j j f g false).2 mS fun a' uV bY=>?_
   show Code.wp _ _ _ _ _
   refine At.probe (E:=Wn) an ab zS (zpO j j f g) ad bY [1,2] (ba (pn j j f g true).1) (pn j j f g true).2 mS fun a3 w3 g3=>?_
   have hbt:b=true:=hb.1 he
   rw [←hbt] at g3
   exact fin a3 w3 g3
 ·rintro e w' ⟨v,rfl,xs,st,ρ',hE,hval,Bg,rfl⟩
  refine ⟨?_,hE.below cv⟩
  have:(pT [cY b]).val ρ'=some (.bool b):=ga ρ' b
  rw [this] at hval;cases hval;rfl
theorem Xp(z:Bool)(n c m c2:Nat)(f g:Nat→Int):cV T0 14 [gn z 1 n c,gn false 2 m c2] (cj [(1,gM n f),(2,gM m g)]) [(10,true)] (fun _=>[])=some (.one (cY false),[((match z with | true=>0 | false=>n:Nat):Int)≠(m:Int)↔true=true]):=by cases z<;>kernel_rfl
def Ao(z:Bool)(n:Nat)(f:Nat→Int)(m:Nat)(g:Nat→Int):Prop:=z=false∧n=m∧∀ i,i<m→f i=g i
theorem zkP{w:World}{z:Bool}{n m u2 o2 c2:Nat}{f g:Nat→Int}{v:Value}(h:ByAt w z n f v)(hm:1≤m∧m<1000000)(h2:Stands w u2 o2 (gvals .u8 m g)){b:Bool}(hb:Ao z n f m g↔b=true):
  cX Tryz.prog 14 #[v,.slice (some ⟨u2,o2,none⟩) m c2] (.bool b) w:=by
 obtain ⟨u1,o1,c1,rfl,s1,_⟩:=dF h u2 h2.1
 by_cases hz:z=false∧n=m
 ·obtain ⟨rfl,rfl⟩:=hz
  exact Qs hm.2 s1 h2 ⟨fun h=>hb.1 ⟨rfl,rfl,h⟩,fun h=>(hb.2 h).2.2⟩
 ·have hbf:b=false:=by
   cases b with
   | false=>rfl
   | true=>exact absurd ⟨(hb.2 rfl).1,(hb.2 rfl).2.1⟩ hz
  subst hbf
  obtain ⟨hM,cv⟩:=Dr s1 h2
  have e1:=lD (ρ:=cZ u1 o1 u2 o2) (id:=1) (u:=u1) (o:=o1) (n:=n) (c:=c1) (z:=z) (by simp [cZ,aH])
  have e2:=lD (ρ:=cZ u1 o1 u2 o2) (id:=2) (u:=u2) (o:=o2) (n:=m) (c:=c2) (z:=false) (by simp [cZ,aH])
  refine ae pk (Xp z n c1 m c2 f g) (aa (bD ?_) ad) hM cv (vs:=[byV z u1 o1 n c1,byV false u2 o2 m c2]) (by simp only [ay,e1,e2]) fun ρ u hu=>?_
  ·cases z with
   | true=>show ((0:Nat):Int)≠_;omega
   | false=>exact fun h=>hz ⟨rfl,by have h:(n:Int)=(m:Int):=h;omega⟩
  ·rw [show SV.val ρ (.one (cY false))=AV.val ρ (cY false) from rfl,ga] at hu;cases hu;rfl
def smT(b:Bool):CallT:=fun f args m _=>match f==14 with
 | true=>match args with
  | [x,⟨false,[.s id off len c]⟩]=>match tn m x,iJ m id off len with
   | some (z,n,h,ob),some (_,g,Dh)=>some { val:=.one (cY b),wr:=[],news:=[],ob:=(len=96)::(Ao z n h 96 g↔b=true)::(ob++Dh) }
   | _,_=>none
  | _=>none
 | false=>none
theorem ztY(b:Bool):ag Tryz.prog (smT b):=by
 intro f args m nid out af ax ρ w vs hv hM df
 unfold smT at af
 split at af
 ·rename_i hf
  rw [beq_iff_eq] at hf
  subst hf
  split at af
  ·rename_i x id off len c
   split at af
   ·rename_i z n h ob k g Dh e1 e2
    cases af
    obtain ⟨v1,us,h1,h2,rfl⟩:=aj hv
    obtain ⟨v2,ov,h3,h4,rfl⟩:=aj h2
    cases h4
    have hlen:len=96:=ax _ aac
    subst hlen
    have hb:Ao z n h 96 g↔b=true:=ax _ (aaa _ aac)
    have mH:∀ q∈ob++Dh,q:=fun q hq=>ax q (aaa _ (aaa _ hq))
    have b1:=lN hM e1 (fun q hq=>mH q (aau _ hq)) h1
    obtain ⟨q,hq,rfl⟩:=aY h3
    obtain ⟨rfl,s2⟩:=eW hM e2 (fun q hq=>mH q (aaq _ hq)) hq
    refine .inr ⟨(aB _ _ zge).enter _ _,(zkP b1 ⟨by omega,by omega⟩ s2 hb).mono ?_⟩
    rintro e w' ⟨rfl,hB⟩
    exact ⟨_,rfl,ρ,Ext.of_below hB,ga ρ b,hM.of_below hB⟩
   ·cases af
  ·cases af
 ·cases af
end Sh
end Go.Proofs.YtcafpgpahbplaaaGreat
