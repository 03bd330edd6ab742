/-
 The proof, part 25 of 25.
-/
import Derived.Test.YtcafpgpahbplaaaGreatZ24
import Derived.Test.YtcafpgpahbplaaaGreatZ08
import Derived.ChangeSlices
open Bool renaming and_eq_true->aaf
open Go.Value renaming okWide->acJ
open List renaming replicate->aap
set_option linter.unusedVariables false
set_option linter.unusedSimpArgs false
namespace Go.Proofs.YtcafpgpahbplaaaGreat
open Go Go.Eng Go.RowKit Go.Wd Go.Alg Go.Pr
namespace Sh
theorem LM{X:Nat→Nat→Int}{a b c d:Nat}(h0:kP X 0=a)(h1:kP X 1=b)(h2:kP X 2=c)(h3:kP X 3=d):G8 X=ku (a,b) (c,d):=by
 unfold G8
 rw [h0,h1,h2,h3]
theorem hv0:hV true 0 f0=ku zd9 zd8:=LM (X:=iL c9) zBs zBr zBq zBp
theorem qL:hV false 1 f1=ku zd7 zd6:=LM (X:=iL nq) zBo zBn zBm zBl
theorem qt:EG:=zig (by rw [hv0,qL];exact zni)
theorem PP{w:World}{zp z zs:Bool}{np n ns:Nat}{fp fm fs:Nat→Int}{v1 v2 v3:Value}(h1:ByAt w zp np fp v1)(h2:ByAt w z n fm v2)(h3:ByAt w zs ns fs v3)(hw:0<w.heap.size):cX Tryz.prog 3 #[v1,v2,v3] (.bool true) w:=by
 obtain ⟨u1,o1,c1,rfl,s1,k1⟩:=dF h1 0 hw
 obtain ⟨u2,o2,c2,rfl,s2,k2⟩:=dF h2 0 hw
 obtain ⟨u3,o3,c3,rfl,s3,k3⟩:=dF h3 0 hw
 exact K5 qt ⟨k1,k2,k3⟩ s1 s2 s3
theorem WK{w:World}{z zs:Bool}{n ns:Nat}{fa fm fs:Nat→Int}{v2 v3:Value}(ha:bOk 32 fa)(h2:ByAt w z n fm v2)(h3:ByAt w zs ns fs v3)(hw:0<w.heap.size):cX Tryz.prog 4 #[rf .u8 32 fa,v2,v3] (.bool true) w:=by
 obtain ⟨u2,o2,c2,rfl,s2,k2⟩:=dF h2 0 hw
 obtain ⟨u3,o3,c3,rfl,s3,k3⟩:=dF h3 0 hw
 exact PN qt ha k2 k3 s2 s3
theorem ztF(e1 e2:Int)(px py:Nat)(i:Bool)(s1 s2 s3 s4:Nat)(j:Bool)(H:P2):cV (TA false (aQ px py i,e1) (aG s1 s2 s3 s4 j,e2) H) 3 (taA true true true 0 0 0 0 0 0) [] [(22,false),(26,false),(31,false),(49,true)] (fun _=>[]) =
  some (.one (cY true),X9 true true true 0 0 0++(X7 true true true 0 0 0 0 0 0 f0 f0 f0 false++(X_ true true 0 0 0 0 f0 f0 (aQ px py i,e1) (aG s1 s2 s3 s4 j,e2)++[e1≠0↔true=true]))):=by kernel_rfl
theorem VS:By3 true true true 0 0 0 0 0 0 f0 f0 f0:=⟨fun h=>(by cases h),fun h=>(by cases h),fun h=>(by cases h)⟩
theorem K6(w:World):cX Tryz.prog 3 #[.slice none 0 0,.slice none 0 0,.slice none 0 0] (.bool true) w:=by
 refine ae (xR qt false (aQ 0 0 false,200) (aG 0 0 0 0 false,200) iX) (ztF 200 200 0 0 false 0 0 0 0 false iX) ?_ (fU (w:=w)).1 (fU (w:=w)).2 (Ci (nP _ _ _ _) (nP _ _ _ _) (nP _ _ _ _)) (iR true)
 have z0:¬300<nZ true 0:=by show ¬300<0;omega
 exact al (aa (rW z0) (aa (rW z0) (aa (rW z0) ad))) (al (IY VS (by show 0≤300;omega) (B0 (.inl (by show (200:Int)≠0;decide)))) (al (I1 VS rfl rfl) (aa (bD (by decide)) ad)))
theorem zqP{w:World}{zp z zs:Bool}{np n ns:Nat}{fp fm fs:Nat→Int}{v1 v2 v3:Value}(h1:ByAt w zp np fp v1)(h2:ByAt w z n fm v2)(h3:ByAt w zs ns fs v3):cX Tryz.prog 3 #[v1,v2,v3] (.bool true) w:=by
 rcases Nat.lt_or_ge 0 w.heap.size with hw|hw
 ·exact PP h1 h2 h3 hw
 ·cases h1 with
  | pt _ _ hs=>exact absurd hs.1 (by omega)
  | nil=>
   cases h2 with
   | pt _ _ hs=>exact absurd hs.1 (by omega)
   | nil=>
    cases h3 with
    | pt _ _ hs=>exact absurd hs.1 (by omega)
    | nil=>exact K6 w
theorem ztw(k:Nat)(g gs:Nat→Int)(b d:Bool)(fa:Nat→Int):cV (TO k g gs b) 4 (toA true true 0 0 0 0 fa) [] [(16,false),(20,false)] (hfK d) =
  some (.one (cY true),[k_ true 0 false,k_ true 0 false]++(zvD d fa++(zdq (MN d fa) k g++(zdt (MN d fa) k true 0 0 f0 gs++(zrp true 0 0 f0 gs b++zvx true true 0 0 0 0 f0 f0 g b))))):=by cases d<;>cases b<;>kernel_rfl
theorem PO(w:World){fa:Nat→Int}(ha:bOk 32 fa):cX Tryz.prog 4 #[rf .u8 32 fa,.slice none 0 0,.slice none 0 0] (.bool true) w:=by
 have z0:¬300<nZ true 0:=by show ¬300<0;omega
 have zn:nZ true 0≤300:=by show 0≤300;omega
 have hm:true=false→0≤0∧bOk 0 f0:=fun h=>by cases h
 obtain ⟨h0,hr⟩:=U2 fa
 have hK:=UA ha
 generalize hd:decide (K0 fa=0)=d at *
 obtain ⟨K,hKe⟩:∃ K,MN d fa=K:=⟨_,rfl⟩
 rw [hKe] at h0 hr
 obtain ⟨b,hb⟩:∃ b,uO (xK false 48 (uW K)) (hV true 0 f0) (kW true 0 f0)=b:=⟨_,rfl⟩
 have zfD:=BA h0 hr (z:=true) (n:=0) (fm:=f0) (zs:=true) (ns:=0) (fs:=f0) (fun h=>by cases h)
 rw [hb] at zfD
 refine ae (Wg qt K (uW K) (Bt K (hV true 0 f0)) b) (ztw K (uW K) (Bt K (hV true 0 f0)) b d fa) ?_ (fU (w:=w)).1 (fU (w:=w)).2 (Ci (nJ _ _ _ _) (nP _ _ _ _) (nP _ _ _ _)) (iR true)
 rw [hKe]
 refine al (aa (rW z0) (aa (rW z0) ad)) (al hK (al (Mk h0 hr) (al (Ml h0 hr zn hm) (al (al (aa rfl (aa ?_ ad)) (al (gU hm) (aa (by omega) ad))) (Uy h0 hr zn hm hm hb)))))
 exact (T8 true 0 f0 _).trans zfD.symm
theorem ztu{w:World}{z zs:Bool}{n ns:Nat}{fa fm fs:Nat→Int}{v2 v3:Value}(ha:bOk 32 fa)(h2:ByAt w z n fm v2)(h3:ByAt w zs ns fs v3):cX Tryz.prog 4 #[rf .u8 32 fa,v2,v3] (.bool true) w:=by
 rcases Nat.lt_or_ge 0 w.heap.size with hw|hw
 ·exact WK ha h2 h3 hw
 ·cases h2 with
  | pt _ _ hs=>exact absurd hs.1 (by omega)
  | nil=>
   cases h3 with
   | pt _ _ hs=>exact absurd hs.1 (by omega)
   | nil=>exact PO w ha
end Sh
end Go.Proofs.YtcafpgpahbplaaaGreat
namespace Go.Proofs.YtcafpgpahbplaaaGreat
open Go Go.Eng Go.RowKit Go.Wd Go.ChangeShapes Go.WideShapes Go.Alg
theorem Hv{n:Int}(h:(Lit.int .u8 n).wf=true):0≤n∧n<256:=by
 simp only [Lit.wf,aaf,decide_eq_true_eq] at h
 have h1:IntKind.u8.min=0:=rfl
 have h2:IntKind.u8.max=255:=rfl
 omega
theorem OQ:∀ (n:Nat) (vs:List Value),gE vs (aap n (some .u8))=true→∃ d:Nat→Int,Sh.bOk n d∧vs=Sh.tq .u8 n d:=by
 intro n
 induction n with
 | zero=>
  intro vs h
  cases vs with
  | nil=>exact ⟨fun _=>0,fun i hi=>absurd hi (Nat.not_lt_zero i),rfl⟩
  | cons v vs=>cases h
 | succ n ih=>
  intro vs h
  rw [List.replicate_succ] at h
  cases vs with
  | nil=>cases h
  | cons v vs=>
   simp only [gE,aaf] at h
   have hx:∃ x,(0≤x∧x<256)∧v = .int .u8 x:=by
    have h1:=h.1
    unfold Eng.wOk at h1
    split at h1
    ·rename_i k m k' e
     cases e
     simp only [aaf,decide_eq_true_eq] at h1
     obtain ⟨rfl,h2⟩:=h1
     exact ⟨m,Hv h2,rfl⟩
    ·rename_i e;cases e
    ·cases h1
   obtain ⟨x,hx,rfl⟩:=hx
   obtain ⟨d,hd,rfl⟩:=ih vs h.2
   refine ⟨fun i=>match i with | 0=>x | i+1=>d i,fun i hi=>?_,?_⟩
   ·cases i with
    | zero=>exact hx
    | succ i=>exact hd i (by omega)
   ·unfold Sh.tq
    rw [List.range_succ_eq_map,List.map_cons,List.map_map]
    rfl
section
variable {H:Type}{enc:TypeId×Value→H}
set_option maxRecDepth 100000 in
theorem zdb{n:Nat}{W:World}{base:Nat}{t:TypeId}{v:Value}{d:DataW H}{ps:List MemPlace}(ha:((Tryz.prog.underlying t).any kX)=true)
  (hk:flat Tryz.prog 8 t=some (aap n (some .u8))) (hc:Tryz.prog.cellsOf t=n) (hv:acJ Tryz.prog W .any base t v) (ht:DataW.Trod enc Tryz.prog W 0 (fun _=>true) true t v d ps) :
  ∃ f,Sh.bOk n f∧v=Sh.rf .u8 n f:=by
 obtain ⟨u,hu,ha⟩:=(Option.any_eq_true _ _).1 ha
 obtain ⟨jR,hx⟩:=ht
 obtain ⟨_,hf⟩:=FX 8 t _ hk (by rw [hc];simp) jR _ _ hx
 have:∃ cs,v = .agg cs:=by
  unfold acJ at hv
  rw [hu] at hv
  cases u<;>first | (obtain ⟨cs,rfl,_⟩:=hv;exact ⟨cs,rfl⟩) | (cases ha)
 obtain ⟨cs,rfl⟩:=this
 have hf:gE cs.toList (aap n (some .u8))=true:=hf
 obtain ⟨f,h1,h2⟩:=OQ n _ hf
 refine ⟨f,h1,?_⟩
 unfold Sh.rf
 rw [←h2]
theorem ng{P:Program}{W:World}{base:Nat}{t e:TypeId}{v:Value}{d:DataW H}{ps:List MemPlace}(ht:P.underlying t=some (.slice e))(he:P.underlying e=some (.int .u8))(hc:P.cellsOf e=1)
  (hv:acJ P W .any base t v) (hd:DataW.Trod enc P W 0 (fun _=>true) true t v d ps):∃ z n f,Sh.ByAt W z n f v:=by
 obtain ⟨a,len,cap,rfl⟩:=okWide_slice ht hv
 obtain ⟨jR,hf⟩:=hd
 have hf:DataW.trod enc P W 0 (fun _=>true) true jR t [.slice a len cap]=some (d,ps):=hf
 rcases open_ints ht he hc hf with ⟨Z2,_⟩|⟨a',zQI,zNJ,zs,Z2,_,hl,hm,hz,_,AH,hwz⟩
 ·cases Z2
  exact ⟨true,0,fun _=>0,.nil⟩
 ·cases Z2
  obtain ⟨ha,hb,_⟩:=X5 ht hv
  have hzl:zs.length=cap:=hz
  have e1:(Value.slice (some a') len cap) = .slice (some ⟨a'.block,a'.off,none⟩) len cap:=by rw [←ha]
  rw [e1]
  refine ⟨false,len,fun i=>zs.getD i 0,.pt hl (fun i hi=>?_) ⟨hb,fun i v hi=>?_⟩⟩
  ·have hiz:i<zs.length:=by omega
   have:zs.getD i 0=zs[i]:=by simp [List.getD,List.getElem?_eq_getElem hiz]
   rw [this]
   exact Hv (hwz _ (List.getElem_mem hiz))
  ·unfold gvals at hi
   rw [List.getElem?_map] at hi
   obtain ⟨j,hj,rfl⟩:=Option.map_eq_some_iff.1 hi
   have hjl:i<len:=by
    have:=(List.getElem?_eq_some_iff.1 hj).1
    simpa using this
   rw [List.getElem?_range hjl] at hj
   cases hj
   have:=AH i (by omega)
   rw [ha,fo] at this
   exact this
end
theorem EP{v0 v1 v2:Value}{W:World}(h0:∃ z n f,Sh.ByAt W z n f v0)(h1:∃ z n f,Sh.ByAt W z n f v1)(h2:∃ z n f,Sh.ByAt W z n f v2):cX Tryz.prog 3 #[v0,v1,v2] (.bool true) W:=by
 obtain ⟨_,_,_,h0⟩:=h0
 obtain ⟨_,_,_,h1⟩:=h1
 obtain ⟨_,_,_,h2⟩:=h2
 exact Sh.zqP h0 h1 h2
theorem HT{v0 v1 v2:Value}{W:World}(h0:∃ f,Sh.bOk 32 f∧v0=Sh.rf .u8 32 f)(h1:∃ z n f,Sh.ByAt W z n f v1)(h2:∃ z n f,Sh.ByAt W z n f v2):cX Tryz.prog 4 #[v0,v1,v2] (.bool true) W:=by
 obtain ⟨f,hf,rfl⟩:=h0
 obtain ⟨_,_,_,h1⟩:=h1
 obtain ⟨_,_,_,h2⟩:=h2
 exact Sh.ztu hf h1 h2
end Go.Proofs.YtcafpgpahbplaaaGreat
