/- Parts of the proof, without what nothing here names. -/
import Derived.Test.YtfdeiphkmjdifaaGreatDoorProg
import Derived.Shelf.Strings.Builder1
import Derived.Shelf.Strings.BuilderF
import Derived.Shelf.Strings.BuilderK
import Derived.Shelf.Strconv.Itoa0
import Derived.Shelf.Strconv.Itoa1
import Derived.Shelf.LaysM
import Derived.Shelf.Strconv.Itoa2
import Derived.Shelf.Strconv.Itoa3
import Derived.Shelf.Sort.Plain
import Derived.Shelf.Slices.In.SortNone
import Derived.Shelf.SlSortCmp.NoneTotal
import Derived.Ground.SlsfProg
import Derived.RangeFuncBound
import Derived.RangeFuncCalls
import Derived.RangeFuncLeaves
import Derived.RangeFuncNested
import Derived.Shelf.Abstract
import Derived.Test.YtfdeiphkmjdifaaGreatDoorQs2
set_option maxRecDepth 100000
set_option maxHeartbeats 8000000
namespace Go.Proofs.YtfdeiphkmjdifaaGreatDoor
open Tryz Go Go.RowKit
variable{κ β:Type}{x y:Operand}{av:List TV}{ob':List Ob}{c:Call}{all:List Eff}{d:Nat}{ops:Array Oper}{o:Nat}{ty:TypeId}{pos:String}{af:Array Edge}{U:TypeId}{ms1:List (Nat×List Bool)}{fs1:List Eff}{q:Nat}{T' S:TypeId}{off:Nat}{α:Type}{P:Program}{n:Nat}{σ:Sx}{fn:Func}{op:Op}
section
variable{α:Type}{r:Rep α}{s s':Sig}{t t' u u':Nat}{T':TypeId}{τ:Nat→Nat}{a:Option Nat}{c:Nat}
theorem MapO.fl{kv:κ→Value}{r:Rep β}{m:List (κ×β)}{T T2:TypeId}(hr:FlatR r)(h:MapO kv r s t T a c m)(hb:∀b,b<s.w.heap.size→s.tag b=t→s'.w.heap[b]? =s.w.heap[b]? ∧s'.tag b=t'):MapO kv r s' t' T2 a c m:=by
 obtain⟨b,es,clock,h1,h2,h3,h4,h5⟩:=h.is;obtain⟨g1,g2⟩:=hb b (yAs.1 h2).1 h3;exact⟨h.cap0,b,es,clock,h1,g1.trans h2,g2,h4,fun i e p he hp=>hr _ _ _ _ (h5 i e p he hp)⟩
theorem yba{ks:LI}{k:Int}(h:kidx ks k<ks.length):ks[kidx ks k]=k:=by
 have h2:(k==ks[kidx ks k])=true:=List.findIdx_getElem (p:=fun p=>k==p) (w:=h);exact(beq_iff_eq.1 h2).symm
theorem yka{ks:LI}{k:Int}(hn:ks.Nodup){j:Nat}(hj:ks[j]? =some k):kidx ks k=j:=by
 obtain⟨hjl,e⟩:=yGs.1 hj;have hle:kidx ks k<ks.length:=List.findIdx_lt_length_of_exists ⟨k,e▸yGm hjl,by simp⟩;exact(List.getElem_inj hn).1 ((yba hle).trans e.symm)
theorem ydi(m:List (Int×β))(k:Int)(v:β)(j:Nat):(kput m k v)[j]? =if j=kidx (m.map (·.1)) k then some (k,v) else m[j]? :=by
 have hle:=yb4 (m.map (·.1)) k;rw [yLm] at hle;unfold kput;generalize kidx (m.map (·.1)) k=i at hle ⊢;by_cases h:i<m.length
 ·rw [iP h,List.getElem?_set];by_cases e:i=j
  ·rw [iP e,iP (by omega),iP e.symm]
  ·rw [iN e,iN (fun e'=>e e'.symm)]
 ·rw [iN h];by_cases e:j=i
  ·rw [iP e,yAr (by omega),show j-m.length=0 by omega];rfl
  ·rw [iN e];by_cases h2:j<m.length
   ·rw [yAl h2]
   ·rw [yGn (by simp;omega),yGn (by omega)]
theorem yeL(m:List (Int×β))(k:Int)(v:β)(j:Nat):((kput m k v).map (·.1))[j]? =if j=kidx (m.map (·.1)) k then some k else(m.map (·.1))[j]? :=by
 rw [List.getElem?_map,ydi];split
 ·rfl
 ·rw [List.getElem?_map]
theorem ygm{m:List (Int×β)}{k:Int}{v:β}(h:(m.map (·.1)).Nodup):((kput m k v).map (·.1)).Nodup:=by
 unfold kput;split
 ·rename_i hi;have:(m.set (kidx (m.map (·.1)) k) (k,v)).map (·.1)=m.map (·.1):=by
   rw [List.map_set];have hi2:kidx (m.map (·.1)) k<(m.map (·.1)).length:=by simpa using hi
   have:=yba hi2;apply List.ext_getElem?;intro j;rw [List.getElem?_set];split
   ·rename_i e;subst e;rw [yGe hi2,this]
   ·rfl
  rw [this];exact h
 ·rename_i hi;rw [List.map_append,List.nodup_append];refine⟨h,by simp,fun x hx y hy e=>hi ?_⟩;have hy:y=k:=by simpa using hy
  rw [e,hy] at hx;have:=List.findIdx_lt_length_of_exists (p:=fun p=>k==p) (xs:=m.map (·.1)) ⟨k,hx,by simp⟩;rw [yLm] at this;exact this
structure MtbP (r:Rep α) (T':TypeId) (o:Option Int) (m:List (Int×List α)) (s:Sig) (t:Nat) (h:Value) (hs:List (Int×Value)) (τ:Nat→Nat) (a:Option Nat) (c:Nat):Prop where
 e:h= .map a
 out:MapO kvI rVal (sp s t τ) (2*0+1) 0 a c hs
 key:hs.map (·.1)=m.map (·.1)
 nd:(m.map (·.1)).Nodup
 inn:∀(i:Nat) (k:Int) (hd:Value) (ys:List α),hs[i]? =some (k,hd)→m[i]? =some (k,ys)→o≠some k→∃a c,hd= .slice a ys.length c∧RowT r (sp s t τ) (2*(i+1)+1) T' a c ys
variable{m:List (Int×List α)}{hs:List (Int×Value)}{h:Value}{o:Option Int}{k:Int}
theorem MtbP.to(hr:FlatR r)(H:MtbP r T' o m s t h hs τ a c)(hb:∀b,b<s.w.heap.size→s.tag b=t→s'.w.heap[b]? =s.w.heap[b]? ∧s'.tag b=t'):MtbP r T' o m s' t' h hs τ a c:=by
 have key:∀k b,b<(sp s t τ).w.heap.size→(sp s t τ).tag b=2*k+1→(sp s' t' τ).w.heap[b]? =(sp s t τ).w.heap[b]? ∧(sp s' t' τ).tag b=2*k+1:=fun k b hb1 ht=>by
  obtain⟨q1,q2⟩:=y8a ht;obtain⟨g1,g2⟩:=hb b hb1 q1;exact⟨g1,by rw [sp_at g2,q2]⟩
 exact⟨H.e,H.out.fl y5C (key 0),H.key,H.nd,fun i k hd ys g1 g2 g3=>by
  obtain⟨a,c,e,h5⟩:=H.inn i k hd ys g1 g2 g3;exact⟨a,c,e,h5.fl hr (key (i+1))⟩⟩
def fzMt{α:Type}(r:Rep α)(m:List (Int×List α)):Option Int→LV
 | none=>lM kvI (rL r) m
 | some _=>lU
theorem MtbP.fz{β:Nat→Value}(H:MtbP r T' o m s 0 h hs τ a c):(fzMt r m o).p β s h:=by
 cases o with
 | some _=>rw [H.e];rfl
 | none=>
  have hle:Le (sp s 0 τ) s:=⟨yNr _,fun b _ hb=>by
   unfold sp at hb;simp only at hb;split at hb
   ·omega
   ·rename_i g;exact absurd (by omega) g⟩
  obtain⟨b,es,clock,h1,h2,h3,h4,h5⟩:=H.out.is;refine⟨a,c,H.e,.inr ⟨H.out.cap0,b,es,clock,h1,h2,(y8a h3).1,H.key▸h4,fun i e p he hp=>?_⟩⟩;obtain⟨k,ys⟩:=p;have hk:(hs.map (·.1))[i]? =some k:=by rw [H.key,List.getElem?_map,hp];rfl
  rw [List.getElem?_map] at hk;obtain⟨⟨k',hd⟩,g1,g2⟩:=Option.map_eq_some_iff.1 hk;have g2:k'=k:=g2;subst g2;obtain⟨a',c',e',h6⟩:=H.inn i k' hd ys g1 hp nofun;have hv:=(h5 i e _ he g1).1;exact⟨a',c',by rw [hv,e'],h6.rd hle rfl fun b hb=>(y8a hb).1⟩
def MTB{α:Type}{r:Rep α}(hr:FlatR r)(T':TypeId)(o:Option Int)(m:List (Int×List α)):Ob:= .hp ⟨fun s t h=>∃hs τ a c,MtbP r T' o m s t h hs τ a c,fzMt r m o,
 fun mv ht _ ⟨hs,τ,a,c,h⟩=>⟨hs,τ,a,c,h.to hr fun b hb e=>by
  obtain⟨g1,g2⟩:=mv.blk b hb (by rw [e];exact ht);exact⟨g1,g2.trans e⟩⟩,
 fun _ hw ht ⟨hs,τ,a,c,h⟩=>⟨hs,τ,a,c,h.to hr fun b _ e=>⟨by rw [hw],ht b e⟩⟩,fun⟨_,_,_,_,h⟩ _=>h.fz⟩
theorem MtbP.take(hr:FlatR r)(H:MtbP r T' none m s t h hs τ a c)(k:Int)(hu:u≠t):
  MtbP r T' (some k) m (tkS s t u (kidx (m.map (·.1)) k) τ) t h hs τ a c∧(∃a c,(kget hs k).getD (.slice none 0 0)= .slice a ((kget m k).getD []).length c∧RowT r (tkS s t u (kidx (m.map (·.1)) k) τ) u T' a c ((kget m k).getD []))∧Mv (fun x=>x=u∨x=t) s (tkS s t u (kidx (m.map (·.1)) k) τ):=by
 have hlen:hs.length=m.length:=by have:=congrArg List.length H.key;simpa using this
 obtain⟨i,hi⟩:∃i,i=kidx (m.map (·.1)) k:=⟨_,rfl⟩;rw [←hi];have key:∀j b,j≠i+1→b<(sp s t τ).w.heap.size→(sp s t τ).tag b=2*j+1→(sp (tkS s t u i τ) t τ).w.heap[b]? =(sp s t τ).w.heap[b]? ∧(sp (tkS s t u i τ) t τ).tag b=2*j+1:=fun j b hk _ ht=>by
  obtain⟨q1,q2⟩:=y8a ht;have:(tkS s t u i τ).tag b=t:=by
   show(if s.tag b=t∧τ b=i+1 then u else s.tag b)=t;rw [iN (fun g=>hk (q2.symm.trans g.2)),q1]
  exact⟨rfl,by rw [sp_at this,q2]⟩
 refine⟨⟨H.e,H.out.fl y5C (fun b=>key 0 b (by omega)),H.key,H.nd,fun j k' hd ys g1 g2 g3=>?_⟩,?_,?_⟩
 ·obtain ⟨a,c,e,h5⟩:=H.inn j k' hd ys g1 g2 nofun;refine⟨a,c,e,h5.fl hr fun b=>key (j+1) b fun e=>g3 ?_⟩;have hj:j=i:=Nat.succ.inj e;have hjl:=(yGs.1 g2).1;have h1:kidx (m.map (·.1)) k<(m.map (·.1)).length:=by rw [←hi,←hj];simpa using hjl
  have h2:=yba h1;have h3:(m.map (·.1))[j]? =some k':=by rw [List.getElem?_map,g2];rfl
  rw [hj,hi,yGe h1,h2] at h3;exact h3
 ·by_cases hlt:i<m.length
  ·have h1:kidx (m.map (·.1)) k<(m.map (·.1)).length:=by rw [←hi];simpa using hlt
   have h2:=yba h1;have hm:m[i]? =some (k,m[i].2):=by
    rw [yGe hlt];have:m[i].1=k:=by simpa [←hi] using h2
    rw [←this]
   have hh:hs[i]? =some (k,(hs[i]'(by omega)).2):=by
    have hk:(hs.map (·.1))[i]? =some k:=by rw [H.key,List.getElem?_map,hm];rfl
    rw [List.getElem?_map,yGe (by omega)] at hk;have:(hs[i]'(by omega)).1=k:=ySi hk;rw [yGe (by omega)];exact congrArg some (Prod.ext this rfl)
   have e1:kget m k=some m[i].2:=by rw [yai,←hi,hm];rfl
   have e2:kget hs k=some (hs[i]'(by omega)).2:=by rw [yai,H.key,←hi,hh];rfl
   obtain⟨a,c,e,h5⟩:=H.inn i k _ _ hh hm nofun;rw [e1,e2];refine⟨a,c,e,h5.fl hr fun b _ ht=>⟨rfl,?_⟩⟩;obtain⟨q1,q2⟩:=y8a ht;exact iP ⟨q1,q2⟩
  ·have e1:kget m k=none:=by rw [yai,←hi,yGn (by omega)];rfl
   have e2:kget hs k=none:=by rw [yai,H.key,←hi,yGn (by omega)];rfl
   rw [e1,e2];exact⟨none,0,rfl,RowT.nil⟩
 ·exact ⟨rfl,rfl,rfl,yNr _,fun b _ hn=>⟨rfl,iN fun g=>hn (.inr g.1)⟩⟩
theorem MtbP.put{ys:List α}{a':Option Addr}{c':Nat}(hr:FlatR r)(H:MtbP r T' o m s t h hs τ a c)(hy:RowT r s u T' a' c' ys)(hut:u≠t)(ho:∀k',o=some k'→k'=k)(mv:Mv (One (2*0+1)) (sp s t τ) s')(hR:MapO kvI rVal s' (2*0+1) 0 a c (kput hs k (.slice a' ys.length c'))):
  MtbP r T' none (kput m k ys) (ptS s' t u) t h (kput hs k (.slice a' ys.length c')) (ptR s' (kidx (m.map (·.1)) k)) a c∧Mv (fun x=>x=t∨x=u) s (ptS s' t u):=by
 obtain⟨i,hi⟩:∃i,i=kidx (m.map (·.1)) k:=⟨_,rfl⟩;have hi2:kidx (hs.map (·.1)) k=i:=by rw [H.key,hi]
 rw [←hi];have odd:∀k b,s'.tag b=2*k+1→(sp (ptS s' t u) t (ptR s' i)).tag b=2*k+1:=fun k b e=>by
  have h1:(ptS s' t u).tag b=t:=iP (by omega);rw [sp_at h1];have:ptR s' i b=s'.tag b/2:=iP (by omega);rw [this];omega
 refine⟨⟨H.e,hR.fl y5C fun b _ e=>⟨rfl,odd 0 b e⟩,?_,ygm H.nd,fun j k' hd zs g1 g2 _=>?_⟩,?_⟩
 ·apply List.ext_getElem?;intro j;rw [yeL,yeL,H.key]
 ·rw [ydi,hi2] at g1;rw [ydi,←hi] at g2;by_cases hj:j=i
  ·rw [iP hj] at g1 g2;cases g1;cases g2;subst hj;refine⟨a',c',rfl,hy.fl hr fun b hb e=>?_⟩;have h1:(sp s t τ).tag b=2*u:=by
    show(if s.tag b=t then _ else 2*s.tag b)=_;rw [iN (by omega),e]
   obtain⟨q1,q2⟩:=mv.blk b hb (by rw [h1];show ¬2*u=2*0+1;omega);rw [h1] at q2;refine⟨q1,?_⟩;have h2:(ptS s' t u).tag b=t:=by
    show(if s'.tag b % 2=1 then t else if s'.tag b=2*u then t else _)=t;rw [iN (by omega),iP q2]
   have h3:ptR s' j b=j+1:=iN (by omega);rw [sp_at h2,h3]
  ·rw [iN hj] at g1 g2;have hko:o≠some k':=fun e=>by
    have e1:=ho k' e;subst e1;have:=yka H.nd (j:=j) (k:=k') (by rw [List.getElem?_map,g2];rfl);exact hj (by rw [hi,this])
   obtain⟨a,c,e,h5⟩:=H.inn j k' hd zs g1 g2 hko;refine⟨a,c,e,h5.fl hr fun b hb e=>?_⟩;obtain⟨q1,q2⟩:=mv.blk b hb (by rw [e];show ¬2*(j+1)+1=2*0+1;omega);exact⟨q1,odd _ b (q2.trans e)⟩
 ·refine ⟨mv.os,mv.tape,mv.output,mv.size,fun b hb hn=>?_⟩;have h1:(sp s t τ).tag b=2*s.tag b:=iN fun e=>hn (.inl e);obtain⟨q1,q2⟩:=mv.blk b hb (by rw [h1];show ¬2*s.tag b=2*0+1;omega);rw [h1] at q2;refine⟨q1,?_⟩;show(if s'.tag b % 2=1 then t else if s'.tag b=2*u then t else s'.tag b/2)=s.tag b;rw [iN (by omega),iN (fun e=>hn (.inr (by omega))),q2];omega
theorem MtbP.made(h:MapO kvI rVal s t 0 a c []):MtbP r T' none [] s t (.map a) [] (fun _=>0) a c:=
 ⟨rfl,h.fl y5C fun b _ e=>⟨rfl,sp_at e⟩,rfl,List.nodup_nil,fun i k hd ys g1=>by simp at g1⟩
end
section
variable{Φ:Fr}{P:Program}{Q:Exit→Act→World→Prop}{n:Nat}{e:List (Nat×Value)}{s:Sig}{ops:Array Oper}{os:List Oper}{d:Nat}{ty:TypeId}{pos:String}{af:Array Edge}{g:Option (Nat×Bool)}
theorem L.mlV [BEq κ]{kv:κ→Value}{T kt et:TypeId}{a:Option Nat}{k:κ}{hs:List (κ×Value)}{z zv:Value}(hT:Md P T kt et kv rVal z zv)(hM:MapA kv rVal s a hs)(hw:Wt ops e g)(hx:Env.ev e x=some (Value.map a))(hy:Env.ev e y=some (kv k))(hd:Nat.blt d n=true)
  (h:((kget hs k).getD z).oneCell'=true→L Φ P Q n ops os ((d,(kget hs k).getD z)::e) s.w):L Φ P Q n ops (⟨some d,.lookup T x y false,ty,pos,af,g⟩::os) e s.w:=by
 obtain⟨u,h1,h2⟩:=ybD (k:=k) hT hM false;have hu:u=(kget hs k).getD z:=(List.cons.inj h1.1).1;rw [hu] at h2;refine L.val hw hd (fun ac ha=>?_) (h h1.2);simp only [execOp,ha.ev hx,ha.ev hy];simp [h2]
end
section
variable{K:Kx}{C:Cx}{P:Program}{n:Nat}{ops:Array Oper}{σ:Sx}{d q i:Nat}{ty:TypeId}{pos:String}{af:Array Edge}{g:Option (Nat×Bool)}{β:Nat→Value}{s s':Sig}{e:List (Nat×Value)}
variable{α:Type}{r:Rep α}{hr:FlatR r}{T2:TypeId}{o:Option Int}{m:List (Int×List α)}{ys:List α}{k:Int}{T kt et:TypeId}
theorem O.mkM(hr:FlatR r)(T2:TypeId)(i:Nat)(hi:Nat.ble σ.n i=true)(hg:Gu ops σ g)(hb:Nat.blt d n=true):Ox K C P n ops ⟨some d,.makeMap T none,ty,pos,af,g⟩ σ (FN d i (lH i) (MTB hr T2 none [])):=fun Φ Q os β s e hd k=>
 L.mk2 (kv:=kvI) (r:=rVal) (T:=T) (C.tg i) hb (hd.gd hg) fun a c s' m h5=>k _ s' _ (Aft.new hi m.no (lH_at rfl) ⟨[],_,a,c,MtbP.made (h5.fl y5C fun b _ e=>⟨rfl,e⟩)⟩)
theorem O.luM(i:Nat)(hT:Md P T kt et kvI rVal (.slice none 0 0) (.slice none 0 0))(hi:Nat.ble σ.n i=true)(hg:Gu ops σ g)(hx:σ.ev x=some (sL (lH q)))(ho:aget σ.ob q=some (MTB hr T2 none m))(hy:Ky K C σ y (kvI k))(hb:Nat.blt d n=true):
  Ox K C P n ops ⟨some d,.lookup T x y false,ty,pos,af,g⟩ σ (FT d i q (lH i) (ROW r T2 ((kget m k).getD [])) (MTB hr T2 (some k) m)):=fun Φ Q os β s e hd kc=>by
 obtain⟨v,h1,h2,_⟩:=hd.evv hx;obtain⟨hs,τ,a,c,H⟩:=hd.ob q _ ho;have hq:q<σ.n:=(hd.fo _ _ ho).1;have hqi:q≠i:=by have:=yNl hi;omega
 have hu:C.tg i≠C.tg q:=fun e=>hqi (hd.ok.inj e).symm;obtain⟨g1,⟨a2,c2,e2,g2⟩,g3⟩:=H.take (u:=C.tg i) hr k hu;exact L.mlV (s:=sp s (C.tg q) τ) hT H.out.any (hd.gd hg) (by rw [h1,h2,H.e]) (hy β s e hd) hb fun hone=>kc (upB β i ((kget hs k).getD (.slice none 0 0))) (tkS s (C.tg q) (C.tg i) (kidx (m.map (·.1)) k) τ) _ (Aft.tk hi hqi g3 (lH_at hone) ⟨a2,c2,e2,g2⟩ ⟨hs,τ,a,c,g1⟩)
theorem O.muM{z:Operand}(hT:Md P T kt et kvI rVal (.slice none 0 0) (.slice none 0 0))(hg:Gu ops σ g)(hx:σ.ev x=some (sL (lH q)))(ho:aget σ.ob q=some (MTB hr T2 o m))(hy:Ky K C σ y (kvI k))(hz:σ.ev z=some (sL (lH i)))(hoi:aget σ.ob i=some (ROW r T2 ys))(hqi:Nat.beq i q=false)(hk:∀k',o=some k'→k'=k):
  Ox K C P n ops ⟨none,.mapUpdate T x y z,ty,pos,af,g⟩ σ ⟨none,[(q,MTB hr T2 none (kput m k ys)),(i,.u)],none⟩:=fun Φ Q os β s e hd kc=>by
 obtain⟨v,h1,h2,_⟩:=hd.evv hx;obtain⟨a2,c2,h4,h5,h6⟩:=hd.row hz hoi;obtain⟨hs,τ,a,c,H⟩:=hd.ob q _ ho;have hne:C.tg i≠C.tg q:=fun e=>by
  have:=hd.ok.inj e;rw [this,Nat.beq_refl] at hqi;cases hqi
 refine L.mu (s:=sp s (C.tg q) τ) (r:=rVal) (v:= .slice a2 ys.length c2) hT H.out ⟨rfl,rfl⟩ (by omega) (fun _ _=>eqI) (hd.gd hg) (by rw [h1,h2,H.e]) (hy β s e hd) h5 fun s' mv h7=>?_;obtain⟨g1,g2⟩:=H.put hr h6 hne hk mv h7;refine kc β (ptS s' (C.tg q) (C.tg i)) e ⟨fun _ _=>rfl,fun _ _=>rfl,g2.weak fun t ht=>ht.elim (fun ht=>⟨q,_,.head _,ht⟩) (fun ht=>⟨i,.u,.tail _ (.head _),ht⟩),fun _ _=>rfl,nofun,fun j o' hm=>?_⟩;rcases yMo.1 hm with e|hm
 ·cases e;exact⟨_,_,_,_,g1⟩
 ·rcases yMo.1 hm with e|hm
  ·cases e;trivial
  ·cases hm
theorem L.mlS{Φ:Fr}{Q:Exit→Act→World→Prop}{os:List Oper}{γ:Type}[BEq κ]{kv:κ→Value}{r:Rep γ}{a:Option Nat}{k:κ}{m:List (κ×γ)}{z:γ}{zv:Value}(hT:Md P T kt et kv r z zv)(hM:MapA kv r s a m)(hw:Wt ops e g)(hx:Env.ev e x=some (Value.map a))(hy:Env.ev e y=some (kv k))(hd:Nat.blt d n=true)
  (h:∀u,r.rd s [u] ((kget m k).getD z)→L Φ P Q n ops os ((d,u)::e) s.w):L Φ P Q n ops (⟨some d,.lookup T x y false,ty,pos,af,g⟩::os) e s.w:=by
 obtain⟨u,h1,h2⟩:=ybD (k:=k) hT hM false;refine L.val hw hd (fun ac ha=>?_) (h u h1);simp only [execOp,ha.ev hx,ha.ev hy];simp [h2]
theorem O.mlS{α:Type}[BEq κ]{kv:κ→Value}{r:Rep α}{m:List (κ×List α)}{k:κ}(hT:Md P T kt et kv (rL r) [] (.slice none 0 0))(hg:Gu ops σ g)(hx:σ.ev x=some (sL (lM kv (rL r) m)))(hy:Ky K C σ y (kv k))(hb:Nat.blt d n=true):Ox K C P n ops ⟨some d,.lookup T x y false,ty,pos,af,g⟩ σ (F1 d (sL (lF r ((kget m k).getD [])))):=
 Ox.pure fun _ _ _ β s e hd q=>by
  obtain⟨a,h1,h2⟩:=Rm.fr (K:=K) (C:=C) hx β s e hd;refine L.mlS hT h2 (hd.gd hg) h1 (hy β s e hd) hb fun u ⟨a',c',e',h3⟩=>q _ ⟨a',c',(List.cons.inj e').1,h3⟩
/-! A call that is lent what it reads, and makes objects that hold no more than cells. -/
def FlatO(o:Ob):Prop:=∀β s t h s2 t2 β2,(∀b,b<s.w.heap.size→s.tag b=t→s2.w.heap[b]? =s.w.heap[b]? ∧s2.tag b=t2)→o.p β s t h→o.p β2 s2 t2 h
theorem FlatO.row{α:Type}{r:Rep α}{T:TypeId}{xs:List α}(hr:FlatR r):FlatO (ROW r T xs):=fun _ _ _ _ _ _ _ hb ⟨a,c,e,h⟩=>⟨a,c,e,h.fl hr hb⟩
def FlatL :List Ob→Prop
 | []=>True
 | o::l=>FlatO o∧FlatL l
theorem FlatL.at :∀{l:List Ob} {i:Nat} {o:Ob},FlatL l→l[i]? =some o→FlatO o
 | [],_,_,_,h=>by cases h
 | _::_,0,_,⟨h1,_⟩,h=>by cases h;exact h1
 | _::_,i+1,_,⟨_,h2⟩,h=>h2.at (i:=i) (by simpa using h)
def FlatS(r:SV):Prop:=∀β s s2 v,r.p β s v→r.p β s2 v
theorem O.caY{f:FuncId}{xs:List Operand}{ys:List TV}{r r':SV}(ν:List Nat)(l:List (Nat×Ob))(nx:Option Nat)(hF:Fw P f ⟨0,[]⟩ av [] r ob')(hcf:Cf P f)(hc:c.callee= .value (.func f))(hca:c.args=xs.toArray)(hg:Gu ops σ g)(hx:σ.evs xs=some ys)
  (hok:y9L ⟨0,[]⟩ σ.n ν l ob' r=true) (hcv:LnA K C σ ys av) (has:refsT av= []) (hfl:FlatL ob') (hfs:FlatS r) (hO:OutL (fun i=>ν.getD i 0) ob' l) (hr:∀β s v,r.p (fun i=>β (ν.getD i 0)) s v→r'.p β s v) (hb:Nat.blt d n=true):
  Ox K C P n ops ⟨some d,.call c,ty,pos,af,g⟩ σ (callE (some (d,r')) ν l nx):=fun Φ Q os β s e hd k=>by
 obtain⟨vs,h1,h2⟩:=hd.evs hx;have hcall:=hF.is ((List.range ob'.length).map fun i=>C.tg (ν.getD i 0)) (fun i=>β (ν.getD i 0)) ⟨s.w,fun _=>0⟩ vs (by simp) (yZl _) (by simp) (by simp) ((hcv.p hd h2).mono (Le.refl _) fun i hi=>by rw [has] at hi;cases hi) (fun i o h=>by simp at h)
 ·have h4:Calls P f vs.toArray s.w (Lft ⟨0,[]⟩ ((List.range ob'.length).map fun i=>C.tg (ν.getD i 0)) (fun i=>β (ν.getD i 0)) s r ob'):=Calls.mono hcall fun en w' ⟨v,s',a1,a2,m,β',g1,g2,g3⟩=>by
   have m0:∀b,b<s.w.heap.size→s'.w.heap[b]? =s.w.heap[b]? ∧s'.tag b=0:=fun b hb=>m.blk b hb fun⟨i,hi,_⟩=>by cases hi
   refine⟨v,⟨s'.w,fun b=>if b<s.w.heap.size then s.tag b else s'.tag b⟩,a1,a2,⟨m.os,m.tape,m.output,m.size,fun b hb _=>⟨(m0 b hb).1,iP hb⟩⟩,β',g1,hfs _ _ _ _ g2,fun i o ho=>?_⟩;have hi:i<ob'.length:=(yGs.1 ho).1;have htg:((List.range ob'.length).map fun i=>C.tg (ν.getD i 0)).getD i 0=C.tg (ν.getD i 0):=by simp [yGd,hi]
   refine hfl.at ho β' s' _ _ _ _ β' (fun b _ hbt=>⟨rfl,?_⟩) (g3 i o ho);rw [htg] at hbt ⊢;have hp:=hd.ok.tpos (ν.getD i 0);have:¬b<s.w.heap.size:=fun hlt=>by
    have:=(m0 b hlt).2;omega
   show(if b<s.w.heap.size then s.tag b else s'.tag b)=_;rw [iN this,hbt]
  refine L.ca hcf hc hca (hd.gd hg) h1 h4 hb fun v s' m hp=>?_;obtain⟨β'',g1,g2,g2',g3,g4⟩:=yde (nx:=nx) hd.ok hok hO m hp;exact k β'' s' _ ⟨g2,g2',g3,fun d' hn=>Env.get_put fun e=>hn r' (by rw [e];rfl),fun d' x' ee=>(by cases ee;exact⟨v,by simp [Env.get],hr _ _ _ g1⟩),g4⟩
theorem fMt :∀q,MTB hr T2 none m= .hp q→q.fz.refs= []:=fun q e=>by cases e;rfl
end
/-! Drawing regions in which an object is touched more than once. -/
def dropO(zs:List (Nat×Nat))(j:Nat)(f:Eff):List (Nat×Ob):=f.ob.filter fun p=>!(zs.any fun z=>Nat.beq z.1 j&&Nat.beq z.2 p.1)
def muOz(zs:List (Nat×Nat)):List Bool→Nat→List Eff→List (Nat×Ob)→List (Nat×Ob)
 | [],_,_,l=>l
 | b::m,j,fs,l=>match fs with
  | []=>l
  | f::fs=>cond b (dropO zs j f++muOz zs m (j+1) fs l) (muOz zs m (j+1) fs l)
theorem yj0{zs:List (Nat×Nat)}{l:List (Nat×Ob)}:∀{m:List Bool} {j:Nat},muOz zs m j [] l=l
 | [],_=>rfl
 | _::_,_=>rfl
theorem ydj{zs:List (Nat×Nat)}{l:List (Nat×Ob)}:∀{m:List Bool} {j:Nat} {fs:List Eff},muOz zs m j fs l=muOz zs m j fs []++l
 | [],_,_=>rfl
 | _::_,_,[]=>rfl
 | b::m,j,f::fs=>by
  simp only [muOz];rw [ydj (m:=m) (fs:=fs)];cases b
  ·rfl
  ·simp only [cond_true,yAa]
theorem yeb{A:List (List Nat)}{fs:List Eff}{N k j:Nat}{l:List (Nat×Ob)}{kp:Nat→Bool}:∀{q:List (Nat×Ob)},(∀p,p∈q→okJ A fs N k j p.1=kp p.1)→muC A fs N k j q l=(q.filter fun p=>kp p.1)++l
 | [],_=>rfl
 | p::q,h=>by
  simp only [muC];rw [h p (.head _),yeb fun p hp=>h p (.tail _ hp),List.filter_cons];cases kp p.1 <;> rfl
section
variable{K:Kx}{C:Cx}{P:Program}{Φ:Fr}{Q:Exit→Act→World→Prop}{n:Nat}{σ:Sx}{fs:List Eff}{A:List (List Nat)}{N:Nat}
theorem muE_z{k:Nat}{l:List (Nat×Ob)}{zs:List (Nat×Nat)}:∀{m:List Bool} {j:Nat} {fs:List Eff},(∀j',j'∈ixs m j→∀p,p∈(all.getD j' noE).ob→okJ A all N k j' p.1=!(zs.any fun z=>Nat.beq z.1 j'&&Nat.beq z.2 p.1))→(∀i,all.getD (j+i) noE=fs.getD i noE)→muE A all N k (ixs m j) l=muOz zs m j fs l
 | [],_,_,_,_=>rfl
 | b::m,j,fs,hj,h=>by
  have ih:∀{fs':List Eff},(∀i,all.getD (j+1+i) noE=fs'.getD i noE)→muE A all N k (ixs m (j+1)) l=muOz zs m (j+1) fs' l:=fun h'=>muE_z (fun j' hm=>hj j' (by
   cases b
   ·exact hm
   ·exact .tail _ hm)) h'
  have h0:=h 0;rw [Nat.add_zero] at h0;cases fs with
  | nil=>
   have ih:=ih (fs':=[]) fun i=>by
    have:=h (i+1);rw [show j+(i+1)=j+1+i by omega] at this;simpa using this
   rw [yj0] at ih ⊢;cases b
   ·exact ih
   ·have hj:=hj j (.head _);simp only [ixs,cond_true,muE];rw [yeb (kp:=fun i=>!(zs.any fun z=>Nat.beq z.1 j&&Nat.beq z.2 i)) hj,h0,ih];rfl
  | cons f fs=>
   have ih:=ih (fs':=fs) fun i=>by
    have:=h (i+1);rw [show j+(i+1)=j+1+i by omega] at this;simpa using this
   cases b
   ·exact ih
   ·have hj:=hj j (.head _);simp only [ixs,cond_true,muE,muOz];rw [yeb (kp:=fun i=>!(zs.any fun z=>Nat.beq z.1 j&&Nat.beq z.2 i)) hj,h0,ih];rfl
def muZ(σ:Sx)(fs:List Eff)(d:List Nat)(zs:List (Nat×Nat))(m:List Bool)(n:Nat):Sx:=⟨muM m fs σ.sl,muOz zs m 0 fs (σ.dr d).ob,n⟩
def okZ(A:List (List Nat))(fs:List Eff)(N:Nat)(σ:Sx)(k:Nat)(d:List Nat)(zs:List (Nat×Nat))(m:List Bool):Bool:=
  ((ixs m 0).all fun j=>(fs.getD j noE).ob.all fun p=>(okJ A fs N k j p.1 == !(zs.any fun z=>Nat.beq z.1 j&&Nat.beq z.2 p.1))) &&
  (((σ.dr d).ob.all fun p=>(muOz zs m 0 fs []).any (fun q=>Nat.beq q.1 p.1)||okO A fs N k p.1) &&
   (σ.sl.all fun p=>(muM m fs []).any (fun q=>Nat.beq q.1 p.1)||okD A fs N k p.1))
theorem Den.okz{d:List Nat}{zs:List (Nat×Nat)}{k:Nat}{m:List Bool}{j:Nat}{β:Nat→Value}{s:Sig}{e:List (Nat×Value)}(hk:okZ A fs N σ k d zs m=true)(hn:Nat.beq (muK m fs σ.n) j=true)(h:Den K C (mu A fs N σ k (ixs m 0)) β s e):Den K C (muZ σ fs d zs m j) β s e:=by
 have hj:(mu A fs N σ k (ixs m 0)).n=j:=by
  show muN fs σ.n (ixs m 0)=j;rw [y8k (fs:=fs) fun i=>by rw [yNz]];exact yNb hn
 simp only [okZ,yAe] at hk;obtain⟨k1,k2,k3⟩:=hk;have ho:∀i o,aget (muOz zs m 0 fs (σ.dr d).ob) i=some o→aget (mu A fs N σ k (ixs m 0)).ob i=some o:=fun i o hx=>by
  show aget (muE A fs N k (ixs m 0) (muF A fs N k σ.ob)) i=some o;rw [muE_z (fs:=fs) (zs:=zs) (fun j hj p hp=>by
   have:=yAt.1 (yAt.1 k1 j hj) p hp;exact beq_iff_eq.1 this) fun i=>by rw [yNz],ydj]
  rw [ydj] at hx;refine y8E (fun hno x hx=>?_) hx;rcases Bool.or_eq_true_iff.1 (yAt.1 k2 _ (y7Z hx)) with g|g
  ·obtain ⟨q,hq,hq2⟩:=List.any_eq_true.1 g;have:q.1=i:=yNb hq2;exact absurd (show (i,q.2)∈_ from by rw [←this];exact hq) (hno q.2)
  ·exact ydD g (ycF hx)
 have hs:∀d' x,aget (muM m fs σ.sl) d'=some x→aget (mu A fs N σ k (ixs m 0)).sl d'=some x:=fun i o hx=>by
  show aget (muA fs (ixs m 0) (muB A fs N k σ.sl)) i=some o;rw [yaj (fs:=fs) fun i=>by rw [yNz],y9p];rw [y9p] at hx;refine y8E (fun hno x hx=>?_) hx;rcases Bool.or_eq_true_iff.1 (yAt.1 k3 _ (y7Z hx)) with g|g
  ·obtain ⟨q,hq,hq2⟩:=List.any_eq_true.1 g;have:q.1=i:=yNb hq2;exact absurd (show (i,q.2)∈_ from by rw [←this];exact hq) (hno q.2)
  ·exact ydE g hx
 exact⟨h.ok,h.mv,h.b0,hj▸h.m,fun d x hx=>h.sl d x (hs d x hx),fun i o hx=>h.ob i o (ho i o hx),fun d x hx=>hj▸h.fs d x (hs d x hx),fun i o hx=>hj▸h.fo i o (ho i o hx)⟩
def Wsz(K:Kx)(C:Cx)(P:Program)(n:Nat)(ops:Array Oper)(all:List Eff)(σ:Sx):List (Nat×List Bool×List Nat×List (Nat×Nat))→List Eff→List Oper→Prop
 | _,_,[]=>True
 | m::ms,f::fs,o::os=>Ox K C P n ops o (muZ σ all m.2.2.1 m.2.2.2 m.2.1 m.1) f∧Wsz K C P n ops all σ ms fs os
 | _,_,_::_=>False
def okZs(A:List (List Nat))(fs:List Eff)(N:Nat)(σ:Sx):Nat→List (Nat×List Bool×List Nat×List (Nat×Nat))→Bool
 | _,[]=>true
 | k,m::ms=>okZ A fs N σ k m.2.2.1 m.2.2.2 m.2.1&&okZs A fs N σ (k+1) ms
def nsOz(fs:List Eff)(n:Nat)(ms:List (Nat×List Bool×List Nat×List (Nat×Nat))):Bool:=ms.all fun m=>Nat.beq (muK m.2.1 fs n) m.1
theorem Wsz.gg:∀{l:List Oper} {k:Nat} {ms:List (Nat×List Bool×List Nat×List (Nat×Nat))} {fs:List Eff},okZs A all N σ k ms=true→nsOz all σ.n ms=true→Wsz K C P n ops all σ ms fs l→(∀i,all.getD (k+i) noE=fs.getD i noE)→(∀i,A.getD (k+i) []=(ms.map fun m=>ixs m.2.1 0).getD i [])→y8U K C P n ops A all N σ k l
 | [],_,_,_,_,_,_,_,_=>trivial
 | o::os,k,m::ms,f::fs,hk,hn,hw,hf,hA=>by
  simp only [okZs,yAe] at hk;simp only [nsOz,List.all_cons,yAe] at hn;refine⟨?_,Wsz.gg hk.2 hn.2 hw.2 (fun i=>?_) (fun i=>?_)⟩
  ·have h1:=hf 0;have h2:=hA 0;rw [Nat.add_zero] at h1 h2;rw [h1,h2,show(List.map (fun (m:Nat×List Bool×List Nat×List (Nat×Nat))=>ixs m.2.1 0) (m::ms)).getD 0 []=ixs m.2.1 0 from rfl];intro Φ Q os β s e hd hc;have hj:(mu A all N σ k (ixs m.2.1 0)).n=m.1:=by
    show muN all σ.n (ixs m.2.1 0)=m.1;rw [y8k (fs:=all) fun i=>by rw [yNz]];exact yNb hn.1
   exact hw.1 Φ Q os β s e (hd.okz hk.1 hn.1) fun β' s' e' a=>hc β' s' e' (by rw [hj];exact a)
  ·have:=hf (i+1);rw [show k+(i+1)=k+1+i by omega] at this;simpa using this
  ·have:=hA (i+1);rw [show k+(i+1)=k+1+i by omega] at this;simpa using this
 | _::_,_,[],_,_,_,hw,_,_=>by cases hw
 | _::_,_,_::_,[],_,_,hw,_,_=>by cases hw
theorem WE.drz{id:Nat}{l:List Oper}(j:Nat)(zN:List (Nat×Nat))(ms:List (Nat×List Bool×List Nat×List (Nat×Nat)))(fs:List Eff)(τ:Sx)(hs:Wsz K C P n l.toArray fs σ ms fs l)(hok:(okZ (ms.map fun m=>ixs m.2.1 0) fs l.length σ l.length [] zN (List.replicate l.length true)&&(Nat.beq (muK (List.replicate l.length true) fs σ.n) j&&(okZs (ms.map fun m=>ixs m.2.1 0) fs l.length σ 0 ms&&(nsOz fs σ.n ms&&y8V P K (ms.map fun m=>ixs m.2.1 0) fs σ.n l.toArray))))=true)(hτ:τ.is K (muZ σ fs [] zN (List.replicate l.length true) j) [])(h0:WX K C Φ Q n .normal τ):WE K C Φ P Q n (.region id l.toArray true) σ:=by
 simp only [yAe] at hok;obtain⟨h1,h2,h3,h4,h5⟩:=hok;have hz:∀i,fs.getD (0+i) noE=fs.getD i noE:=fun i=>by rw [yNz]
 refine .draw' (ms.map fun m=>ixs m.2.1 0) fs (Wsz.gg h3 h4 hs hz fun i=>by rw [yNz]) h5 ?_;rw [List.range_eq_range',←yb8];exact fun β s e hd=>h0.sub [] hτ β s e (hd.okz h1 h2)
end
theorem I3{p:(Nat→Value)→Sig→Value→Prop}:∀β s v,p β s v→p β s v:=fun _ _ _ h=>h
theorem I4{p:(Nat→Value)→Sig→Nat→Value→Prop}:∀β s t v,p β s t v→p β s t v:=fun _ _ _ _ h=>h
section
variable{K:Kx}{C:Cx}{Φ:Fr}{P:Program}{Q:Exit→Act→World→Prop}{n:Nat}{σ:Sx}{β:Nat→Value}{s:Sig}{e:List (Nat×Value)}
theorem All2.mvb{i m:Nat}(hb:∀j,j<m→(upB β m (β i)) j=β j):∀{l:List LV} {vs:List Value} (k:Nat),l[k]? =some (lH i)→(∀j,j∈refsL l→j<m)→All2 β s l vs→All2 (upB β m (β i)) s (l.set k (lH m)) vs
 | [],_,_,h,_,_=>by cases h
 | x::l,_,0,h,hr,⟨v,us,h1,h2,e⟩=>by
  cases h;exact⟨v,us,⟨h1.1.trans y7J.symm,h1.2⟩,h2.mono (Le.refl _) fun j hj=>hb j (hr j (yMr _ hj)),e⟩
 | x::l,_,k+1,h,hr,⟨v,us,h1,h2,e⟩=>⟨v,us,x.mono (fun j hj=>hb j (hr j (yMl _ hj))) (Le.refl _) h1,All2.mvb hb k (by simpa using h) (fun j hj=>hr j (yMr _ hj)) h2,e⟩
theorem Den.mvb{i b k:Nat}{o:HO}{T:TypeId}{l:List LV}(ho:aget σ.ob i=some (.hp o))(hbx:aget σ.ob b=some (.bx T l))(hk:l[k]? =some (lH i))(hm:K.may i=true)(hd:Den K C σ β s e):
  Den K C ⟨σ.sl,(σ.n,.hp o)::(b,.bx T (l.set k (lH σ.n)))::(i,.u)::σ.ob,σ.n+1⟩ (upB β σ.n (β i)) (s.re (C.tg i) (C.tg σ.n)) e:=by
 have hkm:=hd.m;have hi:=(hd.fo _ _ ho).1;have hib:b≠i:=fun e=>by subst e;rw [ho] at hbx;cases hbx
 have hb:∀j,j<σ.n→(upB β σ.n (β i)) j=β j:=fun j hj=>y7u (by omega);have hmv:=Sig.re_mv (t:=C.tg i) (t':=C.tg σ.n) s;have h0:¬One (C.tg i) 0:=fun e=>by have:0=C.tg i:=e;have:=hd.ok.tpos i;omega
 have hl:=hmv.le h0;refine⟨hd.ok,hd.mv.trans (hmv.one (hd.ok.up hm)),fun j hj=>(hb j (by omega)).trans (hd.b0 j hj),by show K.m≤σ.n+1;omega,fun d x hx=>?_,fun j q hq=>?_,fun d x hx j hj=>?_,fun j q hq=>?_⟩
 ·obtain ⟨v,g1,g2⟩:=hd.sl d x hx;exact⟨v,g1,SV.mono hl (fun j hj=>hb j (hd.fs d x hx j hj)) g2⟩
 ·rcases yj hq with ⟨rfl,rfl⟩|⟨hn1,hq⟩
  ·have:=hd.ob _ _ ho;rw [y7J];exact o.mvt hl rfl (fun b hb=>by show(if s.tag b=C.tg i then C.tg σ.n else s.tag b)=_;rw [iP hb]) this
  ·rcases yj hq with ⟨rfl,rfl⟩|⟨hn2,hq⟩
   ·obtain ⟨bk,vs,e1,e2,e3⟩:=hd.ob _ _ hbx;refine⟨bk,vs,by rw [hb b (hd.fo _ _ hbx).1];exact e1,e2.mv hmv fun e=>hib (hd.ok.inj e),?_⟩;exact All2.mono hl (fun _ _=>rfl) (All2.mvb hb k hk (hd.fo _ _ hbx).2 e3)
   ·rcases yj hq with ⟨rfl,rfl⟩|⟨hn3,hq⟩
    ·trivial
    ·rw [hb j (hd.fo _ _ hq).1];exact Ob.mv hmv (fun e=>hn3 (hd.ok.inj e).symm) h0 (fun i hi=>hb i ((hd.fo _ _ hq).2 i hi)) (hd.ob j q hq)
 ·have:=hd.fs d x hx j hj;show j<σ.n+1;omega
 ·show j<σ.n+1∧∀i,i∈q.refs→i<σ.n+1;rcases yj hq with ⟨rfl,rfl⟩|⟨hn1,hq⟩
  ·exact ⟨by omega,fun j hj=>by cases hj⟩
  ·rcases yj hq with ⟨rfl,rfl⟩|⟨hn2,hq⟩
   ·exact ⟨by have:=(hd.fo _ _ hbx).1;omega,ybF k (hd.fo _ _ hbx).2⟩
   ·rcases yj hq with ⟨rfl,rfl⟩|⟨hn3,hq⟩
    ·exact ⟨by omega,fun j hj=>by cases hj⟩
    ·exact ⟨by have:=(hd.fo _ _ hq).1;omega,fun i hi=>by have:=(hd.fo _ _ hq).2 i hi;omega⟩
theorem WE.mvb{c:Code}(i b k:Nat){o:HO}{T:TypeId}{l:List LV}(ho:aget σ.ob i=some (.hp o))(hbx:aget σ.ob b=some (.bx T l))(hk:l[k]? =some (lH i))(hm:K.may i=true)(h:WE K C Φ P Q n c ⟨σ.sl,(σ.n,.hp o)::(b,.bx T (l.set k (lH σ.n)))::(i,.u)::σ.ob,σ.n+1⟩):WE K C Φ P Q n c σ:=fun β s e hd=>h (upB β σ.n (β i)) (s.re (C.tg i) (C.tg σ.n)) e (hd.mvb ho hbx hk hm)
theorem O.ixA{g:Option (Nat×Bool)}{T:TypeId}{k k':IntKind}{xs:LI}{m:Nat}{j v:Int}(hN:NAg P U)(hu:P.underlying T=some (.array m U))(hg:Gu ops σ g)(hx:σ.ev x=some (AG (xs.map fun z=>lV (.int k z))))(hy:σ.ev y=some (VL (.int k' j)))(hl:Nat.beq xs.length m=true)(hv:idx xs j=some v)(hb:Nat.blt d n=true):Ox K C P n ops ⟨some d,.index T x y,ty,pos,af,g⟩ σ (F1 d (VL (.int k v))):=
 Ox.pure fun _ _ _ β s e hd q=>by
  obtain⟨w,h1,vs,h2,rfl⟩:=hd.ev hx;have hvs:∀{xs:LI} {vs:List Value},All2 β s (xs.map fun z=>lV (.int k z)) vs→vs=xs.map fun z=>Value.int k z:=by
   intro xs
   induction xs with
   | nil=>intro vs h;exact h
   | cons x xs ih=>
    rintro vs ⟨v,us,h1,h2,rfl⟩;rw [ih h2,show v=_ from h1.1];rfl
  rw [hvs h2] at h1;exact L.in1 (fun w=>hN.sz w) (fun w=>hN.agg w) hu (hd.gd hg) h1 (hd.evl hy) (by rw [yLm];exact yNb hl) (yk5 (f:=fun z=>Value.int k z) hv) hb (q _ ⟨rfl,rfl⟩)
end
@[reducible] def tT :Nat→List Bool
 | 0=> []
 | n+1=>oT::tT n
@[reducible] def tA :Nat→List Bool→List Bool
 | 0,l=>l
 | n+1,l=>oT::tA n l
@[reducible] def fA :Nat→List Bool→List Bool
 | 0,l=>l
 | n+1,l=>oF::fA n l
theorem ygn{f2:List Eff}{l:List (Nat×SV)}:∀{m:List Bool} {f1:List Eff},m.length≤f1.length→muM m (f1++f2) l=muM m f1 l
 | [],_,_=>rfl
 | _::_,[],h=>absurd h (Nat.not_succ_le_zero _)
 | b::m,f::fs,h=>by
  have:=ygn (f2:=f2) (l:=l) (m:=m) (f1:=fs) (Nat.le_of_succ_le_succ h);simp only [List.cons_append,muM,this]
theorem ygo{f2:List Eff}{l:List (Nat×Ob)}:∀{m:List Bool} {f1:List Eff},m.length≤f1.length→muO m (f1++f2) l=muO m f1 l
 | [],_,_=>rfl
 | _::_,[],h=>absurd h (Nat.not_succ_le_zero _)
 | b::m,f::fs,h=>by
  have:=ygo (f2:=f2) (l:=l) (m:=m) (f1:=fs) (Nat.le_of_succ_le_succ h);simp only [List.cons_append,muO,this]
def lenOk(k:Nat)(ms:List (Nat×List Bool)):Bool:=ms.all fun m=>Nat.ble m.2.length k
section
variable{K:Kx}{C:Cx}{P:Program}{n:Nat}{ops:Array Oper}{σ:Sx}
theorem Wst.pre{f2:List Eff}:∀{l:List Oper} {ms:List (Nat×List Bool)} {fs:List Eff},lenOk all.length ms=true→Wst K C P n ops all σ ms fs l→Wst K C P n ops (all++f2) σ ms fs l
 | [],ms,fs,_,_=>by cases ms <;> cases fs <;> trivial
 | o::os,m::ms,f::fs,hm,h=>by
  simp only [lenOk,List.all_cons,yAe] at hm;have hl:=yNl hm.1;refine⟨?_,Wst.pre hm.2 h.2⟩;have:muS σ (all++f2) m.2 m.1=muS σ all m.2 m.1:=by unfold muS;rw [ygn hl,ygo hl]
  rw [this];exact h.1
 | _::_,[],_,_,h=>by cases h
 | _::_,_::_,[],_,h=>by cases h
theorem Wst.app:∀{l l2:List Oper} {ms ms2:List (Nat×List Bool)} {fs fs2:List Eff},ms.length=l.length→fs.length=l.length→Wst K C P n ops all σ ms fs l→Wst K C P n ops all σ ms2 fs2 l2→Wst K C P n ops all σ (ms++ms2) (fs++fs2) (l++l2)
 | [],_,[],_,[],_,_,_,_,h2=>h2
 | o::os,_,m::ms,_,f::fs,_,h,h',h1,h2=>⟨h1.1,Wst.app (Nat.succ.inj h) (Nat.succ.inj h') h1.2 h2⟩
 | [],_,_::_,_,_,_,h,_,_,_=>by cases h
 | [],_,[],_,_::_,_,_,h,_,_=>by cases h
 | _::_,_,[],_,_,_,h,_,_,_=>by cases h
 | _::_,_,_::_,_,[],_,_,h,_,_=>by cases h
def preOk(k N:Nat)(ms:List (Nat×List Bool))(fs:List Eff):Bool:=Nat.ble k N&&(Nat.beq ms.length k&&(Nat.beq fs.length k&&lenOk fs.length ms))
theorem Wst.fin{l:List Oper}{k:Nat}{ms2:List (Nat×List Bool)}{fs2:List Eff}(hp:Wst K C P n ops fs1 σ ms1 fs1 (l.take k))(h2:Wst K C P n ops (fs1++fs2) σ ms2 fs2 (l.drop k))(hk:preOk k l.length ms1 fs1=true):Wst K C P n ops (fs1++fs2) σ (ms1++ms2) (fs1++fs2) l:=by
 simp only [preOk,yAe] at hk;obtain⟨h0,h1,h3,h4⟩:=hk;have h0:=yNl h0;have h1:=yNb h1;have h3:=yNb h3;have:=Wst.app (l:=l.take k) (l2:=l.drop k) (by rw [yLt];omega) (by rw [yLt];omega) (hp.pre (f2:=fs2) h4) h2;rwa [List.take_append_drop] at this
theorem Wst.mid{l:List Oper}{k j:Nat}{ms2:List (Nat×List Bool)}{fs2:List Eff}(hp:Wst K C P n ops fs1 σ ms1 fs1 (l.take k))(h2:Wst K C P n ops (fs1++fs2) σ ms2 fs2 ((l.take j).drop k))(hk:(Nat.ble k j&&preOk k l.length ms1 fs1)=true):Wst K C P n ops (fs1++fs2) σ (ms1++ms2) (fs1++fs2) (l.take j):=by
 rw [yAe] at hk;have hkj:=yNl hk.1;have hk:=hk.2;simp only [preOk,yAe] at hk;obtain⟨h0,h1,h3,h4⟩:=hk;have h0:=yNl h0;have h1:=yNb h1;have h3:=yNb h3;have e:l.take k=(l.take j).take k:=by rw [List.take_take,Nat.min_eq_left hkj]
 rw [e] at hp;have hl:(l.take j).length≥k:=by rw [yLt];omega
 have:=Wst.app (l:=(l.take j).take k) (l2:=(l.take j).drop k) (by rw [yLt];omega) (by rw [yLt];omega) (hp.pre (f2:=fs2) h4) h2;rwa [List.take_append_drop] at this
end
section
variable{K:Kx}{C:Cx}{Φ:Fr}{P:Program}{Q:Exit→Act→World→Prop}{n:Nat}{σ:Sx}
theorem WE.drP{id:Nat}{l:List Oper}(k:Nat)(ms:List (Nat×List Bool))(fs:List Eff)(hs:Wst K C P n l.toArray fs σ ms fs (l.take k))(h:Wst K C P n l.toArray fs σ ms fs (l.take k)→WE K C Φ P Q n (.region id l.toArray true) σ):WE K C Φ P Q n (.region id l.toArray true) σ:=h hs
theorem WE.drX{id:Nat}{l:List Oper}{k:Nat}(hp:Wst K C P n l.toArray fs1 σ ms1 fs1 (l.take k))(j:Nat)(ms:List (Nat×List Bool))(fs:List Eff)(hs:Wst K C P n l.toArray (fs1++fs) σ ms fs ((l.take j).drop k))(hk:(Nat.ble k j&&preOk k l.length ms1 fs1)=true)(h:Wst K C P n l.toArray (fs1++fs) σ (ms1++ms) (fs1++fs) (l.take j)→WE K C Φ P Q n (.region id l.toArray true) σ):WE K C Φ P Q n (.region id l.toArray true) σ:=h (hp.mid hs hk)
theorem WE.drF{id:Nat}{l:List Oper}{k:Nat}(hp:Wst K C P n l.toArray fs1 σ ms1 fs1 (l.take k))(ms:List (Nat×List Bool))(fs:List Eff)(τ:Sx)(hs:Wst K C P n l.toArray (fs1++fs) σ ms fs (l.drop k))(hok:(preOk k l.length ms1 fs1&&(smp (fs1++fs) σ&&(nsOk (fs1++fs) σ.n (ms1++ms)&&y8V P K ((ms1++ms).map fun m=>ixs m.2 0) (fs1++fs) σ.n l.toArray)))=true)(hτ:τ.is K (muS σ (fs1++fs) (List.replicate l.length true) (muK (List.replicate l.length true) (fs1++fs) σ.n)) [])(h0:WX K C Φ Q n .normal τ):WE K C Φ P Q n (.region id l.toArray true) σ:=by
 obtain⟨h1,h2⟩:=Bool.and_eq_true_iff.1 hok;exact .drw (ms1++ms) (fs1++fs) τ (hp.fin hs h1) h2 hτ h0
theorem WE.drH{id:Nat}{l:List Oper}{k:Nat}(hp:Wst K C P n l.toArray fs1 σ ms1 fs1 (l.take k))(j:Nat)(ms:List (Nat×List Bool))(fs:List Eff)(τ:Sx)(hs:Wst K C P n l.toArray (fs1++fs) σ ms fs (l.drop k))(hok:(preOk k l.length ms1 fs1&&(okQ ((ms1++ms).map fun m=>ixs m.2 0) (fs1++fs) l.length σ l.length (List.replicate l.length true)&&(Nat.beq (muK (List.replicate l.length true) (fs1++fs) σ.n) j&&(okKs ((ms1++ms).map fun m=>ixs m.2 0) (fs1++fs) l.length σ 0 (ms1++ms)&&(nsOk (fs1++fs) σ.n (ms1++ms)&&y8V P K ((ms1++ms).map fun m=>ixs m.2 0) (fs1++fs) σ.n l.toArray)))))=true)(hτ:τ.is K (muS σ (fs1++fs) (List.replicate l.length true) j) [])(h0:WX K C Φ Q n .normal τ):WE K C Φ P Q n (.region id l.toArray true) σ:=by
 obtain⟨h1,h2⟩:=Bool.and_eq_true_iff.1 hok;exact .drg j (ms1++ms) (fs1++fs) τ (hp.fin hs h1) h2 hτ h0
end
section
variable{K:Kx}{C:Cx}{P:Program}{n:Nat}{ops:Array Oper}{σ:Sx}{g:Option (Nat×Bool)}{d:Nat}{ty:TypeId}{pos:String}{af:Array Edge}
theorem WX.ou{Φ:Fr}{Q:Exit→Act→World→Prop}{x:Exit}(i:Nat)(hi:Nat.blt i σ.n=true)(h:WX K C Φ Q n x ⟨σ.sl,(i,.u)::σ.ob,σ.n⟩):WX K C Φ Q n x σ:=fun β s e hd=>h β s e ⟨hd.ok,hd.mv,hd.b0,hd.m,hd.sl,fun j q hq=>by
 rcases yj hq with ⟨rfl,rfl⟩|⟨_,hq⟩
 ·trivial
 ·exact hd.ob j q hq,hd.fs,fun j q hq=>by
 rcases yj hq with ⟨rfl,rfl⟩|⟨_,hq⟩
 ·exact ⟨by simpa using hi,fun k hk=>by cases hk⟩
 ·exact hd.fo j q hq⟩
end
section
variable{α β γ:Type}{P:Program}
def lF1(P:Program)(a:α→List Value)(r:β→Value)(m:Option (α→Option β)):LV:=⟨fun _ s v=>FO1 P s v a r m,[],none,none,fun _ hl h=>h.mono hl,nofun,nofun,fun h=>h.one⟩
def lF2(P:Program)(a:α→β→List Value)(r:γ→Value)(m:Option (α→β→Option γ)):LV:=⟨fun _ s v=>FO2 P s v a r m,[],none,none,fun _ hl h=>h.mono hl,nofun,nofun,fun h=>h.one⟩
def lG1(P:Program)(a:α→List Value)(r:β→Value)(m:α→Option β):LV:=⟨fun _ s v=>FV1 P s v a r m,[],none,none,fun _ hl h=>h.mono hl,nofun,nofun,fun h=>by obtain⟨_,_,_,e,_⟩:=h;rw [e];rfl⟩
def lG2(P:Program)(a:α→β→List Value)(r:γ→Value)(m:α→β→Option γ):LV:=⟨fun _ s v=>FV2 P s v a r m,[],none,none,fun _ hl h=>by obtain⟨f,fst,cap,h1,h2,h3⟩:=h;exact⟨f,fst,cap,h1,h2,fun x y r hm s'' hl'=>h3 x y r hm s'' (hl.trans hl')⟩,nofun,nofun,fun h=>by obtain⟨_,_,_,e,_⟩:=h;rw [e];rfl⟩
variable{a1:α→List Value}{r1:β→Value}{a2:α→β→List Value}{r2:γ→Value}
theorem Lv.f1{m:Option (α→Option β)}:Lv (rF1 P a1 r1) m [lF1 P a1 r1 m]:=fun _ _ _ ⟨v,e,h⟩=>⟨v,[],h,rfl,e⟩
theorem Lv.f2{m:Option (α→β→Option γ)}:Lv (rF2 P a2 r2) m [lF2 P a2 r2 m]:=fun _ _ _ ⟨v,e,h⟩=>⟨v,[],h,rfl,e⟩
theorem Rv.z1 :Rv (rF1 P a1 r1) [lV .nilFunc] none:=fun _ _ _ ⟨v,_,h,h2,e⟩=>⟨v,by rw [e,show _= [] from h2],h.1⟩
theorem Rv.z2 :Rv (rF2 P a2 r2) [lV .nilFunc] none:=fun _ _ _ ⟨v,_,h,h2,e⟩=>⟨v,by rw [e,show _= [] from h2],h.1⟩
theorem Fw.plain{f:FuncId}{r:SV}{vs:List Value}{w:Value}(h:Fw P f ⟨0,[]⟩ av [] r [])(s:Sig)(ha:∀β,All3 β s av vs)(hr:∀β s v,r.p β s v→v=w):Calls P f vs.toArray s.w (RetS No s fun v _=>v=w):=
 Calls.mono (h.is [] (fun _=> .nilFunc) s vs rfl (yNr _) (by simp) (by simp) (ha _) (fun i o h=>by simp at h)) fun en w' ⟨v,s',e1,e2,m,β',_,g,_⟩=>⟨v,s',e1,e2,m.weak fun t ⟨i,hi,_⟩=>(by cases hi),hr _ _ _ g⟩
theorem Rv.c1{f:FuncId}{m:α→Option β}{av:α→List TV}{rv:β→TV}(hcf:Cf P f)(hF:∀x r,m x=some r→Fw P f ⟨0,[]⟩ (av x) [] (.v (rv r)) [])(ha:∀x β s,All3 β s (av x) (a1 x))(hr:∀r β s v,(rv r).p β s v→v=r1 r):Rv (rF1 P a1 r1) [lV (.func (.func f) #[] #[])] (some m):=fun _ s _ ⟨v,_,h,h2,e⟩=>⟨v,by rw [e,show _= [] from h2],f,#[],#[],h.1,hcf,fun x r hm s' _=>by
 have:=(hF x r hm).plain s' (ha x · s') (hr r);simpa using this⟩
theorem Rv.c2{f:FuncId}{m:α→β→Option γ}{av:α→β→List TV}{rv:γ→TV}(hcf:Cf P f)(hF:∀x y r,m x y=some r→Fw P f ⟨0,[]⟩ (av x y) [] (.v (rv r)) [])(ha:∀x y β s,All3 β s (av x y) (a2 x y))(hr:∀r β s v,(rv r).p β s v→v=r2 r):Rv (rF2 P a2 r2) [lV (.func (.func f) #[] #[])] (some m):=fun _ s _ ⟨v,_,h,h2,e⟩=>⟨v,by rw [e,show _= [] from h2],f,#[],#[],h.1,hcf,fun x y r hm s' _=>by
 have:=(hF x y r hm).plain s' (ha x y · s') (hr r);simpa using this⟩
theorem Cnv.fo1{o:Option (α→Option β)}{m:α→Option β}(h:o=some m):Cnv (lF1 P a1 r1 o) (lG1 P a1 r1 m):=fun _ _ _ g=>by subst h;exact g
theorem Cnv.fo2{o:Option (α→β→Option γ)}{m:α→β→Option γ}(h:o=some m):Cnv (lF2 P a2 r2 o) (lG2 P a2 r2 m):=fun _ _ _ g=>by subst h;exact g
variable{K:Kx}{C:Cx}{n:Nat}{ops:Array Oper}{σ:Sx}{g:Option (Nat×Bool)}{d:Nat}{ty:TypeId}{pos:String}{af:Array Edge}
theorem O.fne1{T:TypeId}{m:Option (α→Option β)}{p q:Array TypeId}{c:Bool}(hu:P.underlying T=some (.func p q c))(hg:Gu ops σ g)(hx:σ.ev x=some (sL (lF1 P a1 r1 m)))(hy:σ.ev y=some (VL .nilFunc))(hb:Nat.blt d n=true):Ox K C P n ops ⟨some d,.binOp .neq T x y U,ty,pos,af,g⟩ σ (F1 d (VL (.bool m.isSome))):=
 Ox.pure fun _ _ _ β s e hd k=>by
  obtain⟨v,h1,h2⟩:=hd.evv hx;exact L.fne1 hu h2 (hd.gd hg) h1 (hd.evl hy) hb (k _ ⟨rfl,rfl⟩)
theorem O.fne2{T:TypeId}{m:Option (α→β→Option γ)}{p q:Array TypeId}{c:Bool}(hu:P.underlying T=some (.func p q c))(hg:Gu ops σ g)(hx:σ.ev x=some (sL (lF2 P a2 r2 m)))(hy:σ.ev y=some (VL .nilFunc))(hb:Nat.blt d n=true):Ox K C P n ops ⟨some d,.binOp .neq T x y U,ty,pos,af,g⟩ σ (F1 d (VL (.bool m.isSome))):=
 Ox.pure fun _ _ _ β s e hd k=>by
  obtain⟨v,h1,h2⟩:=hd.evv hx;exact L.fne2 hu h2 (hd.gd hg) h1 (hd.evl hy) hb (k _ ⟨rfl,rfl⟩)
theorem Sx.as{l l':LV}(hx:σ.ev x=some (sL l))(hc:Cnv l l'){β:Nat→Value}{s:Sig}{e:List (Nat×Value)}(hd:Den K C σ β s e):∃v,Env.ev e x=some v∧l'.p β s v:=by
 obtain⟨v,h1,h2⟩:=hd.evv hx;exact⟨v,h1,hc _ _ _ h2⟩
theorem All3.vals{β:Nat→Value}{s:Sig}:∀{l:List Value} {vs:List Value},All3 β s (l.map fun v=>⟨false,[lV v]⟩) vs→vs=l
 | [],_,h=>h
 | a::l,_,⟨v,us,h1,h2,e⟩=>by rw [e,All3.vals h2,h1.1]
theorem O.fh1{xs:List Operand}{ca:Call}{o:Option (α→Option β)}{m:α→Option β}{y:α}{r:β}(hx:σ.ev x=some (sL (lF1 P a1 r1 o)))(hc:ca.callee= .value x)(hca:ca.args=xs.toArray)(hg:Gu ops σ g)(hxs:σ.evs xs=some ((a1 y).map fun v=>⟨false,[lV v]⟩))(hm0:o=some m)(hm:m y=some r)(ho:(r1 r).oneCell'=true)(hb:Nat.blt d n=true):Ox K C P n ops ⟨some d,.call ca,ty,pos,af,g⟩ σ (F1 d (VL (r1 r))):=fun Φ Q os β s e hd k=>by
 obtain⟨v,h1,h2⟩:=Sx.as hx (Cnv.fo1 hm0) hd;obtain⟨vs,h3,h4⟩:=hd.evs hxs;rw [h4.vals] at h3;exact L.fv1 h2 hc hca (hd.gd hg) h1 h3 hm hb fun s' m'=>k β s' _ (Aft.one m' ⟨rfl,ho⟩)
theorem O.fh2{δ:Type}{a2:α→δ→List Value}{xs:List Operand}{ca:Call}{o:Option (α→δ→Option γ)}{m:α→δ→Option γ}{y:α}{z:δ}{r:γ}(hx:σ.ev x=some (sL (lF2 P a2 r2 o)))(hc:ca.callee= .value x)(hca:ca.args=xs.toArray)(hg:Gu ops σ g)(hxs:σ.evs xs=some ((a2 y z).map fun v=>⟨false,[lV v]⟩))(hm0:o=some m)(hm:m y z=some r)(ho:(r2 r).oneCell'=true)(hb:Nat.blt d n=true):Ox K C P n ops ⟨some d,.call ca,ty,pos,af,g⟩ σ (F1 d (VL (r2 r))):=fun Φ Q os β s e hd k=>by
 obtain⟨v,h1,h2⟩:=Sx.as hx (Cnv.fo2 hm0) hd;obtain⟨vs,h3,h4⟩:=hd.evs hxs;rw [h4.vals] at h3;exact L.fv2 h2 hc hca (hd.gd hg) h1 h3 hm hb fun s' m'=>k β s' _ (Aft.one m' ⟨rfl,ho⟩)
end
def BO(s:Sig)(t:Nat)(a:Option Nat):Prop:=∃(b:Nat) (es:List MapEntry),a=some b∧s.w.heap[b]? =some (.map es.toArray es.length)∧s.tag b=t∧∀(i:Nat) (e:MapEntry),es[i]? =some e→e.born=i
def kent{β:Type}(m:List (Int×β))(k:Int)(z:β):List (Int×β):=if kidx (m.map (·.1)) k<m.length then m else m++[(k,z)]
theorem yj1{m:List (Int×β)}{k:Int}{z:β}(h:¬kidx (m.map (·.1)) k<m.length):kidx ((m++[(k,z)]).map (·.1)) k=m.length:=by
 have hno:∀p∈m.map (·.1),(k==p)=false:=fun p hp=>by
  have hle:=List.findIdx_lt_length_of_exists (p:=fun p=>k==p) (xs:=m.map (·.1));cases hb:k==p with
  | false=>rfl
  | true=>
   have:=hle ⟨p,hp,hb⟩;rw [yLm] at this;exact(h this).elim
 have e:kidx (m.map (·.1)) k=m.length:=by
  have:=yb4 (m.map (·.1)) k;rw [yLm] at this;omega
 rw [List.map_append];unfold kidx at e ⊢;rw [List.findIdx_append];rw [yLm,iN (by omega)];simp
theorem yfq{m:List (Int×β)}{k:Int}{z:β}:kidx ((kent m k z).map (·.1)) k=kidx (m.map (·.1)) k∧kidx (m.map (·.1)) k<(kent m k z).length:=by
 unfold kent;split
 ·rename_i h;exact⟨rfl,h⟩
 ·rename_i h;have e:kidx (m.map (·.1)) k=m.length:=by
   have:=yb4 (m.map (·.1)) k;rw [yLm] at this;omega
  exact⟨(yj1 h).trans e.symm,by rw [e];simp⟩
theorem yj2(m:List (Int×β))(k:Int)(z v:β):kput (kent m k z) k v=kput m k v:=by
 obtain⟨h1,h2⟩:=yfq (m:=m) (k:=k) (z:=z);rw [kput,h1,iP h2,kput];unfold kent at h2 ⊢;split
 ·rename_i h;rfl
 ·rename_i h;have e:kidx (m.map (·.1)) k=m.length:=by
   have:=yb4 (m.map (·.1)) k;rw [yLm] at this;omega
  rw [e,List.set_append_right _ _ (yNr _),Nat.sub_self];rfl
theorem yhH{γ:Type}{m:List (Int×β)}{m':List (Int×γ)}(h:m.map (·.1)=m'.map (·.1))(k:Int)(z:β)(z':γ):(kent m k z).map (·.1)=(kent m' k z').map (·.1):=by
 have hl:m.length=m'.length:=by have:=congrArg List.length h;simpa using this
 unfold kent;rw [h,hl];split
 ·exact h
 ·rw [List.map_append,List.map_append,h];rfl
section
variable{Φ:Fr}{P:Program}{Q:Exit→Act→World→Prop}{n:Nat}{e:List (Nat×Value)}{s s':Sig}{ops:Array Oper}{os:List Oper}{d:Nat}{ty:TypeId}{pos:String}{af:Array Edge}{g:Option (Nat×Bool)}
variable{T kt et:TypeId}{a:Option Nat}{cap t:Nat}{m:List (Int×Value)}{k:Int}{zv:Value}
theorem BO.to{t':Nat}(h:BO s t a)(hb:∀b,b<s.w.heap.size→s.tag b=t→s'.w.heap[b]? =s.w.heap[b]? ∧s'.tag b=t'):BO s' t' a:=by
 obtain⟨b,es,e,h1,h2,h3⟩:=h;obtain⟨g1,g2⟩:=hb b (yAs.1 h1).1 h2;exact⟨b,es,e,g1.trans h1,g2,h3⟩
theorem L.mkC(t:Nat)(hd:Nat.blt d n=true)(hw:Wt ops e g)
  (h:∀a cap s',Mv No s s'→MapO kvI rVal s' t T a cap []→BO s' t a→L Φ P Q n ops os ((d,Value.map a)::e) s'.w):L Φ P Q n ops (⟨some d,.makeMap T none,ty,pos,af,g⟩::os) e s.w:=by
 refine L.val hw hd (v:= .map (some s.w.heap.size)) (w':=s.w.alloc (.map #[] 0)) (fun ac ha=>by simp [execOp,run_makeMap]) ?_;refine h (some s.w.heap.size) 0 ⟨s.w.alloc (.map #[] 0),tagUp s.tag s.w.heap.size t⟩ ?_ ⟨rfl,s.w.heap.size,[],0,rfl,heap_alloc_new s.w _,y7A _ _ _,trivial,fun i e p he=>by simp at he⟩ ⟨s.w.heap.size,[],rfl,heap_alloc_new s.w _,y7A _ _ _,fun i e he=>by simp at he⟩;exact⟨rfl,rfl,rfl,by simp,fun b hb _=>⟨heap_alloc_old s.w _ hb,y7X hb⟩⟩
theorem L.enC(hT:Md P T kt et kvI rVal zv zv)(hM:MapO kvI rVal s t T' a cap m)(hB:BO s t a)(ht0:0<t)(hw:Wt ops e g)(hx:Env.ev e x=some (.map a))(hy:Env.ev e y=some (.int .i64 k))(hd:Nat.blt d n=true)
  (h:∀v s',v.oneCell'=true→Mv (One t) s s'→MapO kvI rVal s' t T' a cap (kent m k zv)→BO s' t a→L Φ P Q n ops os ((d,.tuple #[v,.int .i64 (kidx (m.map (·.1)) k:Int)])::e) s'.w):L Φ P Q n ops (⟨some d,.mapEntry T x y,ty,pos,af,g⟩::os) e s.w:=by
 obtain⟨b,es,e1,h1,h2,hb⟩:=hB;obtain⟨b',es',clock,e2,h3,_,h4,h5⟩:=hM.is;have eb:b'=b:=by rw [e1] at e2;exact(ySi e2).symm
 subst eb;have eo:=h3.symm.trans h1;simp only [yIj,Obj.map.injEq] at eo;obtain⟨ee,ec⟩:=eo;have ee:es'=es:=by simpa using congrArg Array.toList ee
 subst ee ec e1;have hf:=hT.key.find es' _ h4 k s.w;have hy:Env.ev e y=some (kvI k):=hy;have hlen:es'.length=m.length:=by rw [h4.len,yLm]
 by_cases hlt:kidx (m.map (·.1)) k<m.length
 ·have hel:kidx (m.map (·.1)) k<es'.length:=by omega
  have hkey:=h4.at _ hel (by simpa using hlt);have hbeq:(k==(m.map (·.1))[kidx (m.map (·.1)) k]'(by simpa using hlt))=true:=List.findIdx_getElem (p:=fun p=>k==p) (w:=by simpa [kidx] using hlt);have hst:=hT.key.stays k _ s.w hbeq;rw [←hkey] at hst;have hk2:es'[kidx (m.map (·.1)) k].key=kvI k:=by rw [hkey,←beq_iff_eq.1 hbeq]
  have hborn:=hb _ _ (yGe hel);have hone:es'[kidx (m.map (·.1)) k].val.oneCell'=true:=by
   have:=h5 _ _ _ (yGe hel) (yGe hlt);have hv:=(List.cons.inj this.1).1;rw [hv];exact this.2
  rw [yGe hel,Option.map_some] at hf;have hsame:es'.set (kidx (m.map (·.1)) k) { es'[kidx (m.map (·.1)) k] with key:=kvI k }=es':=by
   apply List.ext_getElem?;intro j;by_cases hj:kidx (m.map (·.1)) k=j
   ·subst hj;rw [List.getElem?_set_self hel,yGe hel,←hk2]
   ·rw [List.getElem?_set_ne hj]
  have hset:=y7Y (s:=s) (t:=t) (es':=es') (clock':=es'.length) h1 h2;refine L.val hw hd (v:= .tuple #[es'[kidx (m.map (·.1)) k].val,.int .i64 (kidx (m.map (·.1)) k:Int)]) (w':={ s.w with heap:=s.w.heap.setIfInBounds b' (.map es'.toArray es'.length) }) (fun ac ha=>?_) (h _ ⟨_,_⟩ hone hset.1 ?_ ⟨b',es',rfl,hset.2,h2,hb⟩)
  ·simp [execOp,ha.ev hx,ha.ev hy,Instr.mapEntry,run_underlying hT.und,gobj h1,hT.key.check,hf,hel,hst,sobj _ h1,goInt,hborn];rw [lmod _ (yGe hel),hsame]
  ·rw [kent,iP hlt];exact⟨hM.cap0,b',es',es'.length,rfl,hset.2,h2,h4,fun i f p hf' hp=>h5 i f p hf' hp⟩
 ·have hge:es'.length≤kidx (m.map (·.1)) k:=by omega
  have hix:kidx (m.map (·.1)) k=es'.length:=by
   have:=yb4 (m.map (·.1)) k;rw [yLm] at this;omega
  rw [yGn hge,Option.map_none] at hf;have hset:=y7Y (s:=s) (t:=t) (es':=es'++[(⟨kvI k,zv,es'.length⟩:MapEntry)]) (clock':=es'.length+1) h1 h2;have hz:=hT.zrd s;refine L.val hw hd (v:= .tuple #[zv,.int .i64 (kidx (m.map (·.1)) k:Int)]) (w':={ s.w with heap:=s.w.heap.setIfInBounds b' (.map (es'++[(⟨kvI k,zv,es'.length⟩:MapEntry)]).toArray (es'.length+1)) }) (fun ac ha=>?_) (h _ ⟨_,_⟩ hz.2 hset.1 ?_ ⟨b',es'++[(⟨kvI k,zv,es'.length⟩:MapEntry)],rfl,by rw [hset.2];simp,h2,fun i f hf'=>?_⟩)
  ·simp [execOp,ha.ev hx,ha.ev hy,Instr.mapEntry,run_underlying hT.und,gobj h1,hT.key.check,hf,hT.zero,sobj _ h1,goInt,hix]
  ·rw [kent,iN hlt];refine⟨hM.cap0,b',_,_,rfl,hset.2,h2,?_,fun i f p hf' hp=>?_⟩
   ·rw [List.map_append];exact h4.push rfl
   ·by_cases hi:i<es'.length
    ·rw [yAl hi] at hf';rw [yAl (by omega)] at hp;exact h5 i f p hf' hp
    ·rw [yAr (by omega)] at hf';rw [yAr (by omega)] at hp;by_cases h0:i-es'.length=0
     ·rw [h0] at hf';rw [show i-m.length=0 by omega] at hp;simp only [List.getElem?_cons_zero,yIj] at hf' hp;subst hf';subst hp;exact hz
     ·rw [yGn (by simp;omega)] at hf';cases hf'
  ·by_cases hi:i<es'.length
   ·rw [yAl hi] at hf';exact hb i f hf'
   ·rw [yAr (by omega)] at hf';by_cases h0:i-es'.length=0
    ·rw [h0] at hf';simp only [List.getElem?_cons_zero,yIj] at hf';subst hf';show es'.length=i;omega
    ·rw [yGn (by simp;omega)] at hf';cases hf'
theorem L.esC{z:Operand}{v:Value}(hM:MapO kvI rVal s t T' a cap m)(hB:BO s t a)(ht0:0<t)(hlt:kidx (m.map (·.1)) k<m.length)(hone:v.oneCell'=true)(hw:Wt ops e g)(hx:Env.ev e x=some (.map a))(hy:Env.ev e y=some (.int .i64 (kidx (m.map (·.1)) k:Int)))(hz:Env.ev e z=some v)
  (h:∀s',Mv (One t) s s'→MapO kvI rVal s' t T' a cap (kput m k v)→BO s' t a→L Φ P Q n ops os e s'.w):L Φ P Q n ops (⟨none,.entryStore T x y z,ty,pos,af,g⟩::os) e s.w:=by
 obtain⟨b,es,e1,h1,h2,hb⟩:=hB;obtain⟨b',es',clock,e2,h3,_,h4,h5⟩:=hM.is;have eb:b'=b:=by rw [e1] at e2;exact(ySi e2).symm
 subst eb;have eo:=h3.symm.trans h1;simp only [yIj,Obj.map.injEq] at eo;obtain⟨ee,ec⟩:=eo;have ee:es'=es:=by simpa using congrArg Array.toList ee
 subst ee ec e1;have hlen:es'.length=m.length:=by rw [h4.len,yLm]
 have hel:kidx (m.map (·.1)) k<es'.length:=by omega
 have hkey:=h4.at _ hel (by simpa using hlt);have hk:(m.map (·.1))[kidx (m.map (·.1)) k]'(by simpa using hlt)=k:=yba (by simpa using hlt);rw [hk] at hkey;have hfind:es'.toArray.findIdx? (fun e=>(e.born:Int)==(kidx (m.map (·.1)) k:Int))=some (kidx (m.map (·.1)) k):=by
  rw [List.findIdx?_toArray,List.findIdx?_eq_some_iff_getElem];refine⟨hel,by rw [hb _ _ (yGe hel)];simp,fun j hj hc=>?_⟩;have:=hb j _ (yGe (by omega));rw [this] at hc;simp at hc;omega
 have hset:=y7Y (s:=s) (t:=t) (es':=es'.set (kidx (m.map (·.1)) k) { es'[kidx (m.map (·.1)) k] with val:=v }) (clock':=es'.length) h1 h2;refine L.unit hw (w':={ s.w with heap:=s.w.heap.setIfInBounds b' (.map (es'.set (kidx (m.map (·.1)) k) { es'[kidx (m.map (·.1)) k] with val:=v }).toArray es'.length) }) (fun ac ha=>?_) (h ⟨_,_⟩ hset.1 ?_ ⟨b',es'.set (kidx (m.map (·.1)) k) { es'[kidx (m.map (·.1)) k] with val:=v },rfl,by rw [hset.2];simp,h2,fun i f hf'=>?_⟩)
 ·simp [execOp,ha.ev hx,ha.ev hy,ha.ev hz,Instr.entryStore,gobj h1,hfind,sobj _ h1,asInt,asIntOf];rw [lmod _ (yGe hel)]
 ·refine ⟨hM.cap0,b',_,_,rfl,hset.2,h2,?_,fun i f p hf' hp=>?_⟩
  ·rw [kput,iP hlt,List.map_set];exact h4.set hkey
  ·rw [kput,iP hlt] at hp;by_cases hi:kidx (m.map (·.1)) k=i
   ·subst hi;rw [List.getElem?_set_self hel,yIj] at hf';rw [List.getElem?_set_self hlt,yIj] at hp;subst hf';subst hp;exact⟨rfl,hone⟩
   ·rw [List.getElem?_set_ne hi] at hf' hp;exact h5 i f p hf' hp
 ·by_cases hi:kidx (m.map (·.1)) k=i
  ·subst hi;rw [List.getElem?_set_self hel,yIj] at hf';subst hf';have:=hb _ _ (yGe hel);exact this
  ·rw [List.getElem?_set_ne hi] at hf';exact hb i f hf'
end
section
variable{α:Type}{r:Rep α}{s s':Sig}{t u:Nat}{T':TypeId}{τ:Nat→Nat}{a:Option Nat}{c:Nat}
variable{m:List (Int×List α)}{hs:List (Int×Value)}{h:Value}{o:Option Int}{k:Int}{z:Value}
def usS(s':Sig)(t:Nat):Sig:=⟨s'.w,fun b=>if s'.tag b % 2=1 then t else s'.tag b/2⟩
theorem ykb{m:List (Int×β)}{k:Int}{z:β}(h:(m.map (·.1)).Nodup):((kent m k z).map (·.1)).Nodup:=by
 unfold kent;split
 ·exact h
 ·rename_i h2;have:=ygm (k:=k) (v:=z) h;rwa [kput,iN h2] at this
theorem yfr{m:List (Int×β)}{k k':Int}{z v:β}{j:Nat}(hk:k'≠k)(h:(kent m k z)[j]? =some (k',v)):m[j]? =some (k',v):=by
 unfold kent at h;split at h
 ·exact h
 ·by_cases hj:j<m.length
  ·rwa [yAl hj] at h
  ·rw [yAr (by omega)] at h;by_cases h0:j-m.length=0
   ·rw [h0] at h;simp only [List.getElem?_cons_zero,yIj,Prod.mk.injEq] at h;exact(hk h.1.symm).elim
   ·rw [yGn (by simp;omega)] at h;cases h
theorem MtbP.ent(hr:FlatR r)(H:MtbP r T' (some k) m s t h hs τ a c)(mv:Mv (One (2*0+1)) (sp s t τ) s')(hR:MapO kvI rVal s' (2*0+1) 0 a c (kent hs k z)):
  MtbP r T' (some k) (kent m k []) (usS s' t) t h (kent hs k z) (fun b=>s'.tag b/2) a c∧Mv (One t) s (usS s' t):=by
 have odd:∀k b,s'.tag b=2*k+1→(sp (usS s' t) t (fun b=>s'.tag b/2)).tag b=2*k+1:=fun k b e=>by
  have h1:(usS s' t).tag b=t:=iP (by omega);rw [sp_at h1];omega
 refine⟨⟨H.e,hR.fl y5C fun b _ e=>⟨rfl,odd 0 b e⟩,yhH H.key k z [],ykb H.nd,fun j k' hd ys g1 g2 g3=>?_⟩,?_⟩
 ·have hk:k'≠k:=fun e=>g3 (by rw [e]);obtain⟨a,c,e,h5⟩:=H.inn j k' hd ys (yfr hk g1) (yfr hk g2) g3;refine⟨a,c,e,h5.fl hr fun b hb e=>?_⟩;obtain⟨q1,q2⟩:=mv.blk b hb (by rw [e];show ¬2*(j+1)+1=2*0+1;omega);exact⟨q1,odd _ b (q2.trans e)⟩
 ·refine ⟨mv.os,mv.tape,mv.output,mv.size,fun b hb hn=>?_⟩;have hn:¬s.tag b=t:=hn;have h1:(sp s t τ).tag b=2*s.tag b:=iN hn;obtain⟨q1,q2⟩:=mv.blk b hb (by rw [h1];show ¬2*s.tag b=2*0+1;omega);rw [h1] at q2;refine⟨q1,?_⟩;show(if s'.tag b % 2=1 then t else s'.tag b/2)=s.tag b;rw [iN (by omega),q2];omega
theorem BO.tk(H:MtbP r T' o m s t h hs τ a c)(hB:BO s t a)(i:Nat):BO (tkS s t u i τ) t a:=by
 obtain⟨b,es,e,h1,h2,h3⟩:=hB;obtain⟨b',es',clock,e2,_,g3,_⟩:=H.out.is;have eb:b'=b:=by rw [e] at e2;exact(ySi e2).symm
 subst eb;refine⟨b',es,e,h1,?_,h3⟩;show(if s.tag b'=t∧τ b'=i+1 then u else s.tag b')=t;rw [iN (fun g=>by have:=(y8a g3).2;omega),h2]
theorem BO.sp(H:MtbP r T' o m s t h hs τ a c)(hB:BO s t a):BO (Go.Proofs.YtfdeiphkmjdifaaGreatDoor.sp s t τ) (2*0+1) a:=by
 obtain⟨b,es,e,h1,h2,h3⟩:=hB;obtain⟨b',es',clock,e2,_,g3,_⟩:=H.out.is;have eb:b'=b:=by rw [e] at e2;exact(ySi e2).symm
 subst eb;exact⟨b',es,e,h1,g3,h3⟩
def MTC{α:Type}{r:Rep α}(hr:FlatR r)(T':TypeId)(o:Option Int)(m:List (Int×List α)):Ob:= .hp ⟨fun s t h=>∃hs τ a c,MtbP r T' o m s t h hs τ a c∧BO s t a,fzMt r m o,
 fun mv ht _ ⟨hs,τ,a,c,h,hB⟩=>
  have hb:∀b,b<_→_→_:=fun b hb e=>by
   obtain⟨g1,g2⟩:=mv.blk b hb (by rw [e];exact ht);exact⟨g1,g2.trans e⟩
  ⟨hs,τ,a,c,h.to hr hb,hB.to hb⟩,
 fun _ hw ht ⟨hs,τ,a,c,h,hB⟩=>
  have hb:∀b,b<_→_→_:=fun b _ e=>⟨by rw [hw],ht b e⟩
  ⟨hs,τ,a,c,h.to hr hb,hB.to hb⟩,fun⟨_,_,_,_,h,_⟩ _=>h.fz⟩
end
section
variable{K:Kx}{C:Cx}{P:Program}{n:Nat}{ops:Array Oper}{σ:Sx}{d q i:Nat}{ty:TypeId}{pos:String}{af:Array Edge}{g:Option (Nat×Bool)}{β:Nat→Value}{s s':Sig}{e:List (Nat×Value)}
variable{α:Type}{r:Rep α}{hr:FlatR r}{T2:TypeId}{o:Option Int}{m:List (Int×List α)}{ys:List α}{k:Int}{T kt et:TypeId}
theorem fMc :∀z,MTC hr T2 none m= .hp z→z.fz.refs= []:=fun z e=>by cases e;rfl
theorem O.mkC(hr:FlatR r)(T2:TypeId)(i:Nat)(hi:Nat.ble σ.n i=true)(hg:Gu ops σ g)(hb:Nat.blt d n=true):Ox K C P n ops ⟨some d,.makeMap T none,ty,pos,af,g⟩ σ (FN d i (lH i) (MTC hr T2 none [])):=fun Φ Q os β s e hd k=>
 L.mkC (T:=T) (C.tg i) hb (hd.gd hg) fun a c s' m h5 h6=>k _ s' _ (Aft.new hi m.no (lH_at rfl) ⟨[],_,a,c,MtbP.made (h5.fl y5C fun b _ e=>⟨rfl,e⟩),h6⟩)
theorem O.luC(i:Nat)(hT:Md P T kt et kvI rVal (.slice none 0 0) (.slice none 0 0))(hi:Nat.ble σ.n i=true)(hg:Gu ops σ g)(hx:σ.ev x=some (sL (lH q)))(ho:aget σ.ob q=some (MTC hr T2 none m))(hy:Ky K C σ y (kvI k))(hb:Nat.blt d n=true):
  Ox K C P n ops ⟨some d,.lookup T x y false,ty,pos,af,g⟩ σ (FT d i q (lH i) (ROW r T2 ((kget m k).getD [])) (MTC hr T2 (some k) m)):=fun Φ Q os β s e hd kc=>by
 obtain⟨v,h1,h2,_⟩:=hd.evv hx;obtain⟨hs,τ,a,c,H,hB⟩:=hd.ob q _ ho;have hq:q<σ.n:=(hd.fo _ _ ho).1;have hqi:q≠i:=by have:=yNl hi;omega
 have hu:C.tg i≠C.tg q:=fun e=>hqi (hd.ok.inj e).symm;obtain⟨g1,⟨a2,c2,e2,g2⟩,g3⟩:=H.take (u:=C.tg i) hr k hu;exact L.mlV (s:=sp s (C.tg q) τ) hT H.out.any (hd.gd hg) (by rw [h1,h2,H.e]) (hy β s e hd) hb fun hone=>kc (upB β i ((kget hs k).getD (.slice none 0 0))) (tkS s (C.tg q) (C.tg i) (kidx (m.map (·.1)) k) τ) _ (Aft.tk hi hqi g3 (lH_at hone) ⟨a2,c2,e2,g2⟩ ⟨hs,τ,a,c,g1,hB.tk H _⟩)
theorem O.enC(hT:Md P T kt et kvI rVal (.slice none 0 0) (.slice none 0 0))(hg:Gu ops σ g)(hx:σ.ev x=some (sL (lH q)))(ho:aget σ.ob q=some (MTC hr T2 (some k) m))(hy:σ.ev y=some (VL (.int .i64 k)))(hb:Nat.blt d n=true):
  Ox K C P n ops ⟨some d,.mapEntry T x y,ty,pos,af,g⟩ σ ⟨some (d,.tp [⟨false,[lU]⟩,⟨false,[lV (.int .i64 (kidx (m.map (·.1)) k:Int))]⟩]),[(q,MTC hr T2 (some k) (kent m k []))],none⟩:=fun Φ Q os β s e hd kc=>by
 obtain⟨v,h1,h2,_⟩:=hd.evv hx;obtain⟨hs,τ,a,c,H,hB⟩:=hd.ob q _ ho;refine L.enC (s:=sp s (C.tg q) τ) hT H.out (hB.sp H) (by omega) (hd.gd hg) (by rw [h1,h2,H.e]) (hd.evl hy) hb fun v s' hone mv h7 h8=>?_;obtain⟨g1,g2⟩:=H.ent hr mv h7;refine kc β (usS s' (C.tg q)) _ ⟨fun _ _=>rfl,fun _ _=>rfl,g2.weak fun t ht=>⟨q,_,.head _,ht⟩,fun d' hn=>Env.get_put fun e=>hn _ (by rw [e]),fun d' x' ee=>?_,fun j o' hm=>?_⟩
 ·cases ee;refine⟨_,by simp [Env.get];rfl,[_,_],⟨_,_,hone,⟨_,_,⟨rfl,rfl⟩,rfl,rfl⟩,rfl⟩,?_⟩;rw [H.key]
 ·rcases yMo.1 hm with e|hm
  ·cases e;exact⟨_,_,_,_,g1,h8.to fun b _ e=>⟨rfl,iP (by omega)⟩⟩
  ·cases hm
theorem O.esC{z:Operand}(hg:Gu ops σ g)(hx:σ.ev x=some (sL (lH q)))(ho:aget σ.ob q=some (MTC hr T2 (some k) (kent m k [])))(hy:σ.ev y=some (VL (.int .i64 (kidx (m.map (·.1)) k:Int))))(hz:σ.ev z=some (sL (lH i)))(hoi:aget σ.ob i=some (ROW r T2 ys))(hqi:Nat.beq i q=false):
  Ox K C P n ops ⟨none,.entryStore T x y z,ty,pos,af,g⟩ σ ⟨none,[(q,MTC hr T2 none (kput m k ys)),(i,.u)],none⟩:=fun Φ Q os β s e hd kc=>by
 obtain⟨v,h1,h2,_⟩:=hd.evv hx;obtain⟨a2,c2,h4,h5,h6⟩:=hd.row hz hoi;obtain⟨hs,τ,a,c,H,hB⟩:=hd.ob q _ ho;have hne:C.tg i≠C.tg q:=fun e=>by
  have:=hd.ok.inj e;rw [this,Nat.beq_refl] at hqi;cases hqi
 obtain⟨k1,k2⟩:=yfq (m:=m) (k:=k) (z:=[]);have hl:hs.length=(kent m k []).length:=by have:=congrArg List.length H.key;simpa using this
 refine L.esC (s:=sp s (C.tg q) τ) (k:=k) (v:= .slice a2 ys.length c2) H.out (hB.sp H) (by omega) (by rw [H.key,k1,hl];exact k2) rfl (hd.gd hg) (by rw [h1,h2,H.e]) (by rw [H.key,k1];exact hd.evl hy) h5 fun s' mv h7 h8=>?_;obtain⟨g1,g2⟩:=H.put hr h6 hne (fun k' e=>(ySi e).symm) mv h7;rw [yj2] at g1;refine kc β (ptS s' (C.tg q) (C.tg i)) e ⟨fun _ _=>rfl,fun _ _=>rfl,g2.weak fun t ht=>ht.elim (fun ht=>⟨q,_,.head _,ht⟩) (fun ht=>⟨i,.u,.tail _ (.head _),ht⟩),fun _ _=>rfl,nofun,fun j o' hm=>?_⟩;rcases yMo.1 hm with e|hm
 ·cases e;exact⟨_,_,_,_,g1,h8.to fun b _ e=>⟨rfl,iP (by omega)⟩⟩
 ·rcases yMo.1 hm with e|hm
  ·cases e;trivial
  ·cases hm
end
def OBX{α:Type}(r:Rep α)(T:TypeId)(x:Option α):Ob:= .hp ⟨fun s t h=>match x with
  | none=>h= .pointer none
  | some y=>∃(b:Nat) (cs:List Value),h= .pointer (some ⟨b,0,none⟩)∧Bx s t b cs.toArray T∧r.rd s cs y,lK r T x,
 fun m ht h0 h=>by
  cases x with
  | none=>exact h
  | some y=>obtain⟨b,cs,e,h1,h2⟩:=h;exact⟨b,cs,e,h1.mv m ht,r.mono (m.le h0) h2⟩,
 fun hl hw ht h=>by
  cases x with
  | none=>exact h
  | some y=>obtain⟨b,cs,e,h1,h2⟩:=h;exact⟨b,cs,e,⟨by rw [hw];exact h1.heap,ht _ h1.htag⟩,r.mono hl h2⟩,
 fun h β=>by
  cases x with
  | none=>exact h
  | some y=>obtain⟨b,cs,e,h1,h2⟩:=h;exact⟨b,cs,e,h1,h2⟩⟩
theorem Cnv.ph{i:Nat}:Cnv (lP i 0) (lH i):=fun _ _ _ ⟨_,e,h⟩=>⟨h.trans e.symm,by rw [h];rfl⟩
section
variable{K:Kx}{C:Cx}{σ:Sx}{β:Nat→Value}{s:Sig}{e:List (Nat×Value)}{α:Type}{r:Rep α}{T:TypeId}{l:List LV}{x:Option α}{y:α}{i d:Nat}
theorem Den.set(hd:Den K C σ β s e)(i:Nat)(o:Ob)(h1:i<σ.n)(h2:o.p β s (C.tg i) (β i))(h3:∀j,j∈o.refs→j<σ.n):Den K C ⟨σ.sl,(i,o)::σ.ob,σ.n⟩ β s e:=
 ⟨hd.ok,hd.mv,hd.b0,hd.m,hd.sl,fun j q hq=>by
  rcases yj hq with ⟨rfl,rfl⟩|⟨_,hq⟩
  ·exact h2
  ·exact hd.ob j q hq,hd.fs,fun j q hq=>by
  rcases yj hq with ⟨rfl,rfl⟩|⟨_,hq⟩
  ·exact ⟨h1,h3⟩
  ·exact hd.fo j q hq⟩
theorem Den.obx(ho:aget σ.ob i=some (.bx T l))(hv:Rv r l y)(hd:Den K C σ β s e):Den K C ⟨σ.sl,(i,OBX r T (some y))::σ.ob,σ.n⟩ β s e:=by
 obtain⟨b,vs,e,h1,h2⟩:=hd.ob _ _ ho;exact hd.set i _ (hd.fo _ _ ho).1 ⟨b,vs,e,h1,hv β s _ h2⟩ fun j hj=>by cases hj
theorem Den.opn(ho:aget σ.ob i=some (OBX r T x))(hx:x=some y)(hl:Lv r y l)(hr:refsL l= [])(hd:Den K C σ β s e):Den K C ⟨σ.sl,(i,.bx T l)::σ.ob,σ.n⟩ β s e:=by
 subst hx;obtain⟨b,vs,e,h1,h2⟩:=hd.ob _ _ ho;exact hd.set i _ (hd.fo _ _ ho).1 ⟨b,vs,e,h1,hl β s _ h2⟩ fun j (hj:j∈refsL l)=>by rw [hr] at hj;cases hj
theorem Den.hp(h:aget σ.sl d=some (sL (lH i)))(ho:aget σ.ob i=some (.bx T l))(hd:Den K C σ β s e):Den K C ⟨(d,sL (lP i 0))::σ.sl,σ.ob,σ.n⟩ β s e:=by
 obtain⟨b,vs,e1,_,_⟩:=hd.ob _ _ ho;obtain⟨v,g1,g2,_⟩:=hd.sl _ _ h;have hi:=(hd.fo _ _ ho).1;exact⟨hd.ok,hd.mv,hd.b0,hd.m,fun d' x hx=>by
  rcases yj hx with ⟨rfl,rfl⟩|⟨_,hx⟩
  ·exact ⟨v,g1,b,e1,g2.trans e1⟩
  ·exact hd.sl d' x hx,hd.ob,fun d' x hx j hj=>by
  rcases yj hx with ⟨rfl,rfl⟩|⟨_,hx⟩
  ·have:j=i:=by simpa [SV.refs,refsL,lP] using hj
   show j<σ.n;omega
  ·exact hd.fs d' x hx j hj,hd.fo⟩
theorem Den.nlp(r:Rep α)(T:TypeId)(h:aget σ.sl d=some (VL (.pointer none)))(hd:Den K C σ β s e):Den K C ⟨(d,sL (lH σ.n))::σ.sl,(σ.n,OBX r T none)::σ.ob,σ.n+1⟩ (upB β σ.n (.pointer none)) s e:=by
 have hm:=hd.m;have hb:∀i,i<σ.n→upB β σ.n (.pointer none) i=β i:=fun i hi=>y7u (by omega);refine⟨hd.ok,hd.mv,fun i hi=>(hb i (by omega)).trans (hd.b0 i hi),by show K.m≤σ.n+1;omega,fun d' x hx=>?_,fun i o ho=>?_,fun d' x hx i hi=>?_,fun i o ho=>?_⟩
 ·rcases yj hx with ⟨rfl,rfl⟩|⟨_,hx⟩
  ·obtain ⟨v,g1,g2⟩:=hd.sl _ _ h;exact⟨v,g1,g2.1.trans y7J.symm,g2.1▸rfl⟩
  ·obtain ⟨v,g1,g2⟩:=hd.sl _ _ hx;exact⟨v,g1,SV.mono (Le.refl _) (fun i hi=>hb i (hd.fs _ _ hx i hi)) g2⟩
 ·rcases yj ho with ⟨rfl,rfl⟩|⟨_,ho⟩
  ·exact y7J
  ·obtain ⟨g1,g2⟩:=hd.fo _ _ ho;rw [hb i g1];exact Ob.as (Le.refl _) rfl (fun _ h=>h) (fun j hj=>hb j (g2 j hj)) (hd.ob _ _ ho)
 ·show i<σ.n+1;rcases yj hx with ⟨rfl,rfl⟩|⟨_,hx⟩
  ·have:i=σ.n:=by simpa [SV.refs,refsL,lH] using hi
   omega
  ·have:=hd.fs _ _ hx i hi;omega
 ·rcases yj ho with ⟨rfl,rfl⟩|⟨_,ho⟩
  ·exact ⟨by show σ.n<σ.n+1;omega,fun j hj=>by cases hj⟩
  ·obtain ⟨g1,g2⟩:=hd.fo _ _ ho;exact⟨by show i<σ.n+1;omega,fun j hj=>by have:=g2 j hj;show j<σ.n+1;omega⟩
variable{Φ:Fr}{P:Program}{Q:Exit→Act→World→Prop}{n:Nat}{ops:Array Oper}{os:List Oper}{c:Code}{z:Exit}
theorem WX.obx(i:Nat)(ho:aget σ.ob i=some (.bx T l))(hv:Rv r l y)(h:WX K C Φ Q n z ⟨σ.sl,(i,OBX r T (some y))::σ.ob,σ.n⟩):WX K C Φ Q n z σ:=fun β s e hd=>h β s e (hd.obx ho hv)
theorem WX.nlp(r:Rep α)(T:TypeId)(d:Nat)(hs:aget σ.sl d=some (VL (.pointer none)))(h:WX K C Φ Q n z ⟨(d,sL (lH σ.n))::σ.sl,(σ.n,OBX r T none)::σ.ob,σ.n+1⟩):WX K C Φ Q n z σ:=fun β s e hd=>h _ s e (hd.nlp r T hs)
theorem WE.opn(i:Nat)(ho:aget σ.ob i=some (OBX r T x))(hx:x=some y)(hl:Lv r y l)(hr:refsL l= [])(h:WE K C Φ P Q n c ⟨σ.sl,(i,.bx T l)::σ.ob,σ.n⟩):WE K C Φ P Q n c σ:=fun β s e hd=>h β s e (hd.opn ho hx hl hr)
theorem WE.hp(d:Nat)(hs:aget σ.sl d=some (sL (lH i)))(ho:aget σ.ob i=some (.bx T l))(h:WE K C Φ P Q n c ⟨(d,sL (lP i 0))::σ.sl,σ.ob,σ.n⟩):WE K C Φ P Q n c σ:=fun β s e hd=>h β s e (hd.hp hs ho)
end
section
variable{K:Kx}{C:Cx}{P:Program}{Φ:Fr}{Q:Exit→Act→World→Prop}{n:Nat}{ops:Array Oper}{os:List Oper}{σ:Sx}{d:Nat}{ty:TypeId}{pos:String}{af:Array Edge}
theorem V.fa{f i:Nat}(hF:FA P S f o)(h:(σ.ev x,Nat.blt d n,(F1 d (sL (lP i (off+o)))).ok K σ.n)=(some (sL (lP i off)),true,true))(h2:V K C Φ P Q n ops os (σ.eff (F1 d (sL (lP i (off+o)))))):V K C Φ P Q n ops (⟨some d,.fieldAddr S x f,ty,pos,af,none⟩::os) σ:=by
 simp only [Prod.mk.injEq] at h;exact .op (O.faP hF .no h.1 h.2.1) h.2.2 h2
theorem V.fe{r:Rep α}{y:α}{f:Nat}(hF:FA P S f o)(h:(σ.ev x,Nat.blt d n,(F1 d (sL (lE r y (off+o)))).ok K σ.n)=(some (sL (lE r y off)),true,true))(h2:V K C Φ P Q n ops os (σ.eff (F1 d (sL (lE r y (off+o)))))):V K C Φ P Q n ops (⟨some d,.fieldAddr S x f,ty,pos,af,none⟩::os) σ:=by
 simp only [Prod.mk.injEq] at h;exact .op (O.faE hF .no h.1 h.2.1) h.2.2 h2
theorem V.fq{T:TypeId}{f:Nat}{l:List LV}(hF:FA P S f o)(h:(σ.ev x,Nat.blt d n,(F1 d (sL (lQ T l (off+o)))).ok K σ.n)=(some (sL (lQ T l off)),true,true))(h2:V K C Φ P Q n ops os (σ.eff (F1 d (sL (lQ T l (off+o)))))):V K C Φ P Q n ops (⟨some d,.fieldAddr S x f,ty,pos,af,none⟩::os) σ:=by
 simp only [Prod.mk.injEq] at h;exact .op (O.faQ hF .no h.1 h.2.1) h.2.2 h2
theorem V.lb{T:TypeId}{y:LV}{l:List LV}{i:Nat}(hT:NAg P T)(h:(σ.ev x,aget σ.ob i,l[off]?,Nat.blt d n,(F1 d (sL y)).ok K σ.n)=(some (sL (lP i off)),some (.bx T' l),some y,true,true))(h2:V K C Φ P Q n ops os (σ.eff (F1 d (sL y)))):V K C Φ P Q n ops (⟨some d,.load T x,ty,pos,af,none⟩::os) σ:=by
 simp only [Prod.mk.injEq] at h;exact .op (O.ld hT .no h.1 (.B h.2.1) h.2.2.1 h.2.2.2.1) h.2.2.2.2 h2
theorem V.le{r:Rep α}{T:TypeId}{z:α}{y:LV}{l:List LV}(hT:NAg P T)(hl:Lv r z l)(h:(σ.ev x,l[off]?,Nat.blt d n,(F1 d (sL y)).ok K σ.n)=(some (sL (lE r z off)),some y,true,true))(h2:V K C Φ P Q n ops os (σ.eff (F1 d (sL y)))):V K C Φ P Q n ops (⟨some d,.load T x,ty,pos,af,none⟩::os) σ:=by
 simp only [Prod.mk.injEq] at h;exact .op (O.ld hT .no h.1 (.E hl) h.2.1 h.2.2.1) h.2.2.2 h2
theorem V.lq{T:TypeId}{y:LV}{l:List LV}(hT:NAg P T)(h:(σ.ev x,l[off]?,Nat.blt d n,(F1 d (sL y)).ok K σ.n)=(some (sL (lQ T' l off)),some y,true,true))(h2:V K C Φ P Q n ops os (σ.eff (F1 d (sL y)))):V K C Φ P Q n ops (⟨some d,.load T x,ty,pos,af,none⟩::os) σ:=by
 simp only [Prod.mk.injEq] at h;exact .op (O.ld hT .no h.1 .Q h.2.1 h.2.2.1) h.2.2.2 h2
theorem V.st{T:TypeId}{i m:Nat}{l:List LV}{v:TV}(hT:∀w,(sizeOf T).run P w= .ok m w)(h:(σ.ev x,aget σ.ob i,σ.ev y,v.l.length,Nat.ble (o+m) l.length,(FO i (.bx T' (stL l o v.l))).ok K σ.n)=(some (sL (lP i o)),some (.bx T' l),some (.v v),m,true,true))(h2:V K C Φ P Q n ops os (σ.eff (FO i (.bx T' (stL l o v.l))))):V K C Φ P Q n ops (⟨none,.store T x y,ty,pos,af,none⟩::os) σ:=by
 simp only [Prod.mk.injEq] at h;exact .op (O.st hT .no h.1 h.2.1 h.2.2.1 h.2.2.2.1 h.2.2.2.2.1) h.2.2.2.2.2 h2
theorem V.ln{r:Rep α}{xs:List α}{T E:TypeId}{m:Nat}(hT:Sl P T E m)(h:(σ.ev x,Nat.blt d n,(F1 d (VL (.int .i64 (xs.length:Int)))).ok K σ.n)=(some (sL (lF r xs)),true,true))(h2:V K C Φ P Q n ops os (σ.eff (F1 d (VL (.int .i64 (xs.length:Int)))))):V K C Φ P Q n ops (⟨some d,.call { callee:= .builtin .len,args:= #[x],argTypes:= #[T] },ty,pos,af,none⟩::os) σ:=by
 simp only [Prod.mk.injEq] at h;exact .op (O.len hT .no h.1 h.2.1) h.2.2 h2
theorem V.ex{l:List TV}{i:Nat}{y:TV}(h:(σ.ev x,l[i]?,Nat.blt d n,(F1 d (.v y)).ok K σ.n)=(some (.tp l),some y,true,true))(h2:V K C Φ P Q n ops os (σ.eff (F1 d (.v y)))):V K C Φ P Q n ops (⟨some d,.extract x i,ty,pos,af,none⟩::os) σ:=by
 simp only [Prod.mk.injEq] at h;exact .op (O.ex .no h.1 h.2.1 h.2.2.1) h.2.2.2 h2
theorem V.al{T:TypeId}{z:Value}(i:Nat)(hz:(P.info? T).bind (·.zero)=some z)(h:(Nat.ble σ.n i,z.cells.toList.all Value.oneCell',Nat.blt d n,(FN d i (lP i 0) (.bx T (z.cells.toList.map lV))).ok K σ.n)=(true,true,true,true))(h2:V K C Φ P Q n ops os (σ.eff (FN d i (lP i 0) (.bx T (z.cells.toList.map lV))))):V K C Φ P Q n ops (⟨some d,.alloc T,ty,pos,af,none⟩::os) σ:=by
 simp only [Prod.mk.injEq] at h;exact .op (O.al i h.1 hz h.2.1 .no h.2.2.1) h.2.2.2 h2
theorem V.bo{T:TypeId}{y:TV}(i:Nat)(h:(Nat.ble σ.n i,σ.ev x,ltA σ.n (refsL y.l),Nat.blt d n,(FN d i (lP i 0) (.bx T y.l)).ok K σ.n)=(true,some (.v y),true,true,true))(h2:V K C Φ P Q n ops os (σ.eff (FN d i (lP i 0) (.bx T y.l)))):V K C Φ P Q n ops (⟨some d,.box T x,ty,pos,af,none⟩::os) σ:=by
 simp only [Prod.mk.injEq] at h;exact .op (O.box i h.1 .no h.2.1 h.2.2.1 h.2.2.2.1) h.2.2.2.2 h2
theorem V.ix{r:Rep α}{xs:List α}{i:Operand}{T:TypeId}{k:IntKind}{j:Int}{y:α}(hS:Sl P T U r.sz)(hy:idx xs j=some y)(h:(σ.ev x,σ.ev i,Nat.blt d n,(F1 d (sL (lE r y 0))).ok K σ.n)=(some (sL (lF r xs)),some (VL (.int k j)),true,true))(h2:V K C Φ P Q n ops os (σ.eff (F1 d (sL (lE r y 0))))):V K C Φ P Q n ops (⟨some d,.indexAddr T x i,ty,pos,af,none⟩::os) σ:=by
 simp only [Prod.mk.injEq] at h;exact .op (O.ix hS .no h.1 h.2.1 hy h.2.2.1) h.2.2.2 h2
theorem V.c0{f:FuncId}{xs:List Operand}{r:SV}(hF:Fw P f ⟨0,[]⟩ av [] r [])(hcf:Cf P f)(h:(c.callee,c.args,σ.evs xs,r.refs,Nat.blt d n,(F1 d r).ok K σ.n)=(.value (.func f),xs.toArray,some av,[],true,true))(h2:V K C Φ P Q n ops os (σ.eff (F1 d r))):V K C Φ P Q n ops (⟨some d,.call c,ty,pos,af,none⟩::os) σ:=by
 simp only [Prod.mk.injEq] at h;exact .op (O.ca0 hF hcf h.1 h.2.1 .no h.2.2.1 h.2.2.2.1 h.2.2.2.2.1) h.2.2.2.2.2 h2
theorem V.pT{z:Operand}{v:SV}(h:(σ.ev x,σ.ev y,Nat.blt d n,(F1 d v).ok K σ.n)=(some (VL (.bool true)),some v,true,true))(h2:V K C Φ P Q n ops os (σ.eff (F1 d v))):V K C Φ P Q n ops (⟨some d,.pick x y z,ty,pos,af,none⟩::os) σ:=by
 simp only [Prod.mk.injEq] at h;exact .op (O.pkT .no h.1 rfl h.2.1 h.2.2.1) h.2.2.2 h2
theorem V.pF{z:Operand}{v:SV}(h:(σ.ev x,σ.ev z,Nat.blt d n,(F1 d v).ok K σ.n)=(some (VL (.bool false)),some v,true,true))(h2:V K C Φ P Q n ops os (σ.eff (F1 d v))):V K C Φ P Q n ops (⟨some d,.pick x y z,ty,pos,af,none⟩::os) σ:=by
 simp only [Prod.mk.injEq] at h;exact .op (O.pkF .no h.1 rfl h.2.1 h.2.2.1) h.2.2.2 h2
theorem V.lg{T:TypeId}{p:LV}{l:List LV}{m:Nat}(l':List LV)(hT:Ag P T m)(hx:σ.ev x=some (sL p))(ha:At K C σ p l off)(h:((l.drop off).take m,l'.length,Nat.blt d n,(F1 d (AG l')).ok K σ.n)=(l',m,true,true))(h2:V K C Φ P Q n ops os (σ.eff (F1 d (AG l')))):V K C Φ P Q n ops (⟨some d,.load T x,ty,pos,af,none⟩::os) σ:=by
 simp only [Prod.mk.injEq] at h;exact .op (O.lg hT .no hx ha h.1 h.2.1 h.2.2.1) h.2.2.2 h2
theorem V.bu{T:TypeId}{pl:List (Nat×Nat)}{z:List Value}{xs:List (Nat×Operand)}{ps:List (Nat×List LV)}(l:List LV)(hP:Pl P T pl z)(h:(z.all Value.oneCell',σ.evp xs,fillS pl (z.map lV) ps,Nat.blt d n,(F1 d (AG l)).ok K σ.n)=(true,some ps,some l,true,true))(h2:V K C Φ P Q n ops os (σ.eff (F1 d (AG l)))):V K C Φ P Q n ops (⟨some d,.build T xs.toArray,ty,pos,af,none⟩::os) σ:=by
 simp only [Prod.mk.injEq] at h;exact .op (O.bu hP h.1 .no h.2.1 h.2.2.1 h.2.2.2.1) h.2.2.2.2 h2
theorem V.ns{y:Code}(h:WE K C Φ P Q n y σ):V K C Φ P (Exit.then (y.wpIn Φ.f 2 P Q) Q) n ops [] σ:= .nil (.seqN h)
theorem V.nr{id:Nat}{l:List Oper}{y:Code}(h:V K C Φ P (Exit.then (y.wpIn Φ.f 2 P Q) Q) n l.toArray l σ):V K C Φ P (Exit.then ((Code.seq (.region id l.toArray false) y).wpIn Φ.f 2 P Q) Q) n ops [] σ:= .nil (.seqN (.seq (.reg h)))
theorem WE.sr{id:Nat}{l:List Oper}{y:Code}(h:V K C Φ P (Exit.then (y.wpIn Φ.f 2 P Q) Q) n l.toArray l σ):WE K C Φ P Q n (.seq (.region id l.toArray false) y) σ:= .seq (.reg h)
theorem V.an{z:SV}{y:Code}(h:(σ.ev x,Nat.blt d n,(F1 d z).ok K σ.n)=(some z,true,true))(h2:WE K C Φ P Q n y (σ.eff (F1 d z))):V K C Φ P (Exit.then (y.wpIn Φ.f 2 P Q) Q) n ops (⟨some d,.assign x,ty,pos,af,none⟩::[]) σ:= .sa h (.ns h2)
theorem WE.cc{c:Operand}{x y:Code}{t:Bool}{A B:Option β}{r:β}(hm:(if t=true then A else B)=some r)(hx:σ.ev c=some (VL (.bool t)))(h1:A=some r→WE K C Φ P Q n x σ)(h2:B=some r→WE K C Φ P Q n y σ):WE K C Φ P Q n (.cond c x y) σ:=by
 rcases ifS hm with ⟨h,hm⟩|⟨h,hm⟩
 ·exact .cT hx h (h1 hm)
 ·exact .cF hx h (h2 hm)
end
theorem WX.rr{K:Kx}{C:Cx}{rs:List ResultVar}{l:List TV}{r:SV}(ρ:List Nat)(hr:fn.results=rs.toArray)(hv:Rw P σ rs l)(hok:endOk K ob'.length ρ=true)(hc:∀β s v,(retS l).p β s v→r.p (fun i=>β (ρ.getD i i)) s v)(hE:EndL σ (fun i=>ρ.getD i i) 0 ob'):WX K C Fr.o (bodyPost P fn (Fin K C P r ob')) n .ret σ:= .rt ρ (.inl rfl) hr hv hok hc hE
theorem Fw.mk2{f:FuncId}{K:Kx}{ob:List Ob}{r:SV}{c:Code}(hf:P.funcs[f]? =some fn)(hn:fn.ntmps=n)(h0:(fn.body,Nat.ble av.length n,ob.length)=(some c,true,K.m))(h:∀C:Cx,WE K C Fr.o P (bodyPost P fn (Fin K C P r ob')) n c ⟨Env.of3 0 av,Env.ofO 0 ob,K.m⟩)(h1:(ltA K.m (refsT av),ob.all (fun o=>ltA K.m o.refs))=(true,true)):Fw P f K av ob r ob':=by
 simp only [Prod.mk.injEq] at h0 h1;exact .mk' hf h0.1 hn h0.2.1 h0.2.2 h h1.1 h1.2
theorem oj{a b:α}(h:some a=some b):b=a:=(oi h).symm
@[reducible] def rwI(xs:LI):Ob:=ROW qI 3 xs
abbrev CF(f:FuncId):Prop:=Cf prog f
abbrev FAb(S:TypeId)(f o:Nat):Prop:=FA prog S f o
theorem cM {f:FuncId}(h : P.funcs[f]? = some fn)(hn : ((fn.name == "runtime.NumGoroutine"), fn.body.isNone) = (false, false)) : Cf P f := by
 simp only [Prod.mk.injEq] at hn;exact .mk h hn.1 hn.2
theorem fAm{fs:Array Field}(f o m:Nat){fd:Field}(h:P.underlying S=some (.struct fs))(hf:(fs[f]?,fd.offset)=(some fd,o))(hs:(Nat.blt 0 m,(P.info? fd.type).map (·.size))=(true,some m)):FA P S f o:=by
 simp only [Prod.mk.injEq] at hf hs;exact .mk h hf.1 hf.2 ⟨m,yNl hs.1,hs.2⟩
abbrev F0(f:FuncId)(av:List TV)(ob:List Ob)(r:SV)(ob':List Ob):Prop:=Fw prog f ⟨0,[]⟩ av ob r ob'
section
variable{K:Kx}{C:Cx}{P:Program}{Φ:Fr}{Q:Exit→Act→World→Prop}{n:Nat}{ops:Array Oper}{os:List Oper}{σ:Sx}{d:Nat}{ty:TypeId}{pos:String}{af:Array Edge}{j s:Nat}{b:Bool}
theorem V.no{T:TypeId}{i:Bool}(h:(σ.ev x,Nat.blt d n,(F1 d (VL (.bool (!i)))).ok K σ.n)=(some (VL (.bool i)),true,true))(h2:V K C Φ P Q n ops os (σ.eff (F1 d (VL (.bool (!i)))))):V K C Φ P Q n ops (⟨some d,.unOp .not T x,ty,pos,af,none⟩::os) σ:=by
 simp only [Prod.mk.injEq] at h;exact .op (O.not .no h.1 h.2.1) h.2.2 h2
theorem V.su(h:((ops[j]?).bind (·.dst),aget σ.sl q,Nat.blt d n,(F1 d (.tp [])).ok K σ.n)=(some q,some (.tp []),true,true))(h2:V K C Φ P Q n ops os (σ.eff (F1 d (.tp [])))):V K C Φ P Q n ops (⟨some d,op,ty,pos,af,some (j,b)⟩::os) σ:=by
 simp only [Prod.mk.injEq] at h;exact .op (O.skipU h.1 h.2.1 h.2.2.1) h.2.2.2 h2
theorem V.lh{r:Rep α}{xs:List α}{T E:TypeId}{m i:Nat}(hT:Sl P T E m)(h:(σ.ev x,aget σ.ob i,Nat.blt d n,(F1 d (VL (.int .i64 (xs.length:Int)))).ok K σ.n)=(some (sL (lH i)),some (ROW r U xs),true,true))(h2:V K C Φ P Q n ops os (σ.eff (F1 d (VL (.int .i64 (xs.length:Int)))))):V K C Φ P Q n ops (⟨some d,.call { callee:= .builtin .len,args:= #[x],argTypes:= #[T] },ty,pos,af,none⟩::os) σ:=by
 simp only [Prod.mk.injEq] at h;exact .op (O.lenH hT .no h.1 h.2.1 h.2.2.1) h.2.2.2 h2
theorem V.mg{y:SV}(h:((ops[j]?).bind (·.dst),aget σ.sl s,σ.ev x,Nat.blt d n,(F1 d y).ok K σ.n)=(some s,some (VL (.bool b)),some y,true,true))(h2:V K C Φ P Q n ops os (σ.eff (F1 d y))):V K C Φ P Q n ops (⟨some d,.move x,ty,pos,af,some (j,b)⟩::os) σ:=by
 simp only [Prod.mk.injEq] at h;exact .op (O.mv (.mk h.1 h.2.1) h.2.2.1 h.2.2.2.1) h.2.2.2.2 h2
theorem V.bg{op:BinOp}{T:TypeId}{k:IntKind}{i i':Int}{v:Value}(h:((ops[j]?).bind (·.dst),aget σ.sl s,σ.ev x,σ.ev y,yar op k i i',Nat.blt d n,(F1 d (VL v)).ok K σ.n)=(some s,some (VL (.bool b)),some (VL (.int k i)),some (VL (.int k i')),some v,true,true))(h2:V K C Φ P Q n ops os (σ.eff (F1 d (VL v)))):V K C Φ P Q n ops (⟨some d,.binOp op T x y U,ty,pos,af,some (j,b)⟩::os) σ:=by
 simp only [Prod.mk.injEq] at h;exact .op (O.bi (.mk h.1 h.2.1) h.2.2.1 h.2.2.2.1 h.2.2.2.2.1 h.2.2.2.2.2.1) h.2.2.2.2.2.2 h2
theorem V.lbg{T:TypeId}{y:LV}{l:List LV}{i:Nat}(hT:NAg P T)(h:((ops[j]?).bind (·.dst),aget σ.sl s,σ.ev x,aget σ.ob i,l[off]?,Nat.blt d n,(F1 d (sL y)).ok K σ.n)=(some s,some (VL (.bool b)),some (sL (lP i off)),some (.bx T' l),some y,true,true))(h2:V K C Φ P Q n ops os (σ.eff (F1 d (sL y)))):V K C Φ P Q n ops (⟨some d,.load T x,ty,pos,af,some (j,b)⟩::os) σ:=by
 simp only [Prod.mk.injEq] at h;exact .op (O.ld hT (.mk h.1 h.2.1) h.2.2.1 (.B h.2.2.2.1) h.2.2.2.2.1 h.2.2.2.2.2.1) h.2.2.2.2.2.2 h2
theorem V.leg{r:Rep α}{T:TypeId}{z:α}{y:LV}{l:List LV}(hT:NAg P T)(hl:Lv r z l)(h:((ops[j]?).bind (·.dst),aget σ.sl s,σ.ev x,l[off]?,Nat.blt d n,(F1 d (sL y)).ok K σ.n)=(some s,some (VL (.bool b)),some (sL (lE r z off)),some y,true,true))(h2:V K C Φ P Q n ops os (σ.eff (F1 d (sL y)))):V K C Φ P Q n ops (⟨some d,.load T x,ty,pos,af,some (j,b)⟩::os) σ:=by
 simp only [Prod.mk.injEq] at h;exact .op (O.ld hT (.mk h.1 h.2.1) h.2.2.1 (.E hl) h.2.2.2.1 h.2.2.2.2.1) h.2.2.2.2.2 h2
theorem V.fag{f i:Nat}(hF:FA P S f o)(h:((ops[j]?).bind (·.dst),aget σ.sl s,σ.ev x,Nat.blt d n,(F1 d (sL (lP i (off+o)))).ok K σ.n)=(some s,some (VL (.bool b)),some (sL (lP i off)),true,true))(h2:V K C Φ P Q n ops os (σ.eff (F1 d (sL (lP i (off+o)))))):V K C Φ P Q n ops (⟨some d,.fieldAddr S x f,ty,pos,af,some (j,b)⟩::os) σ:=by
 simp only [Prod.mk.injEq] at h;exact .op (O.faP hF (.mk h.1 h.2.1) h.2.2.1 h.2.2.2.1) h.2.2.2.2 h2
theorem V.bf{r:Rep α}(zs:List α){T E m k:Nat}{z:List Value}{xs:List (Nat×Operand)}{ps:List (Nat×List LV)}{l:List LV}(hB:Bs P T E m z)(h1:(z.all Value.oneCell',Nat.ble (k*m) 16777216,σ.evp xs,Nat.blt 0 (k*m),fillS (plK m k 0) (List.replicate k (z.map lV)).flatten ps)=(true,true,some ps,true,some l))(hc:Cv r l zs)(h:(zs.length,Nat.ble k 4294967296,Nat.blt d n,(F1 d (sL (lF r zs))).ok K σ.n)=(k,true,true,true))(h2:V K C Φ P Q n ops os (σ.eff (F1 d (sL (lF r zs))))):V K C Φ P Q n ops (⟨some d,.buildSlice T k xs.toArray,ty,pos,af,none⟩::os) σ:=by
 simp only [Prod.mk.injEq] at h h1;exact .op (O.bsF hB h1.1 h1.2.1 .no h1.2.2.1 h1.2.2.2.1 h1.2.2.2.2 hc h.1 h.2.1 h.2.2.1) h.2.2.2 h2
theorem V.cm{f:FuncId}{xs:List Operand}{K':Kx}{ob:List Ob}{r r':SV}(ν:List Nat)(l:List (Nat×Ob))(nx:Option Nat)(hF:Fw P f K' av ob r ob')(hcf:Cf P f)(h:(c.callee,c.args,σ.evs xs,y9L K' σ.n ν l ob' r,ob.length,inG σ.ob (fun i=>ν.getD i 0) 0 ob,Nat.blt d n,(callE (some (d,r')) ν l nx).ok K σ.n)=(.value (.func f),xs.toArray,some (av.map (TV.ren fun i=>ν.getD i 0)),true,K'.m,inS (fun i=>ν.getD i 0) ob,true,true))(hO:OutL (fun i=>ν.getD i 0) ob' l)(hr:(fun β=>r.p (fun i=>β (ν.getD i 0)))=r'.p)(h2:V K C Φ P Q n ops os (σ.eff (callE (some (d,r')) ν l nx))):V K C Φ P Q n ops (⟨some d,.call c,ty,pos,af,none⟩::os) σ:=by
 simp only [Prod.mk.injEq] at h;exact .op (O.ca ν l nx hF hcf h.1 h.2.1 .no h.2.2.1 h.2.2.2.1 h.2.2.2.2.1 h.2.2.2.2.2.1 hO (fun β s v e=>cast (congrFun (congrFun (congrFun hr β) s) v) e) h.2.2.2.2.2.2.1) h.2.2.2.2.2.2.2 h2
theorem V.ap{r:Rep α}{xs ys zs:List α}{T:TypeId}{by_ j:Nat}(i:Nat)(hU:P.underlying T=some (.slice U))(hE:El P U r.sz by_)(hx:σ.ev x=some (sL (lH j)))(h:(Nat.ble by_ 32768,Nat.ble σ.n i,aget σ.ob j,Nat.blt d n,(FS d j i (lH i) (ROW r U zs)).ok K σ.n)=(true,true,some (ROW r U xs),true,true))(hy:Ry K C σ y r ys)(hl:app xs ys=some zs)(h2:V K C Φ P Q n ops os (σ.eff (FS d j i (lH i) (ROW r U zs)))):V K C Φ P Q n ops (⟨some d,.call { callee:= .builtin .append,args:= #[x,y],argTypes:= #[T,T] },ty,pos,af,none⟩::os) σ:=by
 simp only [Prod.mk.injEq] at h;exact .op (O.ap i hU hE h.1 h.2.1 .no hx h.2.2.1 hy hl h.2.2.2.1) h.2.2.2.2 h2
theorem V.s2{op':Op}{d':Nat}{ty':TypeId}{pos':String}{af':Array Edge}{j j' q':Nat}{b b' b1 b1':Bool}(h:((ops[j]?).bind (·.dst),aget σ.sl q,b',Nat.blt d n,(F1 d (.tp [])).ok K σ.n)=(some q,some (VL (.bool b')),!b,true,true))(h':((ops[j']?).bind (·.dst),aget (σ.eff (F1 d (.tp []))).sl q',b1',Nat.blt d' n,(F1 d' (.tp [])).ok K (σ.eff (F1 d (.tp []))).n)=(some q',some (VL (.bool b1')),!b1,true,true))(h2:V K C Φ P Q n ops os ((σ.eff (F1 d (.tp []))).eff (F1 d' (.tp [])))):V K C Φ P Q n ops (⟨some d,op,ty,pos,af,some (j,b)⟩::⟨some d',op',ty',pos',af',some (j',b1)⟩::os) σ:= .sk h (.sk h' h2)
theorem WE.sv{id:Nat}{z:SV}{l:List Oper}{y:Code}(h:(σ.ev x,Nat.blt d n,(F1 d z).ok K σ.n)=(some z,true,true))(h2:V K C Φ P (Exit.then (y.wpIn Φ.f 2 P Q) Q) n (⟨some d,.move x,ty,pos,af,none⟩::l).toArray l (σ.eff (F1 d z))):WE K C Φ P Q n (.seq (.region id (⟨some d,.move x,ty,pos,af,none⟩::l).toArray false) y) σ:= .sr (.mv h h2)
theorem WE.sn{y:Code}(h:WE K C Φ P Q n y σ):WE K C Φ P (Exit.then (y.wpIn Φ.f 2 P Q) Q) n .skip σ:= .skip (.seqN h)
theorem WE.xx{J J':Act→World→Prop}{id:Nat}(h:WX K C Φ Q n (.exit id) σ):WE K C Φ P (Exit.then J (Exit.then J' Q)) n (.exit id) σ:= .exit (.seqX (.seqX h))
theorem V.s0{τ:Sx}(h:V K C Φ P Q n ops os τ)(hs:τ.is K σ []):V K C Φ P Q n ops os σ:=h.sub [] hs
theorem WX.s0{x:Exit}{τ:Sx}(h:WX K C Φ Q n x τ)(hs:τ.is K σ []):WX K C Φ Q n x σ:=h.sub [] hs
end
theorem WX.r0{K:Kx}{C:Cx}{rs:List ResultVar}{l:List TV}{r:SV}(hr:fn.results=rs.toArray)(hv:Rw P σ rs l)(hok:endOk K 0 []=true)(hc:(retS l).p=r.p):WX K C Fr.o (bodyPost P fn (Fin K C P r [])) n .ret σ:= .rr [] hr hv hok (fun β s v h=>cast (congrFun (congrFun (congrFun hc β) s) v) h) trivial
theorem zK{K:Kx}{C:Cx}{j:Nat}{b b':Bool}(h:((ops[j]?).bind (·.dst),aget σ.sl q,b',Nat.blt d n)=(some q,some (VL (.bool b')),!b,true)):Ox K C P n ops ⟨some d,op,ty,pos,af,some (j,b)⟩ σ (F1 d (.tp [])):=by
 simp only [Prod.mk.injEq] at h;exact O.skip h.1 h.2.1 h.2.2.1 h.2.2.2
theorem zM{K:Kx}{C:Cx}{y:SV}(h:(σ.ev x,Nat.blt d n)=(some y,true)):Ox K C P n ops ⟨some d,.move x,ty,pos,af,none⟩ σ (F1 d y):=by
 simp only [Prod.mk.injEq] at h;exact O.mv .no h.1 h.2
theorem zB{K:Kx}{C:Cx}{T:TypeId}{i:Nat}{l:List LV}{y:LV}(hT:NAg P T)(h:(σ.ev x,aget σ.ob i,l[off]?,Nat.blt d n)=(some (sL (lP i off)),some (.bx U l),some y,true)):Ox K C P n ops ⟨some d,.load T x,ty,pos,af,none⟩ σ (F1 d (sL y)):=by
 simp only [Prod.mk.injEq] at h;exact O.ld hT .no h.1 (.B h.2.1) h.2.2.1 h.2.2.2
end Go.Proofs.YtfdeiphkmjdifaaGreatDoor
namespace Go.Proofs
open Go.Shelf
def Tryz.lays169_ren :Go.Shelf.Ren:=⟨fun|169=>167|n=>n,fun|70=>227|9=>9|0=>0|72=>230|37=>228|127=>320|3=>3|5=>5|n=>n,fun|n=>n⟩
theorem Tryz.lays169 :Go.Proofs.Lays.n169 Tryz.prog Tryz.lays169_ren:={
 mixed:=by kernel_rfl
 f169:=Tryz.func167.trans (congrArg some (by kernel_rfl))
 t0:=Tryz.underlying0
 a0:=Tryz.isAgg0
 z0:=Tryz.sizeOf0
 v0:=Tryz.zeroValue0
 t3:=Tryz.underlying3
 a3:=Tryz.isAgg3
 z3:=Tryz.sizeOf3
 v3:=Tryz.zeroValue3
 t9:=Tryz.underlying9
 a9:=Tryz.isAgg9
 z9:=Tryz.sizeOf9
 v9:=Tryz.zeroValue9
 t37:=Tryz.underlying228
 a37:=Tryz.isAgg228
 z37:=Tryz.sizeOf228
 v37:=Tryz.zeroValue228
 t70:=Tryz.underlying227
 a70:=Tryz.isAgg227
 z70:=Tryz.sizeOf227
 v70:=Tryz.zeroValue227
 t72:=Tryz.underlying230
 a72:=Tryz.isAgg230
 z72:=Tryz.sizeOf230
 v72:=Tryz.zeroValue230
 t127:=Tryz.underlying320
 a127:=Tryz.isAgg320
 z127:=Tryz.sizeOf320
 v127:=Tryz.zeroValue320 }
theorem Tryz.Builder_Extra_169 :Builder.Extra Tryz.prog Tryz.lays169_ren:={
 sizeBuilder:=by kernel_rfl
 liesBuilder:=by kernel_rfl
 t5:=Tryz.underlying5
 a5:=Tryz.isAgg5
 z5:=Tryz.sizeOf5
 v5:=Tryz.zeroValue5
 infoByte:=by kernel_rfl
 cellsByte:=by kernel_rfl
 sizeByte:=by kernel_rfl
 neB5:=by decide }
open Go.RowKit in
theorem Tryz.Builder_String_any(B b:Nat)(l:List UInt8)(w:World)(h:Lib.IsBuilder 230 5 B b (Lib.byteCells l) w)(hBw:B≤w.heap.size):
  Calls Tryz.prog 167 #[.pointer (some ⟨b,0,none⟩)] w fun e w'=>e= .returned (.string ⟨l.toArray⟩)∧Below B w w':=Any.Builder_String_any Tryz.lays169 Tryz.Builder_Extra_169 B b l w h hBw
def Tryz.lays171_ren :Go.Shelf.Ren:=⟨fun|171=>165|243=>245|246=>283|283=>308|284=>309|285=>310|286=>311|129=>178|317=>320|318=>321|319=>322|320=>323|337=>336|338=>337|n=>n,fun|3=>3|9=>9|2=>2|4=>4|171=>385|0=>0|53=>248|37=>228|5=>5|173=>387|212=>397|51=>114|20=>20|213=>398|46=>157|232=>421|233=>422|n=>n,fun|17=>0|18=>1|19=>2|n=>n⟩
theorem Tryz.lays171 :Go.Proofs.Lays.n171 Tryz.prog Tryz.lays171_ren:={
 mixed:=by kernel_rfl
 f129:=Tryz.func178.trans (congrArg some (by kernel_rfl))
 f171:=Tryz.func165.trans (congrArg some (by kernel_rfl))
 f243:=Tryz.func245.trans (congrArg some (by kernel_rfl))
 f246:=Tryz.func283.trans (congrArg some (by kernel_rfl))
 f283:=Tryz.func308.trans (congrArg some (by kernel_rfl))
 f284:=Tryz.func309.trans (congrArg some (by kernel_rfl))
 f285:=Tryz.func310.trans (congrArg some (by kernel_rfl))
 f286:=Tryz.func311.trans (congrArg some (by kernel_rfl))
 f317:=Tryz.func320.trans (congrArg some (by kernel_rfl))
 f318:=Tryz.func321.trans (congrArg some (by kernel_rfl))
 f319:=Tryz.func322.trans (congrArg some (by kernel_rfl))
 f320:=Tryz.func323.trans (congrArg some (by kernel_rfl))
 f337:=Tryz.func336.trans (congrArg some (by kernel_rfl))
 f338:=Tryz.func337.trans (congrArg some (by kernel_rfl))
 t0:=Tryz.underlying0
 a0:=Tryz.isAgg0
 z0:=Tryz.sizeOf0
 v0:=Tryz.zeroValue0
 t2:=Tryz.underlying2
 a2:=Tryz.isAgg2
 z2:=Tryz.sizeOf2
 v2:=Tryz.zeroValue2
 t3:=Tryz.underlying3
 a3:=Tryz.isAgg3
 z3:=Tryz.sizeOf3
 v3:=Tryz.zeroValue3
 t4:=Tryz.underlying4
 a4:=Tryz.isAgg4
 z4:=Tryz.sizeOf4
 v4:=Tryz.zeroValue4
 t5:=Tryz.underlying5
 a5:=Tryz.isAgg5
 z5:=Tryz.sizeOf5
 v5:=Tryz.zeroValue5
 t9:=Tryz.underlying9
 a9:=Tryz.isAgg9
 z9:=Tryz.sizeOf9
 v9:=Tryz.zeroValue9
 t20:=Tryz.underlying20
 a20:=Tryz.isAgg20
 z20:=Tryz.sizeOf20
 v20:=Tryz.zeroValue20
 t37:=Tryz.underlying228
 a37:=Tryz.isAgg228
 z37:=Tryz.sizeOf228
 v37:=Tryz.zeroValue228
 t46:=Tryz.underlying157
 a46:=Tryz.isAgg157
 z46:=Tryz.sizeOf157
 v46:=Tryz.zeroValue157
 t51:=Tryz.underlying114
 a51:=Tryz.isAgg114
 z51:=Tryz.sizeOf114
 v51:=Tryz.zeroValue114
 t53:=Tryz.underlying248
 a53:=Tryz.isAgg248
 z53:=Tryz.sizeOf248
 v53:=Tryz.zeroValue248
 t171:=Tryz.underlying385
 a171:=Tryz.isAgg385
 z171:=Tryz.sizeOf385
 v171:=Tryz.zeroValue385
 t173:=Tryz.underlying387
 a173:=Tryz.isAgg387
 z173:=Tryz.sizeOf387
 v173:=Tryz.zeroValue387
 t212:=Tryz.underlying397
 a212:=Tryz.isAgg397
 z212:=Tryz.sizeOf397
 v212:=Tryz.zeroValue397
 t213:=Tryz.underlying398
 a213:=Tryz.isAgg398
 z213:=Tryz.sizeOf398
 t232:=Tryz.underlying421
 a232:=Tryz.isAgg421
 z232:=Tryz.sizeOf421
 v232:=Tryz.zeroValue421
 t233:=Tryz.underlying422
 a233:=Tryz.isAgg422
 z233:=Tryz.sizeOf422
 v233:=Tryz.zeroValue422
 g17:=by kernel_rfl
 g18:=by kernel_rfl
 g19:=by kernel_rfl }
open Go.RowKit Go.Sort Go.Lib in
theorem Tryz.strconv_Itoa_small(i:Nat)(hi:i<100)(w:World):
  Calls Tryz.prog 165 #[.int .i64 i] w fun e w'=>e= .returned (.string ⟨(Lib.decDigits i).toArray⟩)∧w'=w:=Any.strconv_Itoa_small Tryz.lays171 i hi w
end Go.Proofs
namespace Go.Proofs.YtfdeiphkmjdifaaGreatDoor
section
open Tryz Go Go.RowKit
abbrev bT :TypeId:=230
abbrev bE :TypeId:=5
theorem ykc :(prog.info? bT).map (fun i=>i.size)=some 2:=by kernel_rfl
theorem ykd :liesAt prog (prog).depth bT (2/(prog).cellsOf bT) 0 bT 1=true:=by kernel_rfl
theorem ygp :(prog.info? bE).map (fun i=>(i.zero,i.size,i.bytes))=some (some (.int .u8 0),1,1):=by kernel_rfl
theorem ky_tp :(prog).underlying 227=some (.pointer bT):=by kernel_rfl
theorem ky_un :(prog).underlying 356=some .unsafePointer:=by kernel_rfl
/-- Behind copyCheck the builder knows its address. -/
theorem yfs(B b:Nat)(bs:List Value)(w:World)(h:Lib.IsBuilder bT bE B b bs w):
  Calls prog 244 #[.pointer (some ⟨b,0,none⟩)] w fun e w'=>e= .returned (.tuple #[])∧Lib.BuilderAt bT bE B b (.pointer (some ⟨b,0,none⟩)) bs w'∧Below B w w':=by
 obtain⟨j,hj,hjs⟩:=Option.map_eq_some_iff.1 ykc;rcases h with h|h
 ·have h0:=h.cell0;have hsh:=h.shape;have hfz:=h.frozen0
  suffices hh:Calls prog 244 #[.pointer (some ⟨b,0,none⟩)] w fun e w'=>e= .returned (.tuple #[])∧w'=w.setCell ⟨b,0,none⟩ (.pointer (some ⟨b,0,none⟩)) by
   refine hh.mono ?_;rintro e w' ⟨rfl,rfl⟩;exact⟨rfl,h.used _,(Below.refl B w).setCell (p:=⟨b,0,none⟩) h.1 _⟩
  go_enter func244,ntmps244
  go_wp2
  rw [Lib.run_to_unsafe w ⟨b,0,none⟩ ky_tp ky_un hj (by rw [hjs];decide) hsh (Nat.zero_lt_succ 1)];simp only [Result.andThen];rw [Oper.upon_value]
  go_wp2
  rw [run_callFunc_extern func282 (by kernel_rfl) (by kernel_rfl) (by kernel_rfl) (e:=Extern.AbiNoEscape.same) (by kernel_rfl)];rw [Lib.run_noEscape];simp only [Result.andThen];rw [Oper.upon_value]
  go_wp2
  rw [Lib.run_from_unsafe w ⟨b,0,none⟩ ky_un ky_tp hj hsh ykd];simp only [Result.andThen];rw [Oper.upon_value]
  go_wp2
  go_end0
  exact⟨rfl,rfl⟩
 ·have h0:=h.cell0
  suffices hh:Calls prog 244 #[.pointer (some ⟨b,0,none⟩)] w fun e w'=>e= .returned (.tuple #[])∧w'=w by
   refine hh.mono ?_;rintro e w' ⟨rfl,rfl⟩;exact⟨rfl,h,Below.refl B _⟩
  go_enter func244,ntmps244
  go_wp2
  rw [Lib.run_neq_ptr_same w _ ky_tp hj]
  go_wp2
  go_end0
  exact⟨rfl,rfl⟩
theorem yj3(B b:Nat)(bs:List Value)(c:Int)(w:World)(h:Lib.IsBuilder bT bE B b bs w)(hlen:bs.length+1≤1000000)(hBw:B≤w.heap.size):
  Calls prog 233 #[.pointer (some ⟨b,0,none⟩),.int .u8 c] w fun e w'=>e= .returned .nilIface∧Lib.BuilderAt bT bE B b (.pointer (some ⟨b,0,none⟩)) (bs++[.int .u8 c]) w'∧Below B w w':=by
 obtain⟨i0,hi,hz0,hz1,hz2⟩:=info_parts ygp
 go_enter func233,ntmps233
 go_wp2_with (go_at_call 244;refine(yfs B b bs _ h).mono ?_)
 rintro e w1 ⟨rfl,h1,hb1⟩;obtain⟨hB,v,hbk,hown,hne⟩:=h1;have c1:w1.cell? ⟨b,1,none⟩=some v:=by rw [Lib.cell_of_heap hbk];rfl
 have hlt:b<w1.heap.size:=(yAs.1 hbk).1;have hsz:=hb1.size
 go_wp2_with (at_builtin;refine wpList_append_own _ rfl _ _ 228 rfl B bE i0 (.int .u8 0) 1 1 underlying228 hi hz0 hz1 hz2 rfl (by decide) _ _ _ rfl (hown.alloc _) ⟨w1.heap.size,0,none⟩ 1 1 [.int .u8 c] rfl rfl ?c1 ?c2 (by unfold maxLen;omega) (by omega) (by simp;omega) ?_)
 case c1=>
  intro j u hj
  match j,hj with
  | 0,hj=>simp at hj;subst hj;simp [Addr.add]
 case c2=>intro u hu;simp at hu;subst hu;rfl
 intro v' w2 hown' hgrow _;have hb2:w2.heap[b]? =some (.cells #[.pointer (some ⟨b,0,none⟩),v] bT (0,0)):=by
  rw [hgrow.block b (by simp;omega) (fun e=>hne e.symm),Lib.alloc_old w1 _ b hlt];exact hbk
 have d1:w2.cell? ⟨b,1,none⟩=some v:=by rw [Lib.cell_of_heap hb2];rfl
 have f1:w2.frozen? ⟨b,1,none⟩=false:=Lib.frozen_of_heap hb2 1;obtain⟨ao,n',cap,rfl⟩:∃ao n' cap,v'= .slice ao n' cap:=by
  rcases hown'.2 with ⟨hv,_⟩|⟨g,cap,cur,hv,_⟩ <;> exact⟨_,_,_,hv⟩
 go_wp2
 go_ret
 refine⟨rfl,Lib.BuilderAt.put (T:=bT) (e:=bE) hB hb2 (bs':=bs++[.int .u8 c]) (by simpa using hown') (by decide),?_⟩;exact((hb1.alloc (by omega) _).grown hgrow (by simp;omega) (fun k hk=>(hown.lt k hk).1)).setCell (p:=⟨b,1,none⟩) hB _
theorem yke(B b:Nat)(bs:List Value)(t:ByteArray)(w:World)(h:Lib.IsBuilder bT bE B b bs w)(hlen:bs.length+t.size≤1000000)(hBw:B≤w.heap.size):
  Calls prog 164 #[.pointer (some ⟨b,0,none⟩),.string t] w fun e w'=>e= .returned (.tuple #[.int .i64 t.size,.nilIface])∧Lib.BuilderAt bT bE B b (.pointer (some ⟨b,0,none⟩)) (bs++Lib.strCells t) w'∧Below B w w':=by
 obtain⟨i0,hi,hz0,hz1,hz2⟩:=info_parts ygp
 go_enter func164,ntmps164
 go_wp2_with (go_at_call 244;refine(yfs B b bs _ h).mono ?_)
 rintro e w1 ⟨rfl,h1,hb1⟩;obtain⟨hB,v,hbk,hown,hne⟩:=h1;have c1:w1.cell? ⟨b,1,none⟩=some v:=by rw [Lib.cell_of_heap hbk];rfl
 have hlt:b<w1.heap.size:=(yAs.1 hbk).1;have hsz:=hb1.size
 go_wp2_with (at_builtin;refine Lib.wpList_append_own_string _ rfl _ _ 228 9 rfl B bE i0 underlying228 underlying9 hi hz0 hz1 hz2 _ _ _ rfl hown t rfl (by unfold maxLen;omega) (by omega) (by omega) ?_)
 intro v' w2 hown' hgrow _;have hb2:w2.heap[b]? =some (.cells #[.pointer (some ⟨b,0,none⟩),v] bT (0,0)):=by
  rw [hgrow.block b hlt (fun e=>hne e.symm)];exact hbk
 have d1:w2.cell? ⟨b,1,none⟩=some v:=by rw [Lib.cell_of_heap hb2];rfl
 have f1:w2.frozen? ⟨b,1,none⟩=false:=Lib.frozen_of_heap hb2 1;obtain⟨ao,n',cap,rfl⟩:∃ao n' cap,v'= .slice ao n' cap:=by
  rcases hown'.2 with ⟨hv,_⟩|⟨g,cap,cur,hv,_⟩ <;> exact⟨_,_,_,hv⟩
 go_wp2
 go_ret2
 refine⟨rfl,Lib.BuilderAt.put (T:=bT) (e:=bE) hB hb2 (bs':=bs++Lib.strCells t) (by simpa [Lib.strCells_length] using hown') (by decide),?_⟩;exact(hb1.grown hgrow (by omega) (fun k hk=>(hown.lt k hk).1)).setCell (p:=⟨b,1,none⟩) hB _
def dig2(u:Nat):List UInt8:=if u<10 then [UInt8.ofNat (48+u)] else [UInt8.ofNat (48+u/10),UInt8.ofNat (48+u % 10)]
theorem yec{u:Nat}(h:u<100):Lib.decDigits u=dig2 u:=by
 unfold dig2;split
 ·exact Lib.decDigits_one ‹_›
 ·exact Lib.decDigits_two ‹_› h
theorem yft(u:Nat):(dig2 u).length≤2:=by unfold dig2;split <;> simp
def keyB :LI→List UInt8
 | []=> []
 | x::xs=>dig2 x.toNat++32::keyB xs
theorem yeM :∀(xs:LI) (x:Int),keyB (xs++[x])=keyB xs++dig2 x.toNat++[32]
 | [],x=>by simp [keyB]
 | y::ys,x=>by rw [List.cons_append,keyB,yeM ys x,keyB];simp
theorem yfu :∀(xs:LI),(keyB xs).length≤3*xs.length
 | []=>by simp [keyB]
 | x::xs=>by have h1:=yfu xs;have h2:=yft x.toNat;simp only [keyB,yLa,yLc];omega
def y4T(p0:LI):Option ByteArray:=if(p0.all fun x=>decide (0≤x∧x<100))=true∧p0.length≤1000 then some ⟨(keyB p0).toArray⟩ else none
theorem ykf(a:Option Addr)(c:Nat)(xs:LI)(w:World)(hr:RdS w 1 a xs.length c (ints xs))(hx:∀x∈xs,0≤x∧x<100)(hl:xs.length≤1000):
  Calls prog 153 #[.slice a xs.length c] w fun e w'=>e= .returned (.string ⟨(keyB xs).toArray⟩)∧Below w.heap.size w w':=by
 have Hx:=Lib.hid hx;clear hx
 go_enter func153,ntmps153
 go_wp2
 go_loopw [8] (fun i wr=>∃k:Nat,k≤xs.length∧i= .int .i64 k∧Lib.IsBuilder bT bE w.heap.size w.heap.size (Lib.byteCells (keyB (xs.take k))) wr∧Below w.heap.size w wr) (fun i _=>xs.length-(intOf i).toNat)
 case atStart=>exact⟨0,yZl _,rfl,Lib.fresh_isBuilder bT bE w,(Below.refl _ w).alloc (yNr _) _⟩
 case round=>
  obtain⟨k,hk,rfl,hI,hbw⟩:=hrel;by_cases hlt:k<xs.length
  ·obtain ⟨b,off,rfl,hc0⟩:=hr.at_int k hlt;have hc:=keep0 hbw hc0;have hsz:=hbw.size;obtain⟨n,hn⟩:∃n:Nat,xs[k]=n:=⟨xs[k].toNat,by have:=Hx.out _ (yGm hlt);omega⟩;have hn100:n<100:=by have:=Hx.out _ (yGm hlt);omega
   rw [hn] at hc;have hkl:=yfu (xs.take k);rw [yLt,Nat.min_eq_left hk] at hkl;have hd2:=yft n
   go_wp2_with (go_at_call 165;refine(Tryz.strconv_Itoa_small n hn100 _).mono ?_)
   rintro e W0 ⟨rfl,rfl⟩
   go_wp2_with (go_at_call 164;refine(yke w.heap.size w.heap.size _ _ _ hI (by rw [Lib.byteCells_length,yec hn100];simp [ByteArray.size];omega) hsz).mono ?_)
   rintro e W1 ⟨rfl,h1,b1⟩
   go_wp2_with (go_at_call 233;refine(yj3 w.heap.size w.heap.size _ _ _ (.inr h1) (by rw [yLa,Lib.byteCells_length,Lib.strCells_length,yec hn100];simp [ByteArray.size];omega) (Nat.le_trans hsz b1.size)).mono ?_)
   rintro e W2 ⟨rfl,h2,b2⟩
   go_wp2
   go_roundw
   case rel=>
    refine⟨k+1,by omega,by go_num,.inr ?_,(hbw.trans b1).trans b2⟩;rw [yco xs k hlt,yeM,hn,Lib.byteCells_append,Lib.byteCells_append];rw [yec hn100] at h2;exact h2
   case measure=>simp [intOf];omega
  ·have hke:k=xs.length:=by omega
   subst hke;rw [List.take_length] at hI
   go_wp2_with (go_at_call 167;refine(Tryz.Builder_String_any w.heap.size w.heap.size _ _ hI hbw.size).mono ?_)
   rintro e W1 ⟨rfl,b1⟩
   go_wp2
   go_ret
   exact⟨rfl,hbw.trans b1⟩
theorem ydH{s:Sig}{p0:LI}{a1:Option Addr}{c1:Nat}{r:ByteArray}(h1:RdL (rK .i64) s a1 c1 p0)(hm:y4T p0=some r):
  Calls prog 153 #[.slice a1 p0.length c1] s.w (RetS No s fun v s'=>v= .string r):=by
 unfold y4T at hm;split at hm
 ·rename_i hc;cases hm;obtain⟨g1,g2⟩:=hc;obtain⟨a,c,he,h2⟩:=h1.rdI;cases he;refine(ykf _ _ p0 s.w h2 (fun x hx=>by simpa using yAt.1 g1 x hx) g2).mono fun en w' hh=>?_;obtain⟨rfl,hb⟩:=hh;exact⟨_,s.nw w',rfl,rfl,Sig.nw_mv hb,rfl⟩
 ·cases hm
end
section
open Tryz Go.RowKit
def revK(xs:LI)(k:Nat):LI:=(List.range xs.length).map fun m=>if m<k∨xs.length-k≤m then xs.getD (xs.length-1-m) 0 else xs.getD m 0
theorem yhI(xs:LI):revK xs 0=xs:=by
 apply List.ext_getElem
 ·simp [revK]
 ·intro i h1 h2;simp only [revK,List.getElem_map,List.getElem_range];rw [iN (by omega),yGd,yGe h2];rfl
theorem yfv(xs:LI)(k m:Nat)(hm:m<xs.length)(h:¬(m<k∨xs.length-k≤m)):(ints (revK xs k))[m]? =some (.int .i64 (xs.getD m 0)):=by
 rw [List.getElem?_map,revK,List.getElem?_map,List.getElem?_range hm];simp only [Option.map_some];rw [iN h]
theorem yhJ(xs:LI)(k:Nat)(h:2*k+1<xs.length):ints (revK xs (k+1))=((ints (revK xs k)).set k (.int .i64 (xs.getD (xs.length-1-k) 0))).set (xs.length-1-k) (.int .i64 (xs.getD k 0)):=by
 apply List.ext_getElem
 ·simp [revK]
 ·intro i g1 g2;have hi:i<xs.length:=by simpa [revK] using g1
  rw [List.getElem_set,List.getElem_set];simp only [revK,List.getElem_map,List.getElem_range];by_cases e1:xs.length-1-k=i
  ·rw [iP e1,iP (by omega)];congr 2;omega
  ·rw [iN e1];by_cases e2:k=i
   ·rw [iP e2,iP (by omega)];congr 2;omega
   ·rw [iN e2];by_cases e3:i<k∨xs.length-k≤i
    ·rw [iP e3,iP (by omega)]
    ·rw [iN e3,iN (by omega)]
theorem yj4(xs:LI)(k:Nat)(h:xs.length≤2*k+1):revK xs k=xs.reverse:=by
 apply List.ext_getElem
 ·simp [revK]
 ·intro i h1 h2;have hi:i<xs.length:=by simpa using h2
  simp only [revK,List.getElem_map,List.getElem_range,List.getElem_reverse];split
  ·rw [yGd,yGe (by omega)];rfl
  ·have:xs.length-1-i=i:=by omega
   rw [yGd,yGe hi,Option.getD_some];congr 1;exact this.symm
theorem yfw(v:Value)(xs:LI)(w:World)(B:Nat)(tag:Nat→Nat)(k0:Nat)(hr:Row w B tag k0 3 1 v xs.length (ints xs))(hl:xs.length≤1000000):
  Calls prog 205 #[v] w fun e w'=>e= .returned (.tuple #[])∧Row w' B tag k0 3 1 v xs.length (ints xs.reverse)∧Turn B tag tag k0 w w':=by
 obtain⟨a,cap,rfl⟩:=hr.val
 go_enter func205,ntmps205
 go_wp2_with fail
 go_loopw [2,3] (fun i j wr=>∃k:Nat,i= .int .i64 k∧j= .int .i64 ((xs.length:Int)-1-k)∧2*k≤xs.length+1∧Row wr B tag k0 3 1 (.slice a xs.length cap) xs.length (ints (revK xs k))∧Turn B tag tag k0 w wr) (fun i _ _=>xs.length-(intOf i).toNat)
 case atStart=>exact⟨0,rfl,by simp,by omega,by rw [yhI];exact hr,Turn.refl _ _ _ _⟩
 case round=>
  obtain⟨k,rfl,rfl,hk,hrow,ht⟩:=hrel;by_cases hlt:2*k+1<xs.length
  ·obtain ⟨b,off,cap',e1,hbl,_⟩:=hrow.addr (by omega);cases e1;have c1:=hrow.cellAt k (by omega);rw [yfv xs k k (by omega) (by omega)] at c1;have c2:=hrow.cellAt (xs.length-1-k) (by omega);rw [yfv xs k (xs.length-1-k) (by omega) (by omega)] at c2;have f1:=hrow.frozenAt (off+k);have f2:=hrow.frozenAt (off+(xs.length-1-k));have s1:=hrow.set k (.int .i64 (xs.getD (xs.length-1-k) 0));have s2:=s1.1.set (xs.length-1-k) (.int .i64 (xs.getD k 0));rw [←yhJ xs k hlt] at s2;have S1:=Lib.hid s1.2;have S2:=Lib.hid s2;have c3:(wr.setCell ⟨b,off+k,none⟩ (.int .i64 (xs.getD (xs.length-1-k) 0))).cell? ⟨b,off+(xs.length-1-k),none⟩=some (.int .i64 (xs.getD (xs.length-1-k) 0)):=by
    rw [World.cell?_setCell_other,c2];intro e;simp at e;try omega
   clear s1 s2 hr;generalize xs.getD (xs.length-1-k) 0=p at *;generalize xs.getD k 0=q at *;have hidx:((xs.length:Int)-1-k).toNat=xs.length-1-k:=by omega
   go_wp2
   go_region
   go_wp2
   go_roundw
   case rel=>exact⟨k+1,by go_num,by congr 1;omega,by omega,S2.out.1.below (yff _),((ht.trans S1.out).trans S2.out.2).trans (Turn.below (yff _))⟩
   case measure=>simp [intOf];omega
  ·go_wp2
   refine⟨rfl,.tuple #[],by simp [results,results205],⟨rfl,by rw [yj4 xs k (by omega)] at hrow;exact hrow,ht⟩⟩
end
section
open Tryz Go Go.RowKit
def y3k(p0:LI):Option LI:=if p0.length≤1000000 then some p0.reverse else none
theorem yaT{s:Sig}{p0:LI}{t0:Nat}{a1:Option Addr}{c1:Nat}{r:LI}(_zt0:0<t0)(h1:RowT (rK .i64) s t0 3 a1 c1 p0)(hm:y3k p0=some r):
  Calls prog 205 #[.slice a1 p0.length c1] s.w (RetS (One t0) s fun v s'=>v= .tuple #[]∧RowT (rK .i64) s' t0 3 a1 c1 r):=by
 obtain⟨hl,rfl⟩:p0.length≤1000000∧p0.reverse=r:=by
  unfold y3k at hm;split at hm
  ·exact ⟨by assumption,ySi hm⟩
  ·cases hm
 obtain⟨cs,h2,h3⟩:=h1;have hc:=ybG h3;subst hc;refine(yfw _ p0 s.w 0 s.tag t0 h2 hl).mono ?_;rintro e w' ⟨rfl,hr,ht⟩;exact⟨_,⟨w',s.tag⟩,rfl,rfl,ht.mv,rfl,ints p0.reverse,by rw [List.length_reverse];exact hr,ydG _⟩
end
end Go.Proofs.YtfdeiphkmjdifaaGreatDoor
namespace Go.Proofs
open Go.Shelf
def Tryz.lays189_ren :Go.Shelf.Ren:=⟨fun|189=>60|125=>107|257=>136|128=>177|129=>178|294=>209|295=>210|296=>211|297=>212|298=>213|299=>214|216=>215|300=>216|301=>217|328=>271|329=>255|330=>256|331=>272|332=>273|215=>138|343=>305|n=>n,fun|28=>26|3=>3|46=>157|0=>0|51=>114|53=>248|4=>4|183=>241|182=>240|131=>129|5=>5|9=>9|218=>326|222=>330|228=>361|229=>288|n=>n,fun|n=>n⟩
theorem Tryz.lays189 :Go.Proofs.Lays.n189 Tryz.prog Tryz.lays189_ren:={
 mixed:=by kernel_rfl
 f125:=Tryz.func107.trans (congrArg some (by kernel_rfl))
 f128:=Tryz.func177.trans (congrArg some (by kernel_rfl))
 f129:=Tryz.func178.trans (congrArg some (by kernel_rfl))
 f189:=Tryz.func60.trans (congrArg some (by kernel_rfl))
 f215:=Tryz.func138.trans (congrArg some (by kernel_rfl))
 f216:=Tryz.func215.trans (congrArg some (by kernel_rfl))
 f257:=Tryz.func136.trans (congrArg some (by kernel_rfl))
 f294:=Tryz.func209.trans (congrArg some (by kernel_rfl))
 f295:=Tryz.func210.trans (congrArg some (by kernel_rfl))
 f296:=Tryz.func211.trans (congrArg some (by kernel_rfl))
 f297:=Tryz.func212.trans (congrArg some (by kernel_rfl))
 f298:=Tryz.func213.trans (congrArg some (by kernel_rfl))
 f299:=Tryz.func214.trans (congrArg some (by kernel_rfl))
 f300:=Tryz.func216.trans (congrArg some (by kernel_rfl))
 f301:=Tryz.func217.trans (congrArg some (by kernel_rfl))
 f328:=Tryz.func271.trans (congrArg some (by kernel_rfl))
 f329:=Tryz.func255.trans (congrArg some (by kernel_rfl))
 f330:=Tryz.func256.trans (congrArg some (by kernel_rfl))
 f331:=Tryz.func272.trans (congrArg some (by kernel_rfl))
 f332:=Tryz.func273.trans (congrArg some (by kernel_rfl))
 f343:=Tryz.func305.trans (congrArg some (by kernel_rfl))
 t0:=Tryz.underlying0
 a0:=Tryz.isAgg0
 z0:=Tryz.sizeOf0
 v0:=Tryz.zeroValue0
 t3:=Tryz.underlying3
 a3:=Tryz.isAgg3
 z3:=Tryz.sizeOf3
 v3:=Tryz.zeroValue3
 t4:=Tryz.underlying4
 a4:=Tryz.isAgg4
 z4:=Tryz.sizeOf4
 v4:=Tryz.zeroValue4
 t5:=Tryz.underlying5
 a5:=Tryz.isAgg5
 z5:=Tryz.sizeOf5
 v5:=Tryz.zeroValue5
 t9:=Tryz.underlying9
 a9:=Tryz.isAgg9
 z9:=Tryz.sizeOf9
 v9:=Tryz.zeroValue9
 t28:=Tryz.underlying26
 a28:=Tryz.isAgg26
 z28:=Tryz.sizeOf26
 v28:=Tryz.zeroValue26
 t46:=Tryz.underlying157
 a46:=Tryz.isAgg157
 z46:=Tryz.sizeOf157
 v46:=Tryz.zeroValue157
 t51:=Tryz.underlying114
 a51:=Tryz.isAgg114
 z51:=Tryz.sizeOf114
 v51:=Tryz.zeroValue114
 t53:=Tryz.underlying248
 a53:=Tryz.isAgg248
 z53:=Tryz.sizeOf248
 v53:=Tryz.zeroValue248
 t131:=Tryz.underlying129
 a131:=Tryz.isAgg129
 z131:=Tryz.sizeOf129
 v131:=Tryz.zeroValue129
 t182:=Tryz.underlying240
 a182:=Tryz.isAgg240
 z182:=Tryz.sizeOf240
 v182:=Tryz.zeroValue240
 t183:=Tryz.underlying241
 a183:=Tryz.isAgg241
 z183:=Tryz.sizeOf241
 v183:=Tryz.zeroValue241
 t218:=Tryz.underlying326
 a218:=Tryz.isAgg326
 z218:=Tryz.sizeOf326
 v218:=Tryz.zeroValue326
 t222:=Tryz.underlying330
 a222:=Tryz.isAgg330
 z222:=Tryz.sizeOf330
 v222:=Tryz.zeroValue330
 t228:=Tryz.underlying361
 a228:=Tryz.isAgg361
 z228:=Tryz.sizeOf361
 v228:=Tryz.zeroValue361
 t229:=Tryz.underlying288
 a229:=Tryz.isAgg288
 z229:=Tryz.sizeOf288
 v229:=Tryz.zeroValue288 }
open Go.RowKit Go.Sort Go.Lib in
theorem Tryz.slices_Sort_int(blk off cap:Nat)(zs:List Int)(w:World)(hH:Holds (Value.int .i64) w blk off zs.toArray)(hblk:blk<w.heap.size)(hsz:zs.length<4611686018427387904):
  Calls Tryz.prog 60 #[.slice (some ⟨blk,off,none⟩) zs.length cap] w fun e w'=>e= .returned (.tuple #[])∧∃n os,w'=grow (putRow (Value.int .i64) (Sort.ahead w n) blk off (zs.mergeSort fun x y=>decide (x≤y)).toArray) os:=Any.slices_Sort_int Tryz.lays189 blk off cap zs w hH hblk hsz
open Go.RowKit Go.Sort Go.Lib in
theorem Tryz.slices_Sort_int_none(p:Option Addr)(cap:Nat)(w:World):
  Calls Tryz.prog 60 #[.slice p 0 cap] w fun e w'=>e= .returned (.tuple #[])∧w'=w:=Any.slices_Sort_int_none Tryz.lays189 p cap w
end Go.Proofs
namespace Go.Proofs.YtfdeiphkmjdifaaGreatDoor
section
open Tryz Go Go.RowKit Go.Sort
section
variable{α β:Type}{r:Rep α}{s:Sig}{t:Nat}{T:TypeId}{a:Option Addr}{cap:Nat}{xs ys:List α}
theorem yhK{enc:β→Value}[Inhabited β]{w:World}{b off n:Nat}{d:Array β}{os:Array Obj}{cur:Array Value}{fr:Nat×Nat}(h:w.heap[b]? =some (.cells cur T fr)):(grow (putRow enc (Sort.ahead w n) b off d) os).heap[b]? =some (.cells (putCells enc off d cur) T fr):=by
 have hb:b<w.heap.size:=(yAs.1 h).1;show((w.heap.modify b (onCells (putCells enc off d)))++os)[b]? =_;rw [Array.getElem?_append_left (by simpa using hb),Array.getElem?_modify,iP rfl,h];rfl
theorem yeN{enc:β→Value}[Inhabited β]{w:World}{b b' off n:Nat}{d:Array β}{os:Array Obj}(hb:b'<w.heap.size)(hne:b'≠b):(grow (putRow enc (Sort.ahead w n) b off d) os).heap[b']? =w.heap[b']? :=by
 show((w.heap.modify b (onCells (putCells enc off d)))++os)[b']? =_;rw [Array.getElem?_append_left (by simpa using hb),Array.getElem?_modify,iN (Ne.symm hne)]
theorem RowAt.put{b off:Nat}{cur:Array Value}{vs:List Value}(h:RowAt r s t T b off cap cur vs xs)(h1:r.sz=1)(ht:0<t){enc:β→Value}[Inhabited β]{d:Array β}(hd:d.size=xs.length)(hy:ys.length=xs.length)(hr:∀j,j<d.size→∀h2:j<ys.length,r.rd s [enc d[j]!] ys[j]){w':World}(hw:∃n os,w'=grow (putRow enc (Sort.ahead s.w n) b off d) os):
  ∃s',w'=s'.w∧Mv (One t) s s'∧RowT r s' t T (some ⟨b,off,none⟩) cap ys:=by
 obtain⟨n,os,rfl⟩:=hw;have hb:b<s.w.heap.size:=(yAs.1 h.heap).1;refine⟨⟨_,fun b=>if b<s.w.heap.size then s.tag b else 0⟩,rfl,⟨rfl,rfl,rfl,?_,fun b' hb' hn=>⟨yeN hb' fun e=>hn (by rw [e];exact h.tag),iP hb'⟩⟩,?_⟩
 ·show _≤((s.w.heap.modify b _)++os).size;simp
 ·have hm:Mv (One t) s ⟨grow (putRow enc (Sort.ahead s.w n) b off d) os,fun b=>if b<s.w.heap.size then s.tag b else 0⟩:=⟨rfl,rfl,rfl,(by show _≤((s.w.heap.modify b _)++os).size;simp),fun b' hb' hn=>⟨yeN hb' fun e=>hn (by rw [e];exact h.tag),iP hb'⟩⟩;have hle:=hm.le (by show ¬0=t;omega);have hcap:=h.cap;have hcs:((putCells enc off d cur).toList.drop off).take (ys.length*1)=(d.toList.map enc):=by
   rw [Nat.mul_one];apply List.ext_getElem?;intro j;rw [List.getElem?_take,List.getElem?_drop,List.getElem?_map];by_cases hj:j<ys.length
   ·rw [iP hj,Array.getElem?_toList,putCells,Array.getElem?_mapIdx,Array.getElem?_eq_getElem (by omega),Option.map_some,iP ⟨by omega,by omega⟩,Nat.add_sub_cancel_left,Array.getElem?_toList,Array.getElem?_eq_getElem (by omega),Option.map_some,getElem!_pos _ _ (by omega)]
   ·rw [iN hj,Array.getElem?_toList,Array.getElem?_eq_none (by omega)];rfl
  refine⟨d.toList.map enc,⟨by rw [h1,Nat.mul_one,yLm,Array.length_toList];omega,.inr ⟨b,off,cap,putCells enc off d cur,rfl,⟨yhK h.heap,?_,yZl _⟩,by omega,hcap.2.1,?_,by rw [h1];exact hcs⟩⟩,Cells.of h1 (by simp;omega) fun j hj hj2=>?_⟩
  ·show (if b<s.w.heap.size then s.tag b else 0)=t;rw [iP hb];exact h.tag
  ·rw [h1,Nat.mul_one,putCells,Array.size_mapIdx];exact hcap.2.2
  ·have hjd:j<d.size:=by simpa using hj
   have:=hr j hjd hj2;rw [getElem!_pos d j hjd] at this;rw [List.getElem_map,Array.getElem_toList];exact r.mono hle this
theorem RowAt.holds{b off:Nat}{cur:Array Value}{vs:List Value}(h:RowAt r s t T b off cap cur vs xs){enc:β→Value}[Inhabited β]{d:Array β}(hd:d.size=vs.length)(he:∀j (h:j<vs.length),enc d[j]! =vs[j]):Holds enc s.w b off d:=fun j hj=>by
 have hc:=h.cell j (by omega);refine⟨?_,?_⟩
 ·unfold World.cell?;rw [h.heap];show cur[off+j]? =_;rw [hc,he j (by omega)]
 ·unfold World.frozen?;rw [h.heap];show(decide (0≤off+j)&&decide (off+j<0))=false;simp
end
def isI(x:Int):LI→LI
 | []=> [x]
 | y::l=>if x≤y then x::y::l else y::isI x l
def isL :LI→LI
 | []=> []
 | x::l=>isI x (isL l)
theorem ydk(x:Int):∀l:LI,(isI x l).Perm (x::l)
 | []=> .refl _
 | y::l=>by
  unfold isI;split
  ·exact .refl _
  ·exact ((ydk x l).cons y).trans (.swap x y l)
theorem y6H :∀l:LI,(isL l).Perm l
 | []=> .refl _
 | x::l=>(ydk x _).trans ((y6H l).cons x)
theorem yhL(x:Int):∀{l:LI},l.Pairwise (· ≤ ·)→(isI x l).Pairwise (· ≤ ·)
 | [],_=>by simp [isI]
 | y::l,h=>by
  obtain⟨h1,h2⟩:=yPc.1 h;unfold isI;split
  ·rename_i hxy;refine yPc.2 ⟨fun z hz=>?_,h⟩;rcases yMo.1 hz with rfl|hz
   ·exact hxy
   ·exact Int.le_trans hxy (h1 z hz)
  ·rename_i hxy;refine yPc.2 ⟨fun z hz=>?_,yhL x h2⟩;rcases yMo.1 ((ydk x l).mem_iff.1 hz) with rfl|hz
   ·omega
   ·exact h1 z hz
theorem ydI :∀l:LI,(isL l).Pairwise (· ≤ ·)
 | []=> .nil
 | x::l=>yhL x (ydI l)
theorem ykU(l:LI):isL l=l.mergeSort fun x y=>decide (x≤y):=by
 refine List.Perm.eq_of_pairwise (le:=(· ≤ ·)) (fun a b _ _ h1 h2=>Int.le_antisymm h1 h2) (ydI l) ?_ ((y6H l).trans (List.mergeSort_perm l _).symm);exact(List.pairwise_mergeSort (le:=fun x y:Int=>decide (x≤y)) (fun a b c h1 h2=>by simp at *;omega) (fun a b=>by simp;omega) l).imp fun h=>by simpa using h
def y2A(p0:LI):Option LI:=if p0.length≤4294967296 then some (isL p0) else none
theorem y9l{s:Sig}{p0:LI}{t0:Nat}{a1:Option Addr}{c1:Nat}{r:LI}(zt0:0<t0)(h1:RowT (rK .i64) s t0 3 a1 c1 p0)(hm:y2A p0=some r):
  Calls prog 60 #[.slice a1 p0.length c1] s.w (RetS (One t0) s fun v s'=>v= .tuple #[]∧RowT (rK .i64) s' t0 3 a1 c1 r):=by
 obtain⟨hl,rfl⟩:p0.length≤4294967296∧p0.mergeSort (fun x y=>decide (x≤y))=r:=by
  unfold y2A at hm;rw [ykU] at hm;split at hm
  ·exact ⟨by assumption,ySi hm⟩
  ·cases hm
 rcases h1.seen rfl with ⟨rfl,rfl,rfl⟩|⟨b,off,cur,vs,rfl,h⟩
 ·refine (Tryz.slices_Sort_int_none none 0 s.w).mono ?_;rintro e w' ⟨rfl,rfl⟩;exact⟨_,s,rfl,rfl,Mv.refl _ _,rfl,by simpa using RowT.nil⟩
 ·have hv:∀j (h2:j<vs.length) (h3:j<p0.length),vs[j]= .int .i64 p0[j]:=fun j h2 h3=>by
   have:=h.rd j h2 h3;exact List.head_eq_of_cons_eq this
  have hlen:=h.len;have hb:b<s.w.heap.size:=(yAs.1 h.heap).1;refine(Tryz.slices_Sort_int b off c1 p0 s.w (h.holds (by simp [hlen]) fun j hj=>?_) hb (by omega)).mono ?_
  ·rw [hv j hj (by omega),getElem!_pos _ _ (by simp;omega)];simp
  ·rintro e w' ⟨rfl,hw⟩;obtain⟨s',hw',hm,hr⟩:=h.put rfl zt0 (ys:=p0.mergeSort fun x y=>decide (x≤y)) (by simp) (by simp) (fun j hj h2=>by
    have e:=getElem!_pos (p0.mergeSort fun x y=>decide (x≤y)).toArray j hj;rw [e];show [_]= [_];simp) hw
   exact⟨_,s',hw',rfl,hm,rfl,hr⟩
end
section
open Tryz Go.RowKit Go.Shelf
def mark(D:Nat):Deferred:={ target:= .collected D,args:= #[] }
def Marks(B:Nat)(w:World)(ds:List Deferred):Prop:=∃Ds:List Nat,ds=Ds.map mark∧Ds.Nodup∧∀D∈Ds,B≤D∧w.heap[D]? =some (.deferred (some []))
structure Quiet (B:Nat) (w w':World):Prop where
 below:Below B w w'
 cells:∀(b:Nat) (cs:Array Value) (t:TypeId) (fr:Nat×Nat),w.heap[b]? =some (Obj.cells cs t fr)→w'.heap[b]? =some (Obj.cells cs t fr)
theorem Quiet.trans{B:Nat}{a b c:World}(h:Quiet B a b)(k:Quiet B b c):Quiet B a c:=⟨h.below.trans k.below,fun b cs t fr hb=>k.cells b cs t fr (h.cells b cs t fr hb)⟩
theorem Marks.turn{B B':Nat}{w w':World}{tag tag':Nat→Nat}{k:Nat}{ds:List Deferred}(h:Marks B w ds)(ht:Turn B' tag tag' k w w'):Marks B w' ds:=by
 obtain⟨Ds,h1,h2,h3⟩:=h;exact⟨Ds,h1,h2,fun D hD=>⟨(h3 D hD).1,ht.keep _ _ (h3 D hD).2 rfl⟩⟩
theorem Marks.below{B:Nat}{w w':World}{ds:List Deferred}(h:Marks B w ds)(hb:Below w.heap.size w w'):Marks B w' ds:=
 h.turn (Turn.below (B:=0) (tag:=fun _=>0) (k:=0) hb)
theorem yed{P:Program}{f:FuncId}{fn:Func}{c:Code}{args:Array Value}{w:World}{R:Ending→World→Prop}(hf:P.funcs[f]? =some fn)(hb:fn.body=some c)
  (h:c.wp P (bodyPostM Fence.wide 4 P fn R) { tmps:=args++Array.replicate (fn.ntmps-args.size) undef,defers:=[] } w):Calls P f args w R:=
 (callsIn_wide (n:=4)).1 (callsIn_of_wp_marks hf hb trivial (wpIn_wide.2 h) rfl)
end
section
open Tryz Go Go.RowKit
noncomputable section
variable{s':Sig}{N:Nat}{enc:Nat→List Value}{t u D:Nat}{Φ:Fr}{ds:List Deferred}{Q:Exit→Act→World→Prop}{fn:Func}{a1:Option Addr}{c1:Nat}
def Yd(P:Program)(l N:Nat)(enc:Nat→List Value)(J:Nat→Sig→Prop):Prop:=
 ∀k,k<N→∀s,J k s→YieldAt Fence.wide 2 P l (enc k).toArray s.w fun e W'=>e= .returned (.bool true)∧∃s',W'=s'.w∧Le s s'∧J (k+1) s'
def FI(P:Program)(s:Sig)(v:Value)(N:Nat)(enc:Nat→List Value):Prop:=
 ∃gf lb,v= .func (.func gf) #[] lb∧Cf P gf∧∀(l:Nat) (J:Nat→Sig→Prop) (s1:Sig),Le s s1→(∀k a b,J k a→Mv No a b→J k b)→Yd P l N enc J→J 0 s1→
  Calls P gf (#[.func (.yield l) #[] #[]]++lb) s1.w fun e W'=>(∃v,e= .returned v)∧∃s2,W'=s2.w∧J N s2
theorem FI.mono{P:Program}{s:Sig}{v:Value}(h:FI P s v N enc)(m:Le s s'):FI P s' v N enc:=by
 obtain⟨gf,lb,e,hc,h⟩:=h;exact⟨gf,lb,e,hc,fun l J s1 h1 h2 h3 h4=>h l J s1 (m.trans h1) h2 h3 h4⟩
def Lf(s0 s:Sig):Prop:=Le s0 s
theorem Lf.mono{s0 s:Sig}(h:Lf s0 s)(m:Le s s'):Lf s0 s':=Le.trans h m
structure Rc (s:Sig) (t u D:Nat) (r:Loop):Prop where
 lp:s.w.heap[D+1]? =some (.loop r)
 mark:s.w.heap[D]? =some (.deferred (some []))
 tr:s.tag (D+1)=t
 tm:s.tag D=u
theorem Rc.mv{S:Nat→Prop}{s:Sig}{r:Loop}(h:Rc s t u D r)(m:Mv S s s')(hn:¬S t)(hu:¬S u):Rc s' t u D r:=by
 obtain⟨g1,g2⟩:=m.blk (D+1) (yAs.1 h.lp).1 (by rw [h.tr];exact hn);obtain⟨g3,g4⟩:=m.blk D (yAs.1 h.mark).1 (by rw [h.tm];exact hu);exact⟨g1.trans h.lp,g3.trans h.mark,g2.trans h.tr,g4.trans h.tm⟩
structure Mk (s:Sig) (t D:Nat):Prop where
 mark:s.w.heap[D]? =some (.deferred (some []))
 tm:s.tag D=t
theorem Rc.put{s:Sig}{r:Loop}(h:Rc s t u D r)(r':Loop):Mv (One t) s ⟨s.w.putObj (D+1) (.loop r'),s.tag⟩∧Rc ⟨s.w.putObj (D+1) (.loop r'),s.tag⟩ t u D r':=by
 have hl:=(yAs.1 h.lp).1;refine⟨⟨rfl,rfl,rfl,by simp [World.putObj],fun b hb hn=>⟨World.putObj_heap_other fun e=>hn ?_,rfl⟩⟩,⟨World.putObj_heap_same hl,(World.putObj_heap_other (by omega)).trans h.mark,h.tr,h.tm⟩⟩;subst e;exact h.tr
def Env.zp :List Nat→List Value→List (Nat×Value)→List (Nat×Value)
 | p::ps,v::vs,e=>Env.zp ps vs ((p,v)::e)
 | _,_,e=>e
theorem Fits.zp{n:Nat}:∀{ps:List Nat} {vs:List Value} {e:List (Nat×Value)} {a:Act},(∀p∈ps,p<n)→Fits Φ n e a→
  Fits Φ n (Env.zp ps vs e) { a with tmps:=(ps.zip vs).foldl (fun t (p,v)=>t.setIfInBounds p v) a.tmps }
 | [],_,_,_,_,h=>by simpa [Env.zp] using h
 | _::_,[],_,_,_,h=>by simpa [Env.zp] using h
 | p::ps,v::vs,e,a,hp,h=>by
  have:=Fits.zp (ps:=ps) (vs:=vs) (fun q hq=>hp q (yMm _ hq)) (h.put (d:=p) (by simpa using hp p (yMc ..)) v);simpa [Env.zp,Act.put] using this
def RQ(K:Sig→Prop):Exit→Act→World→Prop
 | .normal,_,W=>∃c:Sig,W=c.w∧K c
 | _,_,_=>False
def RB(Φ:Fr)(P:Program)(l:Nat)(body:Code)(K:Sig→Prop)(a:Act)(w:World):Prop:=∃w₂,(Instr.beginRound l).run P w= .ok () w₂∧body.wpIn Φ.f 2 P (RQ K) a w₂
theorem X.beg{P:Program}{n:Nat}{r:Loop}{body:Code}{K:Sig→Prop}{e:List (Nat×Value)}{s:Sig}(h:Rc s t u D r)(hr:r.state= .ready)
  (hb:∀s',Mv (One t) s s'→Rc s' t u D { r with state:= .busy }→E Φ P (RQ K) n body e s'.w):X Φ (Exit.then (RB Φ P (D+1) body K) (fun _ _ _=>False)) n .normal e s.w:=fun a ha=>
 ⟨_,run_beginRound h.lp hr,hb _ (h.put _).1 (h.put _).2 a ha⟩
theorem X.rnd{n:Nat}{K:Sig→Prop}{e:List (Nat×Value)}{s:Sig}(h:K s):X Φ (RQ K) n .normal e s.w:=fun _ _=>⟨s,rfl,h⟩
theorem E.range{ds:List Deferred}{P:Program}{Q:Exit→Act→World→Prop}{n:Nat}{e:List (Nat×Value)}{s:Sig}{g:Operand}{ps:Array Tmp}{assign body:Code}{v:Value}(t u:Nat)(ht:t≠0)(htu:t≠u)
  (J:Nat→Sig→Prop) (hg:Env.ev e g=some v) (hit:FI P s v N enc) (hps:∀k,(enc k).length=ps.size) (hpn:∀p∈ps.toList,p<n) (h0:J 0 s)
  (hbody:∀(k D:Nat) (r:Loop) (a b:Sig),k<N→J k a→Mv (One t) a b→Rc b t u D r→r.state= .ready→
   E ⟨some (D+1),[]⟩ P (Exit.then (RB ⟨some (D+1),[]⟩ P (D+1) body (fun c=>J (k+1) c∧Rc c t u D { r with state:= .busy }∧Le b c)) (fun _ _ _=>False)) n assign (Env.zp ps.toList (enc k) e) b.w)
  (hend:∀(D:Nat) (a b:Sig),s.w.heap.size≤D→J N a→Mv (One t) a b→Mk b u D→X ⟨none,mark D::ds⟩ Q n .normal e b.w):E ⟨none,ds⟩ P Q n (.rangeFunc g ps assign body) e s.w:=by
 obtain⟨gf,lb,rfl,hcf,hit⟩:=hit;intro ac ha;refine wpIn_rangeFunc ?_;intro fn _;obtain⟨r0,hr0⟩:∃r0:Loop,r0= { state:= .ready,pending:=none,fn,tmps:=ac.tmps,params:=ps,assign,body,defers:=s.w.heap.size }:=⟨_,rfl⟩;obtain⟨W1,hW1⟩:∃W1,(s.w.alloc (.deferred (some []))).alloc (.loop r0)=W1:=⟨_,rfl⟩;have hsz:(s.w.alloc (.deferred (some []))).heap.size=s.w.heap.size+1:=World.size_alloc _ _;have hL1:W1.heap[s.w.heap.size+1]? =some (.loop r0):=by
  rw [←hW1];have:=World.alloc_heap_new (s.w.alloc (.deferred (some []))) (.loop r0);rwa [World.size_alloc] at this
 have hK1:W1.heap[s.w.heap.size]? =some (.deferred (some [])):=by
  rw [←hW1];exact(Below.heap_alloc _ _ _ (by simp)).trans (World.alloc_heap_new s.w _)
 have hb1:Below s.w.heap.size s.w W1:=by
  rw [←hW1];exact((Below.refl _ s.w).alloc (yNr _) _).alloc (by simp) _
 obtain⟨tg,htg⟩:∃tg:Nat→Nat,tg=fun b=>if b<s.w.heap.size then s.tag b else if b=s.w.heap.size then u else t:=⟨_,rfl⟩
 have hm1:Mv No s ⟨W1,tg⟩:=Below.mv hb1 fun b hb=>by rw [htg];exact iP hb
 have hRc1:Rc ⟨W1,tg⟩ t u s.w.heap.size r0:=⟨hL1,hK1,by rw [htg];exact(iN (by omega)).trans (iN (by omega)),by rw [htg];exact(iN (by omega)).trans (iP rfl)⟩;have hev:ac.eval g= .func (.func gf) #[] lb:=ha.ev hg;refine⟨s.w.heap.size+1,[{ target:= .collected s.w.heap.size,args:= #[] }],W1,{ target:= .fn (.func gf) lb,args:= #[.func (.yield (s.w.heap.size+1)) #[] #[]] },W1,gf,
  #[.func (.yield (s.w.heap.size+1)) #[] #[]]++lb,W1,?_,?_,?_,?_,fun e=>(by cases e),?_⟩
 ·rw [←hW1,hr0];exact run_enterLoop_outer _ _ _ _ _
 ·simp only [resolve,hev];simp [go_sem]
 ·intro f' _;trivial
 ·have:=hcf (#[.func (.yield (s.w.heap.size+1)) #[] #[]]++lb) W1;simp [invoke,go_sem] at this ⊢;exact this
 ·obtain ⟨J',hJ'⟩:∃J':Nat→Sig→Prop,J'=fun k b=>(∃a,J k a∧Mv (One t) a b)∧Rc b t u s.w.heap.size r0:=⟨_,rfl⟩;have h:=hit (s.w.heap.size+1) J' ⟨W1,tg⟩ (hm1.le no_No) (by
   intro k a b hk hm;rw [hJ'] at hk ⊢;obtain⟨⟨a0,h1,h2⟩,h3⟩:=hk;exact⟨⟨a0,h1,h2.trans hm.no⟩,h3.mv hm no_No no_No⟩) (by
   intro k hkN a hk;rw [hJ'] at hk ⊢;obtain⟨⟨a0,h1,h2⟩,h3⟩:=hk;have hy:=run_yield (P:=P) (args:=(enc k).toArray) h3.lp (by rw [hr0];simpa using hps k);rw [hr0] at hy;refine⟨fn,_,assign,body,hy,roundIn_of_wpIn trivial ?_⟩;have hf0:Fits ⟨some (s.w.heap.size+1),[]⟩ n e { tmps:=ac.tmps,defers:=[] }:=⟨ha.size,rfl,ha.has⟩;have hf:=hf0.zp (ps:=ps.toList) (vs:=enc k) hpn;have hfold:(Array.zip ps (enc k).toArray).foldl (fun t (x:Tmp×Value)=>t.setIfInBounds x.1 x.2) ac.tmps=(ps.toList.zip (enc k)).foldl (fun t (x:Nat×Value)=>t.setIfInBounds x.1 x.2) ac.tmps:=by
    rw [←Array.foldl_toList,Array.toList_zip]
   have hb:=hbody k s.w.heap.size r0 a0 a hkN h1 h2 h3 (by rw [hr0]) _ hf;rw [←hfold] at hb;refine wpIn_mono hb fun ex a1 w1 hq=>?_;cases ex <;> first | exact hq|skip;obtain⟨w2,hq1,hq2⟩:=hq;refine⟨w2,hq1,wpIn_mono hq2 fun ex a3 w3 hq=>?_⟩;cases ex <;> first | exact hq.elim|skip;obtain⟨c,rfl,hJc,hRc,hle⟩:=hq;obtain⟨g1,g2⟩:=hRc.put r0;have hend:=run_endRound (P:=P) none hRc.lp;refine⟨_,_,hend,rfl,⟨c.w.putObj (s.w.heap.size+1) (.loop r0),c.tag⟩,?_,hle.trans (g1.le (Ne.symm ht)),⟨c,hJc,g1⟩,g2⟩;rw [hr0];rfl) (by
   rw [hJ'];exact⟨⟨s,h0,hm1.no⟩,hRc1⟩)
  refine(callsIn_wide (n:=1)).2 (h.mono ?_);rintro en W2 ⟨⟨vv,rfl⟩,s2,rfl,h5⟩;rw [hJ'] at h5;obtain⟨⟨a0,h1,h2⟩,h3⟩:=h5;obtain⟨g1,g2⟩:=h3.put { r0 with state:= .exhausted,pending:=none };have hen:=run_endLoop (P:=P) h3.lp (by rw [hr0];simp);rw [show r0.pending=none by rw [hr0]] at hen;refine⟨none,_,hen,?_⟩;refine hend s.w.heap.size a0 _ (yNr _) h1 (h2.trans g1) ⟨g2.mark,g2.tm⟩ _ ?_;exact⟨ha.size,by rw [←show ac.defers=ds from ha.defers];rfl,ha.has⟩
theorem L.opIn{P:Program}{n:Nat}{e:List (Nat×Value)}{w:World}{ops:Array Oper}{os:List Oper}{o:Oper}(hw:Wt ops e o.guard)(h:∀a,Fits Φ n e a→∀K:Act→World→Prop,(∀e' a' w',Fits Φ n e' a'→L Φ P Q n ops os e' w'→K a' w')→o.wpIn Φ.f 2 P a w K Q):L Φ P Q n ops (o::os) e w:=fun is his a ha=>by
 cases is with
 | nil=>cases his
 | cons i rest=>
  simp only [List.map_cons,List.cons.injEq] at his;obtain⟨h1,h2⟩:=his;simp only [wpOpsIn,h1];rw [iP (Wt.wanted ha hw)];exact h a ha _ fun e' a' w' hf hl=>hl rest h2 a' hf
theorem L.yd{P:Program}{n:Nat}{e:List (Nat×Value)}{s:Sig}{ops:Array Oper}{os:List Oper}{d:Nat}{ty:TypeId}{pos:String}{af:Array Edge}{g:Option (Nat×Bool)}{c:Call}{x:Operand}{xs:List Operand}{l k:Nat}{J:Nat→Sig→Prop}
  (hY:Yd P l N enc J) (hk:k<N) (hJ:J k s) (hc:c.callee= .value x) (hca:c.args=xs.toArray) (hw:Wt ops e g) (hx:Env.ev e x=some (.func (.yield l) #[] #[])) (hxs:Env.evs e xs=some (enc k)) (hd:Nat.blt d n=true)
  (h:∀s',Le s s'→J (k+1) s'→L Fr.o P Q n ops os ((d,.bool true)::e) s'.w):L Fr.o P Q n ops (⟨some d,.call c,ty,pos,af,g⟩::os) e s.w:=
 L.opIn hw fun ac ha K hK=>by
  obtain⟨fn,tmps,assign,body,hy,hR⟩:=hY k hk s hJ;refine⟨fun _ _=>trivial,?_⟩;have h2:c.args.map ac.eval=(enc k).toArray:=by rw [hca,List.map_toArray,ha.evs hxs]
  have h3:ac.eval x= .func (.yield l) #[] #[]:=ha.ev hx;have hrun:(Oper.semAt Fr.o.f.round ac.eval ⟨some d,.call c,ty,pos,af,g⟩).run P s.w= .ok (.round l fn tmps assign body) s.w:=by
   show(execOp ac.eval ⟨some d,.call c,ty,pos,af,g⟩).run P s.w=_;simp [execOp,resolve,hc,h2,h3,Deferred.ofValue,invoke,hy]
  rw [hrun];refine⟨fun e=>(by cases e),?_⟩;have hR1:RoundIn Fr.o.f (2-1) P l fn tmps assign body s.w fun e W'=>e= .returned (.bool true)∧∃s',W'=s'.w∧Le s s'∧J (k+1) s':=⟨trivial,fun c cs hr=>hR.2 c cs (fun d hd=>by cases hd)⟩;refine hR1.mono ?_;rintro en W' ⟨rfl,s',rfl,hle,hJ'⟩;exact hK _ _ _ (ha.put hd (.bool true)) (h s' hle hJ')
def rngF{S:Type}(f:Nat→S→Option S):Nat→Nat→S→Option S
 | 0,_,s=>some s
 | m+1,k,s=>(f k s).bind (rngF f m (k+1))
theorem yj5{S:Type}{f:Nat→S→Option S}{k:Nat}{s o:S}(hk:k<N)(h:rngF f (N-k) k s=some o):∃s',f k s=some s'∧rngF f (N-(k+1)) (k+1) s'=some o:=by
 rw [show N-k=(N-(k+1))+1 by omega,rngF] at h;exact Option.bind_eq_some_iff.1 h
theorem ykg{S:Type}{f:Nat→S→Option S}{s o:S}(h:rngF f (N-N) N s=some o):s=o:=by
 rw [Nat.sub_self,rngF] at h;exact ySi h
def Mks(s:Sig)(t:Nat)(ds:List Deferred):Prop:=∃Ds:List Nat,ds=Ds.map mark∧Ds.Nodup∧∀D∈Ds,s.w.heap[D]? =some (.deferred (some []))∧s.tag D=t
theorem Mks.nil{s:Sig}:Mks s t []:=⟨[],rfl,List.nodup_nil,fun _ h=>by cases h⟩
theorem Mks.mv{S:Nat→Prop}{s:Sig}(h:Mks s t ds)(m:Mv S s s')(hn:¬S t):Mks s' t ds:=by
 obtain⟨Ds,h1,h2,h3⟩:=h;refine⟨Ds,h1,h2,fun D hD=>?_⟩;obtain⟨g1,g2⟩:=h3 D hD;obtain⟨g3,g4⟩:=m.blk D (yAs.1 g1).1 (by rw [g2];exact hn);exact⟨g3.trans g1,g4.trans g2⟩
theorem Mks.old{s:Sig}(h:Mks s t ds):∀D,mark D∈ds→D<s.w.heap.size:=by
 obtain⟨Ds,rfl,_,h3⟩:=h;intro D hD;obtain⟨D',h4,h5⟩:=yMp.1 hD;cases h5;exact(yAs.1 (h3 _ h4).1).1
theorem Mks.cons{s:Sig}(h:Mks s t ds)(ho:∀D,mark D∈ds→D<N)(hD:N≤D)(hk:Mk s t D):Mks s t (mark D::ds):=by
 obtain⟨Ds,rfl,h2,h3⟩:=h;refine⟨D::Ds,rfl,List.nodup_cons.2 ⟨fun hm=>?_,h2⟩,fun D' hD'=>?_⟩
 ·have:=ho D (yMp.2 ⟨D,hm,rfl⟩);omega
 ·rcases yMo.1 hD' with rfl|h4
  ·exact ⟨hk.mark,hk.tm⟩
  ·exact h3 D' h4
theorem ygq{F:Fence}{n:Nat}{P:Program}{tmps:Array Value}{R:Ending→World→Prop}:∀(Ds:List Nat) (s:Sig),Ds.Nodup→(∀D∈Ds,s.w.heap[D]? =some (.deferred (some []))∧s.tag D=t)→
  (∀s',Mv (One t) s s'→∃v,(results fn tmps).run P s'.w= .ok v s'.w∧R (.returned v) s'.w)→LeavesInM F n P fn tmps R (Ds.map mark) .returning s.w
 | [],s,_,_,hfin=>hfin s (Mv.refl _ _)
 | D::Ds,s,hnd,hD,hfin=>by
  obtain⟨hd,ht⟩:=hD D (yMc ..);have hm:Mv (One t) s ⟨s.w.putObj D (.deferred none),s.tag⟩:=by
   refine⟨rfl,rfl,rfl,by simp [World.putObj],fun b hb hn=>⟨World.putObj_heap_other fun e=>hn ?_,rfl⟩⟩;subst e;exact ht
  refine⟨by simp,.inl ⟨D,_,rfl,run_takeDeferred hd,ygq Ds ⟨s.w.putObj D (.deferred none),s.tag⟩ (List.nodup_cons.1 hnd).2 (fun D' hD'=>⟨?_,(hD D' (yMm _ hD')).2⟩) fun s' hs'=>hfin s' (hm.trans hs')⟩⟩;show(s.w.putObj D (.deferred none)).heap[D']? =_;rw [World.putObj_heap_other ?_]
  ·exact (hD D' (yMm _ hD')).1
  ·rintro rfl;exact(List.nodup_cons.1 hnd).1 hD'
theorem X.lv{P:Program}{R:Ending→World→Prop}{n:Nat}{e:List (Nat×Value)}{s:Sig}{x:Exit}(hx:x= .ret∨x= .normal)(hk:Mks s t ds)(h:∀s',Mv (One t) s s'→X Fr.o (bodyPost P fn R) n x e s'.w):
  X ⟨none,ds⟩ (bodyPostM Fence.wide 4 P fn R) n x e s.w:=fun a ha=>by
 obtain⟨Ds,rfl,h2,h3⟩:=hk;have hl:LeavesInM Fence.wide 4 P fn a.tmps R (Ds.map mark) .returning s.w:=ygq Ds s h2 h3 fun s' hs'=>by
  have:=h s' hs' { a with defers:=[] } ⟨ha.size,rfl,ha.has⟩;rcases hx with rfl|rfl
  ·exact this.2
  ·exact this.2
 obtain⟨tmps,dd⟩:=a;obtain rfl:dd=Ds.map mark:=ha.defers;rcases hx with rfl|rfl
 ·exact hl
 ·exact hl
theorem E.entryM{P:Program}{f:FuncId}{c:Code}{vs:List Value}{w:World}{R:Ending→World→Prop}{n:Nat}{e:List (Nat×Value)}(hf:P.funcs[f]? =some fn)(hb:fn.body=some c)(hn:fn.ntmps=n)(hv:Nat.ble vs.length n=true)(he:Env.ofArgs 0 vs=e)
  (h:E Fr.o P (bodyPostM Fence.wide 4 P fn R) n c e w):Calls P f vs.toArray w R:=by
 subst hn;subst he;have hv':vs.length≤fn.ntmps:=yNl hv;refine yed hf hb ((wpIn_wide (n:=2)).1 (h _ ⟨by simp;omega,rfl,fun d v hg=>?_⟩));obtain⟨_,h2⟩:=Env.get_ofArgs hg;have hl:=(yGs.1 h2).1;rw [Nat.sub_zero] at h2 hl;rw [Array.getElem?_append_left (by simpa using hl)];simpa using h2
theorem vlNi :NAg prog 26:=NAg.mk' underlying26 rfl (by kernel_rfl)
theorem vlNn :NAg prog 3:=NAg.mk' underlying3 rfl (by kernel_rfl)
theorem vlSi :Sl prog 26 3 1:=Sl.mk' underlying26 (by kernel_rfl)
theorem vlCf :Cf prog 269:=Cf.mk func269 (by kernel_rfl) (by kernel_rfl)
def y5b(p0:LI):Option LI:=if p0.length≤4294967296 then some p0 else none
theorem yh6{s:Sig}{q0:LI}{b2:Nat}(h1:RdL (rK .i64) s a1 c1 q0)(bx2:Bx s 0 b2 #[.slice a1 q0.length c1] 26)(hlen:q0.length≤4294967296):
    FI prog s (.func (.func 269) #[] #[.pointer (some ⟨b2,0,none⟩)]) q0.length (fun k=>encI (q0.getD k 0)):=by
 refine⟨269,#[.pointer (some ⟨b2,0,none⟩)],rfl,vlCf,fun l J s1 hle hcl hY h0=>?_⟩;replace h1:=h1.mono hle;replace bx2:=bx2.le hle;have hW:∀i:Nat,i<4294967296→W ((i:Int)+1)=((i+1:Nat):Int):=fun i hi=>by rw [show W ((i:Int)+1)=(i:Int)+1 from IntWalk.i64_in _ (by omega)];rfl
 obtain⟨f,hf⟩:∃f:Int→Option (Int⊕Unit),f=fun i=>if decide (i<(q0.length:Int)) then some (.inl (W (i+1))) else some (.inr ()):=⟨_,rfl⟩
 have hit:iter f 0=some ():=by
  refine y2D (fun i=>(i:Int)) q0.length (by omega) (fun i hi=>?_) ?_
  · rw [hf];show(if decide ((i:Int)<(q0.length:Int)) then some (Sum.inl (W ((i:Int)+1))) else some (Sum.inr ()))=some (Sum.inl (((i+1:Nat):Int)));rw [iP (by simpa using hi),hW i (by omega)]
  · rw [hf];show(if decide ((q0.length:Int)<(q0.length:Int)) then some (Sum.inl (W ((q0.length:Int)+1))) else some (Sum.inr ()))=some (Sum.inr ());rw [iN (by simp)]
 refine E.entry (vs:=[.func (.yield l) #[] #[],.pointer (some ⟨b2,0,none⟩)]) func269 rfl ntmps269 rfl rfl (E.seq (E.reg (L.ld (j:=0) bx2.mem vlNi Wt.no rfl rfl rfl rfl (L.len vlSi Wt.no rfl rfl (L.mv Wt.no rfl rfl (L.nil (X.seqN (E.block ?_))))))));refine E.cut (x:= .exit 0) (fun e w=>∃(s46:Sig),J q0.length s46∧e= []∧w=s46.w) ?_ ?_
 · rintro _ _ ⟨s46,hJ,rfl,rfl⟩;refine X.blkE ?_;exact X.rt (.inr rfl) results269 Rs.nil rfl ⟨⟨_,rfl⟩,s46,rfl,hJ⟩
 intro K47;refine E.iter (fun (st43:Int) (e:List (Nat×Value)) (w:World)=>∃(k:Nat) (s44:Sig),st43=(k:Int)∧k≤q0.length∧J k s44∧RdL (rK .i64) s44 a1 c1 q0∧e= [(7,.int .i64 st43),(6,.int .i64 (q0.length:Int)),(5,.slice a1 q0.length c1),(0,.func (.yield l) #[] #[])]∧w=s44.w) hit ⟨0,s1,rfl,yZl _,h0,h1,rfl,rfl⟩ (Sub.rf rfl) ?_;rintro st43 res43 hm ih43 ho43 _ _ ⟨k,s44,rfl,hk,hJ,h1,rfl,rfl⟩;rw [hf] at hm;refine E.seq (E.reg (L.bi Wt.no rfl rfl rfl rfl (L.nil (X.seqN (E.seq ?_)))));rcases ifS hm with ⟨hc,hm⟩|⟨hc,hm⟩
 · refine E.cT rfl hc (E.skip (X.seqN (E.seq (E.block (E.seq (E.reg ?_))))));have hk2:k<q0.length:=by simpa using hc
   have ex18:idx q0 (k:Int)=some q0[k]:=by unfold idx;rw [iP (by omega),yTn,yGe hk2]
   have henc: [Value.int .i64 q0[k]]=encI (q0.getD k 0):=by rw [yGd,yGe hk2];rfl
   generalize q0[k]=x18 at ex18 henc;refine L.ix (r:=(rK .i64)) vlSi h1 Wt.no rfl rfl ex18 rfl fun b19 o19 cc19 me19 rd19=>?_;obtain rfl:=rd19;refine L.ld (j:=0) me19 vlNn Wt.no rfl rfl rfl rfl (L.as Wt.no rfl rfl (L.nil (X.seqN (E.seq (E.reg (L.mv Wt.no rfl rfl (L.mv Wt.no rfl rfl ?_)))))));refine L.yd (x:= .tmp 11) (xs:=[.tmp 12]) hY hk2 hJ rfl rfl Wt.no rfl (by rw [←henc];rfl) rfl fun s59 hle59 hJ=>?_;have h1:=h1.mono hle59;refine L.not Wt.no rfl rfl (L.nil (X.seqN (E.cF rfl rfl (E.skip (X.blkN (X.seqN (E.reg (L.bi Wt.no rfl rfl rfl rfl (L.mv Wt.no rfl rfl (L.nil (X.sub (ih43 _ (ySi hm).symm _ _ ⟨k+1,s59,?_,hk2,hJ,h1,rfl,rfl⟩) (Sub.rf rfl))))))))))));exact hW k (by omega)
 refine E.cF rfl hc (E.exit (X.seqX (X.seqX ?_)));have hkl:k=q0.length:=by simp at hc;omega
 subst hkl;exact X.sub (K47 _ _ ⟨s44,hJ,rfl,rfl⟩) Sub.nil
theorem ybb{s:Sig}{p0:LI}{r:LI}(h1:RdL (rK .i64) s a1 c1 p0)(hm:y5b p0=some r):
    Calls prog 202 #[.slice a1 p0.length c1] s.w (RetS No s fun v s'=>FI prog s' v r.length (fun k=>encI (r.getD k 0))):=by
 obtain⟨hlen,rfl⟩:p0.length≤4294967296∧p0=r:=by
  unfold y5b at hm;split at hm
  · exact⟨by assumption,ySi hm⟩
  · cases hm
 obtain⟨N,hN,hNb⟩:=s.fresh;have m0:Mv (Up N No) s s:=Mv.refl _ _;refine E.entry (vs:=[.slice a1 p0.length c1]) func202 rfl ntmps202 rfl rfl (E.seq (E.reg (L.box (N+0) Wt.no rfl rfl rfl fun b1 s2 m3 bx1=>?_)));replace m0:=m0.trans m3.no;replace h1:=h1.mono (m3.le no_No);refine L.as Wt.no rfl rfl (L.nil (X.seqN (E.seq (E.reg (L.mf Wt.no rfl rfl rfl (L.as Wt.no rfl rfl (L.nil (X.seqN (E.ret ?_)))))))));refine X.rt (.inl rfl) results202 (Rs.tmp rfl Rs.nil) rfl ⟨_,s2.ren N (fun _=>0),rfl,rfl,m0.ren hNb,?_⟩;have hr:∀{k b:Nat} {cs:Array Value} {T:TypeId},Bx s2 (N+k) b cs T→Bx (s2.ren N (fun _=>0)) 0 b cs T:=fun h=>⟨h.heap,by simp [Sig.ren,h.htag]⟩;exact yh6 (h1.ren hN) (hr bx1) hlen
theorem bs26 :Bs prog 26 3 1 [.int .i64 0]:=Bs.mk' underlying26 (by kernel_rfl) (by kernel_rfl) rfl
theorem el3 :El prog 3 1 8:=El.mk' (z:= .int .i64 0) (by kernel_rfl) (by kernel_rfl) (by kernel_rfl) rfl
theorem nag26 :NAg prog 26:=NAg.mk' underlying26 rfl (by kernel_rfl)
def y1z(x22:Int)(st20:LI):Option LI:=
 (app st20 ([x22]:LI)).bind fun x32=>
 some x32
def y5v(p0:LI)(p1:List (Int)):Option LI:=
 (rngF (fun k=>y1z (p1.getD k 0)) p1.length 0 p0).bind fun o20=>
 some o20
theorem yav{s:Sig}{p0:LI}{p1:List (Int)}{t0:Nat}{vp1:Value}{r:LI}(zt0:0<t0)(h1:RowT (rK .i64) s t0 3 a1 c1 p0)(hp1:FI prog s vp1 p1.length (fun k=>encI (p1.getD k 0)))(hm:y5v p0 p1=some r):
  Calls prog 304 #[.slice a1 p0.length c1,vp1] s.w (RetS (One t0) s fun v s'=>∃(a2:Option Addr) (c2:Nat),v= .slice a2 r.length c2∧RowT (rK .i64) s' t0 3 a2 c2 r):=by
 unfold y5v at hm;obtain⟨N,hN,hNb,lt0,-⟩:=s.freshL [t0];have m0:Mv (Up N (One t0)) s s:=Mv.refl _ _;have mk0:Mks s (N+0) []:=Mks.nil;refine E.entryM (vs:=[.slice a1 p0.length c1,vp1]) (e:=[(0,.slice a1 p0.length c1),(1,vp1)]) func304 rfl ntmps304 rfl rfl ?_;refine E.seq ?_;refine E.reg ?_;refine L.box (N+1) Wt.no rfl rfl rfl ?_;intro b3 s4 m5 bx3;replace m0:=m0.trans m5.no;replace hp1:=hp1.mono (m5.le no_No);replace mk0:=mk0.mv m5 no_No;replace h1:=h1.mv m5 no_No no_No;refine L.as Wt.no rfl rfl ?_;refine L.nil ?_;refine X.seqN ?_;refine E.seq ?_;refine E.seq ?_;refine E.reg ?_;refine L.mv Wt.no rfl rfl ?_;refine L.nil ?_;refine X.seqN ?_;refine E.block ?_;obtain⟨o20,eo20,hm⟩:=bindS hm;have mko20:=mk0.old;refine E.range (N+2) (N+0) (tgn hN) (by omega) (fun (k:Nat) (s21:Sig)=>∃(st20:LI) (a7:Option Addr) (c7:Nat),rngF (fun k=>y1z (p1.getD k 0)) (p1.length-k) k st20=some o20∧Mv (Up N (One t0)) s s21∧RowT (rK .i64) s21 t0 3 a7 c7 st20∧Mks s21 (N+0) []∧Bx s21 (N+1) b3 #[.slice a7 st20.length c7] 26) rfl hp1 (fun _=>rfl) (by decide) ⟨p0,a1,c1,eo20,m0,h1,mk0,bx3⟩ ?_ ?_
 ·rintro k20 D20 r20 s21 s23 hk20 ⟨st20,a7,c7,hj20,m0,h7,mk0,bx3⟩ m24 rc25 hr20;obtain⟨res20,hm,hj20⟩:=yj5 hk20 hj20;have hm:y1z (p1.getD k20 0) st20=some res20:=hm;show E _ _ _ _ _ (Env.zp _ (encI (p1.getD k20 0)) _) _;generalize p1.getD k20 0=x22 at hm ⊢;refine E.sub (e':=[(2,.pointer (some ⟨b3,0,none⟩)),(7,.int .i64 x22)]) (Sub.rf rfl) ?_;unfold y1z at hm;replace m0:=m0.trans (m24.one up);replace mk0:=mk0.mv m24 (tgN (by decide));replace bx3:=bx3.mv m24 (tgN (by decide));replace h7:=h7.mv m24 (tgV lt0) (tg0 hN);have h26:Lf s23 s23:=Le.refl _;refine E.reg ?_;refine L.as Wt.no rfl rfl ?_;refine L.nil ?_;refine X.beg rc25 hr20 fun s27 m28 rc25=>?_;replace m0:=m0.trans (m28.one up);replace mk0:=mk0.mv m28 (tgN (by decide));replace h26:=h26.mono (m28.le (tg0 hN));replace bx3:=bx3.mv m28 (tgN (by decide));replace h7:=h7.mv m28 (tgV lt0) (tg0 hN);refine E.block ?_;refine E.reg ?_;refine L.ld (j:=0) bx3.mem nag26 Wt.no rfl rfl rfl rfl ?_;refine L.mv Wt.no rfl rfl ?_;refine L.bsE (k:=1) (cs:=[.int .i64 x22]) 0 bs26 (yNl rfl) Wt.no rfl rfl rfl rfl ?_;intro b29 s30 m31 bx29;replace m0:=m0.trans m31.no;replace h7:=h7.mv m31 no_No no_No;replace mk0:=mk0.mv m31 no_No;replace h26:=h26.mono (m31.le no_No);replace rc25:=rc25.mv m31 no_No no_No;replace bx3:=bx3.mv m31 no_No;have h29:=Bx.rdL (r:=(rK .i64)) (xs:=([x22]:LI)) bx29 ⟨[.int .i64 x22],_,rfl,rfl,rfl⟩ (yNl rfl);obtain⟨x32,ex32,hm⟩:=bindS hm;refine L.ap (r:=(rK .i64)) underlying26 el3 rfl (tgpV zt0) h7 h29.wk Wt.no rfl rfl ex32 rfl ?_;intro a33 c33 s34 m35 h33;replace m0:=m0.trans (m35.one (.inr rfl));replace mk0:=mk0.mv m35 (tgW lt0);replace h26:=h26.mono (m35.le (tgz zt0));replace rc25:=rc25.mv m35 (tgW lt0) (tgW lt0);replace bx3:=bx3.mv m35 (tgW lt0);refine L.st (c:=[.slice a33 x32.length c33]) (cs':= #[.slice a33 x32.length c33]) bx3 nag26.sz Wt.no rfl rfl rfl rfl rfl (yNl rfl) rfl ?_;intro s36 m37 bx3;replace m0:=m0.trans (m37.one up);replace mk0:=mk0.mv m37 (tgN (by decide));replace h26:=h26.mono (m37.le (tg0 hN));replace rc25:=rc25.mv m37 (tgN (by decide)) (tgN (by decide));replace h33:=h33.mv m37 (tgV lt0) (tg0 hN);refine L.nil ?_;refine X.blkN ?_;obtain rfl:=ySi hm;exact X.rnd ⟨⟨x32,a33,c33,hj20,m0,h33,mk0,bx3⟩,rc25,h26⟩
 ·rintro D20 s21 s23 hD20 ⟨st20,a7,c7,hj20,m0,h7,mk0,bx3⟩ m24 mk20;have hx:=(ykg hj20).symm;subst hx;replace m0:=m0.trans (m24.one up);replace mk0:=mk0.mv m24 (tgN (by decide));replace bx3:=bx3.mv m24 (tgN (by decide));replace h7:=h7.mv m24 (tgV lt0) (tg0 hN);replace mk0:=mk0.cons mko20 hD20 mk20;refine X.blkN ?_;refine X.seqN ?_;refine E.seq ?_;refine E.reg ?_;refine L.ld (j:=0) bx3.mem nag26 Wt.no rfl rfl rfl rfl ?_;refine L.as Wt.no rfl rfl ?_;refine L.nil ?_;refine X.seqN ?_;refine E.ret ?_;refine X.lv (.inl rfl) mk0 fun s38 m39=>?_;replace m0:=m0.trans (m39.one up);replace h7:=h7.mv m39 (tgV lt0) (tg0 hN);obtain rfl:=ySi hm;exact X.rt (.inl rfl) results304 (Rs.tmp rfl Rs.nil) rfl ⟨_,(s38).ren N (fun _=>0),rfl,rfl,m0.ren hNb,⟨a7,c7,rfl,(h7.renV hN lt0)⟩⟩
theorem cf304 :Cf prog 304:=Cf.mk func304 (by kernel_rfl) (by kernel_rfl)
def y6t(p0:List (Int)):Option LI:=
 (y5v ([]:LI) p0).bind fun r2=>
 some r2
theorem yaU{s:Sig}{p0:List (Int)}{vp0:Value}{u0:Nat}{r:LI}(hp0:FI prog s vp0 p0.length (fun k=>encI (p0.getD k 0)))(hm:y6t p0=some r):
  Calls prog 268 #[vp0] s.w (RetS No s fun v s'=>∃(a1:Option Addr) (c1:Nat),v= .slice a1 r.length c1∧RowT (rK .i64) s' u0 3 a1 c1 r):=by
 unfold y6t at hm;obtain⟨N,hN,hNb⟩:=s.fresh;have m0:Mv (Up N No) s s:=Mv.refl _ _;refine E.entry (vs:=[vp0]) (e:=[(0,vp0)]) func268 rfl ntmps268 rfl rfl ?_;refine E.seq ?_;refine E.reg ?_;refine L.as Wt.no rfl rfl ?_;refine L.nil ?_;refine X.seqN ?_;refine E.seq ?_;refine E.reg ?_;refine L.mv Wt.no rfl rfl ?_;obtain⟨r2,er2,hm⟩:=bindS hm;refine L.ca (vs:=[.slice none 0 0,vp0]) cf304 rfl rfl Wt.no rfl (yav (s:=s) (p0:=([]:LI)) (p1:=p0) (t0:=(N+0)) (tpos hN) RowT.nil hp0 er2) rfl ?_;rintro _ s3 m4 ⟨a5,c5,rfl,h5⟩;replace m0:=m0.trans (m4.one up);refine L.as Wt.no rfl rfl ?_;refine L.nil ?_;refine X.seqN ?_;refine E.ret ?_;obtain rfl:=ySi hm;exact X.rt (.inl rfl) results268 (Rs.tmp rfl Rs.nil) rfl ⟨_,(s3).ren N (fun k=>cond (Nat.beq k 0) u0 (0)),rfl,rfl,m0.ren hNb,⟨a5,c5,rfl,(h5.ren hN)⟩⟩
theorem cf268 :Cf prog 268:=Cf.mk func268 (by kernel_rfl) (by kernel_rfl)
theorem cf60 :Cf prog 60:=Cf.mk func60 (by kernel_rfl) (by kernel_rfl)
def y3E(p0:List (Int)):Option LI:=
 (y6t p0).bind fun r2=>
 (y2A r2).bind fun r6=>
 (lenEq r6 r2).bind fun _=>
 some r6
theorem ybc{s:Sig}{p0:List (Int)}{vp0:Value}{u0:Nat}{r:LI}(hp0:FI prog s vp0 p0.length (fun k=>encI (p0.getD k 0)))(hm:y3E p0=some r):
  Calls prog 201 #[vp0] s.w (RetS No s fun v s'=>∃(a1:Option Addr) (c1:Nat),v= .slice a1 r.length c1∧RowT (rK .i64) s' u0 3 a1 c1 r):=by
 unfold y3E at hm;obtain⟨N,hN,hNb⟩:=s.fresh;have m0:Mv (Up N No) s s:=Mv.refl _ _;refine E.entry (vs:=[vp0]) (e:=[(0,vp0)]) func201 rfl ntmps201 rfl rfl ?_;refine E.seq ?_;refine E.reg ?_;refine L.as Wt.no rfl rfl ?_;refine L.nil ?_;refine X.seqN ?_;refine E.seq ?_;refine E.reg ?_;refine L.mv Wt.no rfl rfl ?_;obtain⟨r2,er2,hm⟩:=bindS hm;refine L.ca (vs:=[vp0]) cf268 rfl rfl Wt.no rfl (yaU (s:=s) (p0:=p0) (u0:=(N+0)) hp0 er2) rfl ?_;rintro _ s3 m4 ⟨a5,c5,rfl,h5⟩;replace m0:=m0.trans m4.no;refine L.as Wt.no rfl rfl ?_;refine L.nil ?_;refine X.seqN ?_;refine E.seq ?_;refine E.reg ?_;refine L.mv Wt.no rfl rfl ?_;obtain⟨r6,er6,hm⟩:=bindS hm;refine L.ca (vs:=[.slice a5 r2.length c5]) cf60 rfl rfl Wt.no rfl (y9l (s:=s3) (p0:=r2) (t0:=(N+0)) (tpos hN) h5 er6) rfl ?_;rintro _ s7 m8 ⟨rfl,h5⟩;obtain⟨_,qz9,hm⟩:=bindS hm;have elz9:=yiV qz9;replace m0:=m0.trans (m8.one up);refine L.reval (d:=3) rfl elz9 ?_;refine L.nil ?_;refine X.seqN ?_;refine E.seq ?_;refine E.reg ?_;refine L.mv Wt.no rfl rfl ?_;refine L.as Wt.no rfl rfl ?_;refine L.nil ?_;refine X.seqN ?_;refine E.ret ?_;obtain rfl:=ySi hm;exact X.rt (.inl rfl) results201 (Rs.tmp rfl Rs.nil) rfl ⟨_,(s7).ren N (fun k=>cond (Nat.beq k 0) u0 (0)),rfl,rfl,m0.ren hNb,⟨a5,c5,rfl,(h5.ren hN)⟩⟩
def lT(P:Program)(xs:LI):LV:=⟨fun _ s v=>FI P s v xs.length (fun k=>encI (xs.getD k 0)),[],none,none,fun _ hl h=>h.mono hl,nofun,nofun,fun⟨_,_,e,_⟩=>by rw [e];rfl⟩
theorem y8W{p0:LI}{r:ByteArray}(hm:y4T p0=some r):Fw prog 153 ⟨0,[]⟩ [.f qI p0] [] (.o (lV (.string r))) []:=
 ⟨fun ts β s vs _ _ _ _ ⟨v,us,⟨a,c,e,h⟩,hu,e2⟩ _=>by
  have hu:us= []:=hu;subst hu;subst e;subst e2;exact Calls.mono (ydH h hm) fun en w' ⟨v,s',e1,e2,m,hv⟩=>⟨v,s',e1,e2,m.no,β,fun _ _=>rfl,⟨hv,rfl⟩,fun i o ho=>by simp at ho⟩⟩
theorem ybd{p0:LI}{r:LI}(hm:y5b p0=some r):Fw prog 202 ⟨0,[]⟩ [.f qI p0] [] (.o (lT prog r)) []:=
 ⟨fun ts β s vs _ _ _ _ ⟨v,us,⟨a,c,e,h⟩,hu,e2⟩ _=>by
  have hu:us= []:=hu;subst hu;subst e;subst e2;exact Calls.mono (ybb h hm) fun en w' ⟨v,s',e1,e2,m,hv⟩=>⟨v,s',e1,e2,m.no,β,fun _ _=>rfl,hv,fun i o ho=>by simp at ho⟩⟩
theorem ybe{p0:LI}{r:LI}(hm:y3E p0=some r):Fw prog 201 ⟨0,[]⟩ [.o (lT prog p0)] [] (.h 0) [ROW qI 3 r]:=
 ⟨fun ts β s vs ht _ _ _ ⟨v,us,h,hu,e2⟩ _=>by
  have hu:us= []:=hu;subst hu;subst e2;obtain⟨t,rfl⟩:∃t,ts= [t]:=by
   match ts,ht with
   | [t],_=>exact⟨t,rfl⟩
  exact Calls.mono (ybc (u0:=t) h hm) fun en w' ⟨v,s',e1,e2,m,a,c,hv,hr⟩=>⟨v,s',e1,e2,m.no,fun _=>v,fun i hi=>(by cases hi),⟨rfl,by rw [hv];rfl⟩,fun i o ho=>by
   match i,ho with
   | 0,ho=>cases ho;exact⟨a,c,hv,hr⟩⟩⟩
theorem yaV{p0:LI}{r:LI}(hm:y3k p0=some r):Fw prog 205 ⟨1,[0]⟩ [.h 0] [ROW qI 3 p0] (.tp []) [ROW qI 3 r]:=
 ⟨fun ts β s vs ht _ _ hp ⟨v,us,h,hu,e2⟩ ho=>by
  have hu:us= []:=hu;subst hu;subst e2;obtain⟨t,rfl⟩:∃t,ts= [t]:=by
   match ts,ht with
   | [t],_=>exact⟨t,rfl⟩
  obtain⟨a,c,e,h2⟩:=ho 0 _ rfl;have hv:v= .slice a p0.length c:=h.1.trans e;subst hv;have hl:r.length=p0.length:=by
   unfold y3k at hm;split at hm
   ·cases hm;exact List.length_reverse
   ·cases hm
  exact Calls.mono (yaT (hp t (.head _)) h2 hm) fun en w' ⟨v,s',e1,e2,m,hv,hr⟩=>⟨v,s',e1,e2,m.weak fun t' ht'=>⟨0,.head _,by rw [show t'=t from ht'];rfl⟩,β,fun _ _=>rfl,⟨[],rfl,hv⟩,fun i o ho=>by
   match i,ho with
   | 0,ho=>cases ho;exact⟨a,c,by rw [e,hl],hr⟩⟩⟩
end
end
end Go.Proofs.YtfdeiphkmjdifaaGreatDoor
set_option maxRecDepth 100000
set_option maxHeartbeats 8000000
namespace Go.Proofs.YtfdeiphkmjdifaaGreatDoor
open Tryz Go Go.RowKit
noncomputable section
abbrev Arr55 :=(Int×Int×Int×Int×Int)×(Int×Int×Int×Int×Int)×(Int×Int×Int×Int×Int)×(Int×Int×Int×Int×Int)×(Int×Int×Int×Int×Int)
abbrev y1h :=Int×Int×Arr55
abbrev EdgL :=List (Int×Int×Int)
abbrev KeyT :=(Int×Int)×Int
abbrev CodT :=(Int×Int×Int×List Bool×(List (Int×Int)))×LI×LI×Int
abbrev PbT :=AutT×AutT×LI
abbrev BenT :=PbT×CodT×Int×(List Bool×List Bool)
abbrev TskT :=(AutT×(List KeyT))×(AutT×(List KeyT))×(AutT×(List KeyT))×List LI×LI×LI
abbrev StpT :=LI×LI×LI×Int×Bool×Int×Bool
abbrev CycT :=LI×LI×Int
theorem ag99 :Ag prog 99 9:=Ag.mk' underlying99 rfl (by kernel_rfl)
theorem bs27 :Bs prog 27 112 3 [.int .i64 0,.int .i64 0,.int .i64 0]:=Bs.mk' underlying27 (by kernel_rfl) (by kernel_rfl) rfl
theorem pl112 :Pl prog 112 [(0,1),(1,1),(2,1)] [.int .i64 0,.int .i64 0,.int .i64 0]:=Pl.str underlying112 (by kernel_rfl) (by kernel_rfl)
theorem pl60 :Pl prog 60 [(0,1),(1,1),(2,1),(3,1)] [.slice none 0 0,.int .i64 0,.slice none 0 0,.slice none 0 0]:=Pl.str underlying60 (by kernel_rfl) (by kernel_rfl)
theorem pl99 :Pl prog 99 [(0,4),(4,4),(8,1)] [.slice none 0 0,.int .i64 0,.slice none 0 0,.slice none 0 0,.slice none 0 0,.int .i64 0,.slice none 0 0,.slice none 0 0,.slice none 0 0]:=Pl.str underlying99 (by kernel_rfl) (by kernel_rfl)
theorem zz99 :(prog.info? 99).bind (·.zero)=some (.agg #[.slice none 0 0,.int .i64 0,.slice none 0 0,.slice none 0 0,.slice none 0 0,.int .i64 0,.slice none 0 0,.slice none 0 0,.slice none 0 0]):=by kernel_rfl
abbrev rE60 :Rep AutT:=(rP (rL qI) (rP qI (rP (rL qI) (rL qT))))
abbrev rE99 :Rep PbT:=(rP rE60 (rP rE60 (rL qI)))
abbrev lx99(y:PbT):List LV:=[lF qI y.1.1,lI y.1.2.1,lF qI y.1.2.2.1,lF qT y.1.2.2.2,lF qI y.2.1.1,lI y.2.1.2.1,lF qI y.2.1.2.2.1,lF qT y.2.1.2.2.2,lF qI y.2.2]
theorem nag3 :NAg prog 3:=NAg.mk' underlying3 rfl (by kernel_rfl)
theorem sl26 :Sl prog 26 3 1:=Sl.mk' underlying26 (by kernel_rfl)
theorem lv3{y:Int}:Lv qI y [lI y]:= .k
theorem cf110 :CF 110:=cM func110 (by kernel_rfl)
theorem ag112 :Ag prog 112 3:=Ag.mk' underlying112 rfl (by kernel_rfl)
theorem cf41 :CF 41:=cM func41 (by kernel_rfl)
theorem y1A :FAb 112 0 0:=fAm 0 0 1 underlying112 R (by kernel_rfl)
theorem y3F :FAb 112 1 1:=fAm 1 1 1 underlying112 R (by kernel_rfl)
theorem y3l :FAb 112 2 2:=fAm 2 2 1 underlying112 R (by kernel_rfl)
theorem yI :FAb 60 0 0:=fAm 0 0 1 underlying60 R (by kernel_rfl)
theorem y1r :FAb 60 1 1:=fAm 1 1 1 underlying60 R (by kernel_rfl)
theorem yF :FAb 60 3 3:=fAm 3 3 1 underlying60 R (by kernel_rfl)
theorem nag27 :NAg prog 27:=NAg.mk' underlying27 rfl (by kernel_rfl)
theorem sl27 :Sl prog 27 112 3:=Sl.mk' underlying27 (by kernel_rfl)
theorem zz112 :(prog.info? 112).bind (·.zero)=some (.agg #[.int .i64 0,.int .i64 0,.int .i64 0]):=by kernel_rfl
theorem lv112{y:Int×Int×Int}:Lv qT y [lI y.1,lI y.2.1,lI y.2.2]:=(.p .k (.p .k .k))
abbrev lx60(y:AutT):List LV:=[lF qI y.1,lI y.2.1,lF qI y.2.2.1,lF qT y.2.2.2]
theorem ag60 :Ag prog 60 4:=Ag.mk' underlying60 rfl (by kernel_rfl)
theorem cf181 :CF 181:=cM func181 (by kernel_rfl)
theorem cf182 :CF 182:=cM func182 (by kernel_rfl)
theorem y5D :FAb 60 2 2:=fAm 2 2 1 underlying60 R (by kernel_rfl)
theorem cf139 :CF 139:=cM func139 (by kernel_rfl)
theorem cf150 :CF 150:=cM func150 (by kernel_rfl)
theorem cf77 :CF 77:=cM func77 (by kernel_rfl)
theorem cf114 :CF 114:=cM func114 (by kernel_rfl)
theorem sl49 :Sl prog 49 60 4:=Sl.mk' underlying49 (by kernel_rfl)
theorem zz60 :(prog.info? 60).bind (·.zero)=some (.agg #[.slice none 0 0,.int .i64 0,.slice none 0 0,.slice none 0 0]):=by kernel_rfl
theorem lv60{y:AutT}:Lv rE60 y [lF qI y.1,lI y.2.1,lF qI y.2.2.1,lF qT y.2.2.2]:=(.p .l (.p .k (.p .l .l)))
theorem cf140 :CF 140:=cM func140 (by kernel_rfl)
theorem cf66 :CF 66:=cM func66 (by kernel_rfl)
theorem flr3 :FlatR (rK .i64):=fun _ _ _ _ h=>h
theorem ag212 :Ag prog 212 3:=Ag.mk' underlying212 rfl (by kernel_rfl)
theorem bs210 :Bs prog 210 128 1 [.map none]:=Bs.mk' underlying210 (by kernel_rfl) (by kernel_rfl) rfl
theorem cf148 :CF 148:=cM func148 (by kernel_rfl)
theorem el128 :El prog 128 1 8:=El.mk' (z:= .map none) (by kernel_rfl) (by kernel_rfl) (by kernel_rfl) rfl
theorem yee :FAb 212 2 2:=fAm 2 2 1 underlying212 R (by kernel_rfl)
theorem md128 :Md prog 128 70 3 kvP (rK .i64) 0 (.int .i64 0):=Md.mk' underlying128 (KE.pair' underlying70 (by kernel_rfl) underlying3 (by kernel_rfl) (NAg.mk' underlying3 rfl (by kernel_rfl)).agg) (by kernel_rfl) (fun _=>rfl)
theorem yfx :NAg prog 210:=NAg.mk' underlying210 rfl (by kernel_rfl)
theorem pl212 :Pl prog 212 [(0,1),(1,1),(2,1)] [.slice none 0 0,.slice none 0 0,.slice none 0 0]:=Pl.str underlying212 (by kernel_rfl) (by kernel_rfl)
theorem pl70 :Pl prog 70 (plK 1 2 0) [.int .i64 0,.int .i64 0]:=Pl.arr underlying70 (by kernel_rfl) (by kernel_rfl)
theorem zz212 :(prog.info? 212).bind (·.zero)=some (.agg #[.slice none 0 0,.slice none 0 0,.slice none 0 0]):=by kernel_rfl
theorem ycG :FAb 212 0 0:=fAm 0 0 1 underlying212 R (by kernel_rfl)
theorem nag49 :NAg prog 49:=NAg.mk' underlying49 rfl (by kernel_rfl)
theorem zr3 :Zr prog (rK .i64) 3 8 (0:Int):=Zr.mk' (v:= .int .i64 0) (by kernel_rfl) (by kernel_rfl) (by kernel_rfl) (fun _=>rfl)
theorem cf138 :CF 138:=cM func138 (by kernel_rfl)
theorem cf215 :CF 215:=cM func215 (by kernel_rfl)
theorem cf226 :CF 226:=cM func226 (by kernel_rfl)
theorem cf141 :CF 141:=cM func141 (by kernel_rfl)
theorem cf69 :CF 69:=cM func69 (by kernel_rfl)
theorem cf58 :CF 58:=cM func58 (by kernel_rfl)
theorem yfy :NAg prog 128:=NAg.mk' underlying128 rfl (by kernel_rfl)
theorem sl210 :Sl prog 210 128 1:=Sl.mk' underlying210 (by kernel_rfl)
theorem lv128{y:List KeyT}:Lv (rM kvP qI) y [lM kvP qI y]:= .m
theorem bs74 :Bs prog 74 26 1 [.slice none 0 0]:=Bs.mk' underlying74 (by kernel_rfl) (by kernel_rfl) rfl
theorem cf151 :CF 151:=cM func151 (by kernel_rfl)
theorem cf152 :CF 152:=cM func152 (by kernel_rfl)
theorem cf153 :CF 153:=cM func153 (by kernel_rfl)
theorem cf154 :CF 154:=cM func154 (by kernel_rfl)
theorem cf155 :CF 155:=cM func155 (by kernel_rfl)
theorem cf48 :CF 48:=cM func48 (by kernel_rfl)
theorem el112 :El prog 112 3 24:=El.mk' (z:= .agg #[.int .i64 0,.int .i64 0,.int .i64 0]) (by kernel_rfl) (by kernel_rfl) (by kernel_rfl) rfl
theorem el26 :El prog 26 1 24:=El.mk' (z:= .slice none 0 0) (by kernel_rfl) (by kernel_rfl) (by kernel_rfl) rfl
theorem ygr :FAb 212 1 1:=fAm 1 1 1 underlying212 R (by kernel_rfl)
theorem md216 :Md prog 216 9 3 kvS (rK .i64) 0 (.int .i64 0):=Md.mk' underlying216 (KE.string underlying9) (by kernel_rfl) (fun _=>rfl)
theorem sl74 :Sl prog 74 26 1:=Sl.mk' underlying74 (by kernel_rfl)
theorem lv26{y:LI}:Lv (rL qI) y [lF qI y]:= .l
theorem cf243 :CF 243:=cM func243 (by kernel_rfl)
theorem ag190 :Ag prog 190 5:=Ag.mk' underlying190 rfl (by kernel_rfl)
theorem ygs :FAb 190 1 4:=fAm 1 4 1 underlying190 R (by kernel_rfl)
theorem pl190 :Pl prog 190 [(0,4),(4,1)] [.slice none 0 0,.int .i64 0,.slice none 0 0,.slice none 0 0,.map none]:=Pl.str underlying190 (by kernel_rfl) (by kernel_rfl)
theorem zz190 :(prog.info? 190).bind (·.zero)=some (.agg #[.slice none 0 0,.int .i64 0,.slice none 0 0,.slice none 0 0,.map none]):=by kernel_rfl
abbrev rE190 :Rep (AutT×(List KeyT)):=(rP rE60 (rM kvP qI))
abbrev lx190(y:AutT×(List KeyT)):List LV:=[lF qI y.1.1,lI y.1.2.1,lF qI y.1.2.2.1,lF qT y.1.2.2.2,lM kvP qI y.2]
theorem bs49 :Bs prog 49 60 4 [.slice none 0 0,.int .i64 0,.slice none 0 0,.slice none 0 0]:=Bs.mk' underlying49 (by kernel_rfl) (by kernel_rfl) rfl
theorem cf105 :CF 105:=cM func105 (by kernel_rfl)
theorem cf111 :CF 111:=cM func111 (by kernel_rfl)
theorem cf162 :CF 162:=cM func162 (by kernel_rfl)
theorem cf198 :CF 198:=cM func198 (by kernel_rfl)
theorem cf79 :CF 79:=cM func79 (by kernel_rfl)
theorem y6I :FAb 99 0 0:=fAm 0 0 4 underlying99 R (by kernel_rfl)
theorem y6p :FAb 99 1 4:=fAm 1 4 4 underlying99 R (by kernel_rfl)
theorem y9M :FAb 99 2 8:=fAm 2 8 1 underlying99 R (by kernel_rfl)
theorem pl192 :Pl prog 192 [(0,5),(5,5),(10,5),(15,1),(16,1),(17,1)] [.slice none 0 0,.int .i64 0,.slice none 0 0,.slice none 0 0,.map none,.slice none 0 0,.int .i64 0,.slice none 0 0,.slice none 0 0,.map none,.slice none 0 0,.int .i64 0,.slice none 0 0,.slice none 0 0,.map none,.slice none 0 0,.slice none 0 0,.slice none 0 0]:=Pl.str underlying192 (by kernel_rfl) (by kernel_rfl)
abbrev rE192 :Rep TskT:=(rP rE190 (rP rE190 (rP rE190 (rP (rL (rL qI)) (rP (rL qI) (rL qI))))))
theorem cf125 :CF 125:=cM func125 (by kernel_rfl)
theorem yef :FAb 277 1 1:=fAm 1 1 1 underlying277 R (by kernel_rfl)
theorem ygt :FAb 277 2 2:=fAm 2 2 1 underlying277 R (by kernel_rfl)
abbrev rE344 :Rep (Int×Int):=(rP qI qI)
theorem ag70 :Ag prog 70 2:=Ag.mk' underlying70 rfl (by kernel_rfl)
theorem bs178 :Bs prog 178 344 2 [.int .i64 0,.int .i64 0]:=Bs.mk' underlying178 (by kernel_rfl) (by kernel_rfl) rfl
theorem el344 :El prog 344 2 16:=El.mk' (z:= .agg #[.int .i64 0,.int .i64 0]) (by kernel_rfl) (by kernel_rfl) (by kernel_rfl) rfl
theorem yak :FAb 277 0 0:=fAm 0 0 1 underlying277 R (by kernel_rfl)
theorem ia70 :IA prog 70 2 1:=IA.mk underlying70 (by kernel_rfl)
theorem y7K :NAg prog 178:=NAg.mk' underlying178 rfl (by kernel_rfl)
theorem pl344 :Pl prog 344 [(0,1),(1,1)] [.int .i64 0,.int .i64 0]:=Pl.str underlying344 (by kernel_rfl) (by kernel_rfl)
theorem sl34 :Sl prog 34 70 2:=Sl.mk' underlying34 (by kernel_rfl)
theorem zz70 :(prog.info? 70).bind (·.zero)=some (.agg #[.int .i64 0,.int .i64 0]):=by kernel_rfl
abbrev rE70 :Rep (Int×Int):=(rP qI qI)
theorem lv70{y:Int×Int}:Lv rE70 y [lI y.1,lI y.2]:=(.p .k .k)
theorem bs34 :Bs prog 34 70 2 [.int .i64 0,.int .i64 0]:=Bs.mk' underlying34 (by kernel_rfl) (by kernel_rfl) rfl
theorem cf194 :CF 194:=cM func194 (by kernel_rfl)
theorem cf267 :CF 267:=cM func267 (by kernel_rfl)
theorem y7P :FAb 344 1 1:=fAm 1 1 1 underlying344 R (by kernel_rfl)
theorem sl178 :Sl prog 178 344 2:=Sl.mk' underlying178 (by kernel_rfl)
theorem lv344{y:Int×Int}:Lv rE344 y [lI y.1,lI y.2]:=(.p .k .k)
theorem ag182 :Ag prog 182 8:=Ag.mk' underlying182 rfl (by kernel_rfl)
theorem cf193 :CF 193:=cM func193 (by kernel_rfl)
theorem cf195 :CF 195:=cM func195 (by kernel_rfl)
theorem cf196 :CF 196:=cM func196 (by kernel_rfl)
theorem y5c :FlatR (rP (rK .i64) (rP (rK .i64) (rK .i64))):=fun _ _ _ _ h=>h
theorem nag4 :NAg prog 4:=NAg.mk' underlying4 rfl (by kernel_rfl)
theorem pl180 :Pl prog 180 [(0,1),(1,1),(2,1),(3,1),(4,1)] [.int .i64 0,.int .i64 0,.int .i64 0,.slice none 0 0,.slice none 0 0]:=Pl.str underlying180 (by kernel_rfl) (by kernel_rfl)
theorem pl182 :Pl prog 182 [(0,5),(5,1),(6,1),(7,1)] [.int .i64 0,.int .i64 0,.int .i64 0,.slice none 0 0,.slice none 0 0,.slice none 0 0,.slice none 0 0,.int .i64 0]:=Pl.str underlying182 (by kernel_rfl) (by kernel_rfl)
theorem pl277 :Pl prog 277 [(0,1),(1,1),(2,1)] [.slice none 0 0,.int .i64 0,.int .i64 0]:=Pl.str underlying277 (by kernel_rfl) (by kernel_rfl)
theorem sl177 :Sl prog 177 4 1:=Sl.mk' underlying177 (by kernel_rfl)
theorem zr4 :Zr prog rB 4 1 false:=Zr.mk' (v:= .bool false) (by kernel_rfl) (by kernel_rfl) (by kernel_rfl) (fun _=>rfl)
theorem zz182 :(prog.info? 182).bind (·.zero)=some (.agg #[.int .i64 0,.int .i64 0,.int .i64 0,.slice none 0 0,.slice none 0 0,.slice none 0 0,.slice none 0 0,.int .i64 0]):=by kernel_rfl
theorem lv4{y:Bool}:Lv rB y [lB y]:= .b
theorem ykV :Md prog 278 3 27 kvI (rL qT) [] (.slice none 0 0):=Md.mk' underlying278 (KE.int underlying3) (by kernel_rfl) (fun _=>⟨none,0,rfl,RdL.nil⟩)
theorem yhM :Md prog 279 3 26 kvI (rL qI) [] (.slice none 0 0):=Md.mk' underlying279 (KE.int underlying3) (by kernel_rfl) (fun _=>⟨none,0,rfl,RdL.nil⟩)
theorem yhN :Md prog 278 3 27 kvI rVal (.slice none 0 0) (.slice none 0 0):=Md.mk' underlying278 (KE.int underlying3) (by kernel_rfl) (fun _=>⟨rfl,rfl⟩)
theorem ydJ :Md prog 279 3 26 kvI rVal (.slice none 0 0) (.slice none 0 0):=Md.mk' underlying279 (KE.int underlying3) (by kernel_rfl) (fun _=>⟨rfl,rfl⟩)
theorem cf122 :CF 122:=cM func122 (by kernel_rfl)
theorem yhO :FlatR (rP (rK .i64) (rK .i64)):=fun _ _ _ _ h=>h
theorem flr4 :FlatR rB:=fun _ _ _ _ h=>h
theorem cf121 :CF 121:=cM func121 (by kernel_rfl)
theorem cf197 :CF 197:=cM func197 (by kernel_rfl)
theorem ag170 :Ag prog 170 3:=Ag.mk' underlying170 rfl (by kernel_rfl)
theorem cf124 :CF 124:=cM func124 (by kernel_rfl)
theorem cf259 :CF 259:=cM func259 (by kernel_rfl)
theorem ycH :FAb 170 0 0:=fAm 0 0 1 underlying170 R (by kernel_rfl)
theorem ycI :FAb 170 1 1:=fAm 1 1 1 underlying170 R (by kernel_rfl)
theorem y8H :FAb 170 2 2:=fAm 2 2 1 underlying170 R (by kernel_rfl)
theorem sl102 :Sl prog 102 170 3:=Sl.mk' underlying102 (by kernel_rfl)
theorem zz170 :(prog.info? 170).bind (·.zero)=some (.agg #[.slice none 0 0,.slice none 0 0,.int .i64 0]):=by kernel_rfl
abbrev rE170 :Rep CycT:=(rP (rL qI) (rP (rL qI) qI))
theorem lv170{y:CycT}:Lv rE170 y [lF qI y.1,lF qI y.2.1,lI y.2.2]:=(.p .l (.p .l .k))
theorem yal :FAb 180 0 0:=fAm 0 0 1 underlying180 R (by kernel_rfl)
theorem yam :FAb 180 1 1:=fAm 1 1 1 underlying180 R (by kernel_rfl)
theorem ybf :FAb 180 2 2:=fAm 2 2 1 underlying180 R (by kernel_rfl)
theorem ygu :FAb 180 3 3:=fAm 3 3 1 underlying180 R (by kernel_rfl)
theorem yan :FAb 180 4 4:=fAm 4 4 1 underlying180 R (by kernel_rfl)
theorem y2r :NAg prog 177:=NAg.mk' underlying177 rfl (by kernel_rfl)
theorem pl408 :Pl prog 408 (plK 1 3 0) [.int .i64 0,.int .i64 0,.int .i64 0]:=Pl.arr underlying408 (by kernel_rfl) (by kernel_rfl)
abbrev rE180 :Rep (Int×Int×Int×List Bool×(List (Int×Int))):=(rP qI (rP qI (rP qI (rP (rL rB) (rL rE344)))))
abbrev lx180(y:Int×Int×Int×List Bool×(List (Int×Int))):List LV:=[lI y.1,lI y.2.1,lI y.2.2.1,lF rB y.2.2.2.1,lF rE344 y.2.2.2.2]
theorem bs409 :Bs prog 409 413 5 [.int .i64 0,.string (⟨#[]⟩:ByteArray),.nilFunc,.nilFunc,.nilFunc]:=Bs.mk' underlying409 (by kernel_rfl) (by kernel_rfl) rfl
theorem cf347 :CF 347:=cM func347 (by kernel_rfl)
theorem cf348 :CF 348:=cM func348 (by kernel_rfl)
theorem cf349 :CF 349:=cM func349 (by kernel_rfl)
theorem cf350 :CF 350:=cM func350 (by kernel_rfl)
theorem cf351 :CF 351:=cM func351 (by kernel_rfl)
theorem cf352 :CF 352:=cM func352 (by kernel_rfl)
theorem cf353 :CF 353:=cM func353 (by kernel_rfl)
theorem cf354 :CF 354:=cM func354 (by kernel_rfl)
theorem cf355 :CF 355:=cM func355 (by kernel_rfl)
theorem cf356 :CF 356:=cM func356 (by kernel_rfl)
theorem cf357 :CF 357:=cM func357 (by kernel_rfl)
theorem cf358 :CF 358:=cM func358 (by kernel_rfl)
theorem cf359 :CF 359:=cM func359 (by kernel_rfl)
theorem pl413 :Pl prog 413 [(0,1),(1,1),(2,1),(3,1),(4,1)] [.int .i64 0,.string (⟨#[]⟩:ByteArray),.nilFunc,.nilFunc,.nilFunc]:=Pl.str underlying413 (by kernel_rfl) (by kernel_rfl)
abbrev rE413 :Rep (Int×ByteArray×(Option (Bool→Bool→Option Bool))×(Option (Bool→Bool→Option Bool))×(Option (Bool→Option Bool))):=(rP qI (rP rStr (rP (rF2 prog (fun (x0:Bool) (x1:Bool)=> [.bool x0,.bool x1]) (fun (r:Bool)=> .bool r)) (rP (rF2 prog (fun (x0:Bool) (x1:Bool)=> [.bool x0,.bool x1]) (fun (r:Bool)=> .bool r)) (rF1 prog (fun (x0:Bool)=> [.bool x0]) (fun (r:Bool)=> .bool r))))))
theorem ag180 :Ag prog 180 5:=Ag.mk' underlying180 rfl (by kernel_rfl)
theorem ag344 :Ag prog 344 2:=Ag.mk' underlying344 rfl (by kernel_rfl)
theorem ag413 :Ag prog 413 5:=Ag.mk' underlying413 rfl (by kernel_rfl)
theorem cf338 :CF 338:=cM func338 (by kernel_rfl)
theorem cf339 :CF 339:=cM func339 (by kernel_rfl)
theorem ycJ :FAb 344 0 0:=fAm 0 0 1 underlying344 R (by kernel_rfl)
theorem yeg :FAb 413 3 3:=fAm 3 3 1 underlying413 R (by kernel_rfl)
theorem ygv :FAb 413 4 4:=fAm 4 4 1 underlying413 R (by kernel_rfl)
theorem ycp :NAg prog 204:=NAg.mk' underlying204 rfl (by kernel_rfl)
theorem yhP :NAg prog 411:=NAg.mk' underlying411 rfl (by kernel_rfl)
theorem sl409 :Sl prog 409 413 5:=Sl.mk' underlying409 (by kernel_rfl)
theorem zz344 :(prog.info? 344).bind (·.zero)=some (.agg #[.int .i64 0,.int .i64 0]):=by kernel_rfl
theorem zz413 :(prog.info? 413).bind (·.zero)=some (.agg #[.int .i64 0,.string (⟨#[]⟩:ByteArray),.nilFunc,.nilFunc,.nilFunc]):=by kernel_rfl
theorem lv413{y:Int×ByteArray×(Option (Bool→Bool→Option Bool))×(Option (Bool→Bool→Option Bool))×(Option (Bool→Option Bool))}:Lv rE413 y [lI y.1,lV (.string y.2.1),lF2 prog (fun (a:Bool) (b:Bool)=> [.bool a,.bool b]) (fun (r:Bool)=> .bool r) y.2.2.1,lF2 prog (fun (a:Bool) (b:Bool)=> [.bool a,.bool b]) (fun (r:Bool)=> .bool r) y.2.2.2.1,lF1 prog (fun (a:Bool)=> [.bool a]) (fun (r:Bool)=> .bool r) y.2.2.2.2]:=(.p .k (.p .s (.p .f2 (.p .f2 .f1))))
theorem cf324 :CF 324:=cM func324 (by kernel_rfl)
theorem cf325 :CF 325:=cM func325 (by kernel_rfl)
theorem ag259 :Ag prog 259 2:=Ag.mk' underlying259 rfl (by kernel_rfl)
theorem bs177 :Bs prog 177 4 1 [.bool false]:=Bs.mk' underlying177 (by kernel_rfl) (by kernel_rfl) rfl
theorem cf313 :CF 313:=cM func313 (by kernel_rfl)
theorem el4 :El prog 4 1 1:=El.mk' (z:= .bool false) (by kernel_rfl) (by kernel_rfl) (by kernel_rfl) rfl
theorem pl259 :Pl prog 259 [(0,1),(1,1)] [.slice none 0 0,.slice none 0 0]:=Pl.str underlying259 (by kernel_rfl) (by kernel_rfl)
theorem zz259 :(prog.info? 259).bind (·.zero)=some (.agg #[.slice none 0 0,.slice none 0 0]):=by kernel_rfl
theorem cf288 :CF 288:=cM func288 (by kernel_rfl)
theorem ycK :FAb 182 0 0:=fAm 0 0 5 underlying182 R (by kernel_rfl)
theorem pl261 :Pl prog 261 [(0,9),(9,8),(17,1),(18,2)] [.slice none 0 0,.int .i64 0,.slice none 0 0,.slice none 0 0,.slice none 0 0,.int .i64 0,.slice none 0 0,.slice none 0 0,.slice none 0 0,.int .i64 0,.int .i64 0,.int .i64 0,.slice none 0 0,.slice none 0 0,.slice none 0 0,.slice none 0 0,.int .i64 0,.int .i64 0,.slice none 0 0,.slice none 0 0]:=Pl.str underlying261 (by kernel_rfl) (by kernel_rfl)
abbrev rE182 :Rep CodT:=(rP rE180 (rP (rL qI) (rP (rL qI) qI)))
abbrev rE259 :Rep (List Bool×List Bool):=(rP (rL rB) (rL rB))
abbrev rE261 :Rep BenT:=(rP rE99 (rP rE182 (rP qI rE259)))
theorem ycL :FAb 261 2 17:=fAm 2 17 1 underlying261 R (by kernel_rfl)
theorem y4w :NAg prog 333:=NAg.mk' underlying333 rfl (by kernel_rfl)
theorem lv261{y:BenT}:Lv rE261 y [lF qI y.1.1.1,lI y.1.1.2.1,lF qI y.1.1.2.2.1,lF qT y.1.1.2.2.2,lF qI y.1.2.1.1,lI y.1.2.1.2.1,lF qI y.1.2.1.2.2.1,lF qT y.1.2.1.2.2.2,lF qI y.1.2.2,lI y.2.1.1.1,lI y.2.1.1.2.1,lI y.2.1.1.2.2.1,lF rB y.2.1.1.2.2.2.1,lF rE344 y.2.1.1.2.2.2.2,lF qI y.2.1.2.1,lF qI y.2.1.2.2.1,lI y.2.1.2.2.2,lI y.2.2.1,lF rB y.2.2.2.1,lF rB y.2.2.2.2]:=(.p (.p (.p .l (.p .k (.p .l .l))) (.p (.p .l (.p .k (.p .l .l))) .l)) (.p (.p (.p .k (.p .k (.p .k (.p .l .l)))) (.p .l (.p .l .k))) (.p .k (.p .l .l))))
abbrev lx261(y:BenT):List LV:=[lF qI y.1.1.1,lI y.1.1.2.1,lF qI y.1.1.2.2.1,lF qT y.1.1.2.2.2,lF qI y.1.2.1.1,lI y.1.2.1.2.1,lF qI y.1.2.1.2.2.1,lF qT y.1.2.1.2.2.2,lF qI y.1.2.2,lI y.2.1.1.1,lI y.2.1.1.2.1,lI y.2.1.1.2.2.1,lF rB y.2.1.1.2.2.2.1,lF rE344 y.2.1.1.2.2.2.2,lF qI y.2.1.2.1,lF qI y.2.1.2.2.1,lI y.2.1.2.2.2,lI y.2.2.1,lF rB y.2.2.2.1,lF rB y.2.2.2.2]
theorem cf203 :CF 203:=cM func203 (by kernel_rfl)
theorem cf316 :CF 316:=cM func316 (by kernel_rfl)
theorem y8l :FAb 261 0 0:=fAm 0 0 9 underlying261 R (by kernel_rfl)
theorem cf297 :CF 297:=cM func297 (by kernel_rfl)
theorem cf340 :CF 340:=cM func340 (by kernel_rfl)
theorem yeh :FAb 182 1 5:=fAm 1 5 1 underlying182 R (by kernel_rfl)
abbrev lx182(y:CodT):List LV:=[lI y.1.1,lI y.1.2.1,lI y.1.2.2.1,lF rB y.1.2.2.2.1,lF rE344 y.1.2.2.2.2,lF qI y.2.1,lF qI y.2.2.1,lI y.2.2.2]
theorem cf362 :CF 362:=cM func362 (by kernel_rfl)
theorem sl425 :Sl prog 425 177 1:=Sl.mk' underlying425 (by kernel_rfl)
theorem lv177{y:List Bool}:Lv (rL rB) y [lF rB y]:= .l
theorem bs425 :Bs prog 425 177 1 [.slice none 0 0]:=Bs.mk' underlying425 (by kernel_rfl) (by kernel_rfl) rfl
theorem cf360 :CF 360:=cM func360 (by kernel_rfl)
theorem ybg :FAb 259 0 0:=fAm 0 0 1 underlying259 R (by kernel_rfl)
theorem ycM :FAb 259 1 1:=fAm 1 1 1 underlying259 R (by kernel_rfl)
theorem ygw :FAb 413 2 2:=fAm 2 2 1 underlying413 R (by kernel_rfl)
theorem cf341 :CF 341:=cM func341 (by kernel_rfl)
theorem cf342 :CF 342:=cM func342 (by kernel_rfl)
theorem cf343 :CF 343:=cM func343 (by kernel_rfl)
theorem cf326 :CF 326:=cM func326 (by kernel_rfl)
theorem cf327 :CF 327:=cM func327 (by kernel_rfl)
theorem cf314 :CF 314:=cM func314 (by kernel_rfl)
theorem ycN :FAb 261 1 9:=fAm 1 9 8 underlying261 R (by kernel_rfl)
theorem ybh :FAb 261 3 18:=fAm 3 18 2 underlying261 R (by kernel_rfl)
theorem cf315 :CF 315:=cM func315 (by kernel_rfl)
theorem ygx :FAb 182 2 6:=fAm 2 6 1 underlying182 R (by kernel_rfl)
theorem cf292 :CF 292:=cM func292 (by kernel_rfl)
theorem yei :FAb 174 2 2:=fAm 2 2 1 underlying174 R (by kernel_rfl)
abbrev rE174 :Rep StpT:=(rP (rL qI) (rP (rL qI) (rP (rL qI) (rP qI (rP rB (rP qI rB))))))
abbrev lx174(y:StpT):List LV:=[lF qI y.1,lF qI y.2.1,lF qI y.2.2.1,lI y.2.2.2.1,lB y.2.2.2.2.1,lI y.2.2.2.2.2.1,lB y.2.2.2.2.2.2]
theorem cf263 :CF 263:=cM func263 (by kernel_rfl)
theorem ykh :FAb 182 3 7:=fAm 3 7 1 underlying182 R (by kernel_rfl)
theorem ag174 :Ag prog 174 7:=Ag.mk' underlying174 rfl (by kernel_rfl)
theorem cf289 :CF 289:=cM func289 (by kernel_rfl)
theorem cf290 :CF 290:=cM func290 (by kernel_rfl)
theorem cf291 :CF 291:=cM func291 (by kernel_rfl)
theorem cf293 :CF 293:=cM func293 (by kernel_rfl)
theorem cf294 :CF 294:=cM func294 (by kernel_rfl)
theorem cf295 :CF 295:=cM func295 (by kernel_rfl)
theorem ycO :FAb 174 0 0:=fAm 0 0 1 underlying174 R (by kernel_rfl)
theorem yej :FAb 174 1 1:=fAm 1 1 1 underlying174 R (by kernel_rfl)
theorem yao :FAb 174 3 3:=fAm 3 3 1 underlying174 R (by kernel_rfl)
theorem ybi :FAb 174 4 4:=fAm 4 4 1 underlying174 R (by kernel_rfl)
theorem ygy :FAb 174 5 5:=fAm 5 5 1 underlying174 R (by kernel_rfl)
theorem ygz :FAb 174 6 6:=fAm 6 6 1 underlying174 R (by kernel_rfl)
theorem zz174 :(prog.info? 174).bind (·.zero)=some (.agg #[.slice none 0 0,.slice none 0 0,.slice none 0 0,.int .i64 0,.bool false,.int .i64 0,.bool false]):=by kernel_rfl
theorem bs166 :Bs prog 166 174 7 [.slice none 0 0,.slice none 0 0,.slice none 0 0,.int .i64 0,.bool false,.int .i64 0,.bool false]:=Bs.mk' underlying166 (by kernel_rfl) (by kernel_rfl) rfl
theorem cf260 :CF 260:=cM func260 (by kernel_rfl)
theorem cf261 :CF 261:=cM func261 (by kernel_rfl)
theorem el174 :El prog 174 7 104:=El.mk' (z:= .agg #[.slice none 0 0,.slice none 0 0,.slice none 0 0,.int .i64 0,.bool false,.int .i64 0,.bool false]) (by kernel_rfl) (by kernel_rfl) (by kernel_rfl) rfl
theorem cf186 :CF 186:=cM func186 (by kernel_rfl)
theorem cf183 :CF 183:=cM func183 (by kernel_rfl)
theorem cf184 :CF 184:=cM func184 (by kernel_rfl)
theorem cf185 :CF 185:=cM func185 (by kernel_rfl)
theorem cf296 :CF 296:=cM func296 (by kernel_rfl)
theorem cf262 :CF 262:=cM func262 (by kernel_rfl)
theorem cf188 :CF 188:=cM func188 (by kernel_rfl)
theorem sl166 :Sl prog 166 174 7:=Sl.mk' underlying166 (by kernel_rfl)
theorem lv174{y:StpT}:Lv rE174 y [lF qI y.1,lF qI y.2.1,lF qI y.2.2.1,lI y.2.2.2.1,lB y.2.2.2.2.1,lI y.2.2.2.2.2.1,lB y.2.2.2.2.2.2]:=(.p .l (.p .l (.p .l (.p .k (.p .b (.p .k .b))))))
theorem cf109 :CF 109:=cM func109 (by kernel_rfl)
theorem yek :FAb 263 1 20:=fAm 1 20 1 underlying263 R (by kernel_rfl)
theorem y7L :NAg prog 339:=NAg.mk' underlying339 rfl (by kernel_rfl)
abbrev rE263 :Rep (BenT×Int×Bool):=(rP rE261 (rP qI rB))
theorem lv263{y:BenT×Int×Bool}:Lv rE263 y [lF qI y.1.1.1.1,lI y.1.1.1.2.1,lF qI y.1.1.1.2.2.1,lF qT y.1.1.1.2.2.2,lF qI y.1.1.2.1.1,lI y.1.1.2.1.2.1,lF qI y.1.1.2.1.2.2.1,lF qT y.1.1.2.1.2.2.2,lF qI y.1.1.2.2,lI y.1.2.1.1.1,lI y.1.2.1.1.2.1,lI y.1.2.1.1.2.2.1,lF rB y.1.2.1.1.2.2.2.1,lF rE344 y.1.2.1.1.2.2.2.2,lF qI y.1.2.1.2.1,lF qI y.1.2.1.2.2.1,lI y.1.2.1.2.2.2,lI y.1.2.2.1,lF rB y.1.2.2.2.1,lF rB y.1.2.2.2.2,lI y.2.1,lB y.2.2]:=(.p (.p (.p (.p .l (.p .k (.p .l .l))) (.p (.p .l (.p .k (.p .l .l))) .l)) (.p (.p (.p .k (.p .k (.p .k (.p .l .l)))) (.p .l (.p .l .k))) (.p .k (.p .l .l)))) (.p .k .b))
abbrev lx263(y:BenT×Int×Bool):List LV:=[lF qI y.1.1.1.1,lI y.1.1.1.2.1,lF qI y.1.1.1.2.2.1,lF qT y.1.1.1.2.2.2,lF qI y.1.1.2.1.1,lI y.1.1.2.1.2.1,lF qI y.1.1.2.1.2.2.1,lF qT y.1.1.2.1.2.2.2,lF qI y.1.1.2.2,lI y.1.2.1.1.1,lI y.1.2.1.1.2.1,lI y.1.2.1.1.2.2.1,lF rB y.1.2.1.1.2.2.2.1,lF rE344 y.1.2.1.1.2.2.2.2,lF qI y.1.2.1.2.1,lF qI y.1.2.1.2.2.1,lI y.1.2.1.2.2.2,lI y.1.2.2.1,lF rB y.1.2.2.2.1,lF rB y.1.2.2.2.2,lI y.2.1,lB y.2.2]
theorem ag263 :Ag prog 263 22:=Ag.mk' underlying263 rfl (by kernel_rfl)
theorem cf119 :CF 119:=cM func119 (by kernel_rfl)
theorem cf187 :CF 187:=cM func187 (by kernel_rfl)
theorem cf189 :CF 189:=cM func189 (by kernel_rfl)
theorem cf39 :CF 39:=cM func39 (by kernel_rfl)
theorem pl263 :Pl prog 263 [(0,20),(20,1),(21,1)] [.slice none 0 0,.int .i64 0,.slice none 0 0,.slice none 0 0,.slice none 0 0,.int .i64 0,.slice none 0 0,.slice none 0 0,.slice none 0 0,.int .i64 0,.int .i64 0,.int .i64 0,.slice none 0 0,.slice none 0 0,.slice none 0 0,.slice none 0 0,.int .i64 0,.int .i64 0,.slice none 0 0,.slice none 0 0,.int .i64 0,.bool false]:=Pl.str underlying263 (by kernel_rfl) (by kernel_rfl)
theorem zz263 :(prog.info? 263).bind (·.zero)=some (.agg #[.slice none 0 0,.int .i64 0,.slice none 0 0,.slice none 0 0,.slice none 0 0,.int .i64 0,.slice none 0 0,.slice none 0 0,.slice none 0 0,.int .i64 0,.int .i64 0,.int .i64 0,.slice none 0 0,.slice none 0 0,.slice none 0 0,.slice none 0 0,.int .i64 0,.int .i64 0,.slice none 0 0,.slice none 0 0,.int .i64 0,.bool false]):=by kernel_rfl
theorem bs102 :Bs prog 102 170 3 [.slice none 0 0,.slice none 0 0,.int .i64 0]:=Bs.mk' underlying102 (by kernel_rfl) (by kernel_rfl) rfl
theorem cf115 :CF 115:=cM func115 (by kernel_rfl)
theorem cf116 :CF 116:=cM func116 (by kernel_rfl)
theorem cf117 :CF 117:=cM func117 (by kernel_rfl)
theorem cf118 :CF 118:=cM func118 (by kernel_rfl)
theorem pl170 :Pl prog 170 [(0,1),(1,1),(2,1)] [.slice none 0 0,.slice none 0 0,.int .i64 0]:=Pl.str underlying170 (by kernel_rfl) (by kernel_rfl)
theorem cf230 :CF 230:=cM func230 (by kernel_rfl)
theorem cf231 :CF 231:=cM func231 (by kernel_rfl)
theorem cf145 :CF 145:=cM func145 (by kernel_rfl)
theorem cf229 :CF 229:=cM func229 (by kernel_rfl)
theorem cf232 :CF 232:=cM func232 (by kernel_rfl)
theorem cf146 :CF 146:=cM func146 (by kernel_rfl)
theorem yhQ :FAb 45 0 0:=fAm 0 0 1 underlying45 R (by kernel_rfl)
theorem ykW :FAb 45 1 1:=fAm 1 1 1 underlying45 R (by kernel_rfl)
theorem ykX :FAb 45 2 2:=fAm 2 2 25 underlying45 R (by kernel_rfl)
theorem ia42 :IA prog 42 5 1:=IA.mk underlying42 (by kernel_rfl)
theorem ia43 :IA prog 43 5 5:=IA.mk underlying43 (by kernel_rfl)
theorem nag5 :NAg prog 5:=NAg.mk' underlying5 rfl (by kernel_rfl)
abbrev lx45(y:y1h):List LV:=[lV (.int .u8 y.1),lV (.int .u8 y.2.1),lV (.int .u8 y.2.2.1.1),lV (.int .u8 y.2.2.1.2.1),lV (.int .u8 y.2.2.1.2.2.1),lV (.int .u8 y.2.2.1.2.2.2.1),lV (.int .u8 y.2.2.1.2.2.2.2),lV (.int .u8 y.2.2.2.1.1),lV (.int .u8 y.2.2.2.1.2.1),lV (.int .u8 y.2.2.2.1.2.2.1),lV (.int .u8 y.2.2.2.1.2.2.2.1),lV (.int .u8 y.2.2.2.1.2.2.2.2),lV (.int .u8 y.2.2.2.2.1.1),lV (.int .u8 y.2.2.2.2.1.2.1),lV (.int .u8 y.2.2.2.2.1.2.2.1),lV (.int .u8 y.2.2.2.2.1.2.2.2.1),lV (.int .u8 y.2.2.2.2.1.2.2.2.2),lV (.int .u8 y.2.2.2.2.2.1.1),lV (.int .u8 y.2.2.2.2.2.1.2.1),lV (.int .u8 y.2.2.2.2.2.1.2.2.1),lV (.int .u8 y.2.2.2.2.2.1.2.2.2.1),lV (.int .u8 y.2.2.2.2.2.1.2.2.2.2),lV (.int .u8 y.2.2.2.2.2.2.1),lV (.int .u8 y.2.2.2.2.2.2.2.1),lV (.int .u8 y.2.2.2.2.2.2.2.2.1),lV (.int .u8 y.2.2.2.2.2.2.2.2.2.1),lV (.int .u8 y.2.2.2.2.2.2.2.2.2.2)]
theorem ag45 :Ag prog 45 27:=Ag.mk' underlying45 rfl (by kernel_rfl)
theorem cf72 :CF 72:=cM func72 (by kernel_rfl)
theorem cf73 :CF 73:=cM func73 (by kernel_rfl)
theorem yhR :FAb 91 0 0:=fAm 0 0 1 underlying91 R (by kernel_rfl)
theorem yhS :FAb 91 1 1:=fAm 1 1 27 underlying91 R (by kernel_rfl)
theorem yhT :FAb 93 0 0:=fAm 0 0 28 underlying93 R (by kernel_rfl)
theorem yhU :FAb 93 1 28:=fAm 1 28 28 underlying93 R (by kernel_rfl)
theorem ykY :FAb 93 2 56:=fAm 2 56 1 underlying93 R (by kernel_rfl)
theorem nag40 :NAg prog 40:=NAg.mk' underlying40 rfl (by kernel_rfl)
abbrev lx93(y:(Int×y1h)×(Int×y1h)×Int):List LV:=[lV (.int .u8 y.1.1),lV (.int .u8 y.1.2.1),lV (.int .u8 y.1.2.2.1),lV (.int .u8 y.1.2.2.2.1.1),lV (.int .u8 y.1.2.2.2.1.2.1),lV (.int .u8 y.1.2.2.2.1.2.2.1),lV (.int .u8 y.1.2.2.2.1.2.2.2.1),lV (.int .u8 y.1.2.2.2.1.2.2.2.2),lV (.int .u8 y.1.2.2.2.2.1.1),lV (.int .u8 y.1.2.2.2.2.1.2.1),lV (.int .u8 y.1.2.2.2.2.1.2.2.1),lV (.int .u8 y.1.2.2.2.2.1.2.2.2.1),lV (.int .u8 y.1.2.2.2.2.1.2.2.2.2),lV (.int .u8 y.1.2.2.2.2.2.1.1),lV (.int .u8 y.1.2.2.2.2.2.1.2.1),lV (.int .u8 y.1.2.2.2.2.2.1.2.2.1),lV (.int .u8 y.1.2.2.2.2.2.1.2.2.2.1),lV (.int .u8 y.1.2.2.2.2.2.1.2.2.2.2),lV (.int .u8 y.1.2.2.2.2.2.2.1.1),lV (.int .u8 y.1.2.2.2.2.2.2.1.2.1),lV (.int .u8 y.1.2.2.2.2.2.2.1.2.2.1),lV (.int .u8 y.1.2.2.2.2.2.2.1.2.2.2.1),lV (.int .u8 y.1.2.2.2.2.2.2.1.2.2.2.2),lV (.int .u8 y.1.2.2.2.2.2.2.2.1),lV (.int .u8 y.1.2.2.2.2.2.2.2.2.1),lV (.int .u8 y.1.2.2.2.2.2.2.2.2.2.1),lV (.int .u8 y.1.2.2.2.2.2.2.2.2.2.2.1),lV (.int .u8 y.1.2.2.2.2.2.2.2.2.2.2.2),lV (.int .u8 y.2.1.1),lV (.int .u8 y.2.1.2.1),lV (.int .u8 y.2.1.2.2.1),lV (.int .u8 y.2.1.2.2.2.1.1),lV (.int .u8 y.2.1.2.2.2.1.2.1),lV (.int .u8 y.2.1.2.2.2.1.2.2.1),lV (.int .u8 y.2.1.2.2.2.1.2.2.2.1),lV (.int .u8 y.2.1.2.2.2.1.2.2.2.2),lV (.int .u8 y.2.1.2.2.2.2.1.1),lV (.int .u8 y.2.1.2.2.2.2.1.2.1),lV (.int .u8 y.2.1.2.2.2.2.1.2.2.1),lV (.int .u8 y.2.1.2.2.2.2.1.2.2.2.1),lV (.int .u8 y.2.1.2.2.2.2.1.2.2.2.2),lV (.int .u8 y.2.1.2.2.2.2.2.1.1),lV (.int .u8 y.2.1.2.2.2.2.2.1.2.1),lV (.int .u8 y.2.1.2.2.2.2.2.1.2.2.1),lV (.int .u8 y.2.1.2.2.2.2.2.1.2.2.2.1),lV (.int .u8 y.2.1.2.2.2.2.2.1.2.2.2.2),lV (.int .u8 y.2.1.2.2.2.2.2.2.1.1),lV (.int .u8 y.2.1.2.2.2.2.2.2.1.2.1),lV (.int .u8 y.2.1.2.2.2.2.2.2.1.2.2.1),lV (.int .u8 y.2.1.2.2.2.2.2.2.1.2.2.2.1),lV (.int .u8 y.2.1.2.2.2.2.2.2.1.2.2.2.2),lV (.int .u8 y.2.1.2.2.2.2.2.2.2.1),lV (.int .u8 y.2.1.2.2.2.2.2.2.2.2.1),lV (.int .u8 y.2.1.2.2.2.2.2.2.2.2.2.1),lV (.int .u8 y.2.1.2.2.2.2.2.2.2.2.2.2.1),lV (.int .u8 y.2.1.2.2.2.2.2.2.2.2.2.2.2),lV (.int .u8 y.2.2)]
theorem yel :FAb 377 2 5:=fAm 2 5 1 underlying377 R (by kernel_rfl)
theorem y6Z :FAb 377 3 6:=fAm 3 6 1 underlying377 R (by kernel_rfl)
theorem yfz :NAg prog 279:=NAg.mk' underlying279 rfl (by kernel_rfl)
theorem pl377 :Pl prog 377 [(0,4),(4,1),(5,1),(6,1)] [.slice none 0 0,.int .i64 0,.slice none 0 0,.slice none 0 0,.slice none 0 0,.map none,.slice none 0 0]:=Pl.str underlying377 (by kernel_rfl) (by kernel_rfl)
theorem bs268 :Bs prog 268 374 4 [.int .i64 0,.int .i64 0,.int .i64 0,.int .i64 0]:=Bs.mk' underlying268 (by kernel_rfl) (by kernel_rfl) rfl
theorem el374 :El prog 374 4 32:=El.mk' (z:= .agg #[.int .i64 0,.int .i64 0,.int .i64 0,.int .i64 0]) (by kernel_rfl) (by kernel_rfl) (by kernel_rfl) rfl
theorem ygA :FAb 374 0 0:=fAm 0 0 1 underlying374 R (by kernel_rfl)
theorem y8I :FAb 377 0 0:=fAm 0 0 4 underlying377 R (by kernel_rfl)
theorem yki :FAb 377 1 4:=fAm 1 4 1 underlying377 R (by kernel_rfl)
theorem pl374 :Pl prog 374 [(0,1),(1,1),(2,1),(3,1)] [.int .i64 0,.int .i64 0,.int .i64 0,.int .i64 0]:=Pl.str underlying374 (by kernel_rfl) (by kernel_rfl)
theorem sl268 :Sl prog 268 374 4:=Sl.mk' underlying268 (by kernel_rfl)
abbrev rE374 :Rep (Int×Int×Int×Int):=(rP qI (rP qI (rP qI qI)))
theorem lv374{y:Int×Int×Int×Int}:Lv rE374 y [lI y.1,lI y.2.1,lI y.2.2.1,lI y.2.2.2]:=(.p .k (.p .k (.p .k .k)))
abbrev lx377(y:AutT×LI×(List (Int×LI))×List Bool):List LV:=[lF qI y.1.1,lI y.1.2.1,lF qI y.1.2.2.1,lF qT y.1.2.2.2,lF qI y.2.1,lM kvI (rL qI) y.2.2.1,lF rB y.2.2.2]
theorem cf302 :CF 302:=cM func302 (by kernel_rfl)
theorem cf317 :CF 317:=cM func317 (by kernel_rfl)
theorem cf318 :CF 318:=cM func318 (by kernel_rfl)
theorem md297 :Md prog 297 3 3 kvI (rK .i64) 0 (.int .i64 0):=Md.mk' underlying297 (KE.int underlying3) (by kernel_rfl) (fun _=>rfl)
theorem sl395 :Sl prog 395 27 1:=Sl.mk' underlying395 (by kernel_rfl)
theorem zv27 :Zr prog rVal 27 24 (.slice none 0 0):=Zr.mk' (v:= .slice none 0 0) (by kernel_rfl) (by kernel_rfl) (by kernel_rfl) (fun _=>⟨rfl,rfl⟩)
theorem lv27{y:List (Int×Int×Int)}:Lv (rL qT) y [lF qT y]:= .l
theorem ag272 :Ag prog 272 9:=Ag.mk' underlying272 rfl (by kernel_rfl)
theorem ag374 :Ag prog 374 4:=Ag.mk' underlying374 rfl (by kernel_rfl)
theorem cf298 :CF 298:=cM func298 (by kernel_rfl)
theorem cf299 :CF 299:=cM func299 (by kernel_rfl)
theorem cf300 :CF 300:=cM func300 (by kernel_rfl)
theorem cf303 :CF 303:=cM func303 (by kernel_rfl)
theorem ygB :FAb 270 0 0:=fAm 0 0 1 underlying270 R (by kernel_rfl)
theorem ygC :FAb 270 1 1:=fAm 1 1 1 underlying270 R (by kernel_rfl)
theorem ybj :FAb 270 2 2:=fAm 2 2 1 underlying270 R (by kernel_rfl)
theorem y8m :FAb 272 0 0:=fAm 0 0 3 underlying272 R (by kernel_rfl)
theorem ygD :FAb 272 1 3:=fAm 1 3 1 underlying272 R (by kernel_rfl)
theorem ygE :FAb 272 2 4:=fAm 2 4 4 underlying272 R (by kernel_rfl)
theorem ykj :FAb 272 3 8:=fAm 3 8 1 underlying272 R (by kernel_rfl)
theorem yhV :FlatR (rP (rK .i64) (rP (rK .i64) (rP (rK .i64) (rK .i64)))):=fun _ _ _ _ h=>h
theorem ycq :NAg prog 268:=NAg.mk' underlying268 rfl (by kernel_rfl)
theorem zz272 :(prog.info? 272).bind (·.zero)=some (.agg #[.slice none 0 0,.slice none 0 0,.slice none 0 0,.int .i64 0,.slice none 0 0,.int .i64 0,.slice none 0 0,.slice none 0 0,.slice none 0 0]):=by kernel_rfl
theorem zz374 :(prog.info? 374).bind (·.zero)=some (.agg #[.int .i64 0,.int .i64 0,.int .i64 0,.int .i64 0]):=by kernel_rfl
abbrev lx374(y:Int×Int×Int×Int):List LV:=[lI y.1,lI y.2.1,lI y.2.2.1,lI y.2.2.2]
theorem cf265 :CF 265:=cM func265 (by kernel_rfl)
theorem cf266 :CF 266:=cM func266 (by kernel_rfl)
theorem pl272 :Pl prog 272 [(0,3),(3,1),(4,4),(8,1)] [.slice none 0 0,.slice none 0 0,.slice none 0 0,.int .i64 0,.slice none 0 0,.int .i64 0,.slice none 0 0,.slice none 0 0,.slice none 0 0]:=Pl.str underlying272 (by kernel_rfl) (by kernel_rfl)
theorem ag93 :Ag prog 93 57:=Ag.mk' underlying93 rfl (by kernel_rfl)
theorem cf190 :CF 190:=cM func190 (by kernel_rfl)
theorem cf191 :CF 191:=cM func191 (by kernel_rfl)
theorem cf192 :CF 192:=cM func192 (by kernel_rfl)
theorem cf120 :CF 120:=cM func120 (by kernel_rfl)
theorem ykZ :FAb 95 0 0:=fAm 0 0 57 underlying95 R (by kernel_rfl)
theorem yl0 :FAb 95 1 57:=fAm 1 57 1 underlying95 R (by kernel_rfl)
abbrev lx95(y:((Int×y1h)×(Int×y1h)×Int)×Bool):List LV:=[lV (.int .u8 y.1.1.1),lV (.int .u8 y.1.1.2.1),lV (.int .u8 y.1.1.2.2.1),lV (.int .u8 y.1.1.2.2.2.1.1),lV (.int .u8 y.1.1.2.2.2.1.2.1),lV (.int .u8 y.1.1.2.2.2.1.2.2.1),lV (.int .u8 y.1.1.2.2.2.1.2.2.2.1),lV (.int .u8 y.1.1.2.2.2.1.2.2.2.2),lV (.int .u8 y.1.1.2.2.2.2.1.1),lV (.int .u8 y.1.1.2.2.2.2.1.2.1),lV (.int .u8 y.1.1.2.2.2.2.1.2.2.1),lV (.int .u8 y.1.1.2.2.2.2.1.2.2.2.1),lV (.int .u8 y.1.1.2.2.2.2.1.2.2.2.2),lV (.int .u8 y.1.1.2.2.2.2.2.1.1),lV (.int .u8 y.1.1.2.2.2.2.2.1.2.1),lV (.int .u8 y.1.1.2.2.2.2.2.1.2.2.1),lV (.int .u8 y.1.1.2.2.2.2.2.1.2.2.2.1),lV (.int .u8 y.1.1.2.2.2.2.2.1.2.2.2.2),lV (.int .u8 y.1.1.2.2.2.2.2.2.1.1),lV (.int .u8 y.1.1.2.2.2.2.2.2.1.2.1),lV (.int .u8 y.1.1.2.2.2.2.2.2.1.2.2.1),lV (.int .u8 y.1.1.2.2.2.2.2.2.1.2.2.2.1),lV (.int .u8 y.1.1.2.2.2.2.2.2.1.2.2.2.2),lV (.int .u8 y.1.1.2.2.2.2.2.2.2.1),lV (.int .u8 y.1.1.2.2.2.2.2.2.2.2.1),lV (.int .u8 y.1.1.2.2.2.2.2.2.2.2.2.1),lV (.int .u8 y.1.1.2.2.2.2.2.2.2.2.2.2.1),lV (.int .u8 y.1.1.2.2.2.2.2.2.2.2.2.2.2),lV (.int .u8 y.1.2.1.1),lV (.int .u8 y.1.2.1.2.1),lV (.int .u8 y.1.2.1.2.2.1),lV (.int .u8 y.1.2.1.2.2.2.1.1),lV (.int .u8 y.1.2.1.2.2.2.1.2.1),lV (.int .u8 y.1.2.1.2.2.2.1.2.2.1),lV (.int .u8 y.1.2.1.2.2.2.1.2.2.2.1),lV (.int .u8 y.1.2.1.2.2.2.1.2.2.2.2),lV (.int .u8 y.1.2.1.2.2.2.2.1.1),lV (.int .u8 y.1.2.1.2.2.2.2.1.2.1),lV (.int .u8 y.1.2.1.2.2.2.2.1.2.2.1),lV (.int .u8 y.1.2.1.2.2.2.2.1.2.2.2.1),lV (.int .u8 y.1.2.1.2.2.2.2.1.2.2.2.2),lV (.int .u8 y.1.2.1.2.2.2.2.2.1.1),lV (.int .u8 y.1.2.1.2.2.2.2.2.1.2.1),lV (.int .u8 y.1.2.1.2.2.2.2.2.1.2.2.1),lV (.int .u8 y.1.2.1.2.2.2.2.2.1.2.2.2.1),lV (.int .u8 y.1.2.1.2.2.2.2.2.1.2.2.2.2),lV (.int .u8 y.1.2.1.2.2.2.2.2.2.1.1),lV (.int .u8 y.1.2.1.2.2.2.2.2.2.1.2.1),lV (.int .u8 y.1.2.1.2.2.2.2.2.2.1.2.2.1),lV (.int .u8 y.1.2.1.2.2.2.2.2.2.1.2.2.2.1),lV (.int .u8 y.1.2.1.2.2.2.2.2.2.1.2.2.2.2),lV (.int .u8 y.1.2.1.2.2.2.2.2.2.2.1),lV (.int .u8 y.1.2.1.2.2.2.2.2.2.2.2.1),lV (.int .u8 y.1.2.1.2.2.2.2.2.2.2.2.2.1),lV (.int .u8 y.1.2.1.2.2.2.2.2.2.2.2.2.2.1),lV (.int .u8 y.1.2.1.2.2.2.2.2.2.2.2.2.2.2),lV (.int .u8 y.1.2.2),lB y.2]
theorem cf130 :CF 130:=cM func130 (by kernel_rfl)
theorem cf123 :CF 123:=cM func123 (by kernel_rfl)
theorem y7a :FAb 190 0 0:=fAm 0 0 4 underlying190 R (by kernel_rfl)
theorem yem :FAb 192 0 0:=fAm 0 0 5 underlying192 R (by kernel_rfl)
theorem ybk :FAb 192 4 16:=fAm 4 16 1 underlying192 R (by kernel_rfl)
abbrev lx192(y:TskT):List LV:=[lF qI y.1.1.1,lI y.1.1.2.1,lF qI y.1.1.2.2.1,lF qT y.1.1.2.2.2,lM kvP qI y.1.2,lF qI y.2.1.1.1,lI y.2.1.1.2.1,lF qI y.2.1.1.2.2.1,lF qT y.2.1.1.2.2.2,lM kvP qI y.2.1.2,lF qI y.2.2.1.1.1,lI y.2.2.1.1.2.1,lF qI y.2.2.1.1.2.2.1,lF qT y.2.2.1.1.2.2.2,lM kvP qI y.2.2.1.2,lF (rL qI) y.2.2.2.1,lF qI y.2.2.2.2.1,lF qI y.2.2.2.2.2]
theorem cf206 :CF 206:=cM func206 (by kernel_rfl)
theorem lv192{y:TskT}:Lv rE192 y [lF qI y.1.1.1,lI y.1.1.2.1,lF qI y.1.1.2.2.1,lF qT y.1.1.2.2.2,lM kvP qI y.1.2,lF qI y.2.1.1.1,lI y.2.1.1.2.1,lF qI y.2.1.1.2.2.1,lF qT y.2.1.1.2.2.2,lM kvP qI y.2.1.2,lF qI y.2.2.1.1.1,lI y.2.2.1.1.2.1,lF qI y.2.2.1.1.2.2.1,lF qT y.2.2.1.1.2.2.2,lM kvP qI y.2.2.1.2,lF (rL qI) y.2.2.2.1,lF qI y.2.2.2.2.1,lF qI y.2.2.2.2.2]:=(.p (.p (.p .l (.p .k (.p .l .l))) .m) (.p (.p (.p .l (.p .k (.p .l .l))) .m) (.p (.p (.p .l (.p .k (.p .l .l))) .m) (.p .l (.p .l .l)))))
theorem cf199 :CF 199:=cM func199 (by kernel_rfl)
theorem bs287 :Bs prog 287 286 2 [.int .i64 0,.slice none 0 0]:=Bs.mk' underlying287 (by kernel_rfl) (by kernel_rfl) rfl
theorem el286 :El prog 286 2 32:=El.mk' (z:= .agg #[.int .i64 0,.slice none 0 0]) (by kernel_rfl) (by kernel_rfl) (by kernel_rfl) rfl
theorem ybl :FAb 192 3 15:=fAm 3 15 1 underlying192 R (by kernel_rfl)
theorem ykk :FAb 286 0 0:=fAm 0 0 1 underlying286 R (by kernel_rfl)
theorem ybm :FAb 286 1 1:=fAm 1 1 1 underlying286 R (by kernel_rfl)
theorem nag74 :NAg prog 74:=NAg.mk' underlying74 rfl (by kernel_rfl)
theorem pl286 :Pl prog 286 [(0,1),(1,1)] [.int .i64 0,.slice none 0 0]:=Pl.str underlying286 (by kernel_rfl) (by kernel_rfl)
theorem sl287 :Sl prog 287 286 2:=Sl.mk' underlying287 (by kernel_rfl)
abbrev rE286 :Rep (Int×LI):=(rP qI (rL qI))
theorem lv286{y:Int×LI}:Lv rE286 y [lI y.1,lF qI y.2]:=(.p .k .l)
theorem cf21 :CF 21:=cM func21 (by kernel_rfl)
theorem cf108 :CF 108:=cM func108 (by kernel_rfl)
theorem cf126 :CF 126:=cM func126 (by kernel_rfl)
theorem cf207 :CF 207:=cM func207 (by kernel_rfl)
theorem cf37 :CF 37:=cM func37 (by kernel_rfl)
theorem ygF :FAb 192 1 5:=fAm 1 5 5 underlying192 R (by kernel_rfl)
theorem cf200 :CF 200:=cM func200 (by kernel_rfl)
theorem cf201 :CF 201:=cM func201 (by kernel_rfl)
theorem cf202 :CF 202:=cM func202 (by kernel_rfl)
theorem y7v :FAb 192 2 10:=fAm 2 10 5 underlying192 R (by kernel_rfl)
theorem yl1 :NAg prog 186:=NAg.mk' underlying186 rfl (by kernel_rfl)
theorem cf270 :CF 270:=cM func270 (by kernel_rfl)
theorem cf208 :CF 208:=cM func208 (by kernel_rfl)
theorem cf127 :CF 127:=cM func127 (by kernel_rfl)
theorem cf129 :CF 129:=cM func129 (by kernel_rfl)
theorem cf131 :CF 131:=cM func131 (by kernel_rfl)
theorem cf132 :CF 132:=cM func132 (by kernel_rfl)
theorem cf133 :CF 133:=cM func133 (by kernel_rfl)
theorem cf134 :CF 134:=cM func134 (by kernel_rfl)
theorem cf135 :CF 135:=cM func135 (by kernel_rfl)
theorem ygG :FAb 192 5 17:=fAm 5 17 1 underlying192 R (by kernel_rfl)
theorem yaw :FAb 97 0 0:=fAm 0 0 1 underlying97 R (by kernel_rfl)
theorem y9N :FAb 97 1 1:=fAm 1 1 1 underlying97 R (by kernel_rfl)
theorem y6J :FAb 97 2 2:=fAm 2 2 1 underlying97 R (by kernel_rfl)
theorem ag97 :Ag prog 97 3:=Ag.mk' underlying97 rfl (by kernel_rfl)
theorem cf56 :CF 56:=cM func56 (by kernel_rfl)
theorem el170 :El prog 170 3 56:=El.mk' (z:= .agg #[.slice none 0 0,.slice none 0 0,.int .i64 0]) (by kernel_rfl) (by kernel_rfl) (by kernel_rfl) rfl
theorem cf204 :CF 204:=cM func204 (by kernel_rfl)
theorem cf205 :CF 205:=cM func205 (by kernel_rfl)
theorem cf128 :CF 128:=cM func128 (by kernel_rfl)
theorem pl97 :Pl prog 97 [(0,1),(1,1),(2,1)] [.int .i64 0,.slice none 0 0,.slice none 0 0]:=Pl.str underlying97 (by kernel_rfl) (by kernel_rfl)
theorem zz97 :(prog.info? 97).bind (·.zero)=some (.agg #[.int .i64 0,.slice none 0 0,.slice none 0 0]):=by kernel_rfl
theorem cf52 :CF 52:=cM func52 (by kernel_rfl)
theorem ag95 :Ag prog 95 58:=Ag.mk' underlying95 rfl (by kernel_rfl)
theorem cf49 :CF 49:=cM func49 (by kernel_rfl)
theorem cf50 :CF 50:=cM func50 (by kernel_rfl)
theorem cf51 :CF 51:=cM func51 (by kernel_rfl)
theorem cf53 :CF 53:=cM func53 (by kernel_rfl)
theorem cf54 :CF 54:=cM func54 (by kernel_rfl)
theorem cf55 :CF 55:=cM func55 (by kernel_rfl)
def y4x :Option PbT:=
 some ((([0,2]:LI),2,([0,1]:LI),([(0,0,1),(0,2,0),(1,2,1)]:List (Int×Int×Int))),(([0,2]:LI),2,([0,1]:LI),([(0,0,1),(0,2,0)]:List (Int×Int×Int))),([0]:LI))
theorem y5w{r:PbT}(hm:y4x=some r):
  F0 116 [] [] (.g (lx99 r)) []:=by
 refine Fw.mk2 func116 ntmps116 R (fun C=>?_) R;refine .sr (.al 0 zz99 R (.nr (.bf (r:=qI) ([0,2]:LI) bs26 R (.c .k (.c .k .n)) R (.bf (r:=qI) ([0,1]:LI) bs26 R (.c .k (.c .k .n)) R (.bu [lI 0,lI 0,lI 1] pl112 R (.bu [lI 0,lI 2,lI 0] pl112 R (.bu [lI 1,lI 2,lI 1] pl112 R (.op (O.bsF (r:=qT) (zs:=([(0,0,1),(0,2,0),(1,2,1)]:List (Int×Int×Int))) bs27 R R Z R R R (.c (.p .k (.p .k .k)) (.c (.p .k (.p .k .k)) (.c (.p .k (.p .k .k)) .n))) R R R) R (.bu [lF qI ([0,2]:LI),lI 2,lF qI ([0,1]:LI),lF qT ([(0,0,1),(0,2,0),(1,2,1)]:List (Int×Int×Int))] pl60 R (.bf (r:=qI) ([0,2]:LI) bs26 R (.c .k (.c .k .n)) R (.bf (r:=qI) ([0,1]:LI) bs26 R (.c .k (.c .k .n)) R (.bu [lI 0,lI 0,lI 1] pl112 R (.bu [lI 0,lI 2,lI 0] pl112 R (.op (O.bsF (r:=qT) (zs:=([(0,0,1),(0,2,0)]:List (Int×Int×Int))) bs27 R R Z R R R (.c (.p .k (.p .k .k)) (.c (.p .k (.p .k .k)) .n)) R R R) R (.bu [lF qI ([0,2]:LI),lI 2,lF qI ([0,1]:LI),lF qT ([(0,0,1),(0,2,0)]:List (Int×Int×Int))] pl60 R (.bf (r:=qI) ([0]:LI) bs26 R (.c .k .n) R (.bu [lF qI ([0,2]:LI),lI 2,lF qI ([0,1]:LI),lF qT ([(0,0,1),(0,2,0),(1,2,1)]:List (Int×Int×Int)),lF qI ([0,2]:LI),lI 2,lF qI ([0,1]:LI),lF qT ([(0,0,1),(0,2,0)]:List (Int×Int×Int)),lF qI ([0]:LI)] pl99 R (.st ag99.sz R (.ns (.ret ?_))))))))))))))))))));cases hm;exact .r0 results116 (.cell R R ag99 R .nil) R R
def y3s(p0:LI)(p1:Int)(a:Int):Option (Int⊕(Unit⊕Int)):=
 if decide (a<(p0.length:Int)) then
  (idx p0 a).bind fun b=>
  if((decide (b<0))||(decide (b≥p1))) then
   some (.inr (.inr (2)))
  else
   (if decide (a>0) then
    (idx p0 (W (a-1))).bind fun d=>
    some (decide (b≤d))
   else
    some false).bind fun c=>
   if c then
    some (.inr (.inr (5)))
   else
    some (.inl (W (a+1)))
 else
  some (.inr (.inl ()))
def y2p(p0:LI)(p1:Int):Option Int:=
 (iter (y3s p0 p1) 0).bind fun a=>
 match a with
 | .inl c=>
  some 0
 | .inr (b)=>
  some b
theorem y8u{p0:LI}{p1:Int}{r:Int}(hm:y2p p0 p1=some r):
  F0 181 [.f qI p0,.i p1] [] (.i r) []:=by
 refine Fw.mk2 func181 ntmps181 R (fun C=>?_) R;refine .sr (.an R (.seq (.sv R (.ln sl26 R (.mv R (.ns (.block (bS hm fun o p hm=>?_))))))));refine .cutU (z:= .exit 0) (fun h=> .inl h=o) (fun (h:Unit)=>⟨[],[],0⟩) ?_ fun u=>?_
 ·rintro h rfl;dsimp only at hm;refine .blkE (.seqN (.sr (.an R (.ret ?_))));cases hm;exact .r0 results181 (.tmp R .nil) R R
 refine .cutU (z:= .ret) (fun g=> .inr (g)=o) (fun (g:Int)=>⟨[(4,.i g)],[],0⟩) ?_ fun n=>?_
 ·rintro g rfl;dsimp only at hm;refine .blkR (.seqR ?_);cases hm;exact .r0 results181 (.tmp R .nil) R R
 refine .iter (fun (a:Int)=>⟨[(9,.i a),(8,.i p0.length),(7,.f qI p0),(0,.f qI p0),(1,.i p1)],[],0⟩) p [] R ?_;intro a x hm t e;refine .sr (.bi R (.ns (.seq ?_)));refine .cc hm R (fun hm=>?_) fun hm=> .xx ((u _ (e _ (oj hm))).s0 R);refine .sn (.seq (.block (.sv R (bS hm fun c q hm=> .ix sl26 q R (.le nag3 lv3 R (.sa R (.an R (.block (.sv R (.bi R (.mv R ?_)))))))))));refine .cut 4 (fun (j:Bool)=>((decide (c<0))||(decide (c≥p1)))=j) (fun j=>⟨[(21,.b j),(6,.i c),(5,.i a),(9,.i a),(8,.i p0.length),(7,.f qI p0),(0,.f qI p0),(1,.i p1)],[],0⟩) ?_ ?_
 ·rintro _ rfl;refine .an R (.cc hm R (fun hm=> .sr (.an R (.ret (.blkR (.blkR (.seqR (.seqR ((n _ (e _ (oj hm))).s0 R)))))))) fun hm=>?_);refine .sv R (.bi R (.mv R (bS hm fun v eb19 hm=>?_)));refine .cut 8 (fun (k:Bool)=>v=k) (fun k=>⟨[(33,.b k),(9,.i a),(8,.i p0.length),(7,.f qI p0),(0,.f qI p0),(1,.i p1)],[],0⟩) ?_ ?_
  ·rintro _ rfl;exact .an R (.cc hm R (fun hm=> .sr (.an R (.ret (.blkR (.blkR (.seqR (.seqR ((n _ (e _ (oj hm))).s0 R)))))))) fun hm=> .skip (.blkN (.blkN (.seqN (.reg (.bi R (.mv R (.nil ((t _ (oj hm)).s0 R)))))))))
  ·intro m;rcases ifS eb19 with ⟨hc,hm⟩|⟨hc,hm⟩
   ·refine .know (d:=25) R hc ?_;exact .mg R (.mg R (.mg R (.bg R (bS hm fun w s hm=> .op (O.ix sl26 (Gu.mk R R) R R s R) R (.leg nag3 lv3 R (.bg R (.pT R ((m (decide (c≤w)) (oj hm)).s0 R))))))))
   ·refine .know (d:=25) R hc ?_;exact .s2 R R (.s2 R R (.s2 R R (.sk R (.pF R ((m false (oj hm)).s0 R)))))
 ·intro l;rcases yEt (decide (c<0)) with hc|hc
  ·refine .know (d:=17) R hc ?_;exact .s2 R R (.sk R (.pT R ((l true (orT hc).symm).s0 R)))
  ·refine .know (d:=17) R hc ?_;exact .mg R (.mg R (.bg R (.pF R ((l (decide (c≥p1)) (orF hc).symm).s0 R))))
def y4d(p0:LI)(p1:Int)(a:Int):Option (Int⊕(Unit⊕Int)):=
 if decide (a<(p0.length:Int)) then
  (idx p0 a).bind fun b=>
  if(p1==b) then
   some (.inr (.inr (a)))
  else
   some (.inl (W (a+1)))
 else
  some (.inr (.inl ()))
def y8b(p0:LI)(p1:Int):Option Int:=
 (iter (y4d p0 p1) 0).bind fun a=>
 match a with
 | .inl c=>
  some (-1)
 | .inr (b)=>
  some b
theorem ybH{p0:LI}{p1:Int}{r:Int}(hm:y8b p0 p1=some r):
  F0 110 [.f qI p0,.i p1] [] (.i r) []:=by
 refine Fw.mk2 func110 ntmps110 R (fun C=>?_) R;refine .sr (.an R (.seq (.sv R (.ln sl26 R (.mv R (.ns (.block (bS hm fun j g hm=>?_))))))));refine .cutU (z:= .exit 0) (fun e=> .inl e=j) (fun (e:Unit)=>⟨[],[],0⟩) ?_ fun K7=>?_
 ·rintro e rfl;dsimp only at hm;refine .blkE (.seqN (.sr (.an R (.ret ?_))));cases hm;exact .r0 results110 (.tmp R .nil) R R
 refine .cutU (z:= .ret) (fun a=> .inr (a)=j) (fun (a:Int)=>⟨[(4,.i a)],[],0⟩) ?_ fun K9=>?_
 ·rintro a rfl;dsimp only at hm;refine .blkR (.seqR ?_);cases hm;exact .r0 results110 (.tmp R .nil) R R
 refine .iter (fun (c:Int)=>⟨[(8,.i c),(7,.i p0.length),(0,.f qI p0),(1,.i p1)],[],0⟩) g [] R ?_;intro c k hm h b;refine .sr (.bi R (.ns (.seq ?_)));refine .cc hm R (fun hm=>?_) fun hm=> .xx ((K7 _ (b _ (oj hm))).s0 R);refine .sn (.seq (.block (.sv R (.an R (.sv R (.mv R (.mv R (bS hm fun l d hm=> .ix sl26 d R (.le nag3 lv3 R (.bi R (.ns ?_)))))))))));exact .cc hm R (fun hm=> .sv R (.an R (.ret (.blkR (.seqR (.seqR ((K9 _ (b _ (oj hm))).s0 R))))))) fun hm=> .skip (.blkN (.seqN (.reg (.bi R (.mv R (.nil ((h _ (oj hm)).s0 R)))))))
def yf(p0:LI)(p1:Int):Option Bool:=
 (y8b p0 p1).bind fun a=>
 some (decide (a≥0))
theorem yi{p0:LI}{p1:Int}{r:Bool}(hm:yf p0 p1=some r):
  F0 41 [.f qI p0,.i p1] [] (.b r) []:=by
 refine Fw.mk2 func41 ntmps41 R (fun C=>?_) R;refine .sr (.an R (.sv R (.mv R (bS hm fun c a hm=> .c0 (ybH a) cf110 R (.bi R (.an R (.ret ?_)))))));cases hm;exact .r0 results41 (.tmp R .nil) R R
def y2F(a:Int):Option (Int⊕(Unit⊕Int)):=
 some (.inl (W (a+1)))
def y2G(p0:AutT)(a:Int):Option (Int⊕(Unit⊕Int)):=
 if decide (a<(p0.2.2.2.length:Int)) then
  (idx p0.2.2.2 a).bind fun b=>
  if((((decide (b.1<0))||(decide (b.1≥p0.2.1)))||(decide (b.2.2<0)))||(decide (b.2.2≥p0.2.1))) then
   some (.inr (.inr (2)))
  else
   (yf p0.1 b.2.1).bind fun d=>
   if(!d) then
    some (.inr (.inr (9)))
   else
    if(a==0) then
     y2F a
    else
     (idx p0.2.2.2 (W (a-1))).bind fun c=>
     if((decide (b.1<c.1))||((b.1==c.1)&&(decide (b.2.1≤c.2.1)))) then
      some (.inr (.inr (5)))
     else
      y2F a
 else
  some (.inr (.inl ()))
def y5x(p0:AutT):Option Int:=
 (iter (y2G p0) 0).bind fun a=>
 match a with
 | .inl c=>
  some 0
 | .inr (b)=>
  some b
theorem yax{p0:AutT}{r:Int}(hm:y5x p0=some r):
  F0 182 [.a (lx60 p0)] [] (.i r) []:=by
 refine Fw.mk2 func182 ntmps182 R (fun C=>?_) R;refine .sr (.bo 0 R (.an R (.seq (.sr (.fa yF R (.lb nag27 R (.ln sl27 R (.mv R (.ns (.block (bS hm fun D F hm=>?_)))))))))));refine .cutU (z:= .exit 0) (fun m=> .inl m=D) (fun (m:Unit)=>⟨[],[],0⟩) ?_ fun K=>?_
 ·rintro m rfl;dsimp only at hm;refine .blkE (.seqN (.sr (.an R (.ret ?_))));cases hm;exact .r0 results182 (.tmp R .nil) R R
 refine .cutU (z:= .ret) (fun j=> .inr (j)=D) (fun (j:Int)=>⟨[(2,.i j)],[],0⟩) ?_ fun l=>?_
 ·rintro j rfl;dsimp only at hm;refine .blkR (.seqR ?_);cases hm;exact .r0 results182 (.tmp R .nil) R R
 refine .iter (fun (e:Int)=>⟨[(9,.i e),(8,.i p0.2.2.2.length),(7,.f qT p0.2.2.2),(1,.q 0 0)],[(0,.bx 60 (lx60 p0))],1⟩) F [] R ?_;intro e u hm J h;refine .sr (.bi R (.ns (.seq ?_)));refine .cc hm R (fun hm=>?_) fun hm=> .xx ((K _ (h _ (oj hm))).s0 R);refine .sn ?_;refine .join0 (y2F e=some u) (⟨[(9,.i e),(8,.i p0.2.2.2.length),(7,.f qT p0.2.2.2),(1,.q 0 0)],[(0,.bx 60 (lx60 p0))],1⟩) ?_ ?_
 ·intro hm;exact .reg (.bi R (.mv R (.nil ((J _ (oj hm)).s0 R))))
 ·intro k;refine .block (.sv R (bS hm fun c H hm=> .ix sl27 H R (.lg [lI c.1,lI c.2.1,lI c.2.2] ag112 R (.E lv112) R (.al 1 zz112 R (.sa R (.st ag112.sz R (.ns (.seq (.block (.sr (.fa y1A R (.lb nag3 R (.bi R (.mv R ?_))))))))))))));refine .cut 6 (fun (n:Bool)=>((decide (c.1<0))||(decide (c.1≥p0.2.1)))=n) (fun n=>⟨[(24,.b n),(3,.i e),(4,.q 1 0),(9,.i e),(8,.i p0.2.2.2.length),(7,.f qT p0.2.2.2),(1,.q 0 0)],[(1,.bx 112 [lI c.1,lI c.2.1,lI c.2.2]),(0,.bx 60 (lx60 p0))],2⟩) ?_ ?_
  ·rintro _ rfl;refine .mv R ?_;refine .cut 4 (fun (o:Bool)=>(((decide (c.1<0))||(decide (c.1≥p0.2.1)))||(decide (c.2.2<0)))=o) (fun o=>⟨[(29,.b o),(3,.i e),(4,.q 1 0),(9,.i e),(8,.i p0.2.2.2.length),(7,.f qT p0.2.2.2),(1,.q 0 0)],[(1,.bx 112 [lI c.1,lI c.2.1,lI c.2.2]),(0,.bx 60 (lx60 p0))],2⟩) ?_ ?_
   ·rintro _ rfl;refine .mv R ?_;refine .cut 6 (fun (p:Bool)=>((((decide (c.1<0))||(decide (c.1≥p0.2.1)))||(decide (c.2.2<0)))||(decide (c.2.2≥p0.2.1)))=p) (fun p=>⟨[(36,.b p),(3,.i e),(4,.q 1 0),(9,.i e),(8,.i p0.2.2.2.length),(7,.f qT p0.2.2.2),(1,.q 0 0)],[(1,.bx 112 [lI c.1,lI c.2.1,lI c.2.2]),(0,.bx 60 (lx60 p0))],2⟩) ?_ ?_
    ·rintro _ rfl;refine .an R (.cc hm R (fun hm=> .sr (.an R (.ret (.blkR (.seqR (.blkR (.seqR (.seqR ((l _ (h _ (oj hm))).s0 R))))))))) fun hm=>?_);refine .sr (.fa yI R (.lb nag26 R (.fa y3F R (.lb nag3 R (bS hm fun L G hm=> .c0 (yi G) cf41 R (.no R (.an R ?_)))))));refine .cc hm R (fun hm=> .sr (.an R (.ret (.blkR (.seqR (.blkR (.seqR (.seqR ((l _ (h _ (oj hm))).s0 R))))))))) fun hm=>?_;refine .skip (.blkN (.seqN (.seq (.sv R (.bi R (.ns ?_))))));refine .cc hm R (fun hm=> .exit (.seqX (.blkE ((k hm).s0 R)))) fun hm=>?_;refine .sn (.sr (.fa yF R (.lb nag27 R (.mv R (.bi R (bS hm fun g I hm=> .ix sl27 I R (.lg [lI g.1,lI g.2.1,lI g.2.2] ag112 R (.E lv112) R (.al 2 zz112 R (.st ag112.sz R (.nr (.fa y1A R (.lb nag3 R (.fa y1A R (.lb nag3 R (.bi R (.mv R ?_))))))))))))))));refine .cut 13 (fun (s:Bool)=>((decide (c.1<g.1))||((c.1==g.1)&&(decide (c.2.1≤g.2.1))))=s) (fun s=>⟨[(70,.b s),(9,.i e),(8,.i p0.2.2.2.length),(7,.f qT p0.2.2.2),(1,.q 0 0)],[(0,.bx 60 (lx60 p0))],3⟩) ?_ ?_
     ·rintro _ rfl;exact .ns (.cc hm R (fun hm=> .sr (.an R (.ret (.blkR (.seqR (.seqR ((l _ (h _ (oj hm))).s0 R))))))) fun hm=> .skip (.blkN ((k hm).s0 R)))
     ·intro y;rcases yEt (decide (c.1<g.1)) with hc|hc
      ·refine .know (d:=57) R hc ?_;exact .s2 R R (.s2 R R (.s2 R R (.su R (.su R (.su R (.su R (.su R (.sk R (.pT R ((y true (orT hc).symm).s0 R))))))))))
      ·refine .know (d:=57) R hc ?_;refine .fag y1A R (.lbg nag3 R (.fag y1A R (.lbg nag3 R (.bg R (.mg R ?_)))));refine .cut 6 (fun (t:Bool)=>((c.1==g.1)&&(decide (c.2.1≤g.2.1)))=t) (fun t=>⟨[(69,.b t),(57,.b false),(9,.i e),(8,.i p0.2.2.2.length),(7,.f qT p0.2.2.2),(1,.q 0 0)],[(0,.bx 60 (lx60 p0))],3⟩) ?_ ?_
       ·rintro _ rfl;exact .pF R ((y ((c.1==g.1)&&(decide (c.2.1≤g.2.1))) (orF hc).symm).s0 R)
       ·intro B;rcases yEt (c.1==g.1) with hc|hc
        ·refine .know (d:=63) R hc ?_;exact .fag y3F R (.lbg nag3 R (.fag y3F R (.lbg nag3 R (.bg R (.op (O.pkT (Gu.mk R R) R R R R) R ((B (decide (c.2.1≤g.2.1)) (andT hc).symm).s0 R))))))
        ·refine .know (d:=63) R hc ?_;exact .s2 R R (.s2 R R (.sk R (.op (O.pkF (Gu.mk R R) R R R R) R ((B false (andF hc).symm).s0 R))))
    ·intro x;rcases yEt (((decide (c.1<0))||(decide (c.1≥p0.2.1)))||(decide (c.2.2<0))) with hc|hc
     ·refine .know (d:=30) R hc ?_;exact .s2 R R (.s2 R R (.sk R (.pT R ((x true (orT hc).symm).s0 R))))
     ·refine .know (d:=30) R hc ?_;exact .fag y3l R (.lbg nag3 R (.fag y1r R (.lbg nag3 R (.bg R (.pF R ((x (decide (c.2.2≥p0.2.1)) (orF hc).symm).s0 R))))))
   ·intro w;rcases yEt ((decide (c.1<0))||(decide (c.1≥p0.2.1))) with hc|hc
    ·refine .know (d:=25) R hc ?_;exact .s2 R R (.sk R (.pT R ((w true (orT hc).symm).s0 R)))
    ·refine .know (d:=25) R hc ?_;exact .fag y3l R (.lbg nag3 R (.bg R (.pF R ((w (decide (c.2.2<0)) (orF hc).symm).s0 R))))
  ·intro v;rcases yEt (decide (c.1<0)) with hc|hc
   ·refine .know (d:=18) R hc ?_;exact .s2 R R (.s2 R R (.sk R (.pT R ((v true (orT hc).symm).s0 R))))
   ·refine .know (d:=18) R hc ?_;exact .fag y1A R (.lbg nag3 R (.fag y1r R (.lbg nag3 R (.bg R (.pF R ((v (decide (c.1≥p0.2.1)) (orF hc).symm).s0 R))))))
def y1J(p0:AutT):Option Int:=
 (y2p p0.1 32).bind fun a=>
 if(a != 0) then
  some a
 else
  if decide (p0.2.1<0) then
   some 2
  else
   if decide (p0.2.1>4096) then
    some 3
   else
    (y2p p0.2.2.1 p0.2.1).bind fun b=>
    if(b != 0) then
     some b
    else
     (y5x p0).bind fun c=>
     some c
theorem y6Q{p0:AutT}{r:Int}(hm:y1J p0=some r):
    F0 114 [.a (lx60 p0)] [] (.i r) []:=by
  refine Fw.mk2 func114 ntmps114 R (fun C=>?_) R;refine .sr (.bo 0 R (.an R (.seq (.sr (.fa yI R (.lb nag26 R (bS hm fun e b hm=> .c0 (y8u b) cf181 R (.an R (.sv R (.bi R (.ns ?_)))))))))));refine .cc hm R (fun hm=>?_) fun hm=>?_
  ·refine .sv R (.an R (.ret (.seqR ?_)));cases hm;exact .r0 results114 (.tmp R .nil) R R
  ·refine .sn (.seq (.block (.sr (.fa y1r R (.lb nag3 R (.bi R (.an R ?_)))))));refine .cc hm R (fun hm=>?_) fun hm=>?_
   ·refine .sr (.an R (.ret (.blkR (.seqR ?_))));cases hm;exact .r0 results114 (.tmp R .nil) R R
   ·refine .sr (.fa y1r R (.lb nag3 R (.bi R (.an R ?_))));refine .cc hm R (fun hm=>?_) fun hm=>?_
    ·refine .sr (.an R (.ret (.blkR (.seqR ?_))));cases hm;exact .r0 results114 (.tmp R .nil) R R
    ·refine .skip (.blkN (.seqN (.seq (.sr (.fa y5D R (.lb nag26 R (.fa y1r R (.lb nag3 R (bS hm fun f c hm=> .c0 (y8u c) cf181 R (.an R (.sv R (.bi R (.ns ?_)))))))))))));refine .cc hm R (fun hm=>?_) fun hm=>?_
     ·refine .sv R (.an R (.ret (.seqR ?_)));cases hm;exact .r0 results114 (.tmp R .nil) R R
     ·refine .sn (.sr (.lg (lx60 p0) ag60 R (.B R) R (bS hm fun g d hm=> .c0 (yax d) cf182 R (.an R (.ret ?_)))));cases hm;exact .r0 results114 (.tmp R .nil) R R
end
end Go.Proofs.YtfdeiphkmjdifaaGreatDoor
