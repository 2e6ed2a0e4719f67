/- Parts of the proof, without what nothing here names. -/
import Derived.Test.YtecmobjeeonmaaaGreatDoorProg
import Derived.Shelf.Strings.Builder1
import Derived.Shelf.Strings.BuilderF
import Derived.Shelf.Strings.BuilderK
import Derived.Shelf.Strconv.Itoa0
import Derived.Shelf.Strconv.Itoa1
import Derived.Shelf.LaysM
import Derived.Shelf.Strconv.Itoa2
import Derived.Shelf.Strconv.Itoa3
import Derived.Shelf.Sort.Plain
import Derived.Shelf.Slices.In.SortNone
import Derived.Ground.SlsfProg
import Derived.RangeFuncBound
import Derived.RangeFuncCalls
import Derived.RangeFuncLeaves
import Derived.RangeFuncNested
import Derived.Shelf.Abstract
import Derived.Test.YtecmobjeeonmaaaGreatDoorQo2
set_option maxRecDepth 100000
set_option maxHeartbeats 8000000
namespace Go.Proofs.YtecmobjeeonmaaaGreatDoor
open Go Go.RowKit
variable{κ β:Type}{x y:Operand}{av:List TV}{ob':List Ob}{U:TypeId}{ms1:List (Nat×List Bool)}{T' S:TypeId}{off:Nat}{α:Type}{P:Program}
section
variable{α:Type}{r:Rep α}{s s':Sig}{t t' u u':Nat}{T':TypeId}{τ:Nat→Nat}{a:Option Nat}{c:Nat}
theorem MapO.fl{kv:κ→Value}{r:Rep β}{m:List (κ×β)}{T T2:TypeId}(hr:FlatR r)(h:MapO kv r s t T a c m)(hb:∀b,b<s.w.heap.size→s.tag b=t→s'.w.heap[b]? =s.w.heap[b]? ∧s'.tag b=t'):MapO kv r s' t' T2 a c m:=by
 obtain⟨b,es,clock,h1,h2,h3,h4,h5⟩:=h.is;obtain⟨g1,g2⟩:=hb b (Array.getElem?_eq_some_iff.1 h2).1 h3;exact⟨h.cap0,b,es,clock,h1,g1.trans h2,g2,h4,fun i e p he hp=>hr _ _ _ _ (h5 i e p he hp)⟩
theorem yaH{ks:List Int}{k:Int}(h:kidx ks k<ks.length):ks[kidx ks k]=k:=by
 have h2:(k==ks[kidx ks k])=true:=List.findIdx_getElem (p:=fun p=>k==p) (w:=h);exact(beq_iff_eq.1 h2).symm
theorem yjo{ks:List Int}{k:Int}(hn:ks.Nodup){j:Nat}(hj:ks[j]? =some k):kidx ks k=j:=by
 obtain⟨hjl,e⟩:=List.getElem?_eq_some_iff.1 hj;have hle:kidx ks k<ks.length:=List.findIdx_lt_length_of_exists ⟨k,e▸yGm hjl,by simp⟩;exact(List.getElem_inj hn).1 ((yaH hle).trans e.symm)
theorem ycQ(m:List (Int×β))(k:Int)(v:β)(j:Nat):(kput m k v)[j]? =if j=kidx (m.map (·.1)) k then some (k,v) else m[j]? :=by
 have hle:=yaB (m.map (·.1)) k;rw [List.length_map] at hle;unfold kput;generalize kidx (m.map (·.1)) k=i at hle ⊢;by_cases h:i<m.length
 ·rw [if_pos h,List.getElem?_set];by_cases e:i=j
  ·rw [if_pos e,if_pos (by omega),if_pos e.symm]
  ·rw [if_neg e,if_neg (fun e'=>e e'.symm)]
 ·rw [if_neg h];by_cases e:j=i
  ·rw [if_pos e,List.getElem?_append_right (by omega),show j-m.length=0 by omega];rfl
  ·rw [if_neg e];by_cases h2:j<m.length
   ·rw [List.getElem?_append_left h2]
   ·rw [List.getElem?_eq_none (by simp;omega),List.getElem?_eq_none (by omega)]
theorem yed(m:List (Int×β))(k:Int)(v:β)(j:Nat):((kput m k v).map (·.1))[j]? =if j=kidx (m.map (·.1)) k then some k else(m.map (·.1))[j]? :=by
 rw [List.getElem?_map,ycQ];split
 ·rfl
 ·rw [List.getElem?_map]
theorem yfE{m:List (Int×β)}{k:Int}{v:β}(h:(m.map (·.1)).Nodup):((kput m k v).map (·.1)).Nodup:=by
 unfold kput;split
 ·rename_i hi;have:(m.set (kidx (m.map (·.1)) k) (k,v)).map (·.1)=m.map (·.1):=by
   rw [List.map_set];have hi2:kidx (m.map (·.1)) k<(m.map (·.1)).length:=by simpa using hi
   have:=yaH hi2;apply List.ext_getElem?;intro j;rw [List.getElem?_set];split
   ·rename_i e;subst e;rw [yGe hi2,this]
   ·rfl
  rw [this];exact h
 ·rename_i hi;rw [List.map_append,List.nodup_append];refine⟨h,by simp,fun x hx y hy e=>hi ?_⟩;have hy:y=k:=by simpa using hy
  rw [e,hy] at hx;have:=List.findIdx_lt_length_of_exists (p:=fun p=>k==p) (xs:=m.map (·.1)) ⟨k,hx,by simp⟩;rw [List.length_map] at this;exact this
structure MtbP (r:Rep α) (T':TypeId) (o:Option Int) (m:List (Int×List α)) (s:Sig) (t:Nat) (h:Value) (hs:List (Int×Value)) (τ:Nat→Nat) (a:Option Nat) (c:Nat):Prop where
 e:h= .map a
 out:MapO kvI rVal (sp s t τ) (2*0+1) 0 a c hs
 key:hs.map (·.1)=m.map (·.1)
 nd:(m.map (·.1)).Nodup
 inn:∀(i:Nat) (k:Int) (hd:Value) (ys:List α),hs[i]? =some (k,hd)→m[i]? =some (k,ys)→o≠some k→∃a c,hd= .slice a ys.length c∧RowT r (sp s t τ) (2*(i+1)+1) T' a c ys
variable{m:List (Int×List α)}{hs:List (Int×Value)}{h:Value}{o:Option Int}{k:Int}
theorem MtbP.to(hr:FlatR r)(H:MtbP r T' o m s t h hs τ a c)(hb:∀b,b<s.w.heap.size→s.tag b=t→s'.w.heap[b]? =s.w.heap[b]? ∧s'.tag b=t'):MtbP r T' o m s' t' h hs τ a c:=by
 have key:∀k b,b<(sp s t τ).w.heap.size→(sp s t τ).tag b=2*k+1→(sp s' t' τ).w.heap[b]? =(sp s t τ).w.heap[b]? ∧(sp s' t' τ).tag b=2*k+1:=fun k b hb1 ht=>by
  obtain⟨q1,q2⟩:=y7K ht;obtain⟨g1,g2⟩:=hb b hb1 q1;exact⟨g1,by rw [sp_at g2,q2]⟩
 exact⟨H.e,H.out.fl y5p (key 0),H.key,H.nd,fun i k hd ys g1 g2 g3=>by
  obtain⟨a,c,e,h5⟩:=H.inn i k hd ys g1 g2 g3;exact⟨a,c,e,h5.fl hr (key (i+1))⟩⟩
def fzMt{α:Type}(r:Rep α)(m:List (Int×List α)):Option Int→LV
 | none=>lM kvI (rL r) m
 | some _=>lU
theorem MtbP.fz{β:Nat→Value}(H:MtbP r T' o m s 0 h hs τ a c):(fzMt r m o).p β s h:=by
 cases o with
 | some _=>rw [H.e];rfl
 | none=>
  have hle:Le (sp s 0 τ) s:=⟨Nat.le_refl _,fun b _ hb=>by
   unfold sp at hb;simp only at hb;split at hb
   ·omega
   ·rename_i g;exact absurd (by omega) g⟩
  obtain⟨b,es,clock,h1,h2,h3,h4,h5⟩:=H.out.is;refine⟨a,c,H.e,.inr ⟨H.out.cap0,b,es,clock,h1,h2,(y7K h3).1,H.key▸h4,fun i e p he hp=>?_⟩⟩;obtain⟨k,ys⟩:=p;have hk:(hs.map (·.1))[i]? =some k:=by rw [H.key,List.getElem?_map,hp];rfl
  rw [List.getElem?_map] at hk;obtain⟨⟨k',hd⟩,g1,g2⟩:=Option.map_eq_some_iff.1 hk;have g2:k'=k:=g2;subst g2;obtain⟨a',c',e',h6⟩:=H.inn i k' hd ys g1 hp nofun;have hv:=(h5 i e _ he g1).1;exact⟨a',c',by rw [hv,e'],h6.rd hle rfl fun b hb=>(y7K hb).1⟩
def MTB{α:Type}{r:Rep α}(hr:FlatR r)(T':TypeId)(o:Option Int)(m:List (Int×List α)):Ob:= .hp ⟨fun s t h=>∃hs τ a c,MtbP r T' o m s t h hs τ a c,fzMt r m o,
 fun mv ht _ ⟨hs,τ,a,c,h⟩=>⟨hs,τ,a,c,h.to hr fun b hb e=>by
  obtain⟨g1,g2⟩:=mv.blk b hb (by rw [e];exact ht);exact⟨g1,g2.trans e⟩⟩,
 fun _ hw ht ⟨hs,τ,a,c,h⟩=>⟨hs,τ,a,c,h.to hr fun b _ e=>⟨by rw [hw],ht b e⟩⟩,fun⟨_,_,_,_,h⟩ _=>h.fz⟩
theorem MtbP.take(hr:FlatR r)(H:MtbP r T' none m s t h hs τ a c)(k:Int)(hu:u≠t):
  MtbP r T' (some k) m (tkS s t u (kidx (m.map (·.1)) k) τ) t h hs τ a c∧(∃a c,(kget hs k).getD (.slice none 0 0)= .slice a ((kget m k).getD []).length c∧RowT r (tkS s t u (kidx (m.map (·.1)) k) τ) u T' a c ((kget m k).getD []))∧Mv (fun x=>x=u∨x=t) s (tkS s t u (kidx (m.map (·.1)) k) τ):=by
 have hlen:hs.length=m.length:=by have:=congrArg List.length H.key;simpa using this
 obtain⟨i,hi⟩:∃i,i=kidx (m.map (·.1)) k:=⟨_,rfl⟩;rw [←hi];have key:∀j b,j≠i+1→b<(sp s t τ).w.heap.size→(sp s t τ).tag b=2*j+1→(sp (tkS s t u i τ) t τ).w.heap[b]? =(sp s t τ).w.heap[b]? ∧(sp (tkS s t u i τ) t τ).tag b=2*j+1:=fun j b hk _ ht=>by
  obtain⟨q1,q2⟩:=y7K ht;have:(tkS s t u i τ).tag b=t:=by
   show(if s.tag b=t∧τ b=i+1 then u else s.tag b)=t;rw [if_neg (fun g=>hk (q2.symm.trans g.2)),q1]
  exact⟨rfl,by rw [sp_at this,q2]⟩
 refine⟨⟨H.e,H.out.fl y5p (fun b=>key 0 b (by omega)),H.key,H.nd,fun j k' hd ys g1 g2 g3=>?_⟩,?_,?_⟩
 ·obtain ⟨a,c,e,h5⟩:=H.inn j k' hd ys g1 g2 nofun;refine⟨a,c,e,h5.fl hr fun b=>key (j+1) b fun e=>g3 ?_⟩;have hj:j=i:=Nat.succ.inj e;have hjl:=(List.getElem?_eq_some_iff.1 g2).1;have h1:kidx (m.map (·.1)) k<(m.map (·.1)).length:=by rw [←hi,←hj];simpa using hjl
  have h2:=yaH h1;have h3:(m.map (·.1))[j]? =some k':=by rw [List.getElem?_map,g2];rfl
  rw [hj,hi,yGe h1,h2] at h3;exact h3
 ·by_cases hlt:i<m.length
  ·have h1:kidx (m.map (·.1)) k<(m.map (·.1)).length:=by rw [←hi];simpa using hlt
   have h2:=yaH h1;have hm:m[i]? =some (k,m[i].2):=by
    rw [yGe hlt];have:m[i].1=k:=by simpa [←hi] using h2
    rw [←this]
   have hh:hs[i]? =some (k,(hs[i]'(by omega)).2):=by
    have hk:(hs.map (·.1))[i]? =some k:=by rw [H.key,List.getElem?_map,hm];rfl
    rw [List.getElem?_map,yGe (by omega)] at hk;have:(hs[i]'(by omega)).1=k:=Option.some.inj hk;rw [yGe (by omega)];exact congrArg some (Prod.ext this rfl)
   have e1:kget m k=some m[i].2:=by rw [y9T,←hi,hm];rfl
   have e2:kget hs k=some (hs[i]'(by omega)).2:=by rw [y9T,H.key,←hi,hh];rfl
   obtain⟨a,c,e,h5⟩:=H.inn i k _ _ hh hm nofun;rw [e1,e2];refine⟨a,c,e,h5.fl hr fun b _ ht=>⟨rfl,?_⟩⟩;obtain⟨q1,q2⟩:=y7K ht;exact if_pos ⟨q1,q2⟩
  ·have e1:kget m k=none:=by rw [y9T,←hi,List.getElem?_eq_none (by omega)];rfl
   have e2:kget hs k=none:=by rw [y9T,H.key,←hi,List.getElem?_eq_none (by omega)];rfl
   rw [e1,e2];exact⟨none,0,rfl,RowT.nil⟩
 ·exact ⟨rfl,rfl,rfl,Nat.le_refl _,fun b _ hn=>⟨rfl,if_neg fun g=>hn (.inr g.1)⟩⟩
theorem MtbP.put{ys:List α}{a':Option Addr}{c':Nat}(hr:FlatR r)(H:MtbP r T' o m s t h hs τ a c)(hy:RowT r s u T' a' c' ys)(hut:u≠t)(ho:∀k',o=some k'→k'=k)(mv:Mv (One (2*0+1)) (sp s t τ) s')(hR:MapO kvI rVal s' (2*0+1) 0 a c (kput hs k (.slice a' ys.length c'))):
  MtbP r T' none (kput m k ys) (ptS s' t u) t h (kput hs k (.slice a' ys.length c')) (ptR s' (kidx (m.map (·.1)) k)) a c∧Mv (fun x=>x=t∨x=u) s (ptS s' t u):=by
 obtain⟨i,hi⟩:∃i,i=kidx (m.map (·.1)) k:=⟨_,rfl⟩;have hi2:kidx (hs.map (·.1)) k=i:=by rw [H.key,hi]
 rw [←hi];have odd:∀k b,s'.tag b=2*k+1→(sp (ptS s' t u) t (ptR s' i)).tag b=2*k+1:=fun k b e=>by
  have h1:(ptS s' t u).tag b=t:=if_pos (by omega);rw [sp_at h1];have:ptR s' i b=s'.tag b/2:=if_pos (by omega);rw [this];omega
 refine⟨⟨H.e,hR.fl y5p fun b _ e=>⟨rfl,odd 0 b e⟩,?_,yfE H.nd,fun j k' hd zs g1 g2 _=>?_⟩,?_⟩
 ·apply List.ext_getElem?;intro j;rw [yed,yed,H.key]
 ·rw [ycQ,hi2] at g1;rw [ycQ,←hi] at g2;by_cases hj:j=i
  ·rw [if_pos hj] at g1 g2;cases g1;cases g2;subst hj;refine⟨a',c',rfl,hy.fl hr fun b hb e=>?_⟩;have h1:(sp s t τ).tag b=2*u:=by
    show(if s.tag b=t then _ else 2*s.tag b)=_;rw [if_neg (by omega),e]
   obtain⟨q1,q2⟩:=mv.blk b hb (by rw [h1];show ¬2*u=2*0+1;omega);rw [h1] at q2;refine⟨q1,?_⟩;have h2:(ptS s' t u).tag b=t:=by
    show(if s'.tag b % 2=1 then t else if s'.tag b=2*u then t else _)=t;rw [if_neg (by omega),if_pos q2]
   have h3:ptR s' j b=j+1:=if_neg (by omega);rw [sp_at h2,h3]
  ·rw [if_neg hj] at g1 g2;have hko:o≠some k':=fun e=>by
    have e1:=ho k' e;subst e1;have:=yjo H.nd (j:=j) (k:=k') (by rw [List.getElem?_map,g2];rfl);exact hj (by rw [hi,this])
   obtain⟨a,c,e,h5⟩:=H.inn j k' hd zs g1 g2 hko;refine⟨a,c,e,h5.fl hr fun b hb e=>?_⟩;obtain⟨q1,q2⟩:=mv.blk b hb (by rw [e];show ¬2*(j+1)+1=2*0+1;omega);exact⟨q1,odd _ b (q2.trans e)⟩
 ·refine ⟨mv.os,mv.tape,mv.output,mv.size,fun b hb hn=>?_⟩;have h1:(sp s t τ).tag b=2*s.tag b:=if_neg fun e=>hn (.inl e);obtain⟨q1,q2⟩:=mv.blk b hb (by rw [h1];show ¬2*s.tag b=2*0+1;omega);rw [h1] at q2;refine⟨q1,?_⟩;show(if s'.tag b % 2=1 then t else if s'.tag b=2*u then t else s'.tag b/2)=s.tag b;rw [if_neg (by omega),if_neg (fun e=>hn (.inr (by omega))),q2];omega
theorem MtbP.made(h:MapO kvI rVal s t 0 a c []):MtbP r T' none [] s t (.map a) [] (fun _=>0) a c:=
 ⟨rfl,h.fl y5p fun b _ e=>⟨rfl,sp_at e⟩,rfl,List.nodup_nil,fun i k hd ys g1=>by simp at g1⟩
end
section
variable{Φ:Fr}{P:Program}{Q:Exit→Act→World→Prop}{n:Nat}{e:List (Nat×Value)}{s:Sig}{ops:Array Oper}{os:List Oper}{d:Nat}{ty:TypeId}{pos:String}{af:Array Edge}{g:Option (Nat×Bool)}
theorem L.mlV [BEq κ]{kv:κ→Value}{T kt et:TypeId}{a:Option Nat}{k:κ}{hs:List (κ×Value)}{z zv:Value}(hT:Md P T kt et kv rVal z zv)(hM:MapA kv rVal s a hs)(hw:Wt ops e g)(hx:Env.ev e x=some (Value.map a))(hy:Env.ev e y=some (kv k))(hd:Nat.blt d n=true)
  (h:((kget hs k).getD z).oneCell'=true→L Φ P Q n ops os ((d,(kget hs k).getD z)::e) s.w):L Φ P Q n ops (⟨some d,.lookup T x y false,ty,pos,af,g⟩::os) e s.w:=by
 obtain⟨u,h1,h2⟩:=ycJ (k:=k) hT hM false;have hu:u=(kget hs k).getD z:=(List.cons.inj h1.1).1;rw [hu] at h2;refine L.val hw hd (fun ac ha=>?_) (h h1.2);simp only [execOp,ha.ev hx,ha.ev hy];simp [h2]
end
section
variable{K:Kx}{C:Cx}{P:Program}{n:Nat}{ops:Array Oper}{σ:Sx}{d q i:Nat}{ty:TypeId}{pos:String}{af:Array Edge}{g:Option (Nat×Bool)}{β:Nat→Value}{s s':Sig}{e:List (Nat×Value)}
variable{α:Type}{r:Rep α}{hr:FlatR r}{T2:TypeId}{o:Option Int}{m:List (Int×List α)}{ys:List α}{k:Int}{T kt et:TypeId}
theorem O.mkM(hr:FlatR r)(T2:TypeId)(i:Nat)(hi:Nat.ble σ.n i=true)(hg:Gu ops σ g)(hb:Nat.blt d n=true):Ox K C P n ops ⟨some d,.makeMap T none,ty,pos,af,g⟩ σ (FN d i (lH i) (MTB hr T2 none [])):=fun Φ Q os β s e hd k=>
 L.mk2 (kv:=kvI) (r:=rVal) (T:=T) (C.tg i) hb (hd.gd hg) fun a c s' m h5=>k _ s' _ (Aft.new hi m.no (lH_at rfl) ⟨[],_,a,c,MtbP.made (h5.fl y5p fun b _ e=>⟨rfl,e⟩)⟩)
theorem O.luM(i:Nat)(hT:Md P T kt et kvI rVal (.slice none 0 0) (.slice none 0 0))(hi:Nat.ble σ.n i=true)(hg:Gu ops σ g)(hx:σ.ev x=some (sL (lH q)))(ho:aget σ.ob q=some (MTB hr T2 none m))(hy:Ky K C σ y (kvI k))(hb:Nat.blt d n=true):
  Ox K C P n ops ⟨some d,.lookup T x y false,ty,pos,af,g⟩ σ (FT d i q (lH i) (ROW r T2 ((kget m k).getD [])) (MTB hr T2 (some k) m)):=fun Φ Q os β s e hd kc=>by
 obtain⟨v,h1,h2,_⟩:=hd.evv hx;obtain⟨hs,τ,a,c,H⟩:=hd.ob q _ ho;have hq:q<σ.n:=(hd.fo _ _ ho).1;have hqi:q≠i:=by have:=Nat.le_of_ble_eq_true hi;omega
 have hu:C.tg i≠C.tg q:=fun e=>hqi (hd.ok.inj e).symm;obtain⟨g1,⟨a2,c2,e2,g2⟩,g3⟩:=H.take (u:=C.tg i) hr k hu;exact L.mlV (s:=sp s (C.tg q) τ) hT H.out.any (hd.gd hg) (by rw [h1,h2,H.e]) (hy β s e hd) hb fun hone=>kc (upB β i ((kget hs k).getD (.slice none 0 0))) (tkS s (C.tg q) (C.tg i) (kidx (m.map (·.1)) k) τ) _ (Aft.tk hi hqi g3 (lH_at hone) ⟨a2,c2,e2,g2⟩ ⟨hs,τ,a,c,g1⟩)
theorem O.muM{z:Operand}(hT:Md P T kt et kvI rVal (.slice none 0 0) (.slice none 0 0))(hg:Gu ops σ g)(hx:σ.ev x=some (sL (lH q)))(ho:aget σ.ob q=some (MTB hr T2 o m))(hy:Ky K C σ y (kvI k))(hz:σ.ev z=some (sL (lH i)))(hoi:aget σ.ob i=some (ROW r T2 ys))(hqi:Nat.beq i q=false)(hk:∀k',o=some k'→k'=k):
  Ox K C P n ops ⟨none,.mapUpdate T x y z,ty,pos,af,g⟩ σ ⟨none,[(q,MTB hr T2 none (kput m k ys)),(i,.u)],none⟩:=fun Φ Q os β s e hd kc=>by
 obtain⟨v,h1,h2,_⟩:=hd.evv hx;obtain⟨a2,c2,h4,h5,h6⟩:=hd.row hz hoi;obtain⟨hs,τ,a,c,H⟩:=hd.ob q _ ho;have hne:C.tg i≠C.tg q:=fun e=>by
  have:=hd.ok.inj e;rw [this,Nat.beq_refl] at hqi;cases hqi
 refine L.mu (s:=sp s (C.tg q) τ) (r:=rVal) (v:= .slice a2 ys.length c2) hT H.out ⟨rfl,rfl⟩ (by omega) (fun _ _=>eqI) (hd.gd hg) (by rw [h1,h2,H.e]) (hy β s e hd) h5 fun s' mv h7=>?_;obtain⟨g1,g2⟩:=H.put hr h6 hne hk mv h7;refine kc β (ptS s' (C.tg q) (C.tg i)) e ⟨fun _ _=>rfl,fun _ _=>rfl,g2.weak fun t ht=>ht.elim (fun ht=>⟨q,_,.head _,ht⟩) (fun ht=>⟨i,.u,.tail _ (.head _),ht⟩),fun _ _=>rfl,nofun,fun j o' hm=>?_⟩;rcases List.mem_cons.1 hm with e|hm
 ·cases e;exact⟨_,_,_,_,g1⟩
 ·rcases List.mem_cons.1 hm with e|hm
  ·cases e;trivial
  ·cases hm
theorem L.mlS{Φ:Fr}{Q:Exit→Act→World→Prop}{os:List Oper}{γ:Type}[BEq κ]{kv:κ→Value}{r:Rep γ}{a:Option Nat}{k:κ}{m:List (κ×γ)}{z:γ}{zv:Value}(hT:Md P T kt et kv r z zv)(hM:MapA kv r s a m)(hw:Wt ops e g)(hx:Env.ev e x=some (Value.map a))(hy:Env.ev e y=some (kv k))(hd:Nat.blt d n=true)
  (h:∀u,r.rd s [u] ((kget m k).getD z)→L Φ P Q n ops os ((d,u)::e) s.w):L Φ P Q n ops (⟨some d,.lookup T x y false,ty,pos,af,g⟩::os) e s.w:=by
 obtain⟨u,h1,h2⟩:=ycJ (k:=k) hT hM false;refine L.val hw hd (fun ac ha=>?_) (h u h1);simp only [execOp,ha.ev hx,ha.ev hy];simp [h2]
theorem O.mlS{α:Type}[BEq κ]{kv:κ→Value}{r:Rep α}{m:List (κ×List α)}{k:κ}(hT:Md P T kt et kv (rL r) [] (.slice none 0 0))(hg:Gu ops σ g)(hx:σ.ev x=some (sL (lM kv (rL r) m)))(hy:Ky K C σ y (kv k))(hb:Nat.blt d n=true):Ox K C P n ops ⟨some d,.lookup T x y false,ty,pos,af,g⟩ σ (F1 d (sL (lF r ((kget m k).getD [])))):=
 Ox.pure fun _ _ _ β s e hd q=>by
  obtain⟨a,h1,h2⟩:=Rm.fr (K:=K) (C:=C) hx β s e hd;refine L.mlS hT h2 (hd.gd hg) h1 (hy β s e hd) hb fun u ⟨a',c',e',h3⟩=>q _ ⟨a',c',(List.cons.inj e').1,h3⟩
/-! A call that is lent what it reads, and makes objects that hold no more than cells. -/
def FlatO(o:Ob):Prop:=∀β s t h s2 t2 β2,(∀b,b<s.w.heap.size→s.tag b=t→s2.w.heap[b]? =s.w.heap[b]? ∧s2.tag b=t2)→o.p β s t h→o.p β2 s2 t2 h
theorem FlatO.row{α:Type}{r:Rep α}{T:TypeId}{xs:List α}(hr:FlatR r):FlatO (ROW r T xs):=fun _ _ _ _ _ _ _ hb ⟨a,c,e,h⟩=>⟨a,c,e,h.fl hr hb⟩
def FlatL :List Ob→Prop
 | []=>True
 | o::l=>FlatO o∧FlatL l
theorem FlatL.at :∀{l:List Ob} {i:Nat} {o:Ob},FlatL l→l[i]? =some o→FlatO o
 | [],_,_,_,h=>by cases h
 | _::_,0,_,⟨h1,_⟩,h=>by cases h;exact h1
 | _::_,i+1,_,⟨_,h2⟩,h=>h2.at (i:=i) (by simpa using h)
def FlatS(r:SV):Prop:=∀β s s2 v,r.p β s v→r.p β s2 v
theorem O.caY{f:FuncId}{xs:List Operand}{ys:List TV}{c:Call}{r r':SV}(ν:List Nat)(l:List (Nat×Ob))(nx:Option Nat)(hF:Fw P f ⟨0,[]⟩ av [] r ob')(hcf:Cf P f)(hc:c.callee= .value (.func f))(hca:c.args=xs.toArray)(hg:Gu ops σ g)(hx:σ.evs xs=some ys)
  (hok:ya2 ⟨0,[]⟩ σ.n ν l ob' r=true) (hcv:LnA K C σ ys av) (has:refsT av= []) (hfl:FlatL ob') (hfs:FlatS r) (hO:OutL (fun i=>ν.getD i 0) ob' l) (hr:∀β s v,r.p (fun i=>β (ν.getD i 0)) s v→r'.p β s v) (hb:Nat.blt d n=true):
  Ox K C P n ops ⟨some d,.call c,ty,pos,af,g⟩ σ (callE (some (d,r')) ν l nx):=fun Φ Q os β s e hd k=>by
 obtain⟨vs,h1,h2⟩:=hd.evs hx;have hcall:=hF.is ((List.range ob'.length).map fun i=>C.tg (ν.getD i 0)) (fun i=>β (ν.getD i 0)) ⟨s.w,fun _=>0⟩ vs (by simp) (yZl _) (by simp) (by simp) ((hcv.p hd h2).mono (Le.refl _) fun i hi=>by rw [has] at hi;cases hi) (fun i o h=>by simp at h)
 ·have h4:Calls P f vs.toArray s.w (Lft ⟨0,[]⟩ ((List.range ob'.length).map fun i=>C.tg (ν.getD i 0)) (fun i=>β (ν.getD i 0)) s r ob'):=Calls.mono hcall fun en w' ⟨v,s',a1,a2,m,β',g1,g2,g3⟩=>by
   have m0:∀b,b<s.w.heap.size→s'.w.heap[b]? =s.w.heap[b]? ∧s'.tag b=0:=fun b hb=>m.blk b hb fun⟨i,hi,_⟩=>by cases hi
   refine⟨v,⟨s'.w,fun b=>if b<s.w.heap.size then s.tag b else s'.tag b⟩,a1,a2,⟨m.os,m.tape,m.output,m.size,fun b hb _=>⟨(m0 b hb).1,if_pos hb⟩⟩,β',g1,hfs _ _ _ _ g2,fun i o ho=>?_⟩;have hi:i<ob'.length:=(List.getElem?_eq_some_iff.1 ho).1;have htg:((List.range ob'.length).map fun i=>C.tg (ν.getD i 0)).getD i 0=C.tg (ν.getD i 0):=by simp [List.getD_eq_getElem?_getD,hi]
   refine hfl.at ho β' s' _ _ _ _ β' (fun b _ hbt=>⟨rfl,?_⟩) (g3 i o ho);rw [htg] at hbt ⊢;have hp:=hd.ok.tpos (ν.getD i 0);have:¬b<s.w.heap.size:=fun hlt=>by
    have:=(m0 b hlt).2;omega
   show(if b<s.w.heap.size then s.tag b else s'.tag b)=_;rw [if_neg this,hbt]
  refine L.ca hcf hc hca (hd.gd hg) h1 h4 hb fun v s' m hp=>?_;obtain⟨β'',g1,g2,g2',g3,g4⟩:=ycM (nx:=nx) hd.ok hok hO m hp;exact k β'' s' _ ⟨g2,g2',g3,fun d' hn=>Env.get_put fun e=>hn r' (by rw [e];rfl),fun d' x' ee=>(by cases ee;exact⟨v,by simp [Env.get],hr _ _ _ g1⟩),g4⟩
theorem fMt :∀q,MTB hr T2 none m= .hp q→q.fz.refs= []:=fun q e=>by cases e;rfl
end
/-! Drawing regions in which an object is touched more than once. -/
def dropO(zs:List (Nat×Nat))(j:Nat)(f:Eff):List (Nat×Ob):=f.ob.filter fun p=>!(zs.any fun z=>Nat.beq z.1 j&&Nat.beq z.2 p.1)
def muOz(zs:List (Nat×Nat)):List Bool→Nat→List Eff→List (Nat×Ob)→List (Nat×Ob)
 | [],_,_,l=>l
 | b::m,j,fs,l=>match fs with
  | []=>l
  | f::fs=>cond b (dropO zs j f++muOz zs m (j+1) fs l) (muOz zs m (j+1) fs l)
theorem yie{zs:List (Nat×Nat)}{l:List (Nat×Ob)}:∀{m:List Bool} {j:Nat},muOz zs m j [] l=l
 | [],_=>rfl
 | _::_,_=>rfl
theorem ycR{zs:List (Nat×Nat)}{l:List (Nat×Ob)}:∀{m:List Bool} {j:Nat} {fs:List Eff},muOz zs m j fs l=muOz zs m j fs []++l
 | [],_,_=>rfl
 | _::_,_,[]=>rfl
 | b::m,j,f::fs=>by
  simp only [muOz];rw [ycR (m:=m) (fs:=fs)];cases b
  ·rfl
  ·simp only [cond_true,List.append_assoc]
theorem ydF{A:List (List Nat)}{fs:List Eff}{N k j:Nat}{l:List (Nat×Ob)}{kp:Nat→Bool}:∀{q:List (Nat×Ob)},(∀p,p∈q→okJ A fs N k j p.1=kp p.1)→muC A fs N k j q l=(q.filter fun p=>kp p.1)++l
 | [],_=>rfl
 | p::q,h=>by
  simp only [muC];rw [h p (.head _),ydF fun p hp=>h p (.tail _ hp),List.filter_cons];cases kp p.1 <;> rfl
section
variable{K:Kx}{C:Cx}{P:Program}{Φ:Fr}{Q:Exit→Act→World→Prop}{n:Nat}{σ:Sx}{fs:List Eff}{A:List (List Nat)}{N:Nat}
theorem muE_z{k:Nat}{all:List Eff}{l:List (Nat×Ob)}{zs:List (Nat×Nat)}:∀{m:List Bool} {j:Nat} {fs:List Eff},(∀j',j'∈ixs m j→∀p,p∈(all.getD j' noE).ob→okJ A all N k j' p.1=!(zs.any fun z=>Nat.beq z.1 j'&&Nat.beq z.2 p.1))→(∀i,all.getD (j+i) noE=fs.getD i noE)→muE A all N k (ixs m j) l=muOz zs m j fs l
 | [],_,_,_,_=>rfl
 | b::m,j,fs,hj,h=>by
  have ih:∀{fs':List Eff},(∀i,all.getD (j+1+i) noE=fs'.getD i noE)→muE A all N k (ixs m (j+1)) l=muOz zs m (j+1) fs' l:=fun h'=>muE_z (fun j' hm=>hj j' (by
   cases b
   ·exact hm
   ·exact .tail _ hm)) h'
  have h0:=h 0;rw [Nat.add_zero] at h0;cases fs with
  | nil=>
   have ih:=ih (fs':=[]) fun i=>by
    have:=h (i+1);rw [show j+(i+1)=j+1+i by omega] at this;simpa using this
   rw [yie] at ih ⊢;cases b
   ·exact ih
   ·have hj:=hj j (.head _);simp only [ixs,cond_true,muE];rw [ydF (kp:=fun i=>!(zs.any fun z=>Nat.beq z.1 j&&Nat.beq z.2 i)) hj,h0,ih];rfl
  | cons f fs=>
   have ih:=ih (fs':=fs) fun i=>by
    have:=h (i+1);rw [show j+(i+1)=j+1+i by omega] at this;simpa using this
   cases b
   ·exact ih
   ·have hj:=hj j (.head _);simp only [ixs,cond_true,muE,muOz];rw [ydF (kp:=fun i=>!(zs.any fun z=>Nat.beq z.1 j&&Nat.beq z.2 i)) hj,h0,ih];rfl
def muZ(σ:Sx)(fs:List Eff)(d:List Nat)(zs:List (Nat×Nat))(m:List Bool)(n:Nat):Sx:=⟨muM m fs σ.sl,muOz zs m 0 fs (σ.dr d).ob,n⟩
def okZ(A:List (List Nat))(fs:List Eff)(N:Nat)(σ:Sx)(k:Nat)(d:List Nat)(zs:List (Nat×Nat))(m:List Bool):Bool:=
  ((ixs m 0).all fun j=>(fs.getD j noE).ob.all fun p=>(okJ A fs N k j p.1 == !(zs.any fun z=>Nat.beq z.1 j&&Nat.beq z.2 p.1))) &&
  (((σ.dr d).ob.all fun p=>(muOz zs m 0 fs []).any (fun q=>Nat.beq q.1 p.1)||okO A fs N k p.1) &&
   (σ.sl.all fun p=>(muM m fs []).any (fun q=>Nat.beq q.1 p.1)||okD A fs N k p.1))
theorem Den.okz{d:List Nat}{zs:List (Nat×Nat)}{k:Nat}{m:List Bool}{j:Nat}{β:Nat→Value}{s:Sig}{e:List (Nat×Value)}(hk:okZ A fs N σ k d zs m=true)(hn:Nat.beq (muK m fs σ.n) j=true)(h:Den K C (mu A fs N σ k (ixs m 0)) β s e):Den K C (muZ σ fs d zs m j) β s e:=by
 have hj:(mu A fs N σ k (ixs m 0)).n=j:=by
  show muN fs σ.n (ixs m 0)=j;rw [y7T (fs:=fs) fun i=>by rw [Nat.zero_add]];exact yNb hn
 simp only [okZ,Bool.and_eq_true] at hk;obtain⟨k1,k2,k3⟩:=hk;have ho:∀i o,aget (muOz zs m 0 fs (σ.dr d).ob) i=some o→aget (mu A fs N σ k (ixs m 0)).ob i=some o:=fun i o hx=>by
  show aget (muE A fs N k (ixs m 0) (muF A fs N k σ.ob)) i=some o;rw [muE_z (fs:=fs) (zs:=zs) (fun j hj p hp=>by
   have:=yAt.1 (yAt.1 k1 j hj) p hp;exact beq_iff_eq.1 this) fun i=>by rw [Nat.zero_add],ycR]
  rw [ycR] at hx;refine y8j (fun hno x hx=>?_) hx;rcases Bool.or_eq_true_iff.1 (yAt.1 k2 _ (y7J hx)) with g|g
  ·obtain ⟨q,hq,hq2⟩:=List.any_eq_true.1 g;have:q.1=i:=yNb hq2;exact absurd (show (i,q.2)∈_ from by rw [←this];exact hq) (hno q.2)
  ·exact ydb g (ycd hx)
 have hs:∀d' x,aget (muM m fs σ.sl) d'=some x→aget (mu A fs N σ k (ixs m 0)).sl d'=some x:=fun i o hx=>by
  show aget (muA fs (ixs m 0) (muB A fs N k σ.sl)) i=some o;rw [y9U (fs:=fs) fun i=>by rw [Nat.zero_add],y8Q];rw [y8Q] at hx;refine y8j (fun hno x hx=>?_) hx;rcases Bool.or_eq_true_iff.1 (yAt.1 k3 _ (y7J hx)) with g|g
  ·obtain ⟨q,hq,hq2⟩:=List.any_eq_true.1 g;have:q.1=i:=yNb hq2;exact absurd (show (i,q.2)∈_ from by rw [←this];exact hq) (hno q.2)
  ·exact ydc g hx
 exact⟨h.ok,h.mv,h.b0,hj▸h.m,fun d x hx=>h.sl d x (hs d x hx),fun i o hx=>h.ob i o (ho i o hx),fun d x hx=>hj▸h.fs d x (hs d x hx),fun i o hx=>hj▸h.fo i o (ho i o hx)⟩
def Wsz(K:Kx)(C:Cx)(P:Program)(n:Nat)(ops:Array Oper)(all:List Eff)(σ:Sx):List (Nat×List Bool×List Nat×List (Nat×Nat))→List Eff→List Oper→Prop
 | _,_,[]=>True
 | m::ms,f::fs,o::os=>Ox K C P n ops o (muZ σ all m.2.2.1 m.2.2.2 m.2.1 m.1) f∧Wsz K C P n ops all σ ms fs os
 | _,_,_::_=>False
def okZs(A:List (List Nat))(fs:List Eff)(N:Nat)(σ:Sx):Nat→List (Nat×List Bool×List Nat×List (Nat×Nat))→Bool
 | _,[]=>true
 | k,m::ms=>okZ A fs N σ k m.2.2.1 m.2.2.2 m.2.1&&okZs A fs N σ (k+1) ms
def nsOz(fs:List Eff)(n:Nat)(ms:List (Nat×List Bool×List Nat×List (Nat×Nat))):Bool:=ms.all fun m=>Nat.beq (muK m.2.1 fs n) m.1
theorem Wsz.gg{ops:Array Oper}{all:List Eff}:∀{l:List Oper} {k:Nat} {ms:List (Nat×List Bool×List Nat×List (Nat×Nat))} {fs:List Eff},okZs A all N σ k ms=true→nsOz all σ.n ms=true→Wsz K C P n ops all σ ms fs l→(∀i,all.getD (k+i) noE=fs.getD i noE)→(∀i,A.getD (k+i) []=(ms.map fun m=>ixs m.2.1 0).getD i [])→y8v K C P n ops A all N σ k l
 | [],_,_,_,_,_,_,_,_=>trivial
 | o::os,k,m::ms,f::fs,hk,hn,hw,hf,hA=>by
  simp only [okZs,Bool.and_eq_true] at hk;simp only [nsOz,List.all_cons,Bool.and_eq_true] at hn;refine⟨?_,Wsz.gg hk.2 hn.2 hw.2 (fun i=>?_) (fun i=>?_)⟩
  ·have h1:=hf 0;have h2:=hA 0;rw [Nat.add_zero] at h1 h2;rw [h1,h2,show(List.map (fun (m:Nat×List Bool×List Nat×List (Nat×Nat))=>ixs m.2.1 0) (m::ms)).getD 0 []=ixs m.2.1 0 from rfl];intro Φ Q os β s e hd hc;have hj:(mu A all N σ k (ixs m.2.1 0)).n=m.1:=by
    show muN all σ.n (ixs m.2.1 0)=m.1;rw [y7T (fs:=all) fun i=>by rw [Nat.zero_add]];exact yNb hn.1
   exact hw.1 Φ Q os β s e (hd.okz hk.1 hn.1) fun β' s' e' a=>hc β' s' e' (by rw [hj];exact a)
  ·have:=hf (i+1);rw [show k+(i+1)=k+1+i by omega] at this;simpa using this
  ·have:=hA (i+1);rw [show k+(i+1)=k+1+i by omega] at this;simpa using this
 | _::_,_,[],_,_,_,hw,_,_=>by cases hw
 | _::_,_,_::_,[],_,_,hw,_,_=>by cases hw
theorem WE.drz{id:Nat}{l:List Oper}(j:Nat)(zN:List (Nat×Nat))(ms:List (Nat×List Bool×List Nat×List (Nat×Nat)))(fs:List Eff)(τ:Sx)(hs:Wsz K C P n l.toArray fs σ ms fs l)(hok:(okZ (ms.map fun m=>ixs m.2.1 0) fs l.length σ l.length [] zN (List.replicate l.length true)&&(Nat.beq (muK (List.replicate l.length true) fs σ.n) j&&(okZs (ms.map fun m=>ixs m.2.1 0) fs l.length σ 0 ms&&(nsOz fs σ.n ms&&y8w P K (ms.map fun m=>ixs m.2.1 0) fs σ.n l.toArray))))=true)(hτ:τ.is K (muZ σ fs [] zN (List.replicate l.length true) j) [])(h0:WX K C Φ Q n .normal τ):WE K C Φ P Q n (.region id l.toArray true) σ:=by
 simp only [Bool.and_eq_true] at hok;obtain⟨h1,h2,h3,h4,h5⟩:=hok;have hz:∀i,fs.getD (0+i) noE=fs.getD i noE:=fun i=>by rw [Nat.zero_add]
 refine .draw' (ms.map fun m=>ixs m.2.1 0) fs (Wsz.gg h3 h4 hs hz fun i=>by rw [Nat.zero_add]) h5 ?_;rw [List.range_eq_range',←yaF];exact fun β s e hd=>h0.sub [] hτ β s e (hd.okz h1 h2)
end
theorem I3{p:(Nat→Value)→Sig→Value→Prop}:∀β s v,p β s v→p β s v:=fun _ _ _ h=>h
theorem I4{p:(Nat→Value)→Sig→Nat→Value→Prop}:∀β s t v,p β s t v→p β s t v:=fun _ _ _ _ h=>h
section
variable{K:Kx}{C:Cx}{Φ:Fr}{P:Program}{Q:Exit→Act→World→Prop}{n:Nat}{σ:Sx}{β:Nat→Value}{s:Sig}{e:List (Nat×Value)}
theorem All2.mvb{i m:Nat}(hb:∀j,j<m→(upB β m (β i)) j=β j):∀{l:List LV} {vs:List Value} (k:Nat),l[k]? =some (lH i)→(∀j,j∈refsL l→j<m)→All2 β s l vs→All2 (upB β m (β i)) s (l.set k (lH m)) vs
 | [],_,_,h,_,_=>by cases h
 | x::l,_,0,h,hr,⟨v,us,h1,h2,e⟩=>by
  cases h;exact⟨v,us,⟨h1.1.trans y7s.symm,h1.2⟩,h2.mono (Le.refl _) fun j hj=>hb j (hr j (List.mem_append_right _ hj)),e⟩
 | x::l,_,k+1,h,hr,⟨v,us,h1,h2,e⟩=>⟨v,us,x.mono (fun j hj=>hb j (hr j (List.mem_append_left _ hj))) (Le.refl _) h1,All2.mvb hb k (by simpa using h) (fun j hj=>hr j (List.mem_append_right _ hj)) h2,e⟩
theorem Den.mvb{i b k:Nat}{o:HO}{T:TypeId}{l:List LV}(ho:aget σ.ob i=some (.hp o))(hbx:aget σ.ob b=some (.bx T l))(hk:l[k]? =some (lH i))(hm:K.may i=true)(hd:Den K C σ β s e):
  Den K C ⟨σ.sl,(σ.n,.hp o)::(b,.bx T (l.set k (lH σ.n)))::(i,.u)::σ.ob,σ.n+1⟩ (upB β σ.n (β i)) (s.re (C.tg i) (C.tg σ.n)) e:=by
 have hkm:=hd.m;have hi:=(hd.fo _ _ ho).1;have hib:b≠i:=fun e=>by subst e;rw [ho] at hbx;cases hbx
 have hb:∀j,j<σ.n→(upB β σ.n (β i)) j=β j:=fun j hj=>y7e (by omega);have hmv:=Sig.re_mv (t:=C.tg i) (t':=C.tg σ.n) s;have h0:¬One (C.tg i) 0:=fun e=>by have:0=C.tg i:=e;have:=hd.ok.tpos i;omega
 have hl:=hmv.le h0;refine⟨hd.ok,hd.mv.trans (hmv.one (hd.ok.up hm)),fun j hj=>(hb j (by omega)).trans (hd.b0 j hj),by show K.m≤σ.n+1;omega,fun d x hx=>?_,fun j q hq=>?_,fun d x hx j hj=>?_,fun j q hq=>?_⟩
 ·obtain ⟨v,g1,g2⟩:=hd.sl d x hx;exact⟨v,g1,SV.mono hl (fun j hj=>hb j (hd.fs d x hx j hj)) g2⟩
 ·rcases yh hq with ⟨rfl,rfl⟩|⟨hn1,hq⟩
  ·have:=hd.ob _ _ ho;rw [y7s];exact o.mvt hl rfl (fun b hb=>by show(if s.tag b=C.tg i then C.tg σ.n else s.tag b)=_;rw [if_pos hb]) this
  ·rcases yh hq with ⟨rfl,rfl⟩|⟨hn2,hq⟩
   ·obtain ⟨bk,vs,e1,e2,e3⟩:=hd.ob _ _ hbx;refine⟨bk,vs,by rw [hb b (hd.fo _ _ hbx).1];exact e1,e2.mv hmv fun e=>hib (hd.ok.inj e),?_⟩;exact All2.mono hl (fun _ _=>rfl) (All2.mvb hb k hk (hd.fo _ _ hbx).2 e3)
   ·rcases yh hq with ⟨rfl,rfl⟩|⟨hn3,hq⟩
    ·trivial
    ·rw [hb j (hd.fo _ _ hq).1];exact Ob.mv hmv (fun e=>hn3 (hd.ok.inj e).symm) h0 (fun i hi=>hb i ((hd.fo _ _ hq).2 i hi)) (hd.ob j q hq)
 ·have:=hd.fs d x hx j hj;show j<σ.n+1;omega
 ·show j<σ.n+1∧∀i,i∈q.refs→i<σ.n+1;rcases yh hq with ⟨rfl,rfl⟩|⟨hn1,hq⟩
  ·exact ⟨by omega,fun j hj=>by cases hj⟩
  ·rcases yh hq with ⟨rfl,rfl⟩|⟨hn2,hq⟩
   ·exact ⟨by have:=(hd.fo _ _ hbx).1;omega,ybf k (hd.fo _ _ hbx).2⟩
   ·rcases yh hq with ⟨rfl,rfl⟩|⟨hn3,hq⟩
    ·exact ⟨by omega,fun j hj=>by cases hj⟩
    ·exact ⟨by have:=(hd.fo _ _ hq).1;omega,fun i hi=>by have:=(hd.fo _ _ hq).2 i hi;omega⟩
theorem WE.mvb{c:Code}(i b k:Nat){o:HO}{T:TypeId}{l:List LV}(ho:aget σ.ob i=some (.hp o))(hbx:aget σ.ob b=some (.bx T l))(hk:l[k]? =some (lH i))(hm:K.may i=true)(h:WE K C Φ P Q n c ⟨σ.sl,(σ.n,.hp o)::(b,.bx T (l.set k (lH σ.n)))::(i,.u)::σ.ob,σ.n+1⟩):WE K C Φ P Q n c σ:=fun β s e hd=>h (upB β σ.n (β i)) (s.re (C.tg i) (C.tg σ.n)) e (hd.mvb ho hbx hk hm)
theorem O.ixA{ops:Array Oper}{ty:TypeId}{pos:String}{af:Array Edge}{g:Option (Nat×Bool)}{d:Nat}{T:TypeId}{k k':IntKind}{xs:List Int}{m:Nat}{j v:Int}(hN:NAg P U)(hu:P.underlying T=some (.array m U))(hg:Gu ops σ g)(hx:σ.ev x=some (AG (xs.map fun z=>lV (.int k z))))(hy:σ.ev y=some (VL (.int k' j)))(hl:Nat.beq xs.length m=true)(hv:idx xs j=some v)(hb:Nat.blt d n=true):Ox K C P n ops ⟨some d,.index T x y,ty,pos,af,g⟩ σ (F1 d (VL (.int k v))):=
 Ox.pure fun _ _ _ β s e hd q=>by
  obtain⟨w,h1,vs,h2,rfl⟩:=hd.ev hx;have hvs:∀{xs:List Int} {vs:List Value},All2 β s (xs.map fun z=>lV (.int k z)) vs→vs=xs.map fun z=>Value.int k z:=by
   intro xs
   induction xs with
   | nil=>intro vs h;exact h
   | cons x xs ih=>
    rintro vs ⟨v,us,h1,h2,rfl⟩;rw [ih h2,show v=_ from h1.1];rfl
  rw [hvs h2] at h1;exact L.in1 (fun w=>hN.sz w) (fun w=>hN.agg w) hu (hd.gd hg) h1 (hd.evl hy) (by rw [List.length_map];exact yNb hl) (yjj (f:=fun z=>Value.int k z) hv) hb (q _ ⟨rfl,rfl⟩)
end
@[reducible] def tT :Nat→List Bool
 | 0=> []
 | n+1=>oT::tT n
@[reducible] def tA :Nat→List Bool→List Bool
 | 0,l=>l
 | n+1,l=>oT::tA n l
@[reducible] def fA :Nat→List Bool→List Bool
 | 0,l=>l
 | n+1,l=>oF::fA n l
theorem yfF{f2:List Eff}{l:List (Nat×SV)}:∀{m:List Bool} {f1:List Eff},m.length≤f1.length→muM m (f1++f2) l=muM m f1 l
 | [],_,_=>rfl
 | _::_,[],h=>absurd h (Nat.not_succ_le_zero _)
 | b::m,f::fs,h=>by
  have:=yfF (f2:=f2) (l:=l) (m:=m) (f1:=fs) (Nat.le_of_succ_le_succ h);simp only [List.cons_append,muM,this]
theorem yfG{f2:List Eff}{l:List (Nat×Ob)}:∀{m:List Bool} {f1:List Eff},m.length≤f1.length→muO m (f1++f2) l=muO m f1 l
 | [],_,_=>rfl
 | _::_,[],h=>absurd h (Nat.not_succ_le_zero _)
 | b::m,f::fs,h=>by
  have:=yfG (f2:=f2) (l:=l) (m:=m) (f1:=fs) (Nat.le_of_succ_le_succ h);simp only [List.cons_append,muO,this]
def lenOk(k:Nat)(ms:List (Nat×List Bool)):Bool:=ms.all fun m=>Nat.ble m.2.length k
section
variable{K:Kx}{C:Cx}{P:Program}{n:Nat}{ops:Array Oper}{σ:Sx}
theorem Wst.pre{all f2:List Eff}:∀{l:List Oper} {ms:List (Nat×List Bool)} {fs:List Eff},lenOk all.length ms=true→Wst K C P n ops all σ ms fs l→Wst K C P n ops (all++f2) σ ms fs l
 | [],ms,fs,_,_=>by cases ms <;> cases fs <;> trivial
 | o::os,m::ms,f::fs,hm,h=>by
  simp only [lenOk,List.all_cons,Bool.and_eq_true] at hm;have hl:=Nat.le_of_ble_eq_true hm.1;refine⟨?_,Wst.pre hm.2 h.2⟩;have:muS σ (all++f2) m.2 m.1=muS σ all m.2 m.1:=by unfold muS;rw [yfF hl,yfG hl]
  rw [this];exact h.1
 | _::_,[],_,_,h=>by cases h
 | _::_,_::_,[],_,h=>by cases h
theorem Wst.app{all:List Eff}:∀{l l2:List Oper} {ms ms2:List (Nat×List Bool)} {fs fs2:List Eff},ms.length=l.length→fs.length=l.length→Wst K C P n ops all σ ms fs l→Wst K C P n ops all σ ms2 fs2 l2→Wst K C P n ops all σ (ms++ms2) (fs++fs2) (l++l2)
 | [],_,[],_,[],_,_,_,_,h2=>h2
 | o::os,_,m::ms,_,f::fs,_,h,h',h1,h2=>⟨h1.1,Wst.app (Nat.succ.inj h) (Nat.succ.inj h') h1.2 h2⟩
 | [],_,_::_,_,_,_,h,_,_,_=>by cases h
 | [],_,[],_,_::_,_,_,h,_,_=>by cases h
 | _::_,_,[],_,_,_,h,_,_,_=>by cases h
 | _::_,_,_::_,_,[],_,_,h,_,_=>by cases h
def preOk(k N:Nat)(ms:List (Nat×List Bool))(fs:List Eff):Bool:=Nat.ble k N&&(Nat.beq ms.length k&&(Nat.beq fs.length k&&lenOk fs.length ms))
theorem Wst.fin{l:List Oper}{k:Nat}{ms2:List (Nat×List Bool)}{fs1 fs2:List Eff}(hp:Wst K C P n ops fs1 σ ms1 fs1 (l.take k))(h2:Wst K C P n ops (fs1++fs2) σ ms2 fs2 (l.drop k))(hk:preOk k l.length ms1 fs1=true):Wst K C P n ops (fs1++fs2) σ (ms1++ms2) (fs1++fs2) l:=by
 simp only [preOk,Bool.and_eq_true] at hk;obtain⟨h0,h1,h3,h4⟩:=hk;have h0:=Nat.le_of_ble_eq_true h0;have h1:=yNb h1;have h3:=yNb h3;have:=Wst.app (l:=l.take k) (l2:=l.drop k) (by rw [List.length_take];omega) (by rw [List.length_take];omega) (hp.pre (f2:=fs2) h4) h2;rwa [List.take_append_drop] at this
theorem Wst.mid{l:List Oper}{k j:Nat}{ms2:List (Nat×List Bool)}{fs1 fs2:List Eff}(hp:Wst K C P n ops fs1 σ ms1 fs1 (l.take k))(h2:Wst K C P n ops (fs1++fs2) σ ms2 fs2 ((l.take j).drop k))(hk:(Nat.ble k j&&preOk k l.length ms1 fs1)=true):Wst K C P n ops (fs1++fs2) σ (ms1++ms2) (fs1++fs2) (l.take j):=by
 rw [Bool.and_eq_true] at hk;have hkj:=Nat.le_of_ble_eq_true hk.1;have hk:=hk.2;simp only [preOk,Bool.and_eq_true] at hk;obtain⟨h0,h1,h3,h4⟩:=hk;have h0:=Nat.le_of_ble_eq_true h0;have h1:=yNb h1;have h3:=yNb h3;have e:l.take k=(l.take j).take k:=by rw [List.take_take,Nat.min_eq_left hkj]
 rw [e] at hp;have hl:(l.take j).length≥k:=by rw [List.length_take];omega
 have:=Wst.app (l:=(l.take j).take k) (l2:=(l.take j).drop k) (by rw [List.length_take];omega) (by rw [List.length_take];omega) (hp.pre (f2:=fs2) h4) h2;rwa [List.take_append_drop] at this
end
section
variable{K:Kx}{C:Cx}{Φ:Fr}{P:Program}{Q:Exit→Act→World→Prop}{n:Nat}{σ:Sx}
theorem WE.drP{id:Nat}{l:List Oper}(k:Nat)(ms:List (Nat×List Bool))(fs:List Eff)(hs:Wst K C P n l.toArray fs σ ms fs (l.take k))(h:Wst K C P n l.toArray fs σ ms fs (l.take k)→WE K C Φ P Q n (.region id l.toArray true) σ):WE K C Φ P Q n (.region id l.toArray true) σ:=h hs
theorem WE.drX{id:Nat}{l:List Oper}{k:Nat}{fs1:List Eff}(hp:Wst K C P n l.toArray fs1 σ ms1 fs1 (l.take k))(j:Nat)(ms:List (Nat×List Bool))(fs:List Eff)(hs:Wst K C P n l.toArray (fs1++fs) σ ms fs ((l.take j).drop k))(hk:(Nat.ble k j&&preOk k l.length ms1 fs1)=true)(h:Wst K C P n l.toArray (fs1++fs) σ (ms1++ms) (fs1++fs) (l.take j)→WE K C Φ P Q n (.region id l.toArray true) σ):WE K C Φ P Q n (.region id l.toArray true) σ:=h (hp.mid hs hk)
theorem WE.drF{id:Nat}{l:List Oper}{k:Nat}{fs1:List Eff}(hp:Wst K C P n l.toArray fs1 σ ms1 fs1 (l.take k))(ms:List (Nat×List Bool))(fs:List Eff)(τ:Sx)(hs:Wst K C P n l.toArray (fs1++fs) σ ms fs (l.drop k))(hok:(preOk k l.length ms1 fs1&&(smp (fs1++fs) σ&&(nsOk (fs1++fs) σ.n (ms1++ms)&&y8w P K ((ms1++ms).map fun m=>ixs m.2 0) (fs1++fs) σ.n l.toArray)))=true)(hτ:τ.is K (muS σ (fs1++fs) (List.replicate l.length true) (muK (List.replicate l.length true) (fs1++fs) σ.n)) [])(h0:WX K C Φ Q n .normal τ):WE K C Φ P Q n (.region id l.toArray true) σ:=by
 obtain⟨h1,h2⟩:=Bool.and_eq_true_iff.1 hok;exact .drw (ms1++ms) (fs1++fs) τ (hp.fin hs h1) h2 hτ h0
theorem WE.drH{id:Nat}{l:List Oper}{k:Nat}{fs1:List Eff}(hp:Wst K C P n l.toArray fs1 σ ms1 fs1 (l.take k))(j:Nat)(ms:List (Nat×List Bool))(fs:List Eff)(τ:Sx)(hs:Wst K C P n l.toArray (fs1++fs) σ ms fs (l.drop k))(hok:(preOk k l.length ms1 fs1&&(okK ((ms1++ms).map fun m=>ixs m.2 0) (fs1++fs) l.length σ l.length (List.replicate l.length true)&&(Nat.beq (muK (List.replicate l.length true) (fs1++fs) σ.n) j&&(okKs ((ms1++ms).map fun m=>ixs m.2 0) (fs1++fs) l.length σ 0 (ms1++ms)&&(nsOk (fs1++fs) σ.n (ms1++ms)&&y8w P K ((ms1++ms).map fun m=>ixs m.2 0) (fs1++fs) σ.n l.toArray)))))=true)(hτ:τ.is K (muS σ (fs1++fs) (List.replicate l.length true) j) [])(h0:WX K C Φ Q n .normal τ):WE K C Φ P Q n (.region id l.toArray true) σ:=by
 obtain⟨h1,h2⟩:=Bool.and_eq_true_iff.1 hok;exact .drg j (ms1++ms) (fs1++fs) τ (hp.fin hs h1) h2 hτ h0
end
section
variable{K:Kx}{C:Cx}{P:Program}{n:Nat}{ops:Array Oper}{σ:Sx}{g:Option (Nat×Bool)}{d:Nat}{ty:TypeId}{pos:String}{af:Array Edge}
theorem WX.ou{Φ:Fr}{Q:Exit→Act→World→Prop}{x:Exit}(i:Nat)(hi:Nat.blt i σ.n=true)(h:WX K C Φ Q n x ⟨σ.sl,(i,.u)::σ.ob,σ.n⟩):WX K C Φ Q n x σ:=fun β s e hd=>h β s e ⟨hd.ok,hd.mv,hd.b0,hd.m,hd.sl,fun j q hq=>by
 rcases yh hq with ⟨rfl,rfl⟩|⟨_,hq⟩
 ·trivial
 ·exact hd.ob j q hq,hd.fs,fun j q hq=>by
 rcases yh hq with ⟨rfl,rfl⟩|⟨_,hq⟩
 ·exact ⟨by simpa using hi,fun k hk=>by cases hk⟩
 ·exact hd.fo j q hq⟩
end
section
variable{α β γ:Type}{P:Program}
def lF1(P:Program)(a:α→List Value)(r:β→Value)(m:Option (α→Option β)):LV:=⟨fun _ s v=>FO1 P s v a r m,[],none,none,fun _ hl h=>h.mono hl,nofun,nofun,fun h=>h.one⟩
def lF2(P:Program)(a:α→β→List Value)(r:γ→Value)(m:Option (α→β→Option γ)):LV:=⟨fun _ s v=>FO2 P s v a r m,[],none,none,fun _ hl h=>h.mono hl,nofun,nofun,fun h=>h.one⟩
def lG1(P:Program)(a:α→List Value)(r:β→Value)(m:α→Option β):LV:=⟨fun _ s v=>FV1 P s v a r m,[],none,none,fun _ hl h=>h.mono hl,nofun,nofun,fun h=>by obtain⟨_,_,_,e,_⟩:=h;rw [e];rfl⟩
def lG2(P:Program)(a:α→β→List Value)(r:γ→Value)(m:α→β→Option γ):LV:=⟨fun _ s v=>FV2 P s v a r m,[],none,none,fun _ hl h=>by obtain⟨f,fst,cap,h1,h2,h3⟩:=h;exact⟨f,fst,cap,h1,h2,fun x y r hm s'' hl'=>h3 x y r hm s'' (hl.trans hl')⟩,nofun,nofun,fun h=>by obtain⟨_,_,_,e,_⟩:=h;rw [e];rfl⟩
variable{a1:α→List Value}{r1:β→Value}{a2:α→β→List Value}{r2:γ→Value}
theorem Lv.f1{m:Option (α→Option β)}:Lv (rF1 P a1 r1) m [lF1 P a1 r1 m]:=fun _ _ _ ⟨v,e,h⟩=>⟨v,[],h,rfl,e⟩
theorem Lv.f2{m:Option (α→β→Option γ)}:Lv (rF2 P a2 r2) m [lF2 P a2 r2 m]:=fun _ _ _ ⟨v,e,h⟩=>⟨v,[],h,rfl,e⟩
theorem Rv.z1 :Rv (rF1 P a1 r1) [lV .nilFunc] none:=fun _ _ _ ⟨v,_,h,h2,e⟩=>⟨v,by rw [e,show _= [] from h2],h.1⟩
theorem Rv.z2 :Rv (rF2 P a2 r2) [lV .nilFunc] none:=fun _ _ _ ⟨v,_,h,h2,e⟩=>⟨v,by rw [e,show _= [] from h2],h.1⟩
theorem Fw.plain{f:FuncId}{r:SV}{vs:List Value}{w:Value}(h:Fw P f ⟨0,[]⟩ av [] r [])(s:Sig)(ha:∀β,All3 β s av vs)(hr:∀β s v,r.p β s v→v=w):Calls P f vs.toArray s.w (RetS No s fun v _=>v=w):=
 Calls.mono (h.is [] (fun _=> .nilFunc) s vs rfl (Nat.le_refl _) (by simp) (by simp) (ha _) (fun i o h=>by simp at h)) fun en w' ⟨v,s',e1,e2,m,β',_,g,_⟩=>⟨v,s',e1,e2,m.weak fun t ⟨i,hi,_⟩=>(by cases hi),hr _ _ _ g⟩
theorem Rv.c1{f:FuncId}{m:α→Option β}{av:α→List TV}{rv:β→TV}(hcf:Cf P f)(hF:∀x r,m x=some r→Fw P f ⟨0,[]⟩ (av x) [] (.v (rv r)) [])(ha:∀x β s,All3 β s (av x) (a1 x))(hr:∀r β s v,(rv r).p β s v→v=r1 r):Rv (rF1 P a1 r1) [lV (.func (.func f) #[] #[])] (some m):=fun _ s _ ⟨v,_,h,h2,e⟩=>⟨v,by rw [e,show _= [] from h2],f,#[],#[],h.1,hcf,fun x r hm s' _=>by
 have:=(hF x r hm).plain s' (ha x · s') (hr r);simpa using this⟩
theorem Rv.c2{f:FuncId}{m:α→β→Option γ}{av:α→β→List TV}{rv:γ→TV}(hcf:Cf P f)(hF:∀x y r,m x y=some r→Fw P f ⟨0,[]⟩ (av x y) [] (.v (rv r)) [])(ha:∀x y β s,All3 β s (av x y) (a2 x y))(hr:∀r β s v,(rv r).p β s v→v=r2 r):Rv (rF2 P a2 r2) [lV (.func (.func f) #[] #[])] (some m):=fun _ s _ ⟨v,_,h,h2,e⟩=>⟨v,by rw [e,show _= [] from h2],f,#[],#[],h.1,hcf,fun x y r hm s' _=>by
 have:=(hF x y r hm).plain s' (ha x y · s') (hr r);simpa using this⟩
theorem Cnv.fo1{o:Option (α→Option β)}{m:α→Option β}(h:o=some m):Cnv (lF1 P a1 r1 o) (lG1 P a1 r1 m):=fun _ _ _ g=>by subst h;exact g
theorem Cnv.fo2{o:Option (α→β→Option γ)}{m:α→β→Option γ}(h:o=some m):Cnv (lF2 P a2 r2 o) (lG2 P a2 r2 m):=fun _ _ _ g=>by subst h;exact g
variable{K:Kx}{C:Cx}{n:Nat}{ops:Array Oper}{σ:Sx}{g:Option (Nat×Bool)}{d:Nat}{ty:TypeId}{pos:String}{af:Array Edge}
theorem O.fne1{T:TypeId}{m:Option (α→Option β)}{p q:Array TypeId}{c:Bool}(hu:P.underlying T=some (.func p q c))(hg:Gu ops σ g)(hx:σ.ev x=some (sL (lF1 P a1 r1 m)))(hy:σ.ev y=some (VL .nilFunc))(hb:Nat.blt d n=true):Ox K C P n ops ⟨some d,.binOp .neq T x y U,ty,pos,af,g⟩ σ (F1 d (VL (.bool m.isSome))):=
 Ox.pure fun _ _ _ β s e hd k=>by
  obtain⟨v,h1,h2⟩:=hd.evv hx;exact L.fne1 hu h2 (hd.gd hg) h1 (hd.evl hy) hb (k _ ⟨rfl,rfl⟩)
theorem O.fne2{T:TypeId}{m:Option (α→β→Option γ)}{p q:Array TypeId}{c:Bool}(hu:P.underlying T=some (.func p q c))(hg:Gu ops σ g)(hx:σ.ev x=some (sL (lF2 P a2 r2 m)))(hy:σ.ev y=some (VL .nilFunc))(hb:Nat.blt d n=true):Ox K C P n ops ⟨some d,.binOp .neq T x y U,ty,pos,af,g⟩ σ (F1 d (VL (.bool m.isSome))):=
 Ox.pure fun _ _ _ β s e hd k=>by
  obtain⟨v,h1,h2⟩:=hd.evv hx;exact L.fne2 hu h2 (hd.gd hg) h1 (hd.evl hy) hb (k _ ⟨rfl,rfl⟩)
theorem Sx.as{l l':LV}(hx:σ.ev x=some (sL l))(hc:Cnv l l'){β:Nat→Value}{s:Sig}{e:List (Nat×Value)}(hd:Den K C σ β s e):∃v,Env.ev e x=some v∧l'.p β s v:=by
 obtain⟨v,h1,h2⟩:=hd.evv hx;exact⟨v,h1,hc _ _ _ h2⟩
theorem All3.vals{β:Nat→Value}{s:Sig}:∀{l:List Value} {vs:List Value},All3 β s (l.map fun v=>⟨false,[lV v]⟩) vs→vs=l
 | [],_,h=>h
 | a::l,_,⟨v,us,h1,h2,e⟩=>by rw [e,All3.vals h2,h1.1]
theorem O.fh1{xs:List Operand}{ca:Call}{o:Option (α→Option β)}{m:α→Option β}{y:α}{r:β}(hx:σ.ev x=some (sL (lF1 P a1 r1 o)))(hc:ca.callee= .value x)(hca:ca.args=xs.toArray)(hg:Gu ops σ g)(hxs:σ.evs xs=some ((a1 y).map fun v=>⟨false,[lV v]⟩))(hm0:o=some m)(hm:m y=some r)(ho:(r1 r).oneCell'=true)(hb:Nat.blt d n=true):Ox K C P n ops ⟨some d,.call ca,ty,pos,af,g⟩ σ (F1 d (VL (r1 r))):=fun Φ Q os β s e hd k=>by
 obtain⟨v,h1,h2⟩:=Sx.as hx (Cnv.fo1 hm0) hd;obtain⟨vs,h3,h4⟩:=hd.evs hxs;rw [h4.vals] at h3;exact L.fv1 h2 hc hca (hd.gd hg) h1 h3 hm hb fun s' m'=>k β s' _ (Aft.one m' ⟨rfl,ho⟩)
theorem O.fh2{δ:Type}{a2:α→δ→List Value}{xs:List Operand}{ca:Call}{o:Option (α→δ→Option γ)}{m:α→δ→Option γ}{y:α}{z:δ}{r:γ}(hx:σ.ev x=some (sL (lF2 P a2 r2 o)))(hc:ca.callee= .value x)(hca:ca.args=xs.toArray)(hg:Gu ops σ g)(hxs:σ.evs xs=some ((a2 y z).map fun v=>⟨false,[lV v]⟩))(hm0:o=some m)(hm:m y z=some r)(ho:(r2 r).oneCell'=true)(hb:Nat.blt d n=true):Ox K C P n ops ⟨some d,.call ca,ty,pos,af,g⟩ σ (F1 d (VL (r2 r))):=fun Φ Q os β s e hd k=>by
 obtain⟨v,h1,h2⟩:=Sx.as hx (Cnv.fo2 hm0) hd;obtain⟨vs,h3,h4⟩:=hd.evs hxs;rw [h4.vals] at h3;exact L.fv2 h2 hc hca (hd.gd hg) h1 h3 hm hb fun s' m'=>k β s' _ (Aft.one m' ⟨rfl,ho⟩)
end
def BO(s:Sig)(t:Nat)(a:Option Nat):Prop:=∃(b:Nat) (es:List MapEntry),a=some b∧s.w.heap[b]? =some (.map es.toArray es.length)∧s.tag b=t∧∀(i:Nat) (e:MapEntry),es[i]? =some e→e.born=i
def kent{β:Type}(m:List (Int×β))(k:Int)(z:β):List (Int×β):=if kidx (m.map (·.1)) k<m.length then m else m++[(k,z)]
theorem yif{m:List (Int×β)}{k:Int}{z:β}(h:¬kidx (m.map (·.1)) k<m.length):kidx ((m++[(k,z)]).map (·.1)) k=m.length:=by
 have hno:∀p∈m.map (·.1),(k==p)=false:=fun p hp=>by
  have hle:=List.findIdx_lt_length_of_exists (p:=fun p=>k==p) (xs:=m.map (·.1));cases hb:k==p with
  | false=>rfl
  | true=>
   have:=hle ⟨p,hp,hb⟩;rw [List.length_map] at this;exact(h this).elim
 have e:kidx (m.map (·.1)) k=m.length:=by
  have:=yaB (m.map (·.1)) k;rw [List.length_map] at this;omega
 rw [List.map_append];unfold kidx at e ⊢;rw [List.findIdx_append];rw [List.length_map,if_neg (by omega)];simp
theorem yeS{m:List (Int×β)}{k:Int}{z:β}:kidx ((kent m k z).map (·.1)) k=kidx (m.map (·.1)) k∧kidx (m.map (·.1)) k<(kent m k z).length:=by
 unfold kent;split
 ·rename_i h;exact⟨rfl,h⟩
 ·rename_i h;have e:kidx (m.map (·.1)) k=m.length:=by
   have:=yaB (m.map (·.1)) k;rw [List.length_map] at this;omega
  exact⟨(yif h).trans e.symm,by rw [e];simp⟩
theorem yig(m:List (Int×β))(k:Int)(z v:β):kput (kent m k z) k v=kput m k v:=by
 obtain⟨h1,h2⟩:=yeS (m:=m) (k:=k) (z:=z);rw [kput,h1,if_pos h2,kput];unfold kent at h2 ⊢;split
 ·rename_i h;rfl
 ·rename_i h;have e:kidx (m.map (·.1)) k=m.length:=by
   have:=yaB (m.map (·.1)) k;rw [List.length_map] at this;omega
  rw [e,List.set_append_right _ _ (Nat.le_refl _),Nat.sub_self];rfl
theorem yh3{γ:Type}{m:List (Int×β)}{m':List (Int×γ)}(h:m.map (·.1)=m'.map (·.1))(k:Int)(z:β)(z':γ):(kent m k z).map (·.1)=(kent m' k z').map (·.1):=by
 have hl:m.length=m'.length:=by have:=congrArg List.length h;simpa using this
 unfold kent;rw [h,hl];split
 ·exact h
 ·rw [List.map_append,List.map_append,h];rfl
section
variable{Φ:Fr}{P:Program}{Q:Exit→Act→World→Prop}{n:Nat}{e:List (Nat×Value)}{s s':Sig}{ops:Array Oper}{os:List Oper}{d:Nat}{ty:TypeId}{pos:String}{af:Array Edge}{g:Option (Nat×Bool)}
variable{T kt et:TypeId}{a:Option Nat}{cap t:Nat}{m:List (Int×Value)}{k:Int}{zv:Value}
theorem BO.to{t':Nat}(h:BO s t a)(hb:∀b,b<s.w.heap.size→s.tag b=t→s'.w.heap[b]? =s.w.heap[b]? ∧s'.tag b=t'):BO s' t' a:=by
 obtain⟨b,es,e,h1,h2,h3⟩:=h;obtain⟨g1,g2⟩:=hb b (Array.getElem?_eq_some_iff.1 h1).1 h2;exact⟨b,es,e,g1.trans h1,g2,h3⟩
theorem L.mkC(t:Nat)(hd:Nat.blt d n=true)(hw:Wt ops e g)
  (h:∀a cap s',Mv No s s'→MapO kvI rVal s' t T a cap []→BO s' t a→L Φ P Q n ops os ((d,Value.map a)::e) s'.w):L Φ P Q n ops (⟨some d,.makeMap T none,ty,pos,af,g⟩::os) e s.w:=by
 refine L.val hw hd (v:= .map (some s.w.heap.size)) (w':=s.w.alloc (.map #[] 0)) (fun ac ha=>by simp [execOp,run_makeMap]) ?_;refine h (some s.w.heap.size) 0 ⟨s.w.alloc (.map #[] 0),tagUp s.tag s.w.heap.size t⟩ ?_ ⟨rfl,s.w.heap.size,[],0,rfl,heap_alloc_new s.w _,y7j _ _ _,trivial,fun i e p he=>by simp at he⟩ ⟨s.w.heap.size,[],rfl,heap_alloc_new s.w _,y7j _ _ _,fun i e he=>by simp at he⟩;exact⟨rfl,rfl,rfl,by simp,fun b hb _=>⟨heap_alloc_old s.w _ hb,y7H hb⟩⟩
theorem L.enC(hT:Md P T kt et kvI rVal zv zv)(hM:MapO kvI rVal s t T' a cap m)(hB:BO s t a)(ht0:0<t)(hw:Wt ops e g)(hx:Env.ev e x=some (.map a))(hy:Env.ev e y=some (.int .i64 k))(hd:Nat.blt d n=true)
  (h:∀v s',v.oneCell'=true→Mv (One t) s s'→MapO kvI rVal s' t T' a cap (kent m k zv)→BO s' t a→L Φ P Q n ops os ((d,.tuple #[v,.int .i64 (kidx (m.map (·.1)) k:Int)])::e) s'.w):L Φ P Q n ops (⟨some d,.mapEntry T x y,ty,pos,af,g⟩::os) e s.w:=by
 obtain⟨b,es,e1,h1,h2,hb⟩:=hB;obtain⟨b',es',clock,e2,h3,_,h4,h5⟩:=hM.is;have eb:b'=b:=by rw [e1] at e2;exact(Option.some.inj e2).symm
 subst eb;have eo:=h3.symm.trans h1;simp only [yIj,Obj.map.injEq] at eo;obtain⟨ee,ec⟩:=eo;have ee:es'=es:=by simpa using congrArg Array.toList ee
 subst ee ec e1;have hf:=hT.key.find es' _ h4 k s.w;have hy:Env.ev e y=some (kvI k):=hy;have hlen:es'.length=m.length:=by rw [h4.len,List.length_map]
 by_cases hlt:kidx (m.map (·.1)) k<m.length
 ·have hel:kidx (m.map (·.1)) k<es'.length:=by omega
  have hkey:=h4.at _ hel (by simpa using hlt);have hbeq:(k==(m.map (·.1))[kidx (m.map (·.1)) k]'(by simpa using hlt))=true:=List.findIdx_getElem (p:=fun p=>k==p) (w:=by simpa [kidx] using hlt);have hst:=hT.key.stays k _ s.w hbeq;rw [←hkey] at hst;have hk2:es'[kidx (m.map (·.1)) k].key=kvI k:=by rw [hkey,←beq_iff_eq.1 hbeq]
  have hborn:=hb _ _ (yGe hel);have hone:es'[kidx (m.map (·.1)) k].val.oneCell'=true:=by
   have:=h5 _ _ _ (yGe hel) (yGe hlt);have hv:=(List.cons.inj this.1).1;rw [hv];exact this.2
  rw [yGe hel,Option.map_some] at hf;have hsame:es'.set (kidx (m.map (·.1)) k) { es'[kidx (m.map (·.1)) k] with key:=kvI k }=es':=by
   apply List.ext_getElem?;intro j;by_cases hj:kidx (m.map (·.1)) k=j
   ·subst hj;rw [List.getElem?_set_self hel,yGe hel,←hk2]
   ·rw [List.getElem?_set_ne hj]
  have hset:=y7I (s:=s) (t:=t) (es':=es') (clock':=es'.length) h1 h2;refine L.val hw hd (v:= .tuple #[es'[kidx (m.map (·.1)) k].val,.int .i64 (kidx (m.map (·.1)) k:Int)]) (w':={ s.w with heap:=s.w.heap.setIfInBounds b' (.map es'.toArray es'.length) }) (fun ac ha=>?_) (h _ ⟨_,_⟩ hone hset.1 ?_ ⟨b',es',rfl,hset.2,h2,hb⟩)
  ·simp [execOp,ha.ev hx,ha.ev hy,Instr.mapEntry,run_underlying hT.und,gobj h1,hT.key.check,hf,hel,hst,sobj _ h1,goInt,hborn];rw [lmod _ (yGe hel),hsame]
  ·rw [kent,if_pos hlt];exact⟨hM.cap0,b',es',es'.length,rfl,hset.2,h2,h4,fun i f p hf' hp=>h5 i f p hf' hp⟩
 ·have hge:es'.length≤kidx (m.map (·.1)) k:=by omega
  have hix:kidx (m.map (·.1)) k=es'.length:=by
   have:=yaB (m.map (·.1)) k;rw [List.length_map] at this;omega
  rw [List.getElem?_eq_none hge,Option.map_none] at hf;have hset:=y7I (s:=s) (t:=t) (es':=es'++[(⟨kvI k,zv,es'.length⟩:MapEntry)]) (clock':=es'.length+1) h1 h2;have hz:=hT.zrd s;refine L.val hw hd (v:= .tuple #[zv,.int .i64 (kidx (m.map (·.1)) k:Int)]) (w':={ s.w with heap:=s.w.heap.setIfInBounds b' (.map (es'++[(⟨kvI k,zv,es'.length⟩:MapEntry)]).toArray (es'.length+1)) }) (fun ac ha=>?_) (h _ ⟨_,_⟩ hz.2 hset.1 ?_ ⟨b',es'++[(⟨kvI k,zv,es'.length⟩:MapEntry)],rfl,by rw [hset.2];simp,h2,fun i f hf'=>?_⟩)
  ·simp [execOp,ha.ev hx,ha.ev hy,Instr.mapEntry,run_underlying hT.und,gobj h1,hT.key.check,hf,hT.zero,sobj _ h1,goInt,hix]
  ·rw [kent,if_neg hlt];refine⟨hM.cap0,b',_,_,rfl,hset.2,h2,?_,fun i f p hf' hp=>?_⟩
   ·rw [List.map_append];exact h4.push rfl
   ·by_cases hi:i<es'.length
    ·rw [List.getElem?_append_left hi] at hf';rw [List.getElem?_append_left (by omega)] at hp;exact h5 i f p hf' hp
    ·rw [List.getElem?_append_right (by omega)] at hf';rw [List.getElem?_append_right (by omega)] at hp;by_cases h0:i-es'.length=0
     ·rw [h0] at hf';rw [show i-m.length=0 by omega] at hp;simp only [List.getElem?_cons_zero,yIj] at hf' hp;subst hf';subst hp;exact hz
     ·rw [List.getElem?_eq_none (by simp;omega)] at hf';cases hf'
  ·by_cases hi:i<es'.length
   ·rw [List.getElem?_append_left hi] at hf';exact hb i f hf'
   ·rw [List.getElem?_append_right (by omega)] at hf';by_cases h0:i-es'.length=0
    ·rw [h0] at hf';simp only [List.getElem?_cons_zero,yIj] at hf';subst hf';show es'.length=i;omega
    ·rw [List.getElem?_eq_none (by simp;omega)] at hf';cases hf'
theorem L.esC{z:Operand}{v:Value}(hM:MapO kvI rVal s t T' a cap m)(hB:BO s t a)(ht0:0<t)(hlt:kidx (m.map (·.1)) k<m.length)(hone:v.oneCell'=true)(hw:Wt ops e g)(hx:Env.ev e x=some (.map a))(hy:Env.ev e y=some (.int .i64 (kidx (m.map (·.1)) k:Int)))(hz:Env.ev e z=some v)
  (h:∀s',Mv (One t) s s'→MapO kvI rVal s' t T' a cap (kput m k v)→BO s' t a→L Φ P Q n ops os e s'.w):L Φ P Q n ops (⟨none,.entryStore T x y z,ty,pos,af,g⟩::os) e s.w:=by
 obtain⟨b,es,e1,h1,h2,hb⟩:=hB;obtain⟨b',es',clock,e2,h3,_,h4,h5⟩:=hM.is;have eb:b'=b:=by rw [e1] at e2;exact(Option.some.inj e2).symm
 subst eb;have eo:=h3.symm.trans h1;simp only [yIj,Obj.map.injEq] at eo;obtain⟨ee,ec⟩:=eo;have ee:es'=es:=by simpa using congrArg Array.toList ee
 subst ee ec e1;have hlen:es'.length=m.length:=by rw [h4.len,List.length_map]
 have hel:kidx (m.map (·.1)) k<es'.length:=by omega
 have hkey:=h4.at _ hel (by simpa using hlt);have hk:(m.map (·.1))[kidx (m.map (·.1)) k]'(by simpa using hlt)=k:=yaH (by simpa using hlt);rw [hk] at hkey;have hfind:es'.toArray.findIdx? (fun e=>(e.born:Int)==(kidx (m.map (·.1)) k:Int))=some (kidx (m.map (·.1)) k):=by
  rw [List.findIdx?_toArray,List.findIdx?_eq_some_iff_getElem];refine⟨hel,by rw [hb _ _ (yGe hel)];simp,fun j hj hc=>?_⟩;have:=hb j _ (yGe (by omega));rw [this] at hc;simp at hc;omega
 have hset:=y7I (s:=s) (t:=t) (es':=es'.set (kidx (m.map (·.1)) k) { es'[kidx (m.map (·.1)) k] with val:=v }) (clock':=es'.length) h1 h2;refine L.unit hw (w':={ s.w with heap:=s.w.heap.setIfInBounds b' (.map (es'.set (kidx (m.map (·.1)) k) { es'[kidx (m.map (·.1)) k] with val:=v }).toArray es'.length) }) (fun ac ha=>?_) (h ⟨_,_⟩ hset.1 ?_ ⟨b',es'.set (kidx (m.map (·.1)) k) { es'[kidx (m.map (·.1)) k] with val:=v },rfl,by rw [hset.2];simp,h2,fun i f hf'=>?_⟩)
 ·simp [execOp,ha.ev hx,ha.ev hy,ha.ev hz,Instr.entryStore,gobj h1,hfind,sobj _ h1,asInt,asIntOf];rw [lmod _ (yGe hel)]
 ·refine ⟨hM.cap0,b',_,_,rfl,hset.2,h2,?_,fun i f p hf' hp=>?_⟩
  ·rw [kput,if_pos hlt,List.map_set];exact h4.set hkey
  ·rw [kput,if_pos hlt] at hp;by_cases hi:kidx (m.map (·.1)) k=i
   ·subst hi;rw [List.getElem?_set_self hel,yIj] at hf';rw [List.getElem?_set_self hlt,yIj] at hp;subst hf';subst hp;exact⟨rfl,hone⟩
   ·rw [List.getElem?_set_ne hi] at hf' hp;exact h5 i f p hf' hp
 ·by_cases hi:kidx (m.map (·.1)) k=i
  ·subst hi;rw [List.getElem?_set_self hel,yIj] at hf';subst hf';have:=hb _ _ (yGe hel);exact this
  ·rw [List.getElem?_set_ne hi] at hf';exact hb i f hf'
end
section
variable{α:Type}{r:Rep α}{s s':Sig}{t u:Nat}{T':TypeId}{τ:Nat→Nat}{a:Option Nat}{c:Nat}
variable{m:List (Int×List α)}{hs:List (Int×Value)}{h:Value}{o:Option Int}{k:Int}{z:Value}
def usS(s':Sig)(t:Nat):Sig:=⟨s'.w,fun b=>if s'.tag b % 2=1 then t else s'.tag b/2⟩
theorem yjp{m:List (Int×β)}{k:Int}{z:β}(h:(m.map (·.1)).Nodup):((kent m k z).map (·.1)).Nodup:=by
 unfold kent;split
 ·exact h
 ·rename_i h2;have:=yfE (k:=k) (v:=z) h;rwa [kput,if_neg h2] at this
theorem yeT{m:List (Int×β)}{k k':Int}{z v:β}{j:Nat}(hk:k'≠k)(h:(kent m k z)[j]? =some (k',v)):m[j]? =some (k',v):=by
 unfold kent at h;split at h
 ·exact h
 ·by_cases hj:j<m.length
  ·rwa [List.getElem?_append_left hj] at h
  ·rw [List.getElem?_append_right (by omega)] at h;by_cases h0:j-m.length=0
   ·rw [h0] at h;simp only [List.getElem?_cons_zero,yIj,Prod.mk.injEq] at h;exact(hk h.1.symm).elim
   ·rw [List.getElem?_eq_none (by simp;omega)] at h;cases h
theorem MtbP.ent(hr:FlatR r)(H:MtbP r T' (some k) m s t h hs τ a c)(mv:Mv (One (2*0+1)) (sp s t τ) s')(hR:MapO kvI rVal s' (2*0+1) 0 a c (kent hs k z)):
  MtbP r T' (some k) (kent m k []) (usS s' t) t h (kent hs k z) (fun b=>s'.tag b/2) a c∧Mv (One t) s (usS s' t):=by
 have odd:∀k b,s'.tag b=2*k+1→(sp (usS s' t) t (fun b=>s'.tag b/2)).tag b=2*k+1:=fun k b e=>by
  have h1:(usS s' t).tag b=t:=if_pos (by omega);rw [sp_at h1];omega
 refine⟨⟨H.e,hR.fl y5p fun b _ e=>⟨rfl,odd 0 b e⟩,yh3 H.key k z [],yjp H.nd,fun j k' hd ys g1 g2 g3=>?_⟩,?_⟩
 ·have hk:k'≠k:=fun e=>g3 (by rw [e]);obtain⟨a,c,e,h5⟩:=H.inn j k' hd ys (yeT hk g1) (yeT hk g2) g3;refine⟨a,c,e,h5.fl hr fun b hb e=>?_⟩;obtain⟨q1,q2⟩:=mv.blk b hb (by rw [e];show ¬2*(j+1)+1=2*0+1;omega);exact⟨q1,odd _ b (q2.trans e)⟩
 ·refine ⟨mv.os,mv.tape,mv.output,mv.size,fun b hb hn=>?_⟩;have hn:¬s.tag b=t:=hn;have h1:(sp s t τ).tag b=2*s.tag b:=if_neg hn;obtain⟨q1,q2⟩:=mv.blk b hb (by rw [h1];show ¬2*s.tag b=2*0+1;omega);rw [h1] at q2;refine⟨q1,?_⟩;show(if s'.tag b % 2=1 then t else s'.tag b/2)=s.tag b;rw [if_neg (by omega),q2];omega
theorem BO.tk(H:MtbP r T' o m s t h hs τ a c)(hB:BO s t a)(i:Nat):BO (tkS s t u i τ) t a:=by
 obtain⟨b,es,e,h1,h2,h3⟩:=hB;obtain⟨b',es',clock,e2,_,g3,_⟩:=H.out.is;have eb:b'=b:=by rw [e] at e2;exact(Option.some.inj e2).symm
 subst eb;refine⟨b',es,e,h1,?_,h3⟩;show(if s.tag b'=t∧τ b'=i+1 then u else s.tag b')=t;rw [if_neg (fun g=>by have:=(y7K g3).2;omega),h2]
theorem BO.sp(H:MtbP r T' o m s t h hs τ a c)(hB:BO s t a):BO (Go.Proofs.YtecmobjeeonmaaaGreatDoor.sp s t τ) (2*0+1) a:=by
 obtain⟨b,es,e,h1,h2,h3⟩:=hB;obtain⟨b',es',clock,e2,_,g3,_⟩:=H.out.is;have eb:b'=b:=by rw [e] at e2;exact(Option.some.inj e2).symm
 subst eb;exact⟨b',es,e,h1,g3,h3⟩
def MTC{α:Type}{r:Rep α}(hr:FlatR r)(T':TypeId)(o:Option Int)(m:List (Int×List α)):Ob:= .hp ⟨fun s t h=>∃hs τ a c,MtbP r T' o m s t h hs τ a c∧BO s t a,fzMt r m o,
 fun mv ht _ ⟨hs,τ,a,c,h,hB⟩=>
  have hb:∀b,b<_→_→_:=fun b hb e=>by
   obtain⟨g1,g2⟩:=mv.blk b hb (by rw [e];exact ht);exact⟨g1,g2.trans e⟩
  ⟨hs,τ,a,c,h.to hr hb,hB.to hb⟩,
 fun _ hw ht ⟨hs,τ,a,c,h,hB⟩=>
  have hb:∀b,b<_→_→_:=fun b _ e=>⟨by rw [hw],ht b e⟩
  ⟨hs,τ,a,c,h.to hr hb,hB.to hb⟩,fun⟨_,_,_,_,h,_⟩ _=>h.fz⟩
end
section
variable{K:Kx}{C:Cx}{P:Program}{n:Nat}{ops:Array Oper}{σ:Sx}{d q i:Nat}{ty:TypeId}{pos:String}{af:Array Edge}{g:Option (Nat×Bool)}{β:Nat→Value}{s s':Sig}{e:List (Nat×Value)}
variable{α:Type}{r:Rep α}{hr:FlatR r}{T2:TypeId}{o:Option Int}{m:List (Int×List α)}{ys:List α}{k:Int}{T kt et:TypeId}
theorem fMc :∀z,MTC hr T2 none m= .hp z→z.fz.refs= []:=fun z e=>by cases e;rfl
theorem O.mkC(hr:FlatR r)(T2:TypeId)(i:Nat)(hi:Nat.ble σ.n i=true)(hg:Gu ops σ g)(hb:Nat.blt d n=true):Ox K C P n ops ⟨some d,.makeMap T none,ty,pos,af,g⟩ σ (FN d i (lH i) (MTC hr T2 none [])):=fun Φ Q os β s e hd k=>
 L.mkC (T:=T) (C.tg i) hb (hd.gd hg) fun a c s' m h5 h6=>k _ s' _ (Aft.new hi m.no (lH_at rfl) ⟨[],_,a,c,MtbP.made (h5.fl y5p fun b _ e=>⟨rfl,e⟩),h6⟩)
theorem O.luC(i:Nat)(hT:Md P T kt et kvI rVal (.slice none 0 0) (.slice none 0 0))(hi:Nat.ble σ.n i=true)(hg:Gu ops σ g)(hx:σ.ev x=some (sL (lH q)))(ho:aget σ.ob q=some (MTC hr T2 none m))(hy:Ky K C σ y (kvI k))(hb:Nat.blt d n=true):
  Ox K C P n ops ⟨some d,.lookup T x y false,ty,pos,af,g⟩ σ (FT d i q (lH i) (ROW r T2 ((kget m k).getD [])) (MTC hr T2 (some k) m)):=fun Φ Q os β s e hd kc=>by
 obtain⟨v,h1,h2,_⟩:=hd.evv hx;obtain⟨hs,τ,a,c,H,hB⟩:=hd.ob q _ ho;have hq:q<σ.n:=(hd.fo _ _ ho).1;have hqi:q≠i:=by have:=Nat.le_of_ble_eq_true hi;omega
 have hu:C.tg i≠C.tg q:=fun e=>hqi (hd.ok.inj e).symm;obtain⟨g1,⟨a2,c2,e2,g2⟩,g3⟩:=H.take (u:=C.tg i) hr k hu;exact L.mlV (s:=sp s (C.tg q) τ) hT H.out.any (hd.gd hg) (by rw [h1,h2,H.e]) (hy β s e hd) hb fun hone=>kc (upB β i ((kget hs k).getD (.slice none 0 0))) (tkS s (C.tg q) (C.tg i) (kidx (m.map (·.1)) k) τ) _ (Aft.tk hi hqi g3 (lH_at hone) ⟨a2,c2,e2,g2⟩ ⟨hs,τ,a,c,g1,hB.tk H _⟩)
theorem O.enC(hT:Md P T kt et kvI rVal (.slice none 0 0) (.slice none 0 0))(hg:Gu ops σ g)(hx:σ.ev x=some (sL (lH q)))(ho:aget σ.ob q=some (MTC hr T2 (some k) m))(hy:σ.ev y=some (VL (.int .i64 k)))(hb:Nat.blt d n=true):
  Ox K C P n ops ⟨some d,.mapEntry T x y,ty,pos,af,g⟩ σ ⟨some (d,.tp [⟨false,[lU]⟩,⟨false,[lV (.int .i64 (kidx (m.map (·.1)) k:Int))]⟩]),[(q,MTC hr T2 (some k) (kent m k []))],none⟩:=fun Φ Q os β s e hd kc=>by
 obtain⟨v,h1,h2,_⟩:=hd.evv hx;obtain⟨hs,τ,a,c,H,hB⟩:=hd.ob q _ ho;refine L.enC (s:=sp s (C.tg q) τ) hT H.out (hB.sp H) (by omega) (hd.gd hg) (by rw [h1,h2,H.e]) (hd.evl hy) hb fun v s' hone mv h7 h8=>?_;obtain⟨g1,g2⟩:=H.ent hr mv h7;refine kc β (usS s' (C.tg q)) _ ⟨fun _ _=>rfl,fun _ _=>rfl,g2.weak fun t ht=>⟨q,_,.head _,ht⟩,fun d' hn=>Env.get_put fun e=>hn _ (by rw [e]),fun d' x' ee=>?_,fun j o' hm=>?_⟩
 ·cases ee;refine⟨_,by simp [Env.get];rfl,[_,_],⟨_,_,hone,⟨_,_,⟨rfl,rfl⟩,rfl,rfl⟩,rfl⟩,?_⟩;rw [H.key]
 ·rcases List.mem_cons.1 hm with e|hm
  ·cases e;exact⟨_,_,_,_,g1,h8.to fun b _ e=>⟨rfl,if_pos (by omega)⟩⟩
  ·cases hm
theorem O.esC{z:Operand}(hg:Gu ops σ g)(hx:σ.ev x=some (sL (lH q)))(ho:aget σ.ob q=some (MTC hr T2 (some k) (kent m k [])))(hy:σ.ev y=some (VL (.int .i64 (kidx (m.map (·.1)) k:Int))))(hz:σ.ev z=some (sL (lH i)))(hoi:aget σ.ob i=some (ROW r T2 ys))(hqi:Nat.beq i q=false):
  Ox K C P n ops ⟨none,.entryStore T x y z,ty,pos,af,g⟩ σ ⟨none,[(q,MTC hr T2 none (kput m k ys)),(i,.u)],none⟩:=fun Φ Q os β s e hd kc=>by
 obtain⟨v,h1,h2,_⟩:=hd.evv hx;obtain⟨a2,c2,h4,h5,h6⟩:=hd.row hz hoi;obtain⟨hs,τ,a,c,H,hB⟩:=hd.ob q _ ho;have hne:C.tg i≠C.tg q:=fun e=>by
  have:=hd.ok.inj e;rw [this,Nat.beq_refl] at hqi;cases hqi
 obtain⟨k1,k2⟩:=yeS (m:=m) (k:=k) (z:=[]);have hl:hs.length=(kent m k []).length:=by have:=congrArg List.length H.key;simpa using this
 refine L.esC (s:=sp s (C.tg q) τ) (k:=k) (v:= .slice a2 ys.length c2) H.out (hB.sp H) (by omega) (by rw [H.key,k1,hl];exact k2) rfl (hd.gd hg) (by rw [h1,h2,H.e]) (by rw [H.key,k1];exact hd.evl hy) h5 fun s' mv h7 h8=>?_;obtain⟨g1,g2⟩:=H.put hr h6 hne (fun k' e=>(Option.some.inj e).symm) mv h7;rw [yig] at g1;refine kc β (ptS s' (C.tg q) (C.tg i)) e ⟨fun _ _=>rfl,fun _ _=>rfl,g2.weak fun t ht=>ht.elim (fun ht=>⟨q,_,.head _,ht⟩) (fun ht=>⟨i,.u,.tail _ (.head _),ht⟩),fun _ _=>rfl,nofun,fun j o' hm=>?_⟩;rcases List.mem_cons.1 hm with e|hm
 ·cases e;exact⟨_,_,_,_,g1,h8.to fun b _ e=>⟨rfl,if_pos (by omega)⟩⟩
 ·rcases List.mem_cons.1 hm with e|hm
  ·cases e;trivial
  ·cases hm
end
def OBX{α:Type}(r:Rep α)(T:TypeId)(x:Option α):Ob:= .hp ⟨fun s t h=>match x with
  | none=>h= .pointer none
  | some y=>∃(b:Nat) (cs:List Value),h= .pointer (some ⟨b,0,none⟩)∧Bx s t b cs.toArray T∧r.rd s cs y,lK r T x,
 fun m ht h0 h=>by
  cases x with
  | none=>exact h
  | some y=>obtain⟨b,cs,e,h1,h2⟩:=h;exact⟨b,cs,e,h1.mv m ht,r.mono (m.le h0) h2⟩,
 fun hl hw ht h=>by
  cases x with
  | none=>exact h
  | some y=>obtain⟨b,cs,e,h1,h2⟩:=h;exact⟨b,cs,e,⟨by rw [hw];exact h1.heap,ht _ h1.htag⟩,r.mono hl h2⟩,
 fun h β=>by
  cases x with
  | none=>exact h
  | some y=>obtain⟨b,cs,e,h1,h2⟩:=h;exact⟨b,cs,e,h1,h2⟩⟩
theorem Cnv.ph{i:Nat}:Cnv (lP i 0) (lH i):=fun _ _ _ ⟨_,e,h⟩=>⟨h.trans e.symm,by rw [h];rfl⟩
section
variable{K:Kx}{C:Cx}{σ:Sx}{β:Nat→Value}{s:Sig}{e:List (Nat×Value)}{α:Type}{r:Rep α}{T:TypeId}{l:List LV}{x:Option α}{y:α}{i d:Nat}
theorem Den.set(hd:Den K C σ β s e)(i:Nat)(o:Ob)(h1:i<σ.n)(h2:o.p β s (C.tg i) (β i))(h3:∀j,j∈o.refs→j<σ.n):Den K C ⟨σ.sl,(i,o)::σ.ob,σ.n⟩ β s e:=
 ⟨hd.ok,hd.mv,hd.b0,hd.m,hd.sl,fun j q hq=>by
  rcases yh hq with ⟨rfl,rfl⟩|⟨_,hq⟩
  ·exact h2
  ·exact hd.ob j q hq,hd.fs,fun j q hq=>by
  rcases yh hq with ⟨rfl,rfl⟩|⟨_,hq⟩
  ·exact ⟨h1,h3⟩
  ·exact hd.fo j q hq⟩
theorem Den.obx(ho:aget σ.ob i=some (.bx T l))(hv:Rv r l y)(hd:Den K C σ β s e):Den K C ⟨σ.sl,(i,OBX r T (some y))::σ.ob,σ.n⟩ β s e:=by
 obtain⟨b,vs,e,h1,h2⟩:=hd.ob _ _ ho;exact hd.set i _ (hd.fo _ _ ho).1 ⟨b,vs,e,h1,hv β s _ h2⟩ fun j hj=>by cases hj
theorem Den.opn(ho:aget σ.ob i=some (OBX r T x))(hx:x=some y)(hl:Lv r y l)(hr:refsL l= [])(hd:Den K C σ β s e):Den K C ⟨σ.sl,(i,.bx T l)::σ.ob,σ.n⟩ β s e:=by
 subst hx;obtain⟨b,vs,e,h1,h2⟩:=hd.ob _ _ ho;exact hd.set i _ (hd.fo _ _ ho).1 ⟨b,vs,e,h1,hl β s _ h2⟩ fun j (hj:j∈refsL l)=>by rw [hr] at hj;cases hj
theorem Den.hp(h:aget σ.sl d=some (sL (lH i)))(ho:aget σ.ob i=some (.bx T l))(hd:Den K C σ β s e):Den K C ⟨(d,sL (lP i 0))::σ.sl,σ.ob,σ.n⟩ β s e:=by
 obtain⟨b,vs,e1,_,_⟩:=hd.ob _ _ ho;obtain⟨v,g1,g2,_⟩:=hd.sl _ _ h;have hi:=(hd.fo _ _ ho).1;exact⟨hd.ok,hd.mv,hd.b0,hd.m,fun d' x hx=>by
  rcases yh hx with ⟨rfl,rfl⟩|⟨_,hx⟩
  ·exact ⟨v,g1,b,e1,g2.trans e1⟩
  ·exact hd.sl d' x hx,hd.ob,fun d' x hx j hj=>by
  rcases yh hx with ⟨rfl,rfl⟩|⟨_,hx⟩
  ·have:j=i:=by simpa [SV.refs,refsL,lP] using hj
   show j<σ.n;omega
  ·exact hd.fs d' x hx j hj,hd.fo⟩
theorem Den.nlp(r:Rep α)(T:TypeId)(h:aget σ.sl d=some (VL (.pointer none)))(hd:Den K C σ β s e):Den K C ⟨(d,sL (lH σ.n))::σ.sl,(σ.n,OBX r T none)::σ.ob,σ.n+1⟩ (upB β σ.n (.pointer none)) s e:=by
 have hm:=hd.m;have hb:∀i,i<σ.n→upB β σ.n (.pointer none) i=β i:=fun i hi=>y7e (by omega);refine⟨hd.ok,hd.mv,fun i hi=>(hb i (by omega)).trans (hd.b0 i hi),by show K.m≤σ.n+1;omega,fun d' x hx=>?_,fun i o ho=>?_,fun d' x hx i hi=>?_,fun i o ho=>?_⟩
 ·rcases yh hx with ⟨rfl,rfl⟩|⟨_,hx⟩
  ·obtain ⟨v,g1,g2⟩:=hd.sl _ _ h;exact⟨v,g1,g2.1.trans y7s.symm,g2.1▸rfl⟩
  ·obtain ⟨v,g1,g2⟩:=hd.sl _ _ hx;exact⟨v,g1,SV.mono (Le.refl _) (fun i hi=>hb i (hd.fs _ _ hx i hi)) g2⟩
 ·rcases yh ho with ⟨rfl,rfl⟩|⟨_,ho⟩
  ·exact y7s
  ·obtain ⟨g1,g2⟩:=hd.fo _ _ ho;rw [hb i g1];exact Ob.as (Le.refl _) rfl (fun _ h=>h) (fun j hj=>hb j (g2 j hj)) (hd.ob _ _ ho)
 ·show i<σ.n+1;rcases yh hx with ⟨rfl,rfl⟩|⟨_,hx⟩
  ·have:i=σ.n:=by simpa [SV.refs,refsL,lH] using hi
   omega
  ·have:=hd.fs _ _ hx i hi;omega
 ·rcases yh ho with ⟨rfl,rfl⟩|⟨_,ho⟩
  ·exact ⟨by show σ.n<σ.n+1;omega,fun j hj=>by cases hj⟩
  ·obtain ⟨g1,g2⟩:=hd.fo _ _ ho;exact⟨by show i<σ.n+1;omega,fun j hj=>by have:=g2 j hj;show j<σ.n+1;omega⟩
variable{Φ:Fr}{P:Program}{Q:Exit→Act→World→Prop}{n:Nat}{ops:Array Oper}{os:List Oper}{c:Code}{z:Exit}
theorem WX.obx(i:Nat)(ho:aget σ.ob i=some (.bx T l))(hv:Rv r l y)(h:WX K C Φ Q n z ⟨σ.sl,(i,OBX r T (some y))::σ.ob,σ.n⟩):WX K C Φ Q n z σ:=fun β s e hd=>h β s e (hd.obx ho hv)
theorem WX.nlp(r:Rep α)(T:TypeId)(d:Nat)(hs:aget σ.sl d=some (VL (.pointer none)))(h:WX K C Φ Q n z ⟨(d,sL (lH σ.n))::σ.sl,(σ.n,OBX r T none)::σ.ob,σ.n+1⟩):WX K C Φ Q n z σ:=fun β s e hd=>h _ s e (hd.nlp r T hs)
theorem WE.opn(i:Nat)(ho:aget σ.ob i=some (OBX r T x))(hx:x=some y)(hl:Lv r y l)(hr:refsL l= [])(h:WE K C Φ P Q n c ⟨σ.sl,(i,.bx T l)::σ.ob,σ.n⟩):WE K C Φ P Q n c σ:=fun β s e hd=>h β s e (hd.opn ho hx hl hr)
theorem WE.hp(d:Nat)(hs:aget σ.sl d=some (sL (lH i)))(ho:aget σ.ob i=some (.bx T l))(h:WE K C Φ P Q n c ⟨(d,sL (lP i 0))::σ.sl,σ.ob,σ.n⟩):WE K C Φ P Q n c σ:=fun β s e hd=>h β s e (hd.hp hs ho)
end
section
variable{K:Kx}{C:Cx}{P:Program}{Φ:Fr}{Q:Exit→Act→World→Prop}{n:Nat}{ops:Array Oper}{os:List Oper}{σ:Sx}{d:Nat}{ty:TypeId}{pos:String}{af:Array Edge}
theorem V.fa{f o i:Nat}(hF:FA P S f o)(h:(σ.ev x,Nat.blt d n,(F1 d (sL (lP i (off+o)))).ok K σ.n)=(some (sL (lP i off)),true,true))(h2:V K C Φ P Q n ops os (σ.eff (F1 d (sL (lP i (off+o)))))):V K C Φ P Q n ops (⟨some d,.fieldAddr S x f,ty,pos,af,none⟩::os) σ:=by
 simp only [Prod.mk.injEq] at h;exact .op (O.faP hF .no h.1 h.2.1) h.2.2 h2
theorem V.fe{r:Rep α}{y:α}{f o:Nat}(hF:FA P S f o)(h:(σ.ev x,Nat.blt d n,(F1 d (sL (lE r y (off+o)))).ok K σ.n)=(some (sL (lE r y off)),true,true))(h2:V K C Φ P Q n ops os (σ.eff (F1 d (sL (lE r y (off+o)))))):V K C Φ P Q n ops (⟨some d,.fieldAddr S x f,ty,pos,af,none⟩::os) σ:=by
 simp only [Prod.mk.injEq] at h;exact .op (O.faE hF .no h.1 h.2.1) h.2.2 h2
theorem V.fq{T:TypeId}{f o:Nat}{l:List LV}(hF:FA P S f o)(h:(σ.ev x,Nat.blt d n,(F1 d (sL (lQ T l (off+o)))).ok K σ.n)=(some (sL (lQ T l off)),true,true))(h2:V K C Φ P Q n ops os (σ.eff (F1 d (sL (lQ T l (off+o)))))):V K C Φ P Q n ops (⟨some d,.fieldAddr S x f,ty,pos,af,none⟩::os) σ:=by
 simp only [Prod.mk.injEq] at h;exact .op (O.faQ hF .no h.1 h.2.1) h.2.2 h2
theorem V.lb{T:TypeId}{y:LV}{l:List LV}{i:Nat}(hT:NAg P T)(h:(σ.ev x,aget σ.ob i,l[off]?,Nat.blt d n,(F1 d (sL y)).ok K σ.n)=(some (sL (lP i off)),some (.bx T' l),some y,true,true))(h2:V K C Φ P Q n ops os (σ.eff (F1 d (sL y)))):V K C Φ P Q n ops (⟨some d,.load T x,ty,pos,af,none⟩::os) σ:=by
 simp only [Prod.mk.injEq] at h;exact .op (O.ld hT .no h.1 (.B h.2.1) h.2.2.1 h.2.2.2.1) h.2.2.2.2 h2
theorem V.le{r:Rep α}{T:TypeId}{z:α}{y:LV}{l:List LV}(hT:NAg P T)(hl:Lv r z l)(h:(σ.ev x,l[off]?,Nat.blt d n,(F1 d (sL y)).ok K σ.n)=(some (sL (lE r z off)),some y,true,true))(h2:V K C Φ P Q n ops os (σ.eff (F1 d (sL y)))):V K C Φ P Q n ops (⟨some d,.load T x,ty,pos,af,none⟩::os) σ:=by
 simp only [Prod.mk.injEq] at h;exact .op (O.ld hT .no h.1 (.E hl) h.2.1 h.2.2.1) h.2.2.2 h2
theorem V.lq{T:TypeId}{y:LV}{l:List LV}(hT:NAg P T)(h:(σ.ev x,l[off]?,Nat.blt d n,(F1 d (sL y)).ok K σ.n)=(some (sL (lQ T' l off)),some y,true,true))(h2:V K C Φ P Q n ops os (σ.eff (F1 d (sL y)))):V K C Φ P Q n ops (⟨some d,.load T x,ty,pos,af,none⟩::os) σ:=by
 simp only [Prod.mk.injEq] at h;exact .op (O.ld hT .no h.1 .Q h.2.1 h.2.2.1) h.2.2.2 h2
theorem V.st{T:TypeId}{i o m:Nat}{l:List LV}{v:TV}(hT:∀w,(sizeOf T).run P w= .ok m w)(h:(σ.ev x,aget σ.ob i,σ.ev y,v.l.length,Nat.ble (o+m) l.length,(FO i (.bx T' (stL l o v.l))).ok K σ.n)=(some (sL (lP i o)),some (.bx T' l),some (.v v),m,true,true))(h2:V K C Φ P Q n ops os (σ.eff (FO i (.bx T' (stL l o v.l))))):V K C Φ P Q n ops (⟨none,.store T x y,ty,pos,af,none⟩::os) σ:=by
 simp only [Prod.mk.injEq] at h;exact .op (O.st hT .no h.1 h.2.1 h.2.2.1 h.2.2.2.1 h.2.2.2.2.1) h.2.2.2.2.2 h2
theorem V.ln{r:Rep α}{xs:List α}{T E:TypeId}{m:Nat}(hT:Sl P T E m)(h:(σ.ev x,Nat.blt d n,(F1 d (VL (.int .i64 (xs.length:Int)))).ok K σ.n)=(some (sL (lF r xs)),true,true))(h2:V K C Φ P Q n ops os (σ.eff (F1 d (VL (.int .i64 (xs.length:Int)))))):V K C Φ P Q n ops (⟨some d,.call { callee:= .builtin .len,args:= #[x],argTypes:= #[T] },ty,pos,af,none⟩::os) σ:=by
 simp only [Prod.mk.injEq] at h;exact .op (O.len hT .no h.1 h.2.1) h.2.2 h2
theorem V.ex{l:List TV}{i:Nat}{y:TV}(h:(σ.ev x,l[i]?,Nat.blt d n,(F1 d (.v y)).ok K σ.n)=(some (.tp l),some y,true,true))(h2:V K C Φ P Q n ops os (σ.eff (F1 d (.v y)))):V K C Φ P Q n ops (⟨some d,.extract x i,ty,pos,af,none⟩::os) σ:=by
 simp only [Prod.mk.injEq] at h;exact .op (O.ex .no h.1 h.2.1 h.2.2.1) h.2.2.2 h2
theorem V.al{T:TypeId}{z:Value}(i:Nat)(hz:(P.info? T).bind (·.zero)=some z)(h:(Nat.ble σ.n i,z.cells.toList.all Value.oneCell',Nat.blt d n,(FN d i (lP i 0) (.bx T (z.cells.toList.map lV))).ok K σ.n)=(true,true,true,true))(h2:V K C Φ P Q n ops os (σ.eff (FN d i (lP i 0) (.bx T (z.cells.toList.map lV))))):V K C Φ P Q n ops (⟨some d,.alloc T,ty,pos,af,none⟩::os) σ:=by
 simp only [Prod.mk.injEq] at h;exact .op (O.al i h.1 hz h.2.1 .no h.2.2.1) h.2.2.2 h2
theorem V.bo{T:TypeId}{y:TV}(i:Nat)(h:(Nat.ble σ.n i,σ.ev x,ltA σ.n (refsL y.l),Nat.blt d n,(FN d i (lP i 0) (.bx T y.l)).ok K σ.n)=(true,some (.v y),true,true,true))(h2:V K C Φ P Q n ops os (σ.eff (FN d i (lP i 0) (.bx T y.l)))):V K C Φ P Q n ops (⟨some d,.box T x,ty,pos,af,none⟩::os) σ:=by
 simp only [Prod.mk.injEq] at h;exact .op (O.box i h.1 .no h.2.1 h.2.2.1 h.2.2.2.1) h.2.2.2.2 h2
theorem V.ix{r:Rep α}{xs:List α}{i:Operand}{T:TypeId}{k:IntKind}{j:Int}{y:α}(hS:Sl P T U r.sz)(hy:idx xs j=some y)(h:(σ.ev x,σ.ev i,Nat.blt d n,(F1 d (sL (lE r y 0))).ok K σ.n)=(some (sL (lF r xs)),some (VL (.int k j)),true,true))(h2:V K C Φ P Q n ops os (σ.eff (F1 d (sL (lE r y 0))))):V K C Φ P Q n ops (⟨some d,.indexAddr T x i,ty,pos,af,none⟩::os) σ:=by
 simp only [Prod.mk.injEq] at h;exact .op (O.ix hS .no h.1 h.2.1 hy h.2.2.1) h.2.2.2 h2
theorem V.c0{f:FuncId}{xs:List Operand}{c:Call}{r:SV}(hF:Fw P f ⟨0,[]⟩ av [] r [])(hcf:Cf P f)(h:(c.callee,c.args,σ.evs xs,r.refs,Nat.blt d n,(F1 d r).ok K σ.n)=(.value (.func f),xs.toArray,some av,[],true,true))(h2:V K C Φ P Q n ops os (σ.eff (F1 d r))):V K C Φ P Q n ops (⟨some d,.call c,ty,pos,af,none⟩::os) σ:=by
 simp only [Prod.mk.injEq] at h;exact .op (O.ca0 hF hcf h.1 h.2.1 .no h.2.2.1 h.2.2.2.1 h.2.2.2.2.1) h.2.2.2.2.2 h2
theorem V.pT{z:Operand}{v:SV}(h:(σ.ev x,σ.ev y,Nat.blt d n,(F1 d v).ok K σ.n)=(some (VL (.bool true)),some v,true,true))(h2:V K C Φ P Q n ops os (σ.eff (F1 d v))):V K C Φ P Q n ops (⟨some d,.pick x y z,ty,pos,af,none⟩::os) σ:=by
 simp only [Prod.mk.injEq] at h;exact .op (O.pkT .no h.1 rfl h.2.1 h.2.2.1) h.2.2.2 h2
theorem V.pF{z:Operand}{v:SV}(h:(σ.ev x,σ.ev z,Nat.blt d n,(F1 d v).ok K σ.n)=(some (VL (.bool false)),some v,true,true))(h2:V K C Φ P Q n ops os (σ.eff (F1 d v))):V K C Φ P Q n ops (⟨some d,.pick x y z,ty,pos,af,none⟩::os) σ:=by
 simp only [Prod.mk.injEq] at h;exact .op (O.pkF .no h.1 rfl h.2.1 h.2.2.1) h.2.2.2 h2
theorem V.lg{T:TypeId}{p:LV}{l:List LV}{m:Nat}(l':List LV)(hT:Ag P T m)(hx:σ.ev x=some (sL p))(ha:At K C σ p l off)(h:((l.drop off).take m,l'.length,Nat.blt d n,(F1 d (AG l')).ok K σ.n)=(l',m,true,true))(h2:V K C Φ P Q n ops os (σ.eff (F1 d (AG l')))):V K C Φ P Q n ops (⟨some d,.load T x,ty,pos,af,none⟩::os) σ:=by
 simp only [Prod.mk.injEq] at h;exact .op (O.lg hT .no hx ha h.1 h.2.1 h.2.2.1) h.2.2.2 h2
theorem V.bu{T:TypeId}{pl:List (Nat×Nat)}{z:List Value}{xs:List (Nat×Operand)}{ps:List (Nat×List LV)}(l:List LV)(hP:Pl P T pl z)(h:(z.all Value.oneCell',σ.evp xs,fillS pl (z.map lV) ps,Nat.blt d n,(F1 d (AG l)).ok K σ.n)=(true,some ps,some l,true,true))(h2:V K C Φ P Q n ops os (σ.eff (F1 d (AG l)))):V K C Φ P Q n ops (⟨some d,.build T xs.toArray,ty,pos,af,none⟩::os) σ:=by
 simp only [Prod.mk.injEq] at h;exact .op (O.bu hP h.1 .no h.2.1 h.2.2.1 h.2.2.2.1) h.2.2.2.2 h2
theorem V.ns{y:Code}(h:WE K C Φ P Q n y σ):V K C Φ P (Exit.then (y.wpIn Φ.f 2 P Q) Q) n ops [] σ:= .nil (.seqN h)
theorem V.nr{id:Nat}{l:List Oper}{y:Code}(h:V K C Φ P (Exit.then (y.wpIn Φ.f 2 P Q) Q) n l.toArray l σ):V K C Φ P (Exit.then ((Code.seq (.region id l.toArray false) y).wpIn Φ.f 2 P Q) Q) n ops [] σ:= .nil (.seqN (.seq (.reg h)))
theorem WE.sr{id:Nat}{l:List Oper}{y:Code}(h:V K C Φ P (Exit.then (y.wpIn Φ.f 2 P Q) Q) n l.toArray l σ):WE K C Φ P Q n (.seq (.region id l.toArray false) y) σ:= .seq (.reg h)
theorem V.an{z:SV}{y:Code}(h:(σ.ev x,Nat.blt d n,(F1 d z).ok K σ.n)=(some z,true,true))(h2:WE K C Φ P Q n y (σ.eff (F1 d z))):V K C Φ P (Exit.then (y.wpIn Φ.f 2 P Q) Q) n ops (⟨some d,.assign x,ty,pos,af,none⟩::[]) σ:= .sa h (.ns h2)
theorem WE.cc{c:Operand}{x y:Code}{t:Bool}{A B:Option β}{r:β}(hm:(if t=true then A else B)=some r)(hx:σ.ev c=some (VL (.bool t)))(h1:A=some r→WE K C Φ P Q n x σ)(h2:B=some r→WE K C Φ P Q n y σ):WE K C Φ P Q n (.cond c x y) σ:=by
 rcases ifS hm with ⟨h,hm⟩|⟨h,hm⟩
 ·exact .cT hx h (h1 hm)
 ·exact .cF hx h (h2 hm)
end
theorem WX.rr{K:Kx}{C:Cx}{n:Nat}{σ:Sx}{fn:Func}{rs:List ResultVar}{l:List TV}{r:SV}(ρ:List Nat)(hr:fn.results=rs.toArray)(hv:Rw P σ rs l)(hok:endOk K ob'.length ρ=true)(hc:∀β s v,(retS l).p β s v→r.p (fun i=>β (ρ.getD i i)) s v)(hE:EndL σ (fun i=>ρ.getD i i) 0 ob'):WX K C Fr.o (bodyPost P fn (Fin K C P r ob')) n .ret σ:= .rt ρ (.inl rfl) hr hv hok hc hE
theorem Fw.mk2{f:FuncId}{K:Kx}{ob:List Ob}{r:SV}{fn:Func}{c:Code}{n:Nat}(hf:P.funcs[f]? =some fn)(hn:fn.ntmps=n)(h0:(fn.body,Nat.ble av.length n,ob.length)=(some c,true,K.m))(h:∀C:Cx,WE K C Fr.o P (bodyPost P fn (Fin K C P r ob')) n c ⟨Env.of3 0 av,Env.ofO 0 ob,K.m⟩)(h1:(ltA K.m (refsT av),ob.all (fun o=>ltA K.m o.refs))=(true,true)):Fw P f K av ob r ob':=by
 simp only [Prod.mk.injEq] at h0 h1;exact .mk' hf h0.1 hn h0.2.1 h0.2.2 h h1.1 h1.2
theorem oj{a b:α}(h:some a=some b):b=a:=(oi h).symm
@[reducible] def rwI(xs:List Int):Ob:=ROW qI 3 xs
abbrev CF(f:FuncId):Prop:=Cf Tryz.prog f
abbrev FAb(S:TypeId)(f o:Nat):Prop:=FA Tryz.prog S f o
theorem cM {f:FuncId}{fn:Func}(h : P.funcs[f]? = some fn)(hn : ((fn.name == "runtime.NumGoroutine"), fn.body.isNone) = (false, false)) : Cf P f := by
 simp only [Prod.mk.injEq] at hn;exact .mk h hn.1 hn.2
theorem fAm{fs:Array Field}(f o m:Nat){fd:Field}(h:P.underlying S=some (.struct fs))(hf:(fs[f]?,fd.offset)=(some fd,o))(hs:(Nat.blt 0 m,(P.info? fd.type).map (·.size))=(true,some m)):FA P S f o:=by
 simp only [Prod.mk.injEq] at hf hs;exact .mk h hf.1 hf.2 ⟨m,Nat.le_of_ble_eq_true hs.1,hs.2⟩
abbrev F0(f:FuncId)(av:List TV)(ob:List Ob)(r:SV)(ob':List Ob):Prop:=Fw Tryz.prog f ⟨0,[]⟩ av ob r ob'
section
variable{K:Kx}{C:Cx}{P:Program}{Φ:Fr}{Q:Exit→Act→World→Prop}{n:Nat}{ops:Array Oper}{os:List Oper}{σ:Sx}{d:Nat}{ty:TypeId}{pos:String}{af:Array Edge}{j s:Nat}{b:Bool}
theorem V.no{T:TypeId}{i:Bool}(h:(σ.ev x,Nat.blt d n,(F1 d (VL (.bool (!i)))).ok K σ.n)=(some (VL (.bool i)),true,true))(h2:V K C Φ P Q n ops os (σ.eff (F1 d (VL (.bool (!i)))))):V K C Φ P Q n ops (⟨some d,.unOp .not T x,ty,pos,af,none⟩::os) σ:=by
 simp only [Prod.mk.injEq] at h;exact .op (O.not .no h.1 h.2.1) h.2.2 h2
theorem V.su{op:Op}{q:Nat}(h:((ops[j]?).bind (·.dst),aget σ.sl q,Nat.blt d n,(F1 d (.tp [])).ok K σ.n)=(some q,some (.tp []),true,true))(h2:V K C Φ P Q n ops os (σ.eff (F1 d (.tp [])))):V K C Φ P Q n ops (⟨some d,op,ty,pos,af,some (j,b)⟩::os) σ:=by
 simp only [Prod.mk.injEq] at h;exact .op (O.skipU h.1 h.2.1 h.2.2.1) h.2.2.2 h2
theorem V.lh{r:Rep α}{xs:List α}{T E:TypeId}{m i:Nat}(hT:Sl P T E m)(h:(σ.ev x,aget σ.ob i,Nat.blt d n,(F1 d (VL (.int .i64 (xs.length:Int)))).ok K σ.n)=(some (sL (lH i)),some (ROW r U xs),true,true))(h2:V K C Φ P Q n ops os (σ.eff (F1 d (VL (.int .i64 (xs.length:Int)))))):V K C Φ P Q n ops (⟨some d,.call { callee:= .builtin .len,args:= #[x],argTypes:= #[T] },ty,pos,af,none⟩::os) σ:=by
 simp only [Prod.mk.injEq] at h;exact .op (O.lenH hT .no h.1 h.2.1 h.2.2.1) h.2.2.2 h2
theorem V.mg{y:SV}(h:((ops[j]?).bind (·.dst),aget σ.sl s,σ.ev x,Nat.blt d n,(F1 d y).ok K σ.n)=(some s,some (VL (.bool b)),some y,true,true))(h2:V K C Φ P Q n ops os (σ.eff (F1 d y))):V K C Φ P Q n ops (⟨some d,.move x,ty,pos,af,some (j,b)⟩::os) σ:=by
 simp only [Prod.mk.injEq] at h;exact .op (O.mv (.mk h.1 h.2.1) h.2.2.1 h.2.2.2.1) h.2.2.2.2 h2
theorem V.bg{op:BinOp}{T:TypeId}{k:IntKind}{i i':Int}{v:Value}(h:((ops[j]?).bind (·.dst),aget σ.sl s,σ.ev x,σ.ev y,ya0 op k i i',Nat.blt d n,(F1 d (VL v)).ok K σ.n)=(some s,some (VL (.bool b)),some (VL (.int k i)),some (VL (.int k i')),some v,true,true))(h2:V K C Φ P Q n ops os (σ.eff (F1 d (VL v)))):V K C Φ P Q n ops (⟨some d,.binOp op T x y U,ty,pos,af,some (j,b)⟩::os) σ:=by
 simp only [Prod.mk.injEq] at h;exact .op (O.bi (.mk h.1 h.2.1) h.2.2.1 h.2.2.2.1 h.2.2.2.2.1 h.2.2.2.2.2.1) h.2.2.2.2.2.2 h2
theorem V.lbg{T:TypeId}{y:LV}{l:List LV}{i:Nat}(hT:NAg P T)(h:((ops[j]?).bind (·.dst),aget σ.sl s,σ.ev x,aget σ.ob i,l[off]?,Nat.blt d n,(F1 d (sL y)).ok K σ.n)=(some s,some (VL (.bool b)),some (sL (lP i off)),some (.bx T' l),some y,true,true))(h2:V K C Φ P Q n ops os (σ.eff (F1 d (sL y)))):V K C Φ P Q n ops (⟨some d,.load T x,ty,pos,af,some (j,b)⟩::os) σ:=by
 simp only [Prod.mk.injEq] at h;exact .op (O.ld hT (.mk h.1 h.2.1) h.2.2.1 (.B h.2.2.2.1) h.2.2.2.2.1 h.2.2.2.2.2.1) h.2.2.2.2.2.2 h2
theorem V.leg{r:Rep α}{T:TypeId}{z:α}{y:LV}{l:List LV}(hT:NAg P T)(hl:Lv r z l)(h:((ops[j]?).bind (·.dst),aget σ.sl s,σ.ev x,l[off]?,Nat.blt d n,(F1 d (sL y)).ok K σ.n)=(some s,some (VL (.bool b)),some (sL (lE r z off)),some y,true,true))(h2:V K C Φ P Q n ops os (σ.eff (F1 d (sL y)))):V K C Φ P Q n ops (⟨some d,.load T x,ty,pos,af,some (j,b)⟩::os) σ:=by
 simp only [Prod.mk.injEq] at h;exact .op (O.ld hT (.mk h.1 h.2.1) h.2.2.1 (.E hl) h.2.2.2.1 h.2.2.2.2.1) h.2.2.2.2.2 h2
theorem V.fag{f o i:Nat}(hF:FA P S f o)(h:((ops[j]?).bind (·.dst),aget σ.sl s,σ.ev x,Nat.blt d n,(F1 d (sL (lP i (off+o)))).ok K σ.n)=(some s,some (VL (.bool b)),some (sL (lP i off)),true,true))(h2:V K C Φ P Q n ops os (σ.eff (F1 d (sL (lP i (off+o)))))):V K C Φ P Q n ops (⟨some d,.fieldAddr S x f,ty,pos,af,some (j,b)⟩::os) σ:=by
 simp only [Prod.mk.injEq] at h;exact .op (O.faP hF (.mk h.1 h.2.1) h.2.2.1 h.2.2.2.1) h.2.2.2.2 h2
theorem V.bf{r:Rep α}(zs:List α){T E m k:Nat}{z:List Value}{xs:List (Nat×Operand)}{ps:List (Nat×List LV)}{l:List LV}(hB:Bs P T E m z)(h1:(z.all Value.oneCell',Nat.ble (k*m) 16777216,σ.evp xs,Nat.blt 0 (k*m),fillS (plK m k 0) (List.replicate k (z.map lV)).flatten ps)=(true,true,some ps,true,some l))(hc:Cv r l zs)(h:(zs.length,Nat.ble k 4294967296,Nat.blt d n,(F1 d (sL (lF r zs))).ok K σ.n)=(k,true,true,true))(h2:V K C Φ P Q n ops os (σ.eff (F1 d (sL (lF r zs))))):V K C Φ P Q n ops (⟨some d,.buildSlice T k xs.toArray,ty,pos,af,none⟩::os) σ:=by
 simp only [Prod.mk.injEq] at h h1;exact .op (O.bsF hB h1.1 h1.2.1 .no h1.2.2.1 h1.2.2.2.1 h1.2.2.2.2 hc h.1 h.2.1 h.2.2.1) h.2.2.2 h2
end
end Go.Proofs.YtecmobjeeonmaaaGreatDoor
namespace Go.Proofs
open Go.Shelf
def Tryz.lays169_ren :Go.Shelf.Ren:=⟨fun|169=>163|n=>n,fun|70=>242|9=>9|0=>0|72=>245|37=>243|127=>297|3=>3|5=>5|n=>n,fun|n=>n⟩
theorem Tryz.lays169 :Go.Proofs.Lays.n169 Tryz.prog Tryz.lays169_ren:={
 mixed:=by kernel_rfl
 f169:=Tryz.func163.trans (congrArg some (by kernel_rfl))
 t0:=Tryz.underlying0
 a0:=Tryz.isAgg0
 z0:=Tryz.sizeOf0
 v0:=Tryz.zeroValue0
 t3:=Tryz.underlying3
 a3:=Tryz.isAgg3
 z3:=Tryz.sizeOf3
 v3:=Tryz.zeroValue3
 t9:=Tryz.underlying9
 a9:=Tryz.isAgg9
 z9:=Tryz.sizeOf9
 v9:=Tryz.zeroValue9
 t37:=Tryz.underlying243
 a37:=Tryz.isAgg243
 z37:=Tryz.sizeOf243
 v37:=Tryz.zeroValue243
 t70:=Tryz.underlying242
 a70:=Tryz.isAgg242
 z70:=Tryz.sizeOf242
 v70:=Tryz.zeroValue242
 t72:=Tryz.underlying245
 a72:=Tryz.isAgg245
 z72:=Tryz.sizeOf245
 v72:=Tryz.zeroValue245
 t127:=Tryz.underlying297
 a127:=Tryz.isAgg297
 z127:=Tryz.sizeOf297
 v127:=Tryz.zeroValue297 }
theorem Tryz.Builder_Extra_169 :Builder.Extra Tryz.prog Tryz.lays169_ren:={
 sizeBuilder:=by kernel_rfl
 liesBuilder:=by kernel_rfl
 t5:=Tryz.underlying5
 a5:=Tryz.isAgg5
 z5:=Tryz.sizeOf5
 v5:=Tryz.zeroValue5
 infoByte:=by kernel_rfl
 cellsByte:=by kernel_rfl
 sizeByte:=by kernel_rfl
 neB5:=by decide }
open Go.RowKit in
theorem Tryz.Builder_String_any(B b:Nat)(l:List UInt8)(w:World)(h:Lib.IsBuilder 245 5 B b (Lib.byteCells l) w)(hBw:B≤w.heap.size):
  Calls Tryz.prog 163 #[.pointer (some ⟨b,0,none⟩)] w fun e w'=>e= .returned (.string ⟨l.toArray⟩)∧Below B w w':=Any.Builder_String_any Tryz.lays169 Tryz.Builder_Extra_169 B b l w h hBw
def Tryz.lays171_ren :Go.Shelf.Ren:=⟨fun|171=>161|243=>212|246=>239|283=>264|284=>265|285=>266|286=>267|129=>255|317=>281|318=>282|319=>283|320=>284|337=>301|338=>302|n=>n,fun|3=>3|9=>9|2=>2|4=>4|171=>342|0=>0|53=>336|37=>243|5=>5|173=>344|212=>360|51=>334|20=>20|213=>361|46=>295|232=>384|233=>385|n=>n,fun|17=>0|18=>1|19=>2|n=>n⟩
theorem Tryz.lays171 :Go.Proofs.Lays.n171 Tryz.prog Tryz.lays171_ren:={
 mixed:=by kernel_rfl
 f129:=Tryz.func255.trans (congrArg some (by kernel_rfl))
 f171:=Tryz.func161.trans (congrArg some (by kernel_rfl))
 f243:=Tryz.func212.trans (congrArg some (by kernel_rfl))
 f246:=Tryz.func239.trans (congrArg some (by kernel_rfl))
 f283:=Tryz.func264.trans (congrArg some (by kernel_rfl))
 f284:=Tryz.func265.trans (congrArg some (by kernel_rfl))
 f285:=Tryz.func266.trans (congrArg some (by kernel_rfl))
 f286:=Tryz.func267.trans (congrArg some (by kernel_rfl))
 f317:=Tryz.func281.trans (congrArg some (by kernel_rfl))
 f318:=Tryz.func282.trans (congrArg some (by kernel_rfl))
 f319:=Tryz.func283.trans (congrArg some (by kernel_rfl))
 f320:=Tryz.func284.trans (congrArg some (by kernel_rfl))
 f337:=Tryz.func301.trans (congrArg some (by kernel_rfl))
 f338:=Tryz.func302.trans (congrArg some (by kernel_rfl))
 t0:=Tryz.underlying0
 a0:=Tryz.isAgg0
 z0:=Tryz.sizeOf0
 v0:=Tryz.zeroValue0
 t2:=Tryz.underlying2
 a2:=Tryz.isAgg2
 z2:=Tryz.sizeOf2
 v2:=Tryz.zeroValue2
 t3:=Tryz.underlying3
 a3:=Tryz.isAgg3
 z3:=Tryz.sizeOf3
 v3:=Tryz.zeroValue3
 t4:=Tryz.underlying4
 a4:=Tryz.isAgg4
 z4:=Tryz.sizeOf4
 v4:=Tryz.zeroValue4
 t5:=Tryz.underlying5
 a5:=Tryz.isAgg5
 z5:=Tryz.sizeOf5
 v5:=Tryz.zeroValue5
 t9:=Tryz.underlying9
 a9:=Tryz.isAgg9
 z9:=Tryz.sizeOf9
 v9:=Tryz.zeroValue9
 t20:=Tryz.underlying20
 a20:=Tryz.isAgg20
 z20:=Tryz.sizeOf20
 v20:=Tryz.zeroValue20
 t37:=Tryz.underlying243
 a37:=Tryz.isAgg243
 z37:=Tryz.sizeOf243
 v37:=Tryz.zeroValue243
 t46:=Tryz.underlying295
 a46:=Tryz.isAgg295
 z46:=Tryz.sizeOf295
 v46:=Tryz.zeroValue295
 t51:=Tryz.underlying334
 a51:=Tryz.isAgg334
 z51:=Tryz.sizeOf334
 v51:=Tryz.zeroValue334
 t53:=Tryz.underlying336
 a53:=Tryz.isAgg336
 z53:=Tryz.sizeOf336
 v53:=Tryz.zeroValue336
 t171:=Tryz.underlying342
 a171:=Tryz.isAgg342
 z171:=Tryz.sizeOf342
 v171:=Tryz.zeroValue342
 t173:=Tryz.underlying344
 a173:=Tryz.isAgg344
 z173:=Tryz.sizeOf344
 v173:=Tryz.zeroValue344
 t212:=Tryz.underlying360
 a212:=Tryz.isAgg360
 z212:=Tryz.sizeOf360
 v212:=Tryz.zeroValue360
 t213:=Tryz.underlying361
 a213:=Tryz.isAgg361
 z213:=Tryz.sizeOf361
 t232:=Tryz.underlying384
 a232:=Tryz.isAgg384
 z232:=Tryz.sizeOf384
 v232:=Tryz.zeroValue384
 t233:=Tryz.underlying385
 a233:=Tryz.isAgg385
 z233:=Tryz.sizeOf385
 v233:=Tryz.zeroValue385
 g17:=by kernel_rfl
 g18:=by kernel_rfl
 g19:=by kernel_rfl }
open Go.RowKit Go.Sort Go.Lib in
theorem Tryz.strconv_Itoa_small(i:Nat)(hi:i<100)(w:World):
  Calls Tryz.prog 161 #[.int .i64 i] w fun e w'=>e= .returned (.string ⟨(Lib.decDigits i).toArray⟩)∧w'=w:=Any.strconv_Itoa_small Tryz.lays171 i hi w
end Go.Proofs
namespace Go.Proofs.YtecmobjeeonmaaaGreatDoor
open Go Go.RowKit
abbrev bT :TypeId:=245
abbrev bE :TypeId:=5
theorem yjq :(Tryz.prog.info? bT).map (fun i=>i.size)=some 2:=by kernel_rfl
theorem yjr :liesAt Tryz.prog (Tryz.prog).depth bT (2/(Tryz.prog).cellsOf bT) 0 bT 1=true:=by kernel_rfl
theorem yfH :(Tryz.prog.info? bE).map (fun i=>(i.zero,i.size,i.bytes))=some (some (.int .u8 0),1,1):=by kernel_rfl
theorem ky_tp :(Tryz.prog).underlying 242=some (.pointer bT):=by kernel_rfl
theorem ky_un :(Tryz.prog).underlying 317=some .unsafePointer:=by kernel_rfl
/-- Behind copyCheck the builder knows its address. -/
theorem yeU(B b:Nat)(bs:List Value)(w:World)(h:Lib.IsBuilder bT bE B b bs w):
  Calls Tryz.prog 211 #[.pointer (some ⟨b,0,none⟩)] w fun e w'=>e= .returned (.tuple #[])∧Lib.BuilderAt bT bE B b (.pointer (some ⟨b,0,none⟩)) bs w'∧Below B w w':=by
 obtain⟨j,hj,hjs⟩:=Option.map_eq_some_iff.1 yjq;rcases h with h|h
 ·have h0:=h.cell0;have hsh:=h.shape;have hfz:=h.frozen0
  suffices hh:Calls Tryz.prog 211 #[.pointer (some ⟨b,0,none⟩)] w fun e w'=>e= .returned (.tuple #[])∧w'=w.setCell ⟨b,0,none⟩ (.pointer (some ⟨b,0,none⟩)) by
   refine hh.mono ?_;rintro e w' ⟨rfl,rfl⟩;exact⟨rfl,h.used _,(Below.refl B w).setCell (p:=⟨b,0,none⟩) h.1 _⟩
  go_enter Tryz.func211,Tryz.ntmps211
  go_wp2
  rw [Lib.run_to_unsafe w ⟨b,0,none⟩ ky_tp ky_un hj (by rw [hjs];decide) hsh (Nat.zero_lt_succ 1)];simp only [Result.andThen];rw [Oper.upon_value]
  go_wp2
  rw [run_callFunc_extern Tryz.func238 (by kernel_rfl) (by kernel_rfl) (by kernel_rfl) (e:=Extern.AbiNoEscape.same) (by kernel_rfl)];rw [Lib.run_noEscape];simp only [Result.andThen];rw [Oper.upon_value]
  go_wp2
  rw [Lib.run_from_unsafe w ⟨b,0,none⟩ ky_un ky_tp hj hsh yjr];simp only [Result.andThen];rw [Oper.upon_value]
  go_wp2
  go_end0
  exact⟨rfl,rfl⟩
 ·have h0:=h.cell0
  suffices hh:Calls Tryz.prog 211 #[.pointer (some ⟨b,0,none⟩)] w fun e w'=>e= .returned (.tuple #[])∧w'=w by
   refine hh.mono ?_;rintro e w' ⟨rfl,rfl⟩;exact⟨rfl,h,Below.refl B _⟩
  go_enter Tryz.func211,Tryz.ntmps211
  go_wp2
  rw [Lib.run_neq_ptr_same w _ ky_tp hj]
  go_wp2
  go_end0
  exact⟨rfl,rfl⟩
theorem yih(B b:Nat)(bs:List Value)(c:Int)(w:World)(h:Lib.IsBuilder bT bE B b bs w)(hlen:bs.length+1≤1000000)(hBw:B≤w.heap.size):
  Calls Tryz.prog 162 #[.pointer (some ⟨b,0,none⟩),.int .u8 c] w fun e w'=>e= .returned .nilIface∧Lib.BuilderAt bT bE B b (.pointer (some ⟨b,0,none⟩)) (bs++[.int .u8 c]) w'∧Below B w w':=by
 obtain⟨i0,hi,hz0,hz1,hz2⟩:=info_parts yfH
 go_enter Tryz.func162,Tryz.ntmps162
 go_wp2_with (go_at_call 211;refine(yeU B b bs _ h).mono ?_)
 rintro e w1 ⟨rfl,h1,hb1⟩;obtain⟨hB,v,hbk,hown,hne⟩:=h1;have c1:w1.cell? ⟨b,1,none⟩=some v:=by rw [Lib.cell_of_heap hbk];rfl
 have hlt:b<w1.heap.size:=(Array.getElem?_eq_some_iff.1 hbk).1;have hsz:=hb1.size
 go_wp2_with (at_builtin;refine wpList_append_own _ rfl _ _ 243 rfl B bE i0 (.int .u8 0) 1 1 Tryz.underlying243 hi hz0 hz1 hz2 rfl (by decide) _ _ _ rfl (hown.alloc _) ⟨w1.heap.size,0,none⟩ 1 1 [.int .u8 c] rfl rfl ?c1 ?c2 (by unfold maxLen;omega) (by omega) (by simp;omega) ?_)
 case c1=>
  intro j u hj
  match j,hj with
  | 0,hj=>simp at hj;subst hj;simp [Addr.add]
 case c2=>intro u hu;simp at hu;subst hu;rfl
 intro v' w2 hown' hgrow _;have hb2:w2.heap[b]? =some (.cells #[.pointer (some ⟨b,0,none⟩),v] bT (0,0)):=by
  rw [hgrow.block b (by simp;omega) (fun e=>hne e.symm),Lib.alloc_old w1 _ b hlt];exact hbk
 have d1:w2.cell? ⟨b,1,none⟩=some v:=by rw [Lib.cell_of_heap hb2];rfl
 have f1:w2.frozen? ⟨b,1,none⟩=false:=Lib.frozen_of_heap hb2 1;obtain⟨ao,n',cap,rfl⟩:∃ao n' cap,v'= .slice ao n' cap:=by
  rcases hown'.2 with ⟨hv,_⟩|⟨g,cap,cur,hv,_⟩ <;> exact⟨_,_,_,hv⟩
 go_wp2
 go_ret
 refine⟨rfl,Lib.BuilderAt.put (T:=bT) (e:=bE) hB hb2 (bs':=bs++[.int .u8 c]) (by simpa using hown') (by decide),?_⟩;exact((hb1.alloc (by omega) _).grown hgrow (by simp;omega) (fun k hk=>(hown.lt k hk).1)).setCell (p:=⟨b,1,none⟩) hB _
theorem yjs(B b:Nat)(bs:List Value)(t:ByteArray)(w:World)(h:Lib.IsBuilder bT bE B b bs w)(hlen:bs.length+t.size≤1000000)(hBw:B≤w.heap.size):
  Calls Tryz.prog 160 #[.pointer (some ⟨b,0,none⟩),.string t] w fun e w'=>e= .returned (.tuple #[.int .i64 t.size,.nilIface])∧Lib.BuilderAt bT bE B b (.pointer (some ⟨b,0,none⟩)) (bs++Lib.strCells t) w'∧Below B w w':=by
 obtain⟨i0,hi,hz0,hz1,hz2⟩:=info_parts yfH
 go_enter Tryz.func160,Tryz.ntmps160
 go_wp2_with (go_at_call 211;refine(yeU B b bs _ h).mono ?_)
 rintro e w1 ⟨rfl,h1,hb1⟩;obtain⟨hB,v,hbk,hown,hne⟩:=h1;have c1:w1.cell? ⟨b,1,none⟩=some v:=by rw [Lib.cell_of_heap hbk];rfl
 have hlt:b<w1.heap.size:=(Array.getElem?_eq_some_iff.1 hbk).1;have hsz:=hb1.size
 go_wp2_with (at_builtin;refine Lib.wpList_append_own_string _ rfl _ _ 243 9 rfl B bE i0 Tryz.underlying243 Tryz.underlying9 hi hz0 hz1 hz2 _ _ _ rfl hown t rfl (by unfold maxLen;omega) (by omega) (by omega) ?_)
 intro v' w2 hown' hgrow _;have hb2:w2.heap[b]? =some (.cells #[.pointer (some ⟨b,0,none⟩),v] bT (0,0)):=by
  rw [hgrow.block b hlt (fun e=>hne e.symm)];exact hbk
 have d1:w2.cell? ⟨b,1,none⟩=some v:=by rw [Lib.cell_of_heap hb2];rfl
 have f1:w2.frozen? ⟨b,1,none⟩=false:=Lib.frozen_of_heap hb2 1;obtain⟨ao,n',cap,rfl⟩:∃ao n' cap,v'= .slice ao n' cap:=by
  rcases hown'.2 with ⟨hv,_⟩|⟨g,cap,cur,hv,_⟩ <;> exact⟨_,_,_,hv⟩
 go_wp2
 go_ret2
 refine⟨rfl,Lib.BuilderAt.put (T:=bT) (e:=bE) hB hb2 (bs':=bs++Lib.strCells t) (by simpa [Lib.strCells_length] using hown') (by decide),?_⟩;exact(hb1.grown hgrow (by omega) (fun k hk=>(hown.lt k hk).1)).setCell (p:=⟨b,1,none⟩) hB _
def dig2(u:Nat):List UInt8:=if u<10 then [UInt8.ofNat (48+u)] else [UInt8.ofNat (48+u/10),UInt8.ofNat (48+u % 10)]
theorem ydG{u:Nat}(h:u<100):Lib.decDigits u=dig2 u:=by
 unfold dig2;split
 ·exact Lib.decDigits_one ‹_›
 ·exact Lib.decDigits_two ‹_› h
theorem yeV(u:Nat):(dig2 u).length≤2:=by unfold dig2;split <;> simp
def keyB :List Int→List UInt8
 | []=> []
 | x::xs=>dig2 x.toNat++32::keyB xs
theorem yee :∀(xs:List Int) (x:Int),keyB (xs++[x])=keyB xs++dig2 x.toNat++[32]
 | [],x=>by simp [keyB]
 | y::ys,x=>by rw [List.cons_append,keyB,yee ys x,keyB];simp
theorem yeW :∀(xs:List Int),(keyB xs).length≤3*xs.length
 | []=>by simp [keyB]
 | x::xs=>by have h1:=yeW xs;have h2:=yeV x.toNat;simp only [keyB,List.length_append,List.length_cons];omega
def y4H(p0:List Int):Option ByteArray:=if(p0.all fun x=>decide (0≤x∧x<100))=true∧p0.length≤1000 then some ⟨(keyB p0).toArray⟩ else none
theorem yjt(a:Option Addr)(c:Nat)(xs:List Int)(w:World)(hr:RdS w 1 a xs.length c (ints xs))(hx:∀x∈xs,0≤x∧x<100)(hl:xs.length≤1000):
  Calls Tryz.prog 98 #[.slice a xs.length c] w fun e w'=>e= .returned (.string ⟨(keyB xs).toArray⟩)∧Below w.heap.size w w':=by
 have Hx:=Lib.hid hx;clear hx
 go_enter Tryz.func98,Tryz.ntmps98
 go_wp2
 go_loopw [8] (fun i wr=>∃k:Nat,k≤xs.length∧i= .int .i64 k∧Lib.IsBuilder bT bE w.heap.size w.heap.size (Lib.byteCells (keyB (xs.take k))) wr∧Below w.heap.size w wr) (fun i _=>xs.length-(intOf i).toNat)
 case atStart=>exact⟨0,yZl _,rfl,Lib.fresh_isBuilder bT bE w,(Below.refl _ w).alloc (Nat.le_refl _) _⟩
 case round=>
  obtain⟨k,hk,rfl,hI,hbw⟩:=hrel;by_cases hlt:k<xs.length
  ·obtain ⟨b,off,rfl,hc0⟩:=hr.at_int k hlt;have hc:=keep0 hbw hc0;have hsz:=hbw.size;obtain⟨n,hn⟩:∃n:Nat,xs[k]=n:=⟨xs[k].toNat,by have:=Hx.out _ (yGm hlt);omega⟩;have hn100:n<100:=by have:=Hx.out _ (yGm hlt);omega
   rw [hn] at hc;have hkl:=yeW (xs.take k);rw [List.length_take,Nat.min_eq_left hk] at hkl;have hd2:=yeV n
   go_wp2_with (go_at_call 161;refine(Tryz.strconv_Itoa_small n hn100 _).mono ?_)
   rintro e W0 ⟨rfl,rfl⟩
   go_wp2_with (go_at_call 160;refine(yjs w.heap.size w.heap.size _ _ _ hI (by rw [Lib.byteCells_length,ydG hn100];simp [ByteArray.size];omega) hsz).mono ?_)
   rintro e W1 ⟨rfl,h1,b1⟩
   go_wp2_with (go_at_call 162;refine(yih w.heap.size w.heap.size _ _ _ (.inr h1) (by rw [List.length_append,Lib.byteCells_length,Lib.strCells_length,ydG hn100];simp [ByteArray.size];omega) (Nat.le_trans hsz b1.size)).mono ?_)
   rintro e W2 ⟨rfl,h2,b2⟩
   go_wp2
   go_roundw
   case rel=>
    refine⟨k+1,by omega,by go_num,.inr ?_,(hbw.trans b1).trans b2⟩;rw [ybS xs k hlt,yee,hn,Lib.byteCells_append,Lib.byteCells_append];rw [ydG hn100] at h2;exact h2
   case measure=>simp [intOf];omega
  ·have hke:k=xs.length:=by omega
   subst hke;rw [List.take_length] at hI
   go_wp2_with (go_at_call 163;refine(Tryz.Builder_String_any w.heap.size w.heap.size _ _ hI hbw.size).mono ?_)
   rintro e W1 ⟨rfl,b1⟩
   go_wp2
   go_ret
   exact⟨rfl,hbw.trans b1⟩
theorem ydf{s:Sig}{p0:List Int}{a1:Option Addr}{c1:Nat}{r:ByteArray}(h1:RdL (rK .i64) s a1 c1 p0)(hm:y4H p0=some r):
  Calls Tryz.prog 98 #[.slice a1 p0.length c1] s.w (RetS No s fun v s'=>v= .string r):=by
 unfold y4H at hm;split at hm
 ·rename_i hc;cases hm;obtain⟨g1,g2⟩:=hc;obtain⟨a,c,he,h2⟩:=h1.rdI;cases he;refine(yjt _ _ p0 s.w h2 (fun x hx=>by simpa using yAt.1 g1 x hx) g2).mono fun en w' hh=>?_;obtain⟨rfl,hb⟩:=hh;exact⟨_,s.nw w',rfl,rfl,Sig.nw_mv hb,rfl⟩
 ·cases hm
end Go.Proofs.YtecmobjeeonmaaaGreatDoor
namespace Go.Proofs.YtecmobjeeonmaaaGreatDoor
open Go.RowKit
def revK(xs:List Int)(k:Nat):List Int:=(List.range xs.length).map fun m=>if m<k∨xs.length-k≤m then xs.getD (xs.length-1-m) 0 else xs.getD m 0
theorem yh4(xs:List Int):revK xs 0=xs:=by
 apply List.ext_getElem
 ·simp [revK]
 ·intro i h1 h2;simp only [revK,List.getElem_map,List.getElem_range];rw [if_neg (by omega),List.getD_eq_getElem?_getD,yGe h2];rfl
theorem yeX(xs:List Int)(k m:Nat)(hm:m<xs.length)(h:¬(m<k∨xs.length-k≤m)):(ints (revK xs k))[m]? =some (.int .i64 (xs.getD m 0)):=by
 rw [List.getElem?_map,revK,List.getElem?_map,List.getElem?_range hm];simp only [Option.map_some];rw [if_neg h]
theorem yh5(xs:List Int)(k:Nat)(h:2*k+1<xs.length):ints (revK xs (k+1))=((ints (revK xs k)).set k (.int .i64 (xs.getD (xs.length-1-k) 0))).set (xs.length-1-k) (.int .i64 (xs.getD k 0)):=by
 apply List.ext_getElem
 ·simp [revK]
 ·intro i g1 g2;have hi:i<xs.length:=by simpa [revK] using g1
  rw [List.getElem_set,List.getElem_set];simp only [revK,List.getElem_map,List.getElem_range];by_cases e1:xs.length-1-k=i
  ·rw [if_pos e1,if_pos (by omega)];congr 2;omega
  ·rw [if_neg e1];by_cases e2:k=i
   ·rw [if_pos e2,if_pos (by omega)];congr 2;omega
   ·rw [if_neg e2];by_cases e3:i<k∨xs.length-k≤i
    ·rw [if_pos e3,if_pos (by omega)]
    ·rw [if_neg e3,if_neg (by omega)]
theorem yii(xs:List Int)(k:Nat)(h:xs.length≤2*k+1):revK xs k=xs.reverse:=by
 apply List.ext_getElem
 ·simp [revK]
 ·intro i h1 h2;have hi:i<xs.length:=by simpa using h2
  simp only [revK,List.getElem_map,List.getElem_range,List.getElem_reverse];split
  ·rw [List.getD_eq_getElem?_getD,yGe (by omega)];rfl
  ·have:xs.length-1-i=i:=by omega
   rw [List.getD_eq_getElem?_getD,yGe hi,Option.getD_some];congr 1;exact this.symm
theorem yeY(v:Value)(xs:List Int)(w:World)(B:Nat)(tag:Nat→Nat)(k0:Nat)(hr:Row w B tag k0 3 1 v xs.length (ints xs))(hl:xs.length≤1000000):
  Calls Tryz.prog 142 #[v] w fun e w'=>e= .returned (.tuple #[])∧Row w' B tag k0 3 1 v xs.length (ints xs.reverse)∧Turn B tag tag k0 w w':=by
 obtain⟨a,cap,rfl⟩:=hr.val
 go_enter Tryz.func142,Tryz.ntmps142
 go_wp2_with fail
 go_loopw [2,3] (fun i j wr=>∃k:Nat,i= .int .i64 k∧j= .int .i64 ((xs.length:Int)-1-k)∧2*k≤xs.length+1∧Row wr B tag k0 3 1 (.slice a xs.length cap) xs.length (ints (revK xs k))∧Turn B tag tag k0 w wr) (fun i _ _=>xs.length-(intOf i).toNat)
 case atStart=>exact⟨0,rfl,by simp,by omega,by rw [yh4];exact hr,Turn.refl _ _ _ _⟩
 case round=>
  obtain⟨k,rfl,rfl,hk,hrow,ht⟩:=hrel;by_cases hlt:2*k+1<xs.length
  ·obtain ⟨b,off,cap',e1,hbl,_⟩:=hrow.addr (by omega);cases e1;have c1:=hrow.cellAt k (by omega);rw [yeX xs k k (by omega) (by omega)] at c1;have c2:=hrow.cellAt (xs.length-1-k) (by omega);rw [yeX xs k (xs.length-1-k) (by omega) (by omega)] at c2;have f1:=hrow.frozenAt (off+k);have f2:=hrow.frozenAt (off+(xs.length-1-k));have s1:=hrow.set k (.int .i64 (xs.getD (xs.length-1-k) 0));have s2:=s1.1.set (xs.length-1-k) (.int .i64 (xs.getD k 0));rw [←yh5 xs k hlt] at s2;have S1:=Lib.hid s1.2;have S2:=Lib.hid s2;have c3:(wr.setCell ⟨b,off+k,none⟩ (.int .i64 (xs.getD (xs.length-1-k) 0))).cell? ⟨b,off+(xs.length-1-k),none⟩=some (.int .i64 (xs.getD (xs.length-1-k) 0)):=by
    rw [World.cell?_setCell_other,c2];intro e;simp at e;try omega
   clear s1 s2 hr;generalize xs.getD (xs.length-1-k) 0=p at *;generalize xs.getD k 0=q at *;have hidx:((xs.length:Int)-1-k).toNat=xs.length-1-k:=by omega
   go_wp2
   go_region
   go_wp2
   go_roundw
   case rel=>exact⟨k+1,by go_num,by congr 1;omega,by omega,S2.out.1.below (yeG _),((ht.trans S1.out).trans S2.out.2).trans (Turn.below (yeG _))⟩
   case measure=>simp [intOf];omega
  ·go_wp2
   refine⟨rfl,.tuple #[],by simp [results,Tryz.results142],⟨rfl,by rw [yii xs k (by omega)] at hrow;exact hrow,ht⟩⟩
end Go.Proofs.YtecmobjeeonmaaaGreatDoor
namespace Go.Proofs.YtecmobjeeonmaaaGreatDoor
open Go Go.RowKit
def y1w(p0:List Int):Option (List Int):=if p0.length≤1000000 then some p0.reverse else none
theorem yap{s:Sig}{p0:List Int}{t0:Nat}{a1:Option Addr}{c1:Nat}{r:List Int}(_zt0:0<t0)(h1:RowT (rK .i64) s t0 3 a1 c1 p0)(hm:y1w p0=some r):
  Calls Tryz.prog 142 #[.slice a1 p0.length c1] s.w (RetS (One t0) s fun v s'=>v= .tuple #[]∧RowT (rK .i64) s' t0 3 a1 c1 r):=by
 obtain⟨hl,rfl⟩:p0.length≤1000000∧p0.reverse=r:=by
  unfold y1w at hm;split at hm
  ·exact ⟨by assumption,Option.some.inj hm⟩
  ·cases hm
 obtain⟨cs,h2,h3⟩:=h1;have hc:=ybg h3;subst hc;refine(yeY _ p0 s.w 0 s.tag t0 h2 hl).mono ?_;rintro e w' ⟨rfl,hr,ht⟩;exact⟨_,⟨w',s.tag⟩,rfl,rfl,ht.mv,rfl,ints p0.reverse,by rw [List.length_reverse];exact hr,yde _⟩
end Go.Proofs.YtecmobjeeonmaaaGreatDoor
namespace Go.Proofs
open Go.Shelf
def Tryz.lays189_ren :Go.Shelf.Ren:=⟨fun|189=>206|125=>234|257=>236|128=>254|129=>255|294=>256|295=>257|296=>258|297=>259|298=>260|299=>261|216=>208|300=>262|301=>263|328=>278|329=>274|330=>275|331=>279|332=>280|215=>214|343=>300|n=>n,fun|28=>32|3=>3|46=>295|0=>0|51=>334|53=>336|4=>4|183=>328|182=>327|131=>170|5=>5|9=>9|218=>351|222=>355|228=>378|229=>58|n=>n,fun|n=>n⟩
theorem Tryz.lays189 :Go.Proofs.Lays.n189 Tryz.prog Tryz.lays189_ren:={
 mixed:=by kernel_rfl
 f125:=Tryz.func234.trans (congrArg some (by kernel_rfl))
 f128:=Tryz.func254.trans (congrArg some (by kernel_rfl))
 f129:=Tryz.func255.trans (congrArg some (by kernel_rfl))
 f189:=Tryz.func206.trans (congrArg some (by kernel_rfl))
 f215:=Tryz.func214.trans (congrArg some (by kernel_rfl))
 f216:=Tryz.func208.trans (congrArg some (by kernel_rfl))
 f257:=Tryz.func236.trans (congrArg some (by kernel_rfl))
 f294:=Tryz.func256.trans (congrArg some (by kernel_rfl))
 f295:=Tryz.func257.trans (congrArg some (by kernel_rfl))
 f296:=Tryz.func258.trans (congrArg some (by kernel_rfl))
 f297:=Tryz.func259.trans (congrArg some (by kernel_rfl))
 f298:=Tryz.func260.trans (congrArg some (by kernel_rfl))
 f299:=Tryz.func261.trans (congrArg some (by kernel_rfl))
 f300:=Tryz.func262.trans (congrArg some (by kernel_rfl))
 f301:=Tryz.func263.trans (congrArg some (by kernel_rfl))
 f328:=Tryz.func278.trans (congrArg some (by kernel_rfl))
 f329:=Tryz.func274.trans (congrArg some (by kernel_rfl))
 f330:=Tryz.func275.trans (congrArg some (by kernel_rfl))
 f331:=Tryz.func279.trans (congrArg some (by kernel_rfl))
 f332:=Tryz.func280.trans (congrArg some (by kernel_rfl))
 f343:=Tryz.func300.trans (congrArg some (by kernel_rfl))
 t0:=Tryz.underlying0
 a0:=Tryz.isAgg0
 z0:=Tryz.sizeOf0
 v0:=Tryz.zeroValue0
 t3:=Tryz.underlying3
 a3:=Tryz.isAgg3
 z3:=Tryz.sizeOf3
 v3:=Tryz.zeroValue3
 t4:=Tryz.underlying4
 a4:=Tryz.isAgg4
 z4:=Tryz.sizeOf4
 v4:=Tryz.zeroValue4
 t5:=Tryz.underlying5
 a5:=Tryz.isAgg5
 z5:=Tryz.sizeOf5
 v5:=Tryz.zeroValue5
 t9:=Tryz.underlying9
 a9:=Tryz.isAgg9
 z9:=Tryz.sizeOf9
 v9:=Tryz.zeroValue9
 t28:=Tryz.underlying32
 a28:=Tryz.isAgg32
 z28:=Tryz.sizeOf32
 v28:=Tryz.zeroValue32
 t46:=Tryz.underlying295
 a46:=Tryz.isAgg295
 z46:=Tryz.sizeOf295
 v46:=Tryz.zeroValue295
 t51:=Tryz.underlying334
 a51:=Tryz.isAgg334
 z51:=Tryz.sizeOf334
 v51:=Tryz.zeroValue334
 t53:=Tryz.underlying336
 a53:=Tryz.isAgg336
 z53:=Tryz.sizeOf336
 v53:=Tryz.zeroValue336
 t131:=Tryz.underlying170
 a131:=Tryz.isAgg170
 z131:=Tryz.sizeOf170
 v131:=Tryz.zeroValue170
 t182:=Tryz.underlying327
 a182:=Tryz.isAgg327
 z182:=Tryz.sizeOf327
 v182:=Tryz.zeroValue327
 t183:=Tryz.underlying328
 a183:=Tryz.isAgg328
 z183:=Tryz.sizeOf328
 v183:=Tryz.zeroValue328
 t218:=Tryz.underlying351
 a218:=Tryz.isAgg351
 z218:=Tryz.sizeOf351
 v218:=Tryz.zeroValue351
 t222:=Tryz.underlying355
 a222:=Tryz.isAgg355
 z222:=Tryz.sizeOf355
 v222:=Tryz.zeroValue355
 t228:=Tryz.underlying378
 a228:=Tryz.isAgg378
 z228:=Tryz.sizeOf378
 v228:=Tryz.zeroValue378
 t229:=Tryz.underlying58
 a229:=Tryz.isAgg58
 z229:=Tryz.sizeOf58
 v229:=Tryz.zeroValue58 }
open Go.RowKit Go.Sort Go.Lib in
theorem Tryz.slices_Sort_int(blk off cap:Nat)(zs:List Int)(w:World)(hH:Holds (Value.int .i64) w blk off zs.toArray)(hblk:blk<w.heap.size)(hsz:zs.length<4611686018427387904):
  Calls Tryz.prog 206 #[.slice (some ⟨blk,off,none⟩) zs.length cap] w fun e w'=>e= .returned (.tuple #[])∧∃n os,w'=grow (putRow (Value.int .i64) (Sort.ahead w n) blk off (zs.mergeSort fun x y=>decide (x≤y)).toArray) os:=Any.slices_Sort_int Tryz.lays189 blk off cap zs w hH hblk hsz
open Go.RowKit Go.Sort Go.Lib in
theorem Tryz.slices_Sort_int_none(p:Option Addr)(cap:Nat)(w:World):
  Calls Tryz.prog 206 #[.slice p 0 cap] w fun e w'=>e= .returned (.tuple #[])∧w'=w:=Any.slices_Sort_int_none Tryz.lays189 p cap w
end Go.Proofs
namespace Go.Proofs.YtecmobjeeonmaaaGreatDoor
open Go Go.RowKit Go.Sort
section
variable{α β:Type}{r:Rep α}{s:Sig}{t:Nat}{T:TypeId}{a:Option Addr}{cap:Nat}{xs ys:List α}
theorem yh6{enc:β→Value}[Inhabited β]{w:World}{b off n:Nat}{d:Array β}{os:Array Obj}{cur:Array Value}{fr:Nat×Nat}(h:w.heap[b]? =some (.cells cur T fr)):(grow (putRow enc (Sort.ahead w n) b off d) os).heap[b]? =some (.cells (putCells enc off d cur) T fr):=by
 have hb:b<w.heap.size:=(Array.getElem?_eq_some_iff.1 h).1;show((w.heap.modify b (onCells (putCells enc off d)))++os)[b]? =_;rw [Array.getElem?_append_left (by simpa using hb),Array.getElem?_modify,if_pos rfl,h];rfl
theorem yef{enc:β→Value}[Inhabited β]{w:World}{b b' off n:Nat}{d:Array β}{os:Array Obj}(hb:b'<w.heap.size)(hne:b'≠b):(grow (putRow enc (Sort.ahead w n) b off d) os).heap[b']? =w.heap[b']? :=by
 show((w.heap.modify b (onCells (putCells enc off d)))++os)[b']? =_;rw [Array.getElem?_append_left (by simpa using hb),Array.getElem?_modify,if_neg (Ne.symm hne)]
theorem RowAt.put{b off:Nat}{cur:Array Value}{vs:List Value}(h:RowAt r s t T b off cap cur vs xs)(h1:r.sz=1)(ht:0<t){enc:β→Value}[Inhabited β]{d:Array β}(hd:d.size=xs.length)(hy:ys.length=xs.length)(hr:∀j,j<d.size→∀h2:j<ys.length,r.rd s [enc d[j]!] ys[j]){w':World}(hw:∃n os,w'=grow (putRow enc (Sort.ahead s.w n) b off d) os):
  ∃s',w'=s'.w∧Mv (One t) s s'∧RowT r s' t T (some ⟨b,off,none⟩) cap ys:=by
 obtain⟨n,os,rfl⟩:=hw;have hb:b<s.w.heap.size:=(Array.getElem?_eq_some_iff.1 h.heap).1;refine⟨⟨_,fun b=>if b<s.w.heap.size then s.tag b else 0⟩,rfl,⟨rfl,rfl,rfl,?_,fun b' hb' hn=>⟨yef hb' fun e=>hn (by rw [e];exact h.tag),if_pos hb'⟩⟩,?_⟩
 ·show _≤((s.w.heap.modify b _)++os).size;simp
 ·have hm:Mv (One t) s ⟨grow (putRow enc (Sort.ahead s.w n) b off d) os,fun b=>if b<s.w.heap.size then s.tag b else 0⟩:=⟨rfl,rfl,rfl,(by show _≤((s.w.heap.modify b _)++os).size;simp),fun b' hb' hn=>⟨yef hb' fun e=>hn (by rw [e];exact h.tag),if_pos hb'⟩⟩;have hle:=hm.le (by show ¬0=t;omega);have hcap:=h.cap;have hcs:((putCells enc off d cur).toList.drop off).take (ys.length*1)=(d.toList.map enc):=by
   rw [Nat.mul_one];apply List.ext_getElem?;intro j;rw [List.getElem?_take,List.getElem?_drop,List.getElem?_map];by_cases hj:j<ys.length
   ·rw [if_pos hj,Array.getElem?_toList,putCells,Array.getElem?_mapIdx,Array.getElem?_eq_getElem (by omega),Option.map_some,if_pos ⟨by omega,by omega⟩,Nat.add_sub_cancel_left,Array.getElem?_toList,Array.getElem?_eq_getElem (by omega),Option.map_some,getElem!_pos _ _ (by omega)]
   ·rw [if_neg hj,Array.getElem?_toList,Array.getElem?_eq_none (by omega)];rfl
  refine⟨d.toList.map enc,⟨by rw [h1,Nat.mul_one,List.length_map,Array.length_toList];omega,.inr ⟨b,off,cap,putCells enc off d cur,rfl,⟨yh6 h.heap,?_,yZl _⟩,by omega,hcap.2.1,?_,by rw [h1];exact hcs⟩⟩,Cells.of h1 (by simp;omega) fun j hj hj2=>?_⟩
  ·show (if b<s.w.heap.size then s.tag b else 0)=t;rw [if_pos hb];exact h.tag
  ·rw [h1,Nat.mul_one,putCells,Array.size_mapIdx];exact hcap.2.2
  ·have hjd:j<d.size:=by simpa using hj
   have:=hr j hjd hj2;rw [getElem!_pos d j hjd] at this;rw [List.getElem_map,Array.getElem_toList];exact r.mono hle this
theorem RowAt.holds{b off:Nat}{cur:Array Value}{vs:List Value}(h:RowAt r s t T b off cap cur vs xs){enc:β→Value}[Inhabited β]{d:Array β}(hd:d.size=vs.length)(he:∀j (h:j<vs.length),enc d[j]! =vs[j]):Holds enc s.w b off d:=fun j hj=>by
 have hc:=h.cell j (by omega);refine⟨?_,?_⟩
 ·unfold World.cell?;rw [h.heap];show cur[off+j]? =_;rw [hc,he j (by omega)]
 ·unfold World.frozen?;rw [h.heap];show(decide (0≤off+j)&&decide (off+j<0))=false;simp
end
def isI(x:Int):List Int→List Int
 | []=> [x]
 | y::l=>if x≤y then x::y::l else y::isI x l
def isL :List Int→List Int
 | []=> []
 | x::l=>isI x (isL l)
theorem ycS(x:Int):∀l:List Int,(isI x l).Perm (x::l)
 | []=> .refl _
 | y::l=>by
  unfold isI;split
  ·exact .refl _
  ·exact ((ycS x l).cons y).trans (.swap x y l)
theorem y6T :∀l:List Int,(isL l).Perm l
 | []=> .refl _
 | x::l=>(ycS x _).trans ((y6T l).cons x)
theorem yh7(x:Int):∀{l:List Int},l.Pairwise (· ≤ ·)→(isI x l).Pairwise (· ≤ ·)
 | [],_=>by simp [isI]
 | y::l,h=>by
  obtain⟨h1,h2⟩:=List.pairwise_cons.1 h;unfold isI;split
  ·rename_i hxy;refine List.pairwise_cons.2 ⟨fun z hz=>?_,h⟩;rcases List.mem_cons.1 hz with rfl|hz
   ·exact hxy
   ·exact Int.le_trans hxy (h1 z hz)
  ·rename_i hxy;refine List.pairwise_cons.2 ⟨fun z hz=>?_,yh7 x h2⟩;rcases List.mem_cons.1 ((ycS x l).mem_iff.1 hz) with rfl|hz
   ·omega
   ·exact h1 z hz
theorem ydg :∀l:List Int,(isL l).Pairwise (· ≤ ·)
 | []=> .nil
 | x::l=>yh7 x (ydg l)
theorem ykb(l:List Int):isL l=l.mergeSort fun x y=>decide (x≤y):=by
 refine List.Perm.eq_of_pairwise (le:=(· ≤ ·)) (fun a b _ _ h1 h2=>Int.le_antisymm h1 h2) (ydg l) ?_ ((y6T l).trans (List.mergeSort_perm l _).symm);exact(List.pairwise_mergeSort (le:=fun x y:Int=>decide (x≤y)) (fun a b c h1 h2=>by simp at *;omega) (fun a b=>by simp;omega) l).imp fun h=>by simpa using h
def y2w(p0:List Int):Option (List Int):=if p0.length≤4294967296 then some (isL p0) else none
theorem y8M{s:Sig}{p0:List Int}{t0:Nat}{a1:Option Addr}{c1:Nat}{r:List Int}(zt0:0<t0)(h1:RowT (rK .i64) s t0 3 a1 c1 p0)(hm:y2w p0=some r):
  Calls Tryz.prog 206 #[.slice a1 p0.length c1] s.w (RetS (One t0) s fun v s'=>v= .tuple #[]∧RowT (rK .i64) s' t0 3 a1 c1 r):=by
 obtain⟨hl,rfl⟩:p0.length≤4294967296∧p0.mergeSort (fun x y=>decide (x≤y))=r:=by
  unfold y2w at hm;rw [ykb] at hm;split at hm
  ·exact ⟨by assumption,Option.some.inj hm⟩
  ·cases hm
 rcases h1.seen rfl with ⟨rfl,rfl,rfl⟩|⟨b,off,cur,vs,rfl,h⟩
 ·refine (Tryz.slices_Sort_int_none none 0 s.w).mono ?_;rintro e w' ⟨rfl,rfl⟩;exact⟨_,s,rfl,rfl,Mv.refl _ _,rfl,by simpa using RowT.nil⟩
 ·have hv:∀j (h2:j<vs.length) (h3:j<p0.length),vs[j]= .int .i64 p0[j]:=fun j h2 h3=>by
   have:=h.rd j h2 h3;exact List.head_eq_of_cons_eq this
  have hlen:=h.len;have hb:b<s.w.heap.size:=(Array.getElem?_eq_some_iff.1 h.heap).1;refine(Tryz.slices_Sort_int b off c1 p0 s.w (h.holds (by simp [hlen]) fun j hj=>?_) hb (by omega)).mono ?_
  ·rw [hv j hj (by omega),getElem!_pos _ _ (by simp;omega)];simp
  ·rintro e w' ⟨rfl,hw⟩;obtain⟨s',hw',hm,hr⟩:=h.put rfl zt0 (ys:=p0.mergeSort fun x y=>decide (x≤y)) (by simp) (by simp) (fun j hj h2=>by
    have e:=getElem!_pos (p0.mergeSort fun x y=>decide (x≤y)).toArray j hj;rw [e];show [_]= [_];simp) hw
   exact⟨_,s',hw',rfl,hm,rfl,hr⟩
end Go.Proofs.YtecmobjeeonmaaaGreatDoor
namespace Go.Proofs.YtecmobjeeonmaaaGreatDoor
open Go.RowKit Go.Shelf
def mark(D:Nat):Deferred:={ target:= .collected D,args:= #[] }
def Marks(B:Nat)(w:World)(ds:List Deferred):Prop:=∃Ds:List Nat,ds=Ds.map mark∧Ds.Nodup∧∀D∈Ds,B≤D∧w.heap[D]? =some (.deferred (some []))
structure Quiet (B:Nat) (w w':World):Prop where
 below:Below B w w'
 cells:∀(b:Nat) (cs:Array Value) (t:TypeId) (fr:Nat×Nat),w.heap[b]? =some (Obj.cells cs t fr)→w'.heap[b]? =some (Obj.cells cs t fr)
theorem Quiet.trans{B:Nat}{a b c:World}(h:Quiet B a b)(k:Quiet B b c):Quiet B a c:=⟨h.below.trans k.below,fun b cs t fr hb=>k.cells b cs t fr (h.cells b cs t fr hb)⟩
theorem Marks.turn{B B':Nat}{w w':World}{tag tag':Nat→Nat}{k:Nat}{ds:List Deferred}(h:Marks B w ds)(ht:Turn B' tag tag' k w w'):Marks B w' ds:=by
 obtain⟨Ds,h1,h2,h3⟩:=h;exact⟨Ds,h1,h2,fun D hD=>⟨(h3 D hD).1,ht.keep _ _ (h3 D hD).2 rfl⟩⟩
theorem Marks.below{B:Nat}{w w':World}{ds:List Deferred}(h:Marks B w ds)(hb:Below w.heap.size w w'):Marks B w' ds:=
 h.turn (Turn.below (B:=0) (tag:=fun _=>0) (k:=0) hb)
theorem ydH{P:Program}{f:FuncId}{fn:Func}{c:Code}{args:Array Value}{w:World}{R:Ending→World→Prop}(hf:P.funcs[f]? =some fn)(hb:fn.body=some c)
  (h:c.wp P (bodyPostM Fence.wide 4 P fn R) { tmps:=args++Array.replicate (fn.ntmps-args.size) undef,defers:=[] } w):Calls P f args w R:=
 (callsIn_wide (n:=4)).1 (callsIn_of_wp_marks hf hb trivial (wpIn_wide.2 h) rfl)
end Go.Proofs.YtecmobjeeonmaaaGreatDoor
namespace Go.Proofs.YtecmobjeeonmaaaGreatDoor
open Go Go.RowKit
noncomputable section
variable{s':Sig}{N D:Nat}{Φ:Fr}{ds:List Deferred}{a1:Option Addr}
def Yd(P:Program)(l N:Nat)(enc:Nat→List Value)(J:Nat→Sig→Prop):Prop:=
 ∀k,k<N→∀s,J k s→YieldAt Fence.wide 2 P l (enc k).toArray s.w fun e W'=>e= .returned (.bool true)∧∃s',W'=s'.w∧Le s s'∧J (k+1) s'
def FI(P:Program)(s:Sig)(v:Value)(N:Nat)(enc:Nat→List Value):Prop:=
 ∃gf lb,v= .func (.func gf) #[] lb∧Cf P gf∧∀(l:Nat) (J:Nat→Sig→Prop) (s1:Sig),Le s s1→(∀k a b,J k a→Mv No a b→J k b)→Yd P l N enc J→J 0 s1→
  Calls P gf (#[.func (.yield l) #[] #[]]++lb) s1.w fun e W'=>(∃v,e= .returned v)∧∃s2,W'=s2.w∧J N s2
theorem FI.mono{P:Program}{s:Sig}{v:Value}{enc:Nat→List Value}(h:FI P s v N enc)(m:Le s s'):FI P s' v N enc:=by
 obtain⟨gf,lb,e,hc,h⟩:=h;exact⟨gf,lb,e,hc,fun l J s1 h1 h2 h3 h4=>h l J s1 (m.trans h1) h2 h3 h4⟩
def Lf(s0 s:Sig):Prop:=Le s0 s
theorem Lf.mono{s0 s:Sig}(h:Lf s0 s)(m:Le s s'):Lf s0 s':=Le.trans h m
structure Rc (s:Sig) (t u D:Nat) (r:Loop):Prop where
 lp:s.w.heap[D+1]? =some (.loop r)
 mark:s.w.heap[D]? =some (.deferred (some []))
 tr:s.tag (D+1)=t
 tm:s.tag D=u
theorem Rc.mv{S:Nat→Prop}{s:Sig}{t u:Nat}{r:Loop}(h:Rc s t u D r)(m:Mv S s s')(hn:¬S t)(hu:¬S u):Rc s' t u D r:=by
 obtain⟨g1,g2⟩:=m.blk (D+1) (Array.getElem?_eq_some_iff.1 h.lp).1 (by rw [h.tr];exact hn);obtain⟨g3,g4⟩:=m.blk D (Array.getElem?_eq_some_iff.1 h.mark).1 (by rw [h.tm];exact hu);exact⟨g1.trans h.lp,g3.trans h.mark,g2.trans h.tr,g4.trans h.tm⟩
structure Mk (s:Sig) (t D:Nat):Prop where
 mark:s.w.heap[D]? =some (.deferred (some []))
 tm:s.tag D=t
theorem Rc.put{s:Sig}{t u:Nat}{r:Loop}(h:Rc s t u D r)(r':Loop):Mv (One t) s ⟨s.w.putObj (D+1) (.loop r'),s.tag⟩∧Rc ⟨s.w.putObj (D+1) (.loop r'),s.tag⟩ t u D r':=by
 have hl:=(Array.getElem?_eq_some_iff.1 h.lp).1;refine⟨⟨rfl,rfl,rfl,by simp [World.putObj],fun b hb hn=>⟨World.putObj_heap_other fun e=>hn ?_,rfl⟩⟩,⟨World.putObj_heap_same hl,(World.putObj_heap_other (by omega)).trans h.mark,h.tr,h.tm⟩⟩;subst e;exact h.tr
def Env.zp :List Nat→List Value→List (Nat×Value)→List (Nat×Value)
 | p::ps,v::vs,e=>Env.zp ps vs ((p,v)::e)
 | _,_,e=>e
theorem Fits.zp{n:Nat}:∀{ps:List Nat} {vs:List Value} {e:List (Nat×Value)} {a:Act},(∀p∈ps,p<n)→Fits Φ n e a→
  Fits Φ n (Env.zp ps vs e) { a with tmps:=(ps.zip vs).foldl (fun t (p,v)=>t.setIfInBounds p v) a.tmps }
 | [],_,_,_,_,h=>by simpa [Env.zp] using h
 | _::_,[],_,_,_,h=>by simpa [Env.zp] using h
 | p::ps,v::vs,e,a,hp,h=>by
  have:=Fits.zp (ps:=ps) (vs:=vs) (fun q hq=>hp q (List.mem_cons_of_mem _ hq)) (h.put (d:=p) (by simpa using hp p (List.mem_cons_self ..)) v);simpa [Env.zp,Act.put] using this
def RQ(K:Sig→Prop):Exit→Act→World→Prop
 | .normal,_,W=>∃c:Sig,W=c.w∧K c
 | _,_,_=>False
def RB(Φ:Fr)(P:Program)(l:Nat)(body:Code)(K:Sig→Prop)(a:Act)(w:World):Prop:=∃w₂,(Instr.beginRound l).run P w= .ok () w₂∧body.wpIn Φ.f 2 P (RQ K) a w₂
theorem X.beg{P:Program}{n t u:Nat}{r:Loop}{body:Code}{K:Sig→Prop}{e:List (Nat×Value)}{s:Sig}(h:Rc s t u D r)(hr:r.state= .ready)
  (hb:∀s',Mv (One t) s s'→Rc s' t u D { r with state:= .busy }→E Φ P (RQ K) n body e s'.w):X Φ (Exit.then (RB Φ P (D+1) body K) (fun _ _ _=>False)) n .normal e s.w:=fun a ha=>
 ⟨_,run_beginRound h.lp hr,hb _ (h.put _).1 (h.put _).2 a ha⟩
theorem X.rnd{n:Nat}{K:Sig→Prop}{e:List (Nat×Value)}{s:Sig}(h:K s):X Φ (RQ K) n .normal e s.w:=fun _ _=>⟨s,rfl,h⟩
theorem E.range{ds:List Deferred}{P:Program}{Q:Exit→Act→World→Prop}{n:Nat}{e:List (Nat×Value)}{s:Sig}{g:Operand}{ps:Array Tmp}{assign body:Code}{v:Value}{enc:Nat→List Value}(t u:Nat)(ht:t≠0)(htu:t≠u)
  (J:Nat→Sig→Prop) (hg:Env.ev e g=some v) (hit:FI P s v N enc) (hps:∀k,(enc k).length=ps.size) (hpn:∀p∈ps.toList,p<n) (h0:J 0 s)
  (hbody:∀(k D:Nat) (r:Loop) (a b:Sig),k<N→J k a→Mv (One t) a b→Rc b t u D r→r.state= .ready→
   E ⟨some (D+1),[]⟩ P (Exit.then (RB ⟨some (D+1),[]⟩ P (D+1) body (fun c=>J (k+1) c∧Rc c t u D { r with state:= .busy }∧Le b c)) (fun _ _ _=>False)) n assign (Env.zp ps.toList (enc k) e) b.w)
  (hend:∀(D:Nat) (a b:Sig),s.w.heap.size≤D→J N a→Mv (One t) a b→Mk b u D→X ⟨none,mark D::ds⟩ Q n .normal e b.w):E ⟨none,ds⟩ P Q n (.rangeFunc g ps assign body) e s.w:=by
 obtain⟨gf,lb,rfl,hcf,hit⟩:=hit;intro ac ha;refine wpIn_rangeFunc ?_;intro fn _;obtain⟨r0,hr0⟩:∃r0:Loop,r0= { state:= .ready,pending:=none,fn,tmps:=ac.tmps,params:=ps,assign,body,defers:=s.w.heap.size }:=⟨_,rfl⟩;obtain⟨W1,hW1⟩:∃W1,(s.w.alloc (.deferred (some []))).alloc (.loop r0)=W1:=⟨_,rfl⟩;have hsz:(s.w.alloc (.deferred (some []))).heap.size=s.w.heap.size+1:=World.size_alloc _ _;have hL1:W1.heap[s.w.heap.size+1]? =some (.loop r0):=by
  rw [←hW1];have:=World.alloc_heap_new (s.w.alloc (.deferred (some []))) (.loop r0);rwa [World.size_alloc] at this
 have hK1:W1.heap[s.w.heap.size]? =some (.deferred (some [])):=by
  rw [←hW1];exact(Below.heap_alloc _ _ _ (by simp)).trans (World.alloc_heap_new s.w _)
 have hb1:Below s.w.heap.size s.w W1:=by
  rw [←hW1];exact((Below.refl _ s.w).alloc (Nat.le_refl _) _).alloc (by simp) _
 obtain⟨tg,htg⟩:∃tg:Nat→Nat,tg=fun b=>if b<s.w.heap.size then s.tag b else if b=s.w.heap.size then u else t:=⟨_,rfl⟩
 have hm1:Mv No s ⟨W1,tg⟩:=Below.mv hb1 fun b hb=>by rw [htg];exact if_pos hb
 have hRc1:Rc ⟨W1,tg⟩ t u s.w.heap.size r0:=⟨hL1,hK1,by rw [htg];exact(if_neg (by omega)).trans (if_neg (by omega)),by rw [htg];exact(if_neg (by omega)).trans (if_pos rfl)⟩;have hev:ac.eval g= .func (.func gf) #[] lb:=ha.ev hg;refine⟨s.w.heap.size+1,[{ target:= .collected s.w.heap.size,args:= #[] }],W1,{ target:= .fn (.func gf) lb,args:= #[.func (.yield (s.w.heap.size+1)) #[] #[]] },W1,gf,
  #[.func (.yield (s.w.heap.size+1)) #[] #[]]++lb,W1,?_,?_,?_,?_,fun e=>(by cases e),?_⟩
 ·rw [←hW1,hr0];exact run_enterLoop_outer _ _ _ _ _
 ·simp only [resolve,hev];simp [go_sem]
 ·intro f' _;trivial
 ·have:=hcf (#[.func (.yield (s.w.heap.size+1)) #[] #[]]++lb) W1;simp [invoke,go_sem] at this ⊢;exact this
 ·obtain ⟨J',hJ'⟩:∃J':Nat→Sig→Prop,J'=fun k b=>(∃a,J k a∧Mv (One t) a b)∧Rc b t u s.w.heap.size r0:=⟨_,rfl⟩;have h:=hit (s.w.heap.size+1) J' ⟨W1,tg⟩ (hm1.le no_No) (by
   intro k a b hk hm;rw [hJ'] at hk ⊢;obtain⟨⟨a0,h1,h2⟩,h3⟩:=hk;exact⟨⟨a0,h1,h2.trans hm.no⟩,h3.mv hm no_No no_No⟩) (by
   intro k hkN a hk;rw [hJ'] at hk ⊢;obtain⟨⟨a0,h1,h2⟩,h3⟩:=hk;have hy:=run_yield (P:=P) (args:=(enc k).toArray) h3.lp (by rw [hr0];simpa using hps k);rw [hr0] at hy;refine⟨fn,_,assign,body,hy,roundIn_of_wpIn trivial ?_⟩;have hf0:Fits ⟨some (s.w.heap.size+1),[]⟩ n e { tmps:=ac.tmps,defers:=[] }:=⟨ha.size,rfl,ha.has⟩;have hf:=hf0.zp (ps:=ps.toList) (vs:=enc k) hpn;have hfold:(Array.zip ps (enc k).toArray).foldl (fun t (x:Tmp×Value)=>t.setIfInBounds x.1 x.2) ac.tmps=(ps.toList.zip (enc k)).foldl (fun t (x:Nat×Value)=>t.setIfInBounds x.1 x.2) ac.tmps:=by
    rw [←Array.foldl_toList,Array.toList_zip]
   have hb:=hbody k s.w.heap.size r0 a0 a hkN h1 h2 h3 (by rw [hr0]) _ hf;rw [←hfold] at hb;refine wpIn_mono hb fun ex a1 w1 hq=>?_;cases ex <;> first | exact hq|skip;obtain⟨w2,hq1,hq2⟩:=hq;refine⟨w2,hq1,wpIn_mono hq2 fun ex a3 w3 hq=>?_⟩;cases ex <;> first | exact hq.elim|skip;obtain⟨c,rfl,hJc,hRc,hle⟩:=hq;obtain⟨g1,g2⟩:=hRc.put r0;have hend:=run_endRound (P:=P) none hRc.lp;refine⟨_,_,hend,rfl,⟨c.w.putObj (s.w.heap.size+1) (.loop r0),c.tag⟩,?_,hle.trans (g1.le (Ne.symm ht)),⟨c,hJc,g1⟩,g2⟩;rw [hr0];rfl) (by
   rw [hJ'];exact⟨⟨s,h0,hm1.no⟩,hRc1⟩)
  refine(callsIn_wide (n:=1)).2 (h.mono ?_);rintro en W2 ⟨⟨vv,rfl⟩,s2,rfl,h5⟩;rw [hJ'] at h5;obtain⟨⟨a0,h1,h2⟩,h3⟩:=h5;obtain⟨g1,g2⟩:=h3.put { r0 with state:= .exhausted,pending:=none };have hen:=run_endLoop (P:=P) h3.lp (by rw [hr0];simp);rw [show r0.pending=none by rw [hr0]] at hen;refine⟨none,_,hen,?_⟩;refine hend s.w.heap.size a0 _ (Nat.le_refl _) h1 (h2.trans g1) ⟨g2.mark,g2.tm⟩ _ ?_;exact⟨ha.size,by rw [←show ac.defers=ds from ha.defers];rfl,ha.has⟩
theorem L.opIn{P:Program}{Q:Exit→Act→World→Prop}{n:Nat}{e:List (Nat×Value)}{w:World}{ops:Array Oper}{os:List Oper}{o:Oper}(hw:Wt ops e o.guard)(h:∀a,Fits Φ n e a→∀K:Act→World→Prop,(∀e' a' w',Fits Φ n e' a'→L Φ P Q n ops os e' w'→K a' w')→o.wpIn Φ.f 2 P a w K Q):L Φ P Q n ops (o::os) e w:=fun is his a ha=>by
 cases is with
 | nil=>cases his
 | cons i rest=>
  simp only [List.map_cons,List.cons.injEq] at his;obtain⟨h1,h2⟩:=his;simp only [wpOpsIn,h1];rw [if_pos (Wt.wanted ha hw)];exact h a ha _ fun e' a' w' hf hl=>hl rest h2 a' hf
theorem L.yd{P:Program}{Q:Exit→Act→World→Prop}{n:Nat}{e:List (Nat×Value)}{s:Sig}{ops:Array Oper}{os:List Oper}{d:Nat}{ty:TypeId}{pos:String}{af:Array Edge}{g:Option (Nat×Bool)}{c:Call}{x:Operand}{xs:List Operand}{l k:Nat}{enc:Nat→List Value}{J:Nat→Sig→Prop}
  (hY:Yd P l N enc J) (hk:k<N) (hJ:J k s) (hc:c.callee= .value x) (hca:c.args=xs.toArray) (hw:Wt ops e g) (hx:Env.ev e x=some (.func (.yield l) #[] #[])) (hxs:Env.evs e xs=some (enc k)) (hd:Nat.blt d n=true)
  (h:∀s',Le s s'→J (k+1) s'→L Fr.o P Q n ops os ((d,.bool true)::e) s'.w):L Fr.o P Q n ops (⟨some d,.call c,ty,pos,af,g⟩::os) e s.w:=
 L.opIn hw fun ac ha K hK=>by
  obtain⟨fn,tmps,assign,body,hy,hR⟩:=hY k hk s hJ;refine⟨fun _ _=>trivial,?_⟩;have h2:c.args.map ac.eval=(enc k).toArray:=by rw [hca,List.map_toArray,ha.evs hxs]
  have h3:ac.eval x= .func (.yield l) #[] #[]:=ha.ev hx;have hrun:(Oper.semAt Fr.o.f.round ac.eval ⟨some d,.call c,ty,pos,af,g⟩).run P s.w= .ok (.round l fn tmps assign body) s.w:=by
   show(execOp ac.eval ⟨some d,.call c,ty,pos,af,g⟩).run P s.w=_;simp [execOp,resolve,hc,h2,h3,Deferred.ofValue,invoke,hy]
  rw [hrun];refine⟨fun e=>(by cases e),?_⟩;have hR1:RoundIn Fr.o.f (2-1) P l fn tmps assign body s.w fun e W'=>e= .returned (.bool true)∧∃s',W'=s'.w∧Le s s'∧J (k+1) s':=⟨trivial,fun c cs hr=>hR.2 c cs (fun d hd=>by cases hd)⟩;refine hR1.mono ?_;rintro en W' ⟨rfl,s',rfl,hle,hJ'⟩;exact hK _ _ _ (ha.put hd (.bool true)) (h s' hle hJ')
def rngF{S:Type}(f:Nat→S→Option S):Nat→Nat→S→Option S
 | 0,_,s=>some s
 | m+1,k,s=>(f k s).bind (rngF f m (k+1))
theorem yij{S:Type}{f:Nat→S→Option S}{k:Nat}{s o:S}(hk:k<N)(h:rngF f (N-k) k s=some o):∃s',f k s=some s'∧rngF f (N-(k+1)) (k+1) s'=some o:=by
 rw [show N-k=(N-(k+1))+1 by omega,rngF] at h;exact Option.bind_eq_some_iff.1 h
theorem yju{S:Type}{f:Nat→S→Option S}{s o:S}(h:rngF f (N-N) N s=some o):s=o:=by
 rw [Nat.sub_self,rngF] at h;exact Option.some.inj h
def Mks(s:Sig)(t:Nat)(ds:List Deferred):Prop:=∃Ds:List Nat,ds=Ds.map mark∧Ds.Nodup∧∀D∈Ds,s.w.heap[D]? =some (.deferred (some []))∧s.tag D=t
theorem Mks.nil{s:Sig}{t:Nat}:Mks s t []:=⟨[],rfl,List.nodup_nil,fun _ h=>by cases h⟩
theorem Mks.mv{S:Nat→Prop}{s:Sig}{t:Nat}(h:Mks s t ds)(m:Mv S s s')(hn:¬S t):Mks s' t ds:=by
 obtain⟨Ds,h1,h2,h3⟩:=h;refine⟨Ds,h1,h2,fun D hD=>?_⟩;obtain⟨g1,g2⟩:=h3 D hD;obtain⟨g3,g4⟩:=m.blk D (Array.getElem?_eq_some_iff.1 g1).1 (by rw [g2];exact hn);exact⟨g3.trans g1,g4.trans g2⟩
theorem Mks.old{s:Sig}{t:Nat}(h:Mks s t ds):∀D,mark D∈ds→D<s.w.heap.size:=by
 obtain⟨Ds,rfl,_,h3⟩:=h;intro D hD;obtain⟨D',h4,h5⟩:=List.mem_map.1 hD;cases h5;exact(Array.getElem?_eq_some_iff.1 (h3 _ h4).1).1
theorem Mks.cons{s:Sig}{t:Nat}(h:Mks s t ds)(ho:∀D,mark D∈ds→D<N)(hD:N≤D)(hk:Mk s t D):Mks s t (mark D::ds):=by
 obtain⟨Ds,rfl,h2,h3⟩:=h;refine⟨D::Ds,rfl,List.nodup_cons.2 ⟨fun hm=>?_,h2⟩,fun D' hD'=>?_⟩
 ·have:=ho D (List.mem_map.2 ⟨D,hm,rfl⟩);omega
 ·rcases List.mem_cons.1 hD' with rfl|h4
  ·exact ⟨hk.mark,hk.tm⟩
  ·exact h3 D' h4
theorem yfI{F:Fence}{n:Nat}{P:Program}{fn:Func}{tmps:Array Value}{R:Ending→World→Prop}{t:Nat}:∀(Ds:List Nat) (s:Sig),Ds.Nodup→(∀D∈Ds,s.w.heap[D]? =some (.deferred (some []))∧s.tag D=t)→
  (∀s',Mv (One t) s s'→∃v,(results fn tmps).run P s'.w= .ok v s'.w∧R (.returned v) s'.w)→LeavesInM F n P fn tmps R (Ds.map mark) .returning s.w
 | [],s,_,_,hfin=>hfin s (Mv.refl _ _)
 | D::Ds,s,hnd,hD,hfin=>by
  obtain⟨hd,ht⟩:=hD D (List.mem_cons_self ..);have hm:Mv (One t) s ⟨s.w.putObj D (.deferred none),s.tag⟩:=by
   refine⟨rfl,rfl,rfl,by simp [World.putObj],fun b hb hn=>⟨World.putObj_heap_other fun e=>hn ?_,rfl⟩⟩;subst e;exact ht
  refine⟨by simp,.inl ⟨D,_,rfl,run_takeDeferred hd,yfI Ds ⟨s.w.putObj D (.deferred none),s.tag⟩ (List.nodup_cons.1 hnd).2 (fun D' hD'=>⟨?_,(hD D' (List.mem_cons_of_mem _ hD')).2⟩) fun s' hs'=>hfin s' (hm.trans hs')⟩⟩;show(s.w.putObj D (.deferred none)).heap[D']? =_;rw [World.putObj_heap_other ?_]
  ·exact (hD D' (List.mem_cons_of_mem _ hD')).1
  ·rintro rfl;exact(List.nodup_cons.1 hnd).1 hD'
theorem X.lv{P:Program}{fn:Func}{R:Ending→World→Prop}{n t:Nat}{e:List (Nat×Value)}{s:Sig}{x:Exit}(hx:x= .ret∨x= .normal)(hk:Mks s t ds)(h:∀s',Mv (One t) s s'→X Fr.o (bodyPost P fn R) n x e s'.w):
  X ⟨none,ds⟩ (bodyPostM Fence.wide 4 P fn R) n x e s.w:=fun a ha=>by
 obtain⟨Ds,rfl,h2,h3⟩:=hk;have hl:LeavesInM Fence.wide 4 P fn a.tmps R (Ds.map mark) .returning s.w:=yfI Ds s h2 h3 fun s' hs'=>by
  have:=h s' hs' { a with defers:=[] } ⟨ha.size,rfl,ha.has⟩;rcases hx with rfl|rfl
  ·exact this.2
  ·exact this.2
 obtain⟨tmps,dd⟩:=a;obtain rfl:dd=Ds.map mark:=ha.defers;rcases hx with rfl|rfl
 ·exact hl
 ·exact hl
theorem E.entryM{P:Program}{f:FuncId}{fn:Func}{c:Code}{vs:List Value}{w:World}{R:Ending→World→Prop}{n:Nat}{e:List (Nat×Value)}(hf:P.funcs[f]? =some fn)(hb:fn.body=some c)(hn:fn.ntmps=n)(hv:Nat.ble vs.length n=true)(he:Env.ofArgs 0 vs=e)
  (h:E Fr.o P (bodyPostM Fence.wide 4 P fn R) n c e w):Calls P f vs.toArray w R:=by
 subst hn;subst he;have hv':vs.length≤fn.ntmps:=Nat.le_of_ble_eq_true hv;refine ydH hf hb ((wpIn_wide (n:=2)).1 (h _ ⟨by simp;omega,rfl,fun d v hg=>?_⟩));obtain⟨_,h2⟩:=Env.get_ofArgs hg;have hl:=(List.getElem?_eq_some_iff.1 h2).1;rw [Nat.sub_zero] at h2 hl;rw [Array.getElem?_append_left (by simpa using hl)];simpa using h2
theorem vlNi :NAg Tryz.prog 32:=NAg.mk' Tryz.underlying32 rfl (by kernel_rfl)
theorem vlNn :NAg Tryz.prog 3:=NAg.mk' Tryz.underlying3 rfl (by kernel_rfl)
theorem vlSi :Sl Tryz.prog 32 3 1:=Sl.mk' Tryz.underlying32 (by kernel_rfl)
theorem vlCf :Cf Tryz.prog 207:=Cf.mk Tryz.func207 (by kernel_rfl) (by kernel_rfl)
def y4P(p0:List Int):Option (List Int):=if p0.length≤4294967296 then some p0 else none
theorem ygn{s:Sig}{q0:List Int}{c1:Nat}{b2:Nat}(h1:RdL (rK .i64) s a1 c1 q0)(bx2:Bx s 0 b2 #[.slice a1 q0.length c1] 32)(hlen:q0.length≤4294967296):
    FI Tryz.prog s (.func (.func 207) #[] #[.pointer (some ⟨b2,0,none⟩)]) q0.length (fun k=>encI (q0.getD k 0)):=by
 refine⟨207,#[.pointer (some ⟨b2,0,none⟩)],rfl,vlCf,fun l J s1 hle hcl hY h0=>?_⟩;replace h1:=h1.mono hle;replace bx2:=bx2.le hle;have hW:∀i:Nat,i<4294967296→W ((i:Int)+1)=((i+1:Nat):Int):=fun i hi=>by rw [show W ((i:Int)+1)=(i:Int)+1 from IntWalk.i64_in _ (by omega)];rfl
 obtain⟨f,hf⟩:∃f:Int→Option (Int⊕Unit),f=fun i=>if decide (i<(q0.length:Int)) then some (.inl (W (i+1))) else some (.inr ()):=⟨_,rfl⟩
 have hit:iter f 0=some ():=by
  refine y2Q (fun i=>(i:Int)) q0.length (by omega) (fun i hi=>?_) ?_
  · rw [hf];show(if decide ((i:Int)<(q0.length:Int)) then some (Sum.inl (W ((i:Int)+1))) else some (Sum.inr ()))=some (Sum.inl (((i+1:Nat):Int)));rw [if_pos (by simpa using hi),hW i (by omega)]
  · rw [hf];show(if decide ((q0.length:Int)<(q0.length:Int)) then some (Sum.inl (W ((q0.length:Int)+1))) else some (Sum.inr ()))=some (Sum.inr ());rw [if_neg (by simp)]
 refine E.entry (vs:=[.func (.yield l) #[] #[],.pointer (some ⟨b2,0,none⟩)]) Tryz.func207 rfl Tryz.ntmps207 rfl rfl (E.seq (E.reg (L.ld (j:=0) bx2.mem vlNi Wt.no rfl rfl rfl rfl (L.len vlSi Wt.no rfl rfl (L.mv Wt.no rfl rfl (L.nil (X.seqN (E.block ?_))))))));refine E.cut (x:= .exit 0) (fun e w=>∃(s46:Sig),J q0.length s46∧e= []∧w=s46.w) ?_ ?_
 · rintro _ _ ⟨s46,hJ,rfl,rfl⟩;refine X.blkE ?_;exact X.rt (.inr rfl) Tryz.results207 Rs.nil rfl ⟨⟨_,rfl⟩,s46,rfl,hJ⟩
 intro K47;refine E.iter (fun (st43:Int) (e:List (Nat×Value)) (w:World)=>∃(k:Nat) (s44:Sig),st43=(k:Int)∧k≤q0.length∧J k s44∧RdL (rK .i64) s44 a1 c1 q0∧e= [(7,.int .i64 st43),(6,.int .i64 (q0.length:Int)),(5,.slice a1 q0.length c1),(0,.func (.yield l) #[] #[])]∧w=s44.w) hit ⟨0,s1,rfl,yZl _,h0,h1,rfl,rfl⟩ (Sub.rf rfl) ?_;rintro st43 res43 hm ih43 ho43 _ _ ⟨k,s44,rfl,hk,hJ,h1,rfl,rfl⟩;rw [hf] at hm;refine E.seq (E.reg (L.bi Wt.no rfl rfl rfl rfl (L.nil (X.seqN (E.seq ?_)))));rcases ifS hm with ⟨hc,hm⟩|⟨hc,hm⟩
 · refine E.cT rfl hc (E.skip (X.seqN (E.seq (E.block (E.seq (E.reg ?_))))));have hk2:k<q0.length:=by simpa using hc
   have ex18:idx q0 (k:Int)=some q0[k]:=by unfold idx;rw [if_pos (by omega),Int.toNat_natCast,yGe hk2]
   have henc: [Value.int .i64 q0[k]]=encI (q0.getD k 0):=by rw [List.getD_eq_getElem?_getD,yGe hk2];rfl
   generalize q0[k]=x18 at ex18 henc;refine L.ix (r:=(rK .i64)) vlSi h1 Wt.no rfl rfl ex18 rfl fun b19 o19 cc19 me19 rd19=>?_;obtain rfl:=rd19;refine L.ld (j:=0) me19 vlNn Wt.no rfl rfl rfl rfl (L.as Wt.no rfl rfl (L.nil (X.seqN (E.seq (E.reg (L.mv Wt.no rfl rfl (L.mv Wt.no rfl rfl ?_)))))));refine L.yd (x:= .tmp 11) (xs:=[.tmp 12]) hY hk2 hJ rfl rfl Wt.no rfl (by rw [←henc];rfl) rfl fun s59 hle59 hJ=>?_;have h1:=h1.mono hle59;refine L.not Wt.no rfl rfl (L.nil (X.seqN (E.cF rfl rfl (E.skip (X.blkN (X.seqN (E.reg (L.bi Wt.no rfl rfl rfl rfl (L.mv Wt.no rfl rfl (L.nil (X.sub (ih43 _ (Option.some.inj hm).symm _ _ ⟨k+1,s59,?_,hk2,hJ,h1,rfl,rfl⟩) (Sub.rf rfl))))))))))));exact hW k (by omega)
 refine E.cF rfl hc (E.exit (X.seqX (X.seqX ?_)));have hkl:k=q0.length:=by simp at hc;omega
 subst hkl;exact X.sub (K47 _ _ ⟨s44,hJ,rfl,rfl⟩) Sub.nil
theorem yaI{s:Sig}{p0:List Int}{c1:Nat}{r:List Int}(h1:RdL (rK .i64) s a1 c1 p0)(hm:y4P p0=some r):
    Calls Tryz.prog 157 #[.slice a1 p0.length c1] s.w (RetS No s fun v s'=>FI Tryz.prog s' v r.length (fun k=>encI (r.getD k 0))):=by
 obtain⟨hlen,rfl⟩:p0.length≤4294967296∧p0=r:=by
  unfold y4P at hm;split at hm
  · exact⟨by assumption,Option.some.inj hm⟩
  · cases hm
 obtain⟨N,hN,hNb⟩:=s.fresh;have m0:Mv (Up N No) s s:=Mv.refl _ _;refine E.entry (vs:=[.slice a1 p0.length c1]) Tryz.func157 rfl Tryz.ntmps157 rfl rfl (E.seq (E.reg (L.box (N+0) Wt.no rfl rfl rfl fun b1 s2 m3 bx1=>?_)));replace m0:=m0.trans m3.no;replace h1:=h1.mono (m3.le no_No);refine L.as Wt.no rfl rfl (L.nil (X.seqN (E.seq (E.reg (L.mf Wt.no rfl rfl rfl (L.as Wt.no rfl rfl (L.nil (X.seqN (E.ret ?_)))))))));refine X.rt (.inl rfl) Tryz.results157 (Rs.tmp rfl Rs.nil) rfl ⟨_,s2.ren N (fun _=>0),rfl,rfl,m0.ren hNb,?_⟩;have hr:∀{k b:Nat} {cs:Array Value} {T:TypeId},Bx s2 (N+k) b cs T→Bx (s2.ren N (fun _=>0)) 0 b cs T:=fun h=>⟨h.heap,by simp [Sig.ren,h.htag]⟩;exact ygn (h1.ren hN) (hr bx1) hlen
theorem bs32 :Bs Tryz.prog 32 3 1 [.int .i64 0]:=Bs.mk' Tryz.underlying32 (by kernel_rfl) (by kernel_rfl) rfl
theorem el3 :El Tryz.prog 3 1 8:=El.mk' (z:= .int .i64 0) (by kernel_rfl) (by kernel_rfl) (by kernel_rfl) rfl
theorem nag32 :NAg Tryz.prog 32:=NAg.mk' Tryz.underlying32 rfl (by kernel_rfl)
def y1z(x22:Int)(st20:List Int):Option (List Int):=
 (app st20 ([x22]:List Int)).bind fun x32=>
 some x32
def y5h(p0:List Int)(p1:List (Int)):Option (List Int):=
 (rngF (fun k=>y1z (p1.getD k 0)) p1.length 0 p0).bind fun o20=>
 some o20
theorem ya5{s:Sig}{p0:List Int}{p1:List (Int)}{t0:Nat}{c1:Nat}{vp1:Value}{r:List Int}(zt0:0<t0)(h1:RowT (rK .i64) s t0 3 a1 c1 p0)(hp1:FI Tryz.prog s vp1 p1.length (fun k=>encI (p1.getD k 0)))(hm:y5h p0 p1=some r):
  Calls Tryz.prog 235 #[.slice a1 p0.length c1,vp1] s.w (RetS (One t0) s fun v s'=>∃(a2:Option Addr) (c2:Nat),v= .slice a2 r.length c2∧RowT (rK .i64) s' t0 3 a2 c2 r):=by
 unfold y5h at hm;obtain⟨N,hN,hNb,lt0,-⟩:=s.freshL [t0];have m0:Mv (Up N (One t0)) s s:=Mv.refl _ _;have mk0:Mks s (N+0) []:=Mks.nil;refine E.entryM (vs:=[.slice a1 p0.length c1,vp1]) (e:=[(0,.slice a1 p0.length c1),(1,vp1)]) Tryz.func235 rfl Tryz.ntmps235 rfl rfl ?_;refine E.seq ?_;refine E.reg ?_;refine L.box (N+1) Wt.no rfl rfl rfl ?_;intro b3 s4 m5 bx3;replace m0:=m0.trans m5.no;replace hp1:=hp1.mono (m5.le no_No);replace mk0:=mk0.mv m5 no_No;replace h1:=h1.mv m5 no_No no_No;refine L.as Wt.no rfl rfl ?_;refine L.nil ?_;refine X.seqN ?_;refine E.seq ?_;refine E.seq ?_;refine E.reg ?_;refine L.mv Wt.no rfl rfl ?_;refine L.nil ?_;refine X.seqN ?_;refine E.block ?_;obtain⟨o20,eo20,hm⟩:=bindS hm;have mko20:=mk0.old;refine E.range (N+2) (N+0) (tgn hN) (by omega) (fun (k:Nat) (s21:Sig)=>∃(st20:List Int) (a7:Option Addr) (c7:Nat),rngF (fun k=>y1z (p1.getD k 0)) (p1.length-k) k st20=some o20∧Mv (Up N (One t0)) s s21∧RowT (rK .i64) s21 t0 3 a7 c7 st20∧Mks s21 (N+0) []∧Bx s21 (N+1) b3 #[.slice a7 st20.length c7] 32) rfl hp1 (fun _=>rfl) (by decide) ⟨p0,a1,c1,eo20,m0,h1,mk0,bx3⟩ ?_ ?_
 ·rintro k20 D20 r20 s21 s23 hk20 ⟨st20,a7,c7,hj20,m0,h7,mk0,bx3⟩ m24 rc25 hr20;obtain⟨res20,hm,hj20⟩:=yij hk20 hj20;have hm:y1z (p1.getD k20 0) st20=some res20:=hm;show E _ _ _ _ _ (Env.zp _ (encI (p1.getD k20 0)) _) _;generalize p1.getD k20 0=x22 at hm ⊢;refine E.sub (e':=[(2,.pointer (some ⟨b3,0,none⟩)),(7,.int .i64 x22)]) (Sub.rf rfl) ?_;unfold y1z at hm;replace m0:=m0.trans (m24.one up);replace mk0:=mk0.mv m24 (tgN (by decide));replace bx3:=bx3.mv m24 (tgN (by decide));replace h7:=h7.mv m24 (tgV lt0) (tg0 hN);have h26:Lf s23 s23:=Le.refl _;refine E.reg ?_;refine L.as Wt.no rfl rfl ?_;refine L.nil ?_;refine X.beg rc25 hr20 fun s27 m28 rc25=>?_;replace m0:=m0.trans (m28.one up);replace mk0:=mk0.mv m28 (tgN (by decide));replace h26:=h26.mono (m28.le (tg0 hN));replace bx3:=bx3.mv m28 (tgN (by decide));replace h7:=h7.mv m28 (tgV lt0) (tg0 hN);refine E.block ?_;refine E.reg ?_;refine L.ld (j:=0) bx3.mem nag32 Wt.no rfl rfl rfl rfl ?_;refine L.mv Wt.no rfl rfl ?_;refine L.bsE (k:=1) (cs:=[.int .i64 x22]) 0 bs32 (Nat.le_of_ble_eq_true rfl) Wt.no rfl rfl rfl rfl ?_;intro b29 s30 m31 bx29;replace m0:=m0.trans m31.no;replace h7:=h7.mv m31 no_No no_No;replace mk0:=mk0.mv m31 no_No;replace h26:=h26.mono (m31.le no_No);replace rc25:=rc25.mv m31 no_No no_No;replace bx3:=bx3.mv m31 no_No;have h29:=Bx.rdL (r:=(rK .i64)) (xs:=([x22]:List Int)) bx29 ⟨[.int .i64 x22],_,rfl,rfl,rfl⟩ (Nat.le_of_ble_eq_true rfl);obtain⟨x32,ex32,hm⟩:=bindS hm;refine L.ap (r:=(rK .i64)) Tryz.underlying32 el3 rfl (tgpV zt0) h7 h29.wk Wt.no rfl rfl ex32 rfl ?_;intro a33 c33 s34 m35 h33;replace m0:=m0.trans (m35.one (.inr rfl));replace mk0:=mk0.mv m35 (tgW lt0);replace h26:=h26.mono (m35.le (tgz zt0));replace rc25:=rc25.mv m35 (tgW lt0) (tgW lt0);replace bx3:=bx3.mv m35 (tgW lt0);refine L.st (c:=[.slice a33 x32.length c33]) (cs':= #[.slice a33 x32.length c33]) bx3 nag32.sz Wt.no rfl rfl rfl rfl rfl (Nat.le_of_ble_eq_true rfl) rfl ?_;intro s36 m37 bx3;replace m0:=m0.trans (m37.one up);replace mk0:=mk0.mv m37 (tgN (by decide));replace h26:=h26.mono (m37.le (tg0 hN));replace rc25:=rc25.mv m37 (tgN (by decide)) (tgN (by decide));replace h33:=h33.mv m37 (tgV lt0) (tg0 hN);refine L.nil ?_;refine X.blkN ?_;obtain rfl:=Option.some.inj hm;exact X.rnd ⟨⟨x32,a33,c33,hj20,m0,h33,mk0,bx3⟩,rc25,h26⟩
 ·rintro D20 s21 s23 hD20 ⟨st20,a7,c7,hj20,m0,h7,mk0,bx3⟩ m24 mk20;have hx:=(yju hj20).symm;subst hx;replace m0:=m0.trans (m24.one up);replace mk0:=mk0.mv m24 (tgN (by decide));replace bx3:=bx3.mv m24 (tgN (by decide));replace h7:=h7.mv m24 (tgV lt0) (tg0 hN);replace mk0:=mk0.cons mko20 hD20 mk20;refine X.blkN ?_;refine X.seqN ?_;refine E.seq ?_;refine E.reg ?_;refine L.ld (j:=0) bx3.mem nag32 Wt.no rfl rfl rfl rfl ?_;refine L.as Wt.no rfl rfl ?_;refine L.nil ?_;refine X.seqN ?_;refine E.ret ?_;refine X.lv (.inl rfl) mk0 fun s38 m39=>?_;replace m0:=m0.trans (m39.one up);replace h7:=h7.mv m39 (tgV lt0) (tg0 hN);obtain rfl:=Option.some.inj hm;exact X.rt (.inl rfl) Tryz.results235 (Rs.tmp rfl Rs.nil) rfl ⟨_,(s38).ren N (fun _=>0),rfl,rfl,m0.ren hNb,⟨a7,c7,rfl,(h7.renV hN lt0)⟩⟩
theorem cf235 :Cf Tryz.prog 235:=Cf.mk Tryz.func235 (by kernel_rfl) (by kernel_rfl)
def y6d(p0:List (Int)):Option (List Int):=
 (y5h ([]:List Int) p0).bind fun r2=>
 some r2
theorem yaq{s:Sig}{p0:List (Int)}{vp0:Value}{u0:Nat}{r:List Int}(hp0:FI Tryz.prog s vp0 p0.length (fun k=>encI (p0.getD k 0)))(hm:y6d p0=some r):
  Calls Tryz.prog 205 #[vp0] s.w (RetS No s fun v s'=>∃(a1:Option Addr) (c1:Nat),v= .slice a1 r.length c1∧RowT (rK .i64) s' u0 3 a1 c1 r):=by
 unfold y6d at hm;obtain⟨N,hN,hNb⟩:=s.fresh;have m0:Mv (Up N No) s s:=Mv.refl _ _;refine E.entry (vs:=[vp0]) (e:=[(0,vp0)]) Tryz.func205 rfl Tryz.ntmps205 rfl rfl ?_;refine E.seq ?_;refine E.reg ?_;refine L.as Wt.no rfl rfl ?_;refine L.nil ?_;refine X.seqN ?_;refine E.seq ?_;refine E.reg ?_;refine L.mv Wt.no rfl rfl ?_;obtain⟨r2,er2,hm⟩:=bindS hm;refine L.ca (vs:=[.slice none 0 0,vp0]) cf235 rfl rfl Wt.no rfl (ya5 (s:=s) (p0:=([]:List Int)) (p1:=p0) (t0:=(N+0)) (tpos hN) RowT.nil hp0 er2) rfl ?_;rintro _ s3 m4 ⟨a5,c5,rfl,h5⟩;replace m0:=m0.trans (m4.one up);refine L.as Wt.no rfl rfl ?_;refine L.nil ?_;refine X.seqN ?_;refine E.ret ?_;obtain rfl:=Option.some.inj hm;exact X.rt (.inl rfl) Tryz.results205 (Rs.tmp rfl Rs.nil) rfl ⟨_,(s3).ren N (fun k=>cond (Nat.beq k 0) u0 (0)),rfl,rfl,m0.ren hNb,⟨a5,c5,rfl,(h5.ren hN)⟩⟩
theorem cf205 :Cf Tryz.prog 205:=Cf.mk Tryz.func205 (by kernel_rfl) (by kernel_rfl)
theorem cf206 :Cf Tryz.prog 206:=Cf.mk Tryz.func206 (by kernel_rfl) (by kernel_rfl)
def y3v(p0:List (Int)):Option (List Int):=
 (y6d p0).bind fun r2=>
 (y2w r2).bind fun r6=>
 (lenEq r6 r2).bind fun _=>
 some r6
theorem yaJ{s:Sig}{p0:List (Int)}{vp0:Value}{u0:Nat}{r:List Int}(hp0:FI Tryz.prog s vp0 p0.length (fun k=>encI (p0.getD k 0)))(hm:y3v p0=some r):
  Calls Tryz.prog 156 #[vp0] s.w (RetS No s fun v s'=>∃(a1:Option Addr) (c1:Nat),v= .slice a1 r.length c1∧RowT (rK .i64) s' u0 3 a1 c1 r):=by
 unfold y3v at hm;obtain⟨N,hN,hNb⟩:=s.fresh;have m0:Mv (Up N No) s s:=Mv.refl _ _;refine E.entry (vs:=[vp0]) (e:=[(0,vp0)]) Tryz.func156 rfl Tryz.ntmps156 rfl rfl ?_;refine E.seq ?_;refine E.reg ?_;refine L.as Wt.no rfl rfl ?_;refine L.nil ?_;refine X.seqN ?_;refine E.seq ?_;refine E.reg ?_;refine L.mv Wt.no rfl rfl ?_;obtain⟨r2,er2,hm⟩:=bindS hm;refine L.ca (vs:=[vp0]) cf205 rfl rfl Wt.no rfl (yaq (s:=s) (p0:=p0) (u0:=(N+0)) hp0 er2) rfl ?_;rintro _ s3 m4 ⟨a5,c5,rfl,h5⟩;replace m0:=m0.trans m4.no;refine L.as Wt.no rfl rfl ?_;refine L.nil ?_;refine X.seqN ?_;refine E.seq ?_;refine E.reg ?_;refine L.mv Wt.no rfl rfl ?_;obtain⟨r6,er6,hm⟩:=bindS hm;refine L.ca (vs:=[.slice a5 r2.length c5]) cf206 rfl rfl Wt.no rfl (y8M (s:=s3) (p0:=r2) (t0:=(N+0)) (tpos hN) h5 er6) rfl ?_;rintro _ s7 m8 ⟨rfl,h5⟩;obtain⟨_,qz9,hm⟩:=bindS hm;have elz9:=yi9 qz9;replace m0:=m0.trans (m8.one up);refine L.reval (d:=3) rfl elz9 ?_;refine L.nil ?_;refine X.seqN ?_;refine E.seq ?_;refine E.reg ?_;refine L.mv Wt.no rfl rfl ?_;refine L.as Wt.no rfl rfl ?_;refine L.nil ?_;refine X.seqN ?_;refine E.ret ?_;obtain rfl:=Option.some.inj hm;exact X.rt (.inl rfl) Tryz.results156 (Rs.tmp rfl Rs.nil) rfl ⟨_,(s7).ren N (fun k=>cond (Nat.beq k 0) u0 (0)),rfl,rfl,m0.ren hNb,⟨a5,c5,rfl,(h5.ren hN)⟩⟩
def lT(P:Program)(xs:List Int):LV:=⟨fun _ s v=>FI P s v xs.length (fun k=>encI (xs.getD k 0)),[],none,none,fun _ hl h=>h.mono hl,nofun,nofun,fun⟨_,_,e,_⟩=>by rw [e];rfl⟩
theorem y8x{p0:List Int}{r:ByteArray}(hm:y4H p0=some r):Fw Tryz.prog 98 ⟨0,[]⟩ [.f qI p0] [] (.o (lV (.string r))) []:=
 ⟨fun ts β s vs _ _ _ _ ⟨v,us,⟨a,c,e,h⟩,hu,e2⟩ _=>by
  have hu:us= []:=hu;subst hu;subst e;subst e2;exact Calls.mono (ydf h hm) fun en w' ⟨v,s',e1,e2,m,hv⟩=>⟨v,s',e1,e2,m.no,β,fun _ _=>rfl,⟨hv,rfl⟩,fun i o ho=>by simp at ho⟩⟩
theorem yaK{p0:List Int}{r:List Int}(hm:y4P p0=some r):Fw Tryz.prog 157 ⟨0,[]⟩ [.f qI p0] [] (.o (lT Tryz.prog r)) []:=
 ⟨fun ts β s vs _ _ _ _ ⟨v,us,⟨a,c,e,h⟩,hu,e2⟩ _=>by
  have hu:us= []:=hu;subst hu;subst e;subst e2;exact Calls.mono (yaI h hm) fun en w' ⟨v,s',e1,e2,m,hv⟩=>⟨v,s',e1,e2,m.no,β,fun _ _=>rfl,hv,fun i o ho=>by simp at ho⟩⟩
theorem yaL{p0:List Int}{r:List Int}(hm:y3v p0=some r):Fw Tryz.prog 156 ⟨0,[]⟩ [.o (lT Tryz.prog p0)] [] (.h 0) [ROW qI 3 r]:=
 ⟨fun ts β s vs ht _ _ _ ⟨v,us,h,hu,e2⟩ _=>by
  have hu:us= []:=hu;subst hu;subst e2;obtain⟨t,rfl⟩:∃t,ts= [t]:=by
   match ts,ht with
   | [t],_=>exact⟨t,rfl⟩
  exact Calls.mono (yaJ (u0:=t) h hm) fun en w' ⟨v,s',e1,e2,m,a,c,hv,hr⟩=>⟨v,s',e1,e2,m.no,fun _=>v,fun i hi=>(by cases hi),⟨rfl,by rw [hv];rfl⟩,fun i o ho=>by
   match i,ho with
   | 0,ho=>cases ho;exact⟨a,c,hv,hr⟩⟩⟩
theorem y8a{p0:List Int}{r:List Int}(hm:y1w p0=some r):Fw Tryz.prog 142 ⟨1,[0]⟩ [.h 0] [ROW qI 3 p0] (.tp []) [ROW qI 3 r]:=
 ⟨fun ts β s vs ht _ _ hp ⟨v,us,h,hu,e2⟩ ho=>by
  have hu:us= []:=hu;subst hu;subst e2;obtain⟨t,rfl⟩:∃t,ts= [t]:=by
   match ts,ht with
   | [t],_=>exact⟨t,rfl⟩
  obtain⟨a,c,e,h2⟩:=ho 0 _ rfl;have hv:v= .slice a p0.length c:=h.1.trans e;subst hv;have hl:r.length=p0.length:=by
   unfold y1w at hm;split at hm
   ·cases hm;exact List.length_reverse
   ·cases hm
  exact Calls.mono (yap (hp t (.head _)) h2 hm) fun en w' ⟨v,s',e1,e2,m,hv,hr⟩=>⟨v,s',e1,e2,m.weak fun t' ht'=>⟨0,.head _,by rw [show t'=t from ht'];rfl⟩,β,fun _ _=>rfl,⟨[],rfl,hv⟩,fun i o ho=>by
   match i,ho with
   | 0,ho=>cases ho;exact⟨a,c,by rw [e,hl],hr⟩⟩⟩
end
end Go.Proofs.YtecmobjeeonmaaaGreatDoor
set_option maxRecDepth 100000
set_option maxHeartbeats 8000000
namespace Go.Proofs.YtecmobjeeonmaaaGreatDoor
open Go Go.RowKit
noncomputable section
abbrev Arr55 :=(Int×Int×Int×Int×Int)×(Int×Int×Int×Int×Int)×(Int×Int×Int×Int×Int)×(Int×Int×Int×Int×Int)×(Int×Int×Int×Int×Int)
abbrev y1d :=Int×Int×Arr55
abbrev EdgL :=List (Int×Int×Int)
abbrev KeyT :=(Int×Int)×Int
abbrev CodT :=(Int×Int×Int×List Bool×(List (Int×Int)))×List Int×List Int×Int
abbrev PbT :=AutT×AutT×List Int
abbrev BenT :=PbT×CodT×Int×(List Bool×List Bool)
abbrev TskT :=(AutT×(List KeyT))×(AutT×(List KeyT))×(AutT×(List KeyT))×List (List Int)×List Int×List Int
abbrev StpT :=List Int×List Int×List Int×Int×Bool×Int×Bool
abbrev CycT :=List Int×List Int×Int
theorem ag35 :Ag Tryz.prog 35 4:=Ag.mk' Tryz.underlying35 rfl (by kernel_rfl)
theorem ag37 :Ag Tryz.prog 37 9:=Ag.mk' Tryz.underlying37 rfl (by kernel_rfl)
theorem bs33 :Bs Tryz.prog 33 124 3 [.int .i64 0,.int .i64 0,.int .i64 0]:=Bs.mk' Tryz.underlying33 (by kernel_rfl) (by kernel_rfl) rfl
theorem pl124 :Pl Tryz.prog 124 [(0,1),(1,1),(2,1)] [.int .i64 0,.int .i64 0,.int .i64 0]:=Pl.str Tryz.underlying124 (by kernel_rfl) (by kernel_rfl)
theorem pl35 :Pl Tryz.prog 35 [(0,1),(1,1),(2,1),(3,1)] [.slice none 0 0,.int .i64 0,.slice none 0 0,.slice none 0 0]:=Pl.str Tryz.underlying35 (by kernel_rfl) (by kernel_rfl)
theorem pl37 :Pl Tryz.prog 37 [(0,4),(4,4),(8,1)] [.slice none 0 0,.int .i64 0,.slice none 0 0,.slice none 0 0,.slice none 0 0,.int .i64 0,.slice none 0 0,.slice none 0 0,.slice none 0 0]:=Pl.str Tryz.underlying37 (by kernel_rfl) (by kernel_rfl)
theorem zz35 :(Tryz.prog.info? 35).bind (·.zero)=some (.agg #[.slice none 0 0,.int .i64 0,.slice none 0 0,.slice none 0 0]):=by kernel_rfl
theorem zz37 :(Tryz.prog.info? 37).bind (·.zero)=some (.agg #[.slice none 0 0,.int .i64 0,.slice none 0 0,.slice none 0 0,.slice none 0 0,.int .i64 0,.slice none 0 0,.slice none 0 0,.slice none 0 0]):=by kernel_rfl
abbrev rE35 :Rep AutT:=(rP (rL qI) (rP qI (rP (rL qI) (rL qT))))
abbrev rE37 :Rep PbT:=(rP rE35 (rP rE35 (rL qI)))
abbrev lx37(y:PbT):List LV:=[lF qI y.1.1,lI y.1.2.1,lF qI y.1.2.2.1,lF qT y.1.2.2.2,lF qI y.2.1.1,lI y.2.1.2.1,lF qI y.2.1.2.2.1,lF qT y.2.1.2.2.2,lF qI y.2.2]
theorem nag3 :NAg Tryz.prog 3:=NAg.mk' Tryz.underlying3 rfl (by kernel_rfl)
theorem sl32 :Sl Tryz.prog 32 3 1:=Sl.mk' Tryz.underlying32 (by kernel_rfl)
theorem lv3{y:Int}:Lv qI y [lI y]:= .k
theorem cf169 :CF 169:=cM Tryz.func169 (by kernel_rfl)
theorem ag124 :Ag Tryz.prog 124 3:=Ag.mk' Tryz.underlying124 rfl (by kernel_rfl)
theorem cf104 :CF 104:=cM Tryz.func104 (by kernel_rfl)
theorem y1A :FAb 124 0 0:=fAm 0 0 1 Tryz.underlying124 R (by kernel_rfl)
theorem y2I :FAb 124 1 1:=fAm 1 1 1 Tryz.underlying124 R (by kernel_rfl)
theorem y2J :FAb 124 2 2:=fAm 2 2 1 Tryz.underlying124 R (by kernel_rfl)
theorem yz :FAb 35 0 0:=fAm 0 0 1 Tryz.underlying35 R (by kernel_rfl)
theorem y1W :FAb 35 1 1:=fAm 1 1 1 Tryz.underlying35 R (by kernel_rfl)
theorem yB :FAb 35 3 3:=fAm 3 3 1 Tryz.underlying35 R (by kernel_rfl)
theorem nag33 :NAg Tryz.prog 33:=NAg.mk' Tryz.underlying33 rfl (by kernel_rfl)
theorem sl33 :Sl Tryz.prog 33 124 3:=Sl.mk' Tryz.underlying33 (by kernel_rfl)
theorem zz124 :(Tryz.prog.info? 124).bind (·.zero)=some (.agg #[.int .i64 0,.int .i64 0,.int .i64 0]):=by kernel_rfl
theorem lv124{y:Int×Int×Int}:Lv qT y [lI y.1,lI y.2.1,lI y.2.2]:=(.p .k (.p .k .k))
abbrev lx35(y:AutT):List LV:=[lF qI y.1,lI y.2.1,lF qI y.2.2.1,lF qT y.2.2.2]
theorem cf164 :CF 164:=cM Tryz.func164 (by kernel_rfl)
theorem cf165 :CF 165:=cM Tryz.func165 (by kernel_rfl)
theorem y7f :FAb 35 2 2:=fAm 2 2 1 Tryz.underlying35 R (by kernel_rfl)
theorem cf75 :CF 75:=cM Tryz.func75 (by kernel_rfl)
theorem cf76 :CF 76:=cM Tryz.func76 (by kernel_rfl)
theorem cf17 :CF 17:=cM Tryz.func17 (by kernel_rfl)
theorem cf101 :CF 101:=cM Tryz.func101 (by kernel_rfl)
theorem sl66 :Sl Tryz.prog 66 35 4:=Sl.mk' Tryz.underlying66 (by kernel_rfl)
theorem lv35{y:AutT}:Lv rE35 y [lF qI y.1,lI y.2.1,lF qI y.2.2.1,lF qT y.2.2.2]:=(.p .l (.p .k (.p .l .l)))
theorem cf237 :CF 237:=cM Tryz.func237 (by kernel_rfl)
theorem cf210 :CF 210:=cM Tryz.func210 (by kernel_rfl)
theorem flr3 :FlatR (rK .i64):=fun _ _ _ _ h=>h
theorem ag162 :Ag Tryz.prog 162 3:=Ag.mk' Tryz.underlying162 rfl (by kernel_rfl)
theorem bs160 :Bs Tryz.prog 160 139 1 [.map none]:=Bs.mk' Tryz.underlying160 (by kernel_rfl) (by kernel_rfl) rfl
theorem cf159 :CF 159:=cM Tryz.func159 (by kernel_rfl)
theorem el139 :El Tryz.prog 139 1 8:=El.mk' (z:= .map none) (by kernel_rfl) (by kernel_rfl) (by kernel_rfl) rfl
theorem ydI :FAb 162 2 2:=fAm 2 2 1 Tryz.underlying162 R (by kernel_rfl)
theorem md139 :Md Tryz.prog 139 241 3 kvP (rK .i64) 0 (.int .i64 0):=Md.mk' Tryz.underlying139 (KE.pair' Tryz.underlying241 (by kernel_rfl) Tryz.underlying3 (by kernel_rfl) (NAg.mk' Tryz.underlying3 rfl (by kernel_rfl)).agg) (by kernel_rfl) (fun _=>rfl)
theorem yeZ :NAg Tryz.prog 160:=NAg.mk' Tryz.underlying160 rfl (by kernel_rfl)
theorem pl162 :Pl Tryz.prog 162 [(0,1),(1,1),(2,1)] [.slice none 0 0,.slice none 0 0,.slice none 0 0]:=Pl.str Tryz.underlying162 (by kernel_rfl) (by kernel_rfl)
theorem pl241 :Pl Tryz.prog 241 (plK 1 2 0) [.int .i64 0,.int .i64 0]:=Pl.arr Tryz.underlying241 (by kernel_rfl) (by kernel_rfl)
theorem zz162 :(Tryz.prog.info? 162).bind (·.zero)=some (.agg #[.slice none 0 0,.slice none 0 0,.slice none 0 0]):=by kernel_rfl
theorem yce :FAb 162 0 0:=fAm 0 0 1 Tryz.underlying162 R (by kernel_rfl)
theorem nag66 :NAg Tryz.prog 66:=NAg.mk' Tryz.underlying66 rfl (by kernel_rfl)
theorem zr3 :Zr Tryz.prog (rK .i64) 3 8 (0:Int):=Zr.mk' (v:= .int .i64 0) (by kernel_rfl) (by kernel_rfl) (by kernel_rfl) (fun _=>rfl)
theorem cf214 :CF 214:=cM Tryz.func214 (by kernel_rfl)
theorem cf208 :CF 208:=cM Tryz.func208 (by kernel_rfl)
theorem cf209 :CF 209:=cM Tryz.func209 (by kernel_rfl)
theorem cf158 :CF 158:=cM Tryz.func158 (by kernel_rfl)
theorem cf94 :CF 94:=cM Tryz.func94 (by kernel_rfl)
theorem cf103 :CF 103:=cM Tryz.func103 (by kernel_rfl)
theorem ybT :NAg Tryz.prog 139:=NAg.mk' Tryz.underlying139 rfl (by kernel_rfl)
theorem sl160 :Sl Tryz.prog 160 139 1:=Sl.mk' Tryz.underlying160 (by kernel_rfl)
theorem lv139{y:List KeyT}:Lv (rM kvP qI) y [lM kvP qI y]:= .m
theorem bs53 :Bs Tryz.prog 53 32 1 [.slice none 0 0]:=Bs.mk' Tryz.underlying53 (by kernel_rfl) (by kernel_rfl) rfl
theorem cf100 :CF 100:=cM Tryz.func100 (by kernel_rfl)
theorem cf95 :CF 95:=cM Tryz.func95 (by kernel_rfl)
theorem cf96 :CF 96:=cM Tryz.func96 (by kernel_rfl)
theorem cf97 :CF 97:=cM Tryz.func97 (by kernel_rfl)
theorem cf98 :CF 98:=cM Tryz.func98 (by kernel_rfl)
theorem cf99 :CF 99:=cM Tryz.func99 (by kernel_rfl)
theorem el124 :El Tryz.prog 124 3 24:=El.mk' (z:= .agg #[.int .i64 0,.int .i64 0,.int .i64 0]) (by kernel_rfl) (by kernel_rfl) (by kernel_rfl) rfl
theorem el32 :El Tryz.prog 32 1 24:=El.mk' (z:= .slice none 0 0) (by kernel_rfl) (by kernel_rfl) (by kernel_rfl) rfl
theorem yfJ :FAb 162 1 1:=fAm 1 1 1 Tryz.underlying162 R (by kernel_rfl)
theorem md167 :Md Tryz.prog 167 9 3 kvS (rK .i64) 0 (.int .i64 0):=Md.mk' Tryz.underlying167 (KE.string Tryz.underlying9) (by kernel_rfl) (fun _=>rfl)
theorem sl53 :Sl Tryz.prog 53 32 1:=Sl.mk' Tryz.underlying53 (by kernel_rfl)
theorem lv32{y:List Int}:Lv (rL qI) y [lF qI y]:= .l
theorem cf196 :CF 196:=cM Tryz.func196 (by kernel_rfl)
theorem ag141 :Ag Tryz.prog 141 5:=Ag.mk' Tryz.underlying141 rfl (by kernel_rfl)
theorem yfK :FAb 141 1 4:=fAm 1 4 1 Tryz.underlying141 R (by kernel_rfl)
theorem pl141 :Pl Tryz.prog 141 [(0,4),(4,1)] [.slice none 0 0,.int .i64 0,.slice none 0 0,.slice none 0 0,.map none]:=Pl.str Tryz.underlying141 (by kernel_rfl) (by kernel_rfl)
theorem zz141 :(Tryz.prog.info? 141).bind (·.zero)=some (.agg #[.slice none 0 0,.int .i64 0,.slice none 0 0,.slice none 0 0,.map none]):=by kernel_rfl
abbrev rE141 :Rep (AutT×(List KeyT)):=(rP rE35 (rM kvP qI))
abbrev lx141(y:AutT×(List KeyT)):List LV:=[lF qI y.1.1,lI y.1.2.1,lF qI y.1.2.2.1,lF qT y.1.2.2.2,lM kvP qI y.2]
theorem bs66 :Bs Tryz.prog 66 35 4 [.slice none 0 0,.int .i64 0,.slice none 0 0,.slice none 0 0]:=Bs.mk' Tryz.underlying66 (by kernel_rfl) (by kernel_rfl) rfl
theorem cf145 :CF 145:=cM Tryz.func145 (by kernel_rfl)
theorem cf151 :CF 151:=cM Tryz.func151 (by kernel_rfl)
theorem cf25 :CF 25:=cM Tryz.func25 (by kernel_rfl)
theorem cf26 :CF 26:=cM Tryz.func26 (by kernel_rfl)
theorem cf32 :CF 32:=cM Tryz.func32 (by kernel_rfl)
theorem y3Q :FAb 37 0 0:=fAm 0 0 4 Tryz.underlying37 R (by kernel_rfl)
theorem y5Z :FAb 37 1 4:=fAm 1 4 4 Tryz.underlying37 R (by kernel_rfl)
theorem y8y :FAb 37 2 8:=fAm 2 8 1 Tryz.underlying37 R (by kernel_rfl)
theorem pl155 :Pl Tryz.prog 155 [(0,5),(5,5),(10,5),(15,1),(16,1),(17,1)] [.slice none 0 0,.int .i64 0,.slice none 0 0,.slice none 0 0,.map none,.slice none 0 0,.int .i64 0,.slice none 0 0,.slice none 0 0,.map none,.slice none 0 0,.int .i64 0,.slice none 0 0,.slice none 0 0,.map none,.slice none 0 0,.slice none 0 0,.slice none 0 0]:=Pl.str Tryz.underlying155 (by kernel_rfl) (by kernel_rfl)
abbrev rE155 :Rep TskT:=(rP rE141 (rP rE141 (rP rE141 (rP (rL (rL qI)) (rP (rL qI) (rL qI))))))
theorem bs258 :Bs Tryz.prog 258 257 2 [.int .i64 0,.slice none 0 0]:=Bs.mk' Tryz.underlying258 (by kernel_rfl) (by kernel_rfl) rfl
theorem cf150 :CF 150:=cM Tryz.func150 (by kernel_rfl)
theorem el257 :El Tryz.prog 257 2 32:=El.mk' (z:= .agg #[.int .i64 0,.slice none 0 0]) (by kernel_rfl) (by kernel_rfl) (by kernel_rfl) rfl
theorem yfL :FAb 155 0 0:=fAm 0 0 5 Tryz.underlying155 R (by kernel_rfl)
theorem yaM :FAb 155 3 15:=fAm 3 15 1 Tryz.underlying155 R (by kernel_rfl)
theorem yfM :FAb 155 4 16:=fAm 4 16 1 Tryz.underlying155 R (by kernel_rfl)
theorem yjv :FAb 257 0 0:=fAm 0 0 1 Tryz.underlying257 R (by kernel_rfl)
theorem yaN :FAb 257 1 1:=fAm 1 1 1 Tryz.underlying257 R (by kernel_rfl)
theorem nag53 :NAg Tryz.prog 53:=NAg.mk' Tryz.underlying53 rfl (by kernel_rfl)
theorem pl257 :Pl Tryz.prog 257 [(0,1),(1,1)] [.int .i64 0,.slice none 0 0]:=Pl.str Tryz.underlying257 (by kernel_rfl) (by kernel_rfl)
theorem sl258 :Sl Tryz.prog 258 257 2:=Sl.mk' Tryz.underlying258 (by kernel_rfl)
abbrev rE257 :Rep (Int×List Int):=(rP qI (rL qI))
theorem lv257{y:Int×List Int}:Lv rE257 y [lI y.1,lF qI y.2]:=(.p .k .l)
abbrev lx155(y:TskT):List LV:=[lF qI y.1.1.1,lI y.1.1.2.1,lF qI y.1.1.2.2.1,lF qT y.1.1.2.2.2,lM kvP qI y.1.2,lF qI y.2.1.1.1,lI y.2.1.1.2.1,lF qI y.2.1.1.2.2.1,lF qT y.2.1.1.2.2.2,lM kvP qI y.2.1.2,lF qI y.2.2.1.1.1,lI y.2.2.1.1.2.1,lF qI y.2.2.1.1.2.2.1,lF qT y.2.2.1.1.2.2.2,lM kvP qI y.2.2.1.2,lF (rL qI) y.2.2.2.1,lF qI y.2.2.2.2.1,lF qI y.2.2.2.2.2]
theorem ycf :FAb 141 0 0:=fAm 0 0 4 Tryz.underlying141 R (by kernel_rfl)
theorem yfN :FAb 155 1 5:=fAm 1 5 5 Tryz.underlying155 R (by kernel_rfl)
theorem cf156 :CF 156:=cM Tryz.func156 (by kernel_rfl)
theorem cf157 :CF 157:=cM Tryz.func157 (by kernel_rfl)
theorem cf87 :CF 87:=cM Tryz.func87 (by kernel_rfl)
theorem cf140 :CF 140:=cM Tryz.func140 (by kernel_rfl)
theorem cf142 :CF 142:=cM Tryz.func142 (by kernel_rfl)
theorem cf152 :CF 152:=cM Tryz.func152 (by kernel_rfl)
theorem ag44 :Ag Tryz.prog 44 3:=Ag.mk' Tryz.underlying44 rfl (by kernel_rfl)
theorem cf109 :CF 109:=cM Tryz.func109 (by kernel_rfl)
theorem cf81 :CF 81:=cM Tryz.func81 (by kernel_rfl)
theorem cf85 :CF 85:=cM Tryz.func85 (by kernel_rfl)
theorem cf93 :CF 93:=cM Tryz.func93 (by kernel_rfl)
theorem yaO :FAb 155 2 10:=fAm 2 10 5 Tryz.underlying155 R (by kernel_rfl)
theorem pl44 :Pl Tryz.prog 44 [(0,1),(1,1),(2,1)] [.int .i64 0,.slice none 0 0,.slice none 0 0]:=Pl.str Tryz.underlying44 (by kernel_rfl) (by kernel_rfl)
theorem zz44 :(Tryz.prog.info? 44).bind (·.zero)=some (.agg #[.int .i64 0,.slice none 0 0,.slice none 0 0]):=by kernel_rfl
theorem lv155{y:TskT}:Lv rE155 y [lF qI y.1.1.1,lI y.1.1.2.1,lF qI y.1.1.2.2.1,lF qT y.1.1.2.2.2,lM kvP qI y.1.2,lF qI y.2.1.1.1,lI y.2.1.1.2.1,lF qI y.2.1.1.2.2.1,lF qT y.2.1.1.2.2.2,lM kvP qI y.2.1.2,lF qI y.2.2.1.1.1,lI y.2.2.1.1.2.1,lF qI y.2.2.1.1.2.2.1,lF qT y.2.2.1.1.2.2.2,lM kvP qI y.2.2.1.2,lF (rL qI) y.2.2.2.1,lF qI y.2.2.2.2.1,lF qI y.2.2.2.2.2]:=(.p (.p (.p .l (.p .k (.p .l .l))) .m) (.p (.p (.p .l (.p .k (.p .l .l))) .m) (.p (.p (.p .l (.p .k (.p .l .l))) .m) (.p .l (.p .l .l)))))
theorem cf136 :CF 136:=cM Tryz.func136 (by kernel_rfl)
theorem md229 :Md Tryz.prog 229 3 3 kvI (rK .i64) 0 (.int .i64 0):=Md.mk' Tryz.underlying229 (KE.int Tryz.underlying3) (by kernel_rfl) (fun _=>rfl)
theorem nag4 :NAg Tryz.prog 4:=NAg.mk' Tryz.underlying4 rfl (by kernel_rfl)
theorem sl144 :Sl Tryz.prog 144 4 1:=Sl.mk' Tryz.underlying144 (by kernel_rfl)
theorem zr4 :Zr Tryz.prog rB 4 1 false:=Zr.mk' (v:= .bool false) (by kernel_rfl) (by kernel_rfl) (by kernel_rfl) (fun _=>rfl)
theorem lv4{y:Bool}:Lv rB y [lB y]:= .b
theorem cf36 :CF 36:=cM Tryz.func36 (by kernel_rfl)
theorem cf229 :CF 229:=cM Tryz.func229 (by kernel_rfl)
theorem cf55 :CF 55:=cM Tryz.func55 (by kernel_rfl)
theorem cf194 :CF 194:=cM Tryz.func194 (by kernel_rfl)
theorem cf228 :CF 228:=cM Tryz.func228 (by kernel_rfl)
theorem cf230 :CF 230:=cM Tryz.func230 (by kernel_rfl)
theorem cf195 :CF 195:=cM Tryz.func195 (by kernel_rfl)
theorem yh8 :FAb 26 0 0:=fAm 0 0 1 Tryz.underlying26 R (by kernel_rfl)
theorem ykc :FAb 26 1 1:=fAm 1 1 1 Tryz.underlying26 R (by kernel_rfl)
theorem ykd :FAb 26 2 2:=fAm 2 2 25 Tryz.underlying26 R (by kernel_rfl)
theorem y4Q :FlatR (rP (rK .i64) (rP (rK .i64) (rK .i64))):=fun _ _ _ _ h=>h
theorem ia23 :IA Tryz.prog 23 5 1:=IA.mk Tryz.underlying23 (by kernel_rfl)
theorem ia24 :IA Tryz.prog 24 5 5:=IA.mk Tryz.underlying24 (by kernel_rfl)
theorem nag5 :NAg Tryz.prog 5:=NAg.mk' Tryz.underlying5 rfl (by kernel_rfl)
abbrev lx26(y:y1d):List LV:=[lV (.int .u8 y.1),lV (.int .u8 y.2.1),lV (.int .u8 y.2.2.1.1),lV (.int .u8 y.2.2.1.2.1),lV (.int .u8 y.2.2.1.2.2.1),lV (.int .u8 y.2.2.1.2.2.2.1),lV (.int .u8 y.2.2.1.2.2.2.2),lV (.int .u8 y.2.2.2.1.1),lV (.int .u8 y.2.2.2.1.2.1),lV (.int .u8 y.2.2.2.1.2.2.1),lV (.int .u8 y.2.2.2.1.2.2.2.1),lV (.int .u8 y.2.2.2.1.2.2.2.2),lV (.int .u8 y.2.2.2.2.1.1),lV (.int .u8 y.2.2.2.2.1.2.1),lV (.int .u8 y.2.2.2.2.1.2.2.1),lV (.int .u8 y.2.2.2.2.1.2.2.2.1),lV (.int .u8 y.2.2.2.2.1.2.2.2.2),lV (.int .u8 y.2.2.2.2.2.1.1),lV (.int .u8 y.2.2.2.2.2.1.2.1),lV (.int .u8 y.2.2.2.2.2.1.2.2.1),lV (.int .u8 y.2.2.2.2.2.1.2.2.2.1),lV (.int .u8 y.2.2.2.2.2.1.2.2.2.2),lV (.int .u8 y.2.2.2.2.2.2.1),lV (.int .u8 y.2.2.2.2.2.2.2.1),lV (.int .u8 y.2.2.2.2.2.2.2.2.1),lV (.int .u8 y.2.2.2.2.2.2.2.2.2.1),lV (.int .u8 y.2.2.2.2.2.2.2.2.2.2)]
theorem ag26 :Ag Tryz.prog 26 27:=Ag.mk' Tryz.underlying26 rfl (by kernel_rfl)
theorem cf143 :CF 143:=cM Tryz.func143 (by kernel_rfl)
theorem cf144 :CF 144:=cM Tryz.func144 (by kernel_rfl)
theorem yh9 :FAb 28 0 0:=fAm 0 0 1 Tryz.underlying28 R (by kernel_rfl)
theorem yha :FAb 28 1 1:=fAm 1 1 27 Tryz.underlying28 R (by kernel_rfl)
theorem yhb :FAb 30 0 0:=fAm 0 0 28 Tryz.underlying30 R (by kernel_rfl)
theorem yhc :FAb 30 1 28:=fAm 1 28 28 Tryz.underlying30 R (by kernel_rfl)
theorem yke :FAb 30 2 56:=fAm 2 56 1 Tryz.underlying30 R (by kernel_rfl)
theorem nag22 :NAg Tryz.prog 22:=NAg.mk' Tryz.underlying22 rfl (by kernel_rfl)
abbrev lx30(y:(Int×y1d)×(Int×y1d)×Int):List LV:=[lV (.int .u8 y.1.1),lV (.int .u8 y.1.2.1),lV (.int .u8 y.1.2.2.1),lV (.int .u8 y.1.2.2.2.1.1),lV (.int .u8 y.1.2.2.2.1.2.1),lV (.int .u8 y.1.2.2.2.1.2.2.1),lV (.int .u8 y.1.2.2.2.1.2.2.2.1),lV (.int .u8 y.1.2.2.2.1.2.2.2.2),lV (.int .u8 y.1.2.2.2.2.1.1),lV (.int .u8 y.1.2.2.2.2.1.2.1),lV (.int .u8 y.1.2.2.2.2.1.2.2.1),lV (.int .u8 y.1.2.2.2.2.1.2.2.2.1),lV (.int .u8 y.1.2.2.2.2.1.2.2.2.2),lV (.int .u8 y.1.2.2.2.2.2.1.1),lV (.int .u8 y.1.2.2.2.2.2.1.2.1),lV (.int .u8 y.1.2.2.2.2.2.1.2.2.1),lV (.int .u8 y.1.2.2.2.2.2.1.2.2.2.1),lV (.int .u8 y.1.2.2.2.2.2.1.2.2.2.2),lV (.int .u8 y.1.2.2.2.2.2.2.1.1),lV (.int .u8 y.1.2.2.2.2.2.2.1.2.1),lV (.int .u8 y.1.2.2.2.2.2.2.1.2.2.1),lV (.int .u8 y.1.2.2.2.2.2.2.1.2.2.2.1),lV (.int .u8 y.1.2.2.2.2.2.2.1.2.2.2.2),lV (.int .u8 y.1.2.2.2.2.2.2.2.1),lV (.int .u8 y.1.2.2.2.2.2.2.2.2.1),lV (.int .u8 y.1.2.2.2.2.2.2.2.2.2.1),lV (.int .u8 y.1.2.2.2.2.2.2.2.2.2.2.1),lV (.int .u8 y.1.2.2.2.2.2.2.2.2.2.2.2),lV (.int .u8 y.2.1.1),lV (.int .u8 y.2.1.2.1),lV (.int .u8 y.2.1.2.2.1),lV (.int .u8 y.2.1.2.2.2.1.1),lV (.int .u8 y.2.1.2.2.2.1.2.1),lV (.int .u8 y.2.1.2.2.2.1.2.2.1),lV (.int .u8 y.2.1.2.2.2.1.2.2.2.1),lV (.int .u8 y.2.1.2.2.2.1.2.2.2.2),lV (.int .u8 y.2.1.2.2.2.2.1.1),lV (.int .u8 y.2.1.2.2.2.2.1.2.1),lV (.int .u8 y.2.1.2.2.2.2.1.2.2.1),lV (.int .u8 y.2.1.2.2.2.2.1.2.2.2.1),lV (.int .u8 y.2.1.2.2.2.2.1.2.2.2.2),lV (.int .u8 y.2.1.2.2.2.2.2.1.1),lV (.int .u8 y.2.1.2.2.2.2.2.1.2.1),lV (.int .u8 y.2.1.2.2.2.2.2.1.2.2.1),lV (.int .u8 y.2.1.2.2.2.2.2.1.2.2.2.1),lV (.int .u8 y.2.1.2.2.2.2.2.1.2.2.2.2),lV (.int .u8 y.2.1.2.2.2.2.2.2.1.1),lV (.int .u8 y.2.1.2.2.2.2.2.2.1.2.1),lV (.int .u8 y.2.1.2.2.2.2.2.2.1.2.2.1),lV (.int .u8 y.2.1.2.2.2.2.2.2.1.2.2.2.1),lV (.int .u8 y.2.1.2.2.2.2.2.2.1.2.2.2.2),lV (.int .u8 y.2.1.2.2.2.2.2.2.2.1),lV (.int .u8 y.2.1.2.2.2.2.2.2.2.2.1),lV (.int .u8 y.2.1.2.2.2.2.2.2.2.2.2.1),lV (.int .u8 y.2.1.2.2.2.2.2.2.2.2.2.2.1),lV (.int .u8 y.2.1.2.2.2.2.2.2.2.2.2.2.2),lV (.int .u8 y.2.2)]
theorem ydJ :FAb 289 2 5:=fAm 2 5 1 Tryz.underlying289 R (by kernel_rfl)
theorem y6K :FAb 289 3 6:=fAm 3 6 1 Tryz.underlying289 R (by kernel_rfl)
theorem y2q :NAg Tryz.prog 144:=NAg.mk' Tryz.underlying144 rfl (by kernel_rfl)
theorem yf0 :NAg Tryz.prog 271:=NAg.mk' Tryz.underlying271 rfl (by kernel_rfl)
theorem pl289 :Pl Tryz.prog 289 [(0,4),(4,1),(5,1),(6,1)] [.slice none 0 0,.int .i64 0,.slice none 0 0,.slice none 0 0,.slice none 0 0,.map none,.slice none 0 0]:=Pl.str Tryz.underlying289 (by kernel_rfl) (by kernel_rfl)
theorem ydh :Md Tryz.prog 271 3 32 kvI rVal (.slice none 0 0) (.slice none 0 0):=Md.mk' Tryz.underlying271 (KE.int Tryz.underlying3) (by kernel_rfl) (fun _=>⟨rfl,rfl⟩)
theorem bs127 :Bs Tryz.prog 127 286 4 [.int .i64 0,.int .i64 0,.int .i64 0,.int .i64 0]:=Bs.mk' Tryz.underlying127 (by kernel_rfl) (by kernel_rfl) rfl
theorem el286 :El Tryz.prog 286 4 32:=El.mk' (z:= .agg #[.int .i64 0,.int .i64 0,.int .i64 0,.int .i64 0]) (by kernel_rfl) (by kernel_rfl) (by kernel_rfl) rfl
theorem yfO :FAb 286 0 0:=fAm 0 0 1 Tryz.underlying286 R (by kernel_rfl)
theorem y8p :FAb 289 0 0:=fAm 0 0 4 Tryz.underlying289 R (by kernel_rfl)
theorem yjw :FAb 289 1 4:=fAm 1 4 1 Tryz.underlying289 R (by kernel_rfl)
theorem pl286 :Pl Tryz.prog 286 [(0,1),(1,1),(2,1),(3,1)] [.int .i64 0,.int .i64 0,.int .i64 0,.int .i64 0]:=Pl.str Tryz.underlying286 (by kernel_rfl) (by kernel_rfl)
theorem sl127 :Sl Tryz.prog 127 286 4:=Sl.mk' Tryz.underlying127 (by kernel_rfl)
abbrev rE286 :Rep (Int×Int×Int×Int):=(rP qI (rP qI (rP qI qI)))
theorem lv286{y:Int×Int×Int×Int}:Lv rE286 y [lI y.1,lI y.2.1,lI y.2.2.1,lI y.2.2.2]:=(.p .k (.p .k (.p .k .k)))
abbrev lx289(y:AutT×List Int×(List (Int×List Int))×List Bool):List LV:=[lF qI y.1.1,lI y.1.2.1,lF qI y.1.2.2.1,lF qT y.1.2.2.2,lF qI y.2.1,lM kvI (rL qI) y.2.2.1,lF rB y.2.2.2]
theorem yhd :Md Tryz.prog 271 3 32 kvI (rL qI) [] (.slice none 0 0):=Md.mk' Tryz.underlying271 (KE.int Tryz.underlying3) (by kernel_rfl) (fun _=>⟨none,0,rfl,RdL.nil⟩)
theorem cf201 :CF 201:=cM Tryz.func201 (by kernel_rfl)
theorem cf231 :CF 231:=cM Tryz.func231 (by kernel_rfl)
theorem cf232 :CF 232:=cM Tryz.func232 (by kernel_rfl)
theorem sl314 :Sl Tryz.prog 314 33 1:=Sl.mk' Tryz.underlying314 (by kernel_rfl)
theorem zv33 :Zr Tryz.prog rVal 33 24 (.slice none 0 0):=Zr.mk' (v:= .slice none 0 0) (by kernel_rfl) (by kernel_rfl) (by kernel_rfl) (fun _=>⟨rfl,rfl⟩)
theorem lv33{y:List (Int×Int×Int)}:Lv (rL qT) y [lF qT y]:= .l
theorem ag131 :Ag Tryz.prog 131 9:=Ag.mk' Tryz.underlying131 rfl (by kernel_rfl)
theorem ag286 :Ag Tryz.prog 286 4:=Ag.mk' Tryz.underlying286 rfl (by kernel_rfl)
theorem cf197 :CF 197:=cM Tryz.func197 (by kernel_rfl)
theorem cf198 :CF 198:=cM Tryz.func198 (by kernel_rfl)
theorem cf199 :CF 199:=cM Tryz.func199 (by kernel_rfl)
theorem cf202 :CF 202:=cM Tryz.func202 (by kernel_rfl)
theorem yfP :FAb 129 0 0:=fAm 0 0 1 Tryz.underlying129 R (by kernel_rfl)
theorem yfQ :FAb 129 1 1:=fAm 1 1 1 Tryz.underlying129 R (by kernel_rfl)
theorem yaP :FAb 129 2 2:=fAm 2 2 1 Tryz.underlying129 R (by kernel_rfl)
theorem y7U :FAb 131 0 0:=fAm 0 0 3 Tryz.underlying131 R (by kernel_rfl)
theorem yfR :FAb 131 1 3:=fAm 1 3 1 Tryz.underlying131 R (by kernel_rfl)
theorem yfS :FAb 131 2 4:=fAm 2 4 4 Tryz.underlying131 R (by kernel_rfl)
theorem yjx :FAb 131 3 8:=fAm 3 8 1 Tryz.underlying131 R (by kernel_rfl)
theorem yhe :FlatR (rP (rK .i64) (rP (rK .i64) (rP (rK .i64) (rK .i64)))):=fun _ _ _ _ h=>h
theorem ybU :NAg Tryz.prog 127:=NAg.mk' Tryz.underlying127 rfl (by kernel_rfl)
theorem zz131 :(Tryz.prog.info? 131).bind (·.zero)=some (.agg #[.slice none 0 0,.slice none 0 0,.slice none 0 0,.int .i64 0,.slice none 0 0,.int .i64 0,.slice none 0 0,.slice none 0 0,.slice none 0 0]):=by kernel_rfl
theorem zz286 :(Tryz.prog.info? 286).bind (·.zero)=some (.agg #[.int .i64 0,.int .i64 0,.int .i64 0,.int .i64 0]):=by kernel_rfl
abbrev lx286(y:Int×Int×Int×Int):List LV:=[lI y.1,lI y.2.1,lI y.2.2.1,lI y.2.2.2]
theorem cf146 :CF 146:=cM Tryz.func146 (by kernel_rfl)
theorem cf147 :CF 147:=cM Tryz.func147 (by kernel_rfl)
theorem pl131 :Pl Tryz.prog 131 [(0,3),(3,1),(4,4),(8,1)] [.slice none 0 0,.slice none 0 0,.slice none 0 0,.int .i64 0,.slice none 0 0,.int .i64 0,.slice none 0 0,.slice none 0 0,.slice none 0 0]:=Pl.str Tryz.underlying131 (by kernel_rfl) (by kernel_rfl)
theorem ag30 :Ag Tryz.prog 30 57:=Ag.mk' Tryz.underlying30 rfl (by kernel_rfl)
theorem cf72 :CF 72:=cM Tryz.func72 (by kernel_rfl)
theorem cf73 :CF 73:=cM Tryz.func73 (by kernel_rfl)
theorem cf74 :CF 74:=cM Tryz.func74 (by kernel_rfl)
theorem cf16 :CF 16:=cM Tryz.func16 (by kernel_rfl)
theorem zz3 :(Tryz.prog.info? 3).bind (·.zero)=some (.int .i64 0):=by kernel_rfl
theorem cf90 :CF 90:=cM Tryz.func90 (by kernel_rfl)
theorem yjy :FAb 155 5 17:=fAm 5 17 1 Tryz.underlying155 R (by kernel_rfl)
theorem cf106 :CF 106:=cM Tryz.func106 (by kernel_rfl)
theorem cf30 :CF 30:=cM Tryz.func30 (by kernel_rfl)
theorem cf59 :CF 59:=cM Tryz.func59 (by kernel_rfl)
theorem ydK :FAb 269 1 1:=fAm 1 1 1 Tryz.underlying269 R (by kernel_rfl)
theorem yfT :FAb 269 2 2:=fAm 2 2 1 Tryz.underlying269 R (by kernel_rfl)
abbrev rE302 :Rep (Int×Int):=(rP qI qI)
theorem ag241 :Ag Tryz.prog 241 2:=Ag.mk' Tryz.underlying241 rfl (by kernel_rfl)
theorem bs189 :Bs Tryz.prog 189 302 2 [.int .i64 0,.int .i64 0]:=Bs.mk' Tryz.underlying189 (by kernel_rfl) (by kernel_rfl) rfl
theorem el302 :El Tryz.prog 302 2 16:=El.mk' (z:= .agg #[.int .i64 0,.int .i64 0]) (by kernel_rfl) (by kernel_rfl) (by kernel_rfl) rfl
theorem y9V :FAb 269 0 0:=fAm 0 0 1 Tryz.underlying269 R (by kernel_rfl)
theorem ia241 :IA Tryz.prog 241 2 1:=IA.mk Tryz.underlying241 (by kernel_rfl)
theorem y7t :NAg Tryz.prog 189:=NAg.mk' Tryz.underlying189 rfl (by kernel_rfl)
theorem pl302 :Pl Tryz.prog 302 [(0,1),(1,1)] [.int .i64 0,.int .i64 0]:=Pl.str Tryz.underlying302 (by kernel_rfl) (by kernel_rfl)
theorem sl322 :Sl Tryz.prog 322 241 2:=Sl.mk' Tryz.underlying322 (by kernel_rfl)
theorem zz241 :(Tryz.prog.info? 241).bind (·.zero)=some (.agg #[.int .i64 0,.int .i64 0]):=by kernel_rfl
abbrev rE241 :Rep (Int×Int):=(rP qI qI)
theorem lv241{y:Int×Int}:Lv rE241 y [lI y.1,lI y.2]:=(.p .k .k)
theorem bs322 :Bs Tryz.prog 322 241 2 [.int .i64 0,.int .i64 0]:=Bs.mk' Tryz.underlying322 (by kernel_rfl) (by kernel_rfl) rfl
theorem cf182 :CF 182:=cM Tryz.func182 (by kernel_rfl)
theorem cf217 :CF 217:=cM Tryz.func217 (by kernel_rfl)
theorem y7z :FAb 302 1 1:=fAm 1 1 1 Tryz.underlying302 R (by kernel_rfl)
theorem sl189 :Sl Tryz.prog 189 302 2:=Sl.mk' Tryz.underlying189 (by kernel_rfl)
theorem lv302{y:Int×Int}:Lv rE302 y [lI y.1,lI y.2]:=(.p .k .k)
theorem ag193 :Ag Tryz.prog 193 8:=Ag.mk' Tryz.underlying193 rfl (by kernel_rfl)
theorem cf181 :CF 181:=cM Tryz.func181 (by kernel_rfl)
theorem cf183 :CF 183:=cM Tryz.func183 (by kernel_rfl)
theorem cf184 :CF 184:=cM Tryz.func184 (by kernel_rfl)
theorem pl191 :Pl Tryz.prog 191 [(0,1),(1,1),(2,1),(3,1),(4,1)] [.int .i64 0,.int .i64 0,.int .i64 0,.slice none 0 0,.slice none 0 0]:=Pl.str Tryz.underlying191 (by kernel_rfl) (by kernel_rfl)
theorem pl193 :Pl Tryz.prog 193 [(0,5),(5,1),(6,1),(7,1)] [.int .i64 0,.int .i64 0,.int .i64 0,.slice none 0 0,.slice none 0 0,.slice none 0 0,.slice none 0 0,.int .i64 0]:=Pl.str Tryz.underlying193 (by kernel_rfl) (by kernel_rfl)
theorem pl269 :Pl Tryz.prog 269 [(0,1),(1,1),(2,1)] [.slice none 0 0,.int .i64 0,.int .i64 0]:=Pl.str Tryz.underlying269 (by kernel_rfl) (by kernel_rfl)
theorem zz193 :(Tryz.prog.info? 193).bind (·.zero)=some (.agg #[.int .i64 0,.int .i64 0,.int .i64 0,.slice none 0 0,.slice none 0 0,.slice none 0 0,.slice none 0 0,.int .i64 0]):=by kernel_rfl
theorem ykf :Md Tryz.prog 270 3 33 kvI (rL qT) [] (.slice none 0 0):=Md.mk' Tryz.underlying270 (KE.int Tryz.underlying3) (by kernel_rfl) (fun _=>⟨none,0,rfl,RdL.nil⟩)
theorem yhf :Md Tryz.prog 270 3 33 kvI rVal (.slice none 0 0) (.slice none 0 0):=Md.mk' Tryz.underlying270 (KE.int Tryz.underlying3) (by kernel_rfl) (fun _=>⟨rfl,rfl⟩)
theorem cf120 :CF 120:=cM Tryz.func120 (by kernel_rfl)
theorem ykg :FlatR (rP (rK .i64) (rK .i64)):=fun _ _ _ _ h=>h
theorem flr4 :FlatR rB:=fun _ _ _ _ h=>h
theorem cf119 :CF 119:=cM Tryz.func119 (by kernel_rfl)
theorem cf131 :CF 131:=cM Tryz.func131 (by kernel_rfl)
theorem ag114 :Ag Tryz.prog 114 3:=Ag.mk' Tryz.underlying114 rfl (by kernel_rfl)
theorem cf137 :CF 137:=cM Tryz.func137 (by kernel_rfl)
theorem cf62 :CF 62:=cM Tryz.func62 (by kernel_rfl)
theorem yfU :FAb 114 0 0:=fAm 0 0 1 Tryz.underlying114 R (by kernel_rfl)
theorem yfV :FAb 114 1 1:=fAm 1 1 1 Tryz.underlying114 R (by kernel_rfl)
theorem y8R :FAb 114 2 2:=fAm 2 2 1 Tryz.underlying114 R (by kernel_rfl)
theorem sl94 :Sl Tryz.prog 94 114 3:=Sl.mk' Tryz.underlying94 (by kernel_rfl)
theorem zz114 :(Tryz.prog.info? 114).bind (·.zero)=some (.agg #[.slice none 0 0,.slice none 0 0,.int .i64 0]):=by kernel_rfl
abbrev rE114 :Rep CycT:=(rP (rL qI) (rP (rL qI) qI))
theorem lv114{y:CycT}:Lv rE114 y [lF qI y.1,lF qI y.2.1,lI y.2.2]:=(.p .l (.p .l .k))
theorem y9W :FAb 191 0 0:=fAm 0 0 1 Tryz.underlying191 R (by kernel_rfl)
theorem y9X :FAb 191 1 1:=fAm 1 1 1 Tryz.underlying191 R (by kernel_rfl)
theorem yaQ :FAb 191 2 2:=fAm 2 2 1 Tryz.underlying191 R (by kernel_rfl)
theorem yfW :FAb 191 3 3:=fAm 3 3 1 Tryz.underlying191 R (by kernel_rfl)
theorem y9Y :FAb 191 4 4:=fAm 4 4 1 Tryz.underlying191 R (by kernel_rfl)
theorem pl367 :Pl Tryz.prog 367 (plK 1 3 0) [.int .i64 0,.int .i64 0,.int .i64 0]:=Pl.arr Tryz.underlying367 (by kernel_rfl) (by kernel_rfl)
abbrev rE191 :Rep (Int×Int×Int×List Bool×(List (Int×Int))):=(rP qI (rP qI (rP qI (rP (rL rB) (rL rE302)))))
abbrev lx191(y:Int×Int×Int×List Bool×(List (Int×Int))):List LV:=[lI y.1,lI y.2.1,lI y.2.2.1,lF rB y.2.2.2.1,lF rE302 y.2.2.2.2]
theorem bs368 :Bs Tryz.prog 368 372 5 [.int .i64 0,.string (⟨#[]⟩:ByteArray),.nilFunc,.nilFunc,.nilFunc]:=Bs.mk' Tryz.underlying368 (by kernel_rfl) (by kernel_rfl) rfl
theorem cf306 :CF 306:=cM Tryz.func306 (by kernel_rfl)
theorem cf307 :CF 307:=cM Tryz.func307 (by kernel_rfl)
theorem cf308 :CF 308:=cM Tryz.func308 (by kernel_rfl)
theorem cf309 :CF 309:=cM Tryz.func309 (by kernel_rfl)
theorem cf310 :CF 310:=cM Tryz.func310 (by kernel_rfl)
theorem cf311 :CF 311:=cM Tryz.func311 (by kernel_rfl)
theorem cf312 :CF 312:=cM Tryz.func312 (by kernel_rfl)
theorem cf313 :CF 313:=cM Tryz.func313 (by kernel_rfl)
theorem cf314 :CF 314:=cM Tryz.func314 (by kernel_rfl)
theorem cf315 :CF 315:=cM Tryz.func315 (by kernel_rfl)
theorem cf316 :CF 316:=cM Tryz.func316 (by kernel_rfl)
theorem cf317 :CF 317:=cM Tryz.func317 (by kernel_rfl)
theorem cf318 :CF 318:=cM Tryz.func318 (by kernel_rfl)
theorem pl372 :Pl Tryz.prog 372 [(0,1),(1,1),(2,1),(3,1),(4,1)] [.int .i64 0,.string (⟨#[]⟩:ByteArray),.nilFunc,.nilFunc,.nilFunc]:=Pl.str Tryz.underlying372 (by kernel_rfl) (by kernel_rfl)
abbrev rE372 :Rep (Int×ByteArray×(Option (Bool→Bool→Option Bool))×(Option (Bool→Bool→Option Bool))×(Option (Bool→Option Bool))):=(rP qI (rP rStr (rP (rF2 Tryz.prog (fun (x0:Bool) (x1:Bool)=> [.bool x0,.bool x1]) (fun (r:Bool)=> .bool r)) (rP (rF2 Tryz.prog (fun (x0:Bool) (x1:Bool)=> [.bool x0,.bool x1]) (fun (r:Bool)=> .bool r)) (rF1 Tryz.prog (fun (x0:Bool)=> [.bool x0]) (fun (r:Bool)=> .bool r))))))
theorem ag191 :Ag Tryz.prog 191 5:=Ag.mk' Tryz.underlying191 rfl (by kernel_rfl)
theorem ag302 :Ag Tryz.prog 302 2:=Ag.mk' Tryz.underlying302 rfl (by kernel_rfl)
theorem ag372 :Ag Tryz.prog 372 5:=Ag.mk' Tryz.underlying372 rfl (by kernel_rfl)
theorem cf293 :CF 293:=cM Tryz.func293 (by kernel_rfl)
theorem cf294 :CF 294:=cM Tryz.func294 (by kernel_rfl)
theorem ycg :FAb 302 0 0:=fAm 0 0 1 Tryz.underlying302 R (by kernel_rfl)
theorem ydL :FAb 372 3 3:=fAm 3 3 1 Tryz.underlying372 R (by kernel_rfl)
theorem yfX :FAb 372 4 4:=fAm 4 4 1 Tryz.underlying372 R (by kernel_rfl)
theorem ybV :NAg Tryz.prog 135:=NAg.mk' Tryz.underlying135 rfl (by kernel_rfl)
theorem yhg :NAg Tryz.prog 370:=NAg.mk' Tryz.underlying370 rfl (by kernel_rfl)
theorem sl368 :Sl Tryz.prog 368 372 5:=Sl.mk' Tryz.underlying368 (by kernel_rfl)
theorem zz302 :(Tryz.prog.info? 302).bind (·.zero)=some (.agg #[.int .i64 0,.int .i64 0]):=by kernel_rfl
theorem zz372 :(Tryz.prog.info? 372).bind (·.zero)=some (.agg #[.int .i64 0,.string (⟨#[]⟩:ByteArray),.nilFunc,.nilFunc,.nilFunc]):=by kernel_rfl
theorem lv372{y:Int×ByteArray×(Option (Bool→Bool→Option Bool))×(Option (Bool→Bool→Option Bool))×(Option (Bool→Option Bool))}:Lv rE372 y [lI y.1,lV (.string y.2.1),lF2 Tryz.prog (fun (x0:Bool) (x1:Bool)=> [.bool x0,.bool x1]) (fun (r:Bool)=> .bool r) y.2.2.1,lF2 Tryz.prog (fun (x0:Bool) (x1:Bool)=> [.bool x0,.bool x1]) (fun (r:Bool)=> .bool r) y.2.2.2.1,lF1 Tryz.prog (fun (x0:Bool)=> [.bool x0]) (fun (r:Bool)=> .bool r) y.2.2.2.2]:=(.p .k (.p .s (.p .f2 (.p .f2 .f1))))
theorem cf269 :CF 269:=cM Tryz.func269 (by kernel_rfl)
theorem cf270 :CF 270:=cM Tryz.func270 (by kernel_rfl)
theorem ag197 :Ag Tryz.prog 197 2:=Ag.mk' Tryz.underlying197 rfl (by kernel_rfl)
theorem bs144 :Bs Tryz.prog 144 4 1 [.bool false]:=Bs.mk' Tryz.underlying144 (by kernel_rfl) (by kernel_rfl) rfl
theorem cf243 :CF 243:=cM Tryz.func243 (by kernel_rfl)
theorem el4 :El Tryz.prog 4 1 1:=El.mk' (z:= .bool false) (by kernel_rfl) (by kernel_rfl) (by kernel_rfl) rfl
theorem pl197 :Pl Tryz.prog 197 [(0,1),(1,1)] [.slice none 0 0,.slice none 0 0]:=Pl.str Tryz.underlying197 (by kernel_rfl) (by kernel_rfl)
theorem zz197 :(Tryz.prog.info? 197).bind (·.zero)=some (.agg #[.slice none 0 0,.slice none 0 0]):=by kernel_rfl
theorem cf220 :CF 220:=cM Tryz.func220 (by kernel_rfl)
theorem ych :FAb 193 0 0:=fAm 0 0 5 Tryz.underlying193 R (by kernel_rfl)
theorem pl199 :Pl Tryz.prog 199 [(0,9),(9,8),(17,1),(18,2)] [.slice none 0 0,.int .i64 0,.slice none 0 0,.slice none 0 0,.slice none 0 0,.int .i64 0,.slice none 0 0,.slice none 0 0,.slice none 0 0,.int .i64 0,.int .i64 0,.int .i64 0,.slice none 0 0,.slice none 0 0,.slice none 0 0,.slice none 0 0,.int .i64 0,.int .i64 0,.slice none 0 0,.slice none 0 0]:=Pl.str Tryz.underlying199 (by kernel_rfl) (by kernel_rfl)
abbrev rE193 :Rep CodT:=(rP rE191 (rP (rL qI) (rP (rL qI) qI)))
abbrev rE197 :Rep (List Bool×List Bool):=(rP (rL rB) (rL rB))
abbrev rE199 :Rep BenT:=(rP rE37 (rP rE193 (rP qI rE197)))
theorem yci :FAb 199 2 17:=fAm 2 17 1 Tryz.underlying199 R (by kernel_rfl)
theorem y4j :NAg Tryz.prog 276:=NAg.mk' Tryz.underlying276 rfl (by kernel_rfl)
theorem lv199{y:BenT}:Lv rE199 y [lF qI y.1.1.1,lI y.1.1.2.1,lF qI y.1.1.2.2.1,lF qT y.1.1.2.2.2,lF qI y.1.2.1.1,lI y.1.2.1.2.1,lF qI y.1.2.1.2.2.1,lF qT y.1.2.1.2.2.2,lF qI y.1.2.2,lI y.2.1.1.1,lI y.2.1.1.2.1,lI y.2.1.1.2.2.1,lF rB y.2.1.1.2.2.2.1,lF rE302 y.2.1.1.2.2.2.2,lF qI y.2.1.2.1,lF qI y.2.1.2.2.1,lI y.2.1.2.2.2,lI y.2.2.1,lF rB y.2.2.2.1,lF rB y.2.2.2.2]:=(.p (.p (.p .l (.p .k (.p .l .l))) (.p (.p .l (.p .k (.p .l .l))) .l)) (.p (.p (.p .k (.p .k (.p .k (.p .l .l)))) (.p .l (.p .l .k))) (.p .k (.p .l .l))))
abbrev lx199(y:BenT):List LV:=[lF qI y.1.1.1,lI y.1.1.2.1,lF qI y.1.1.2.2.1,lF qT y.1.1.2.2.2,lF qI y.1.2.1.1,lI y.1.2.1.2.1,lF qI y.1.2.1.2.2.1,lF qT y.1.2.1.2.2.2,lF qI y.1.2.2,lI y.2.1.1.1,lI y.2.1.1.2.1,lI y.2.1.1.2.2.1,lF rB y.2.1.1.2.2.2.1,lF rE302 y.2.1.1.2.2.2.2,lF qI y.2.1.2.1,lF qI y.2.1.2.2.1,lI y.2.1.2.2.2,lI y.2.2.1,lF rB y.2.2.2.1,lF rB y.2.2.2.2]
theorem cf242 :CF 242:=cM Tryz.func242 (by kernel_rfl)
theorem y7V :FAb 199 0 0:=fAm 0 0 9 Tryz.underlying199 R (by kernel_rfl)
theorem cf219 :CF 219:=cM Tryz.func219 (by kernel_rfl)
theorem cf295 :CF 295:=cM Tryz.func295 (by kernel_rfl)
theorem ydM :FAb 193 1 5:=fAm 1 5 1 Tryz.underlying193 R (by kernel_rfl)
abbrev lx193(y:CodT):List LV:=[lI y.1.1,lI y.1.2.1,lI y.1.2.2.1,lF rB y.1.2.2.2.1,lF rE302 y.1.2.2.2.2,lF qI y.2.1,lF qI y.2.2.1,lI y.2.2.2]
theorem cf321 :CF 321:=cM Tryz.func321 (by kernel_rfl)
theorem sl387 :Sl Tryz.prog 387 144 1:=Sl.mk' Tryz.underlying387 (by kernel_rfl)
theorem lv144{y:List Bool}:Lv (rL rB) y [lF rB y]:= .l
theorem bs387 :Bs Tryz.prog 387 144 1 [.slice none 0 0]:=Bs.mk' Tryz.underlying387 (by kernel_rfl) (by kernel_rfl) rfl
theorem cf319 :CF 319:=cM Tryz.func319 (by kernel_rfl)
theorem yaR :FAb 197 0 0:=fAm 0 0 1 Tryz.underlying197 R (by kernel_rfl)
theorem ycj :FAb 197 1 1:=fAm 1 1 1 Tryz.underlying197 R (by kernel_rfl)
theorem yfY :FAb 372 2 2:=fAm 2 2 1 Tryz.underlying372 R (by kernel_rfl)
theorem cf296 :CF 296:=cM Tryz.func296 (by kernel_rfl)
theorem cf297 :CF 297:=cM Tryz.func297 (by kernel_rfl)
theorem cf298 :CF 298:=cM Tryz.func298 (by kernel_rfl)
theorem cf271 :CF 271:=cM Tryz.func271 (by kernel_rfl)
theorem cf272 :CF 272:=cM Tryz.func272 (by kernel_rfl)
theorem cf244 :CF 244:=cM Tryz.func244 (by kernel_rfl)
theorem yck :FAb 199 1 9:=fAm 1 9 8 Tryz.underlying199 R (by kernel_rfl)
theorem yaS :FAb 199 3 18:=fAm 3 18 2 Tryz.underlying199 R (by kernel_rfl)
theorem cf245 :CF 245:=cM Tryz.func245 (by kernel_rfl)
theorem yfZ :FAb 193 2 6:=fAm 2 6 1 Tryz.underlying193 R (by kernel_rfl)
theorem cf224 :CF 224:=cM Tryz.func224 (by kernel_rfl)
theorem ycl :FAb 100 2 2:=fAm 2 2 1 Tryz.underlying100 R (by kernel_rfl)
abbrev rE100 :Rep StpT:=(rP (rL qI) (rP (rL qI) (rP (rL qI) (rP qI (rP rB (rP qI rB))))))
abbrev lx100(y:StpT):List LV:=[lF qI y.1,lF qI y.2.1,lF qI y.2.2.1,lI y.2.2.2.1,lB y.2.2.2.2.1,lI y.2.2.2.2.2.1,lB y.2.2.2.2.2.2]
theorem cf186 :CF 186:=cM Tryz.func186 (by kernel_rfl)
theorem yjz :FAb 193 3 7:=fAm 3 7 1 Tryz.underlying193 R (by kernel_rfl)
theorem ag100 :Ag Tryz.prog 100 7:=Ag.mk' Tryz.underlying100 rfl (by kernel_rfl)
theorem cf221 :CF 221:=cM Tryz.func221 (by kernel_rfl)
theorem cf222 :CF 222:=cM Tryz.func222 (by kernel_rfl)
theorem cf223 :CF 223:=cM Tryz.func223 (by kernel_rfl)
theorem cf225 :CF 225:=cM Tryz.func225 (by kernel_rfl)
theorem cf226 :CF 226:=cM Tryz.func226 (by kernel_rfl)
theorem cf227 :CF 227:=cM Tryz.func227 (by kernel_rfl)
theorem yaT :FAb 100 0 0:=fAm 0 0 1 Tryz.underlying100 R (by kernel_rfl)
theorem ydN :FAb 100 1 1:=fAm 1 1 1 Tryz.underlying100 R (by kernel_rfl)
theorem y9Z :FAb 100 3 3:=fAm 3 3 1 Tryz.underlying100 R (by kernel_rfl)
theorem yaU :FAb 100 4 4:=fAm 4 4 1 Tryz.underlying100 R (by kernel_rfl)
theorem ydO :FAb 100 5 5:=fAm 5 5 1 Tryz.underlying100 R (by kernel_rfl)
theorem yg0 :FAb 100 6 6:=fAm 6 6 1 Tryz.underlying100 R (by kernel_rfl)
theorem zz100 :(Tryz.prog.info? 100).bind (·.zero)=some (.agg #[.slice none 0 0,.slice none 0 0,.slice none 0 0,.int .i64 0,.bool false,.int .i64 0,.bool false]):=by kernel_rfl
theorem bs91 :Bs Tryz.prog 91 100 7 [.slice none 0 0,.slice none 0 0,.slice none 0 0,.int .i64 0,.bool false,.int .i64 0,.bool false]:=Bs.mk' Tryz.underlying91 (by kernel_rfl) (by kernel_rfl) rfl
theorem cf191 :CF 191:=cM Tryz.func191 (by kernel_rfl)
theorem cf192 :CF 192:=cM Tryz.func192 (by kernel_rfl)
theorem el100 :El Tryz.prog 100 7 104:=El.mk' (z:= .agg #[.slice none 0 0,.slice none 0 0,.slice none 0 0,.int .i64 0,.bool false,.int .i64 0,.bool false]) (by kernel_rfl) (by kernel_rfl) (by kernel_rfl) rfl
theorem cf130 :CF 130:=cM Tryz.func130 (by kernel_rfl)
theorem cf128 :CF 128:=cM Tryz.func128 (by kernel_rfl)
theorem cf129 :CF 129:=cM Tryz.func129 (by kernel_rfl)
theorem cf65 :CF 65:=cM Tryz.func65 (by kernel_rfl)
theorem cf218 :CF 218:=cM Tryz.func218 (by kernel_rfl)
theorem cf185 :CF 185:=cM Tryz.func185 (by kernel_rfl)
theorem cf123 :CF 123:=cM Tryz.func123 (by kernel_rfl)
theorem sl91 :Sl Tryz.prog 91 100 7:=Sl.mk' Tryz.underlying91 (by kernel_rfl)
theorem lv100{y:StpT}:Lv rE100 y [lF qI y.1,lF qI y.2.1,lF qI y.2.2.1,lI y.2.2.2.1,lB y.2.2.2.2.1,lI y.2.2.2.2.2.1,lB y.2.2.2.2.2.2]:=(.p .l (.p .l (.p .l (.p .k (.p .b (.p .k .b))))))
theorem ydP :FAb 201 1 20:=fAm 1 20 1 Tryz.underlying201 R (by kernel_rfl)
theorem y7u :NAg Tryz.prog 275:=NAg.mk' Tryz.underlying275 rfl (by kernel_rfl)
abbrev rE201 :Rep (BenT×Int×Bool):=(rP rE199 (rP qI rB))
theorem lv201{y:BenT×Int×Bool}:Lv rE201 y [lF qI y.1.1.1.1,lI y.1.1.1.2.1,lF qI y.1.1.1.2.2.1,lF qT y.1.1.1.2.2.2,lF qI y.1.1.2.1.1,lI y.1.1.2.1.2.1,lF qI y.1.1.2.1.2.2.1,lF qT y.1.1.2.1.2.2.2,lF qI y.1.1.2.2,lI y.1.2.1.1.1,lI y.1.2.1.1.2.1,lI y.1.2.1.1.2.2.1,lF rB y.1.2.1.1.2.2.2.1,lF rE302 y.1.2.1.1.2.2.2.2,lF qI y.1.2.1.2.1,lF qI y.1.2.1.2.2.1,lI y.1.2.1.2.2.2,lI y.1.2.2.1,lF rB y.1.2.2.2.1,lF rB y.1.2.2.2.2,lI y.2.1,lB y.2.2]:=(.p (.p (.p (.p .l (.p .k (.p .l .l))) (.p (.p .l (.p .k (.p .l .l))) .l)) (.p (.p (.p .k (.p .k (.p .k (.p .l .l)))) (.p .l (.p .l .k))) (.p .k (.p .l .l)))) (.p .k .b))
abbrev lx201(y:BenT×Int×Bool):List LV:=[lF qI y.1.1.1.1,lI y.1.1.1.2.1,lF qI y.1.1.1.2.2.1,lF qT y.1.1.1.2.2.2,lF qI y.1.1.2.1.1,lI y.1.1.2.1.2.1,lF qI y.1.1.2.1.2.2.1,lF qT y.1.1.2.1.2.2.2,lF qI y.1.1.2.2,lI y.1.2.1.1.1,lI y.1.2.1.1.2.1,lI y.1.2.1.1.2.2.1,lF rB y.1.2.1.1.2.2.2.1,lF rE302 y.1.2.1.1.2.2.2.2,lF qI y.1.2.1.2.1,lF qI y.1.2.1.2.2.1,lI y.1.2.1.2.2.2,lI y.1.2.2.1,lF rB y.1.2.2.2.1,lF rB y.1.2.2.2.2,lI y.2.1,lB y.2.2]
theorem ag201 :Ag Tryz.prog 201 22:=Ag.mk' Tryz.underlying201 rfl (by kernel_rfl)
theorem cf122 :CF 122:=cM Tryz.func122 (by kernel_rfl)
theorem cf124 :CF 124:=cM Tryz.func124 (by kernel_rfl)
theorem cf53 :CF 53:=cM Tryz.func53 (by kernel_rfl)
theorem pl201 :Pl Tryz.prog 201 [(0,20),(20,1),(21,1)] [.slice none 0 0,.int .i64 0,.slice none 0 0,.slice none 0 0,.slice none 0 0,.int .i64 0,.slice none 0 0,.slice none 0 0,.slice none 0 0,.int .i64 0,.int .i64 0,.int .i64 0,.slice none 0 0,.slice none 0 0,.slice none 0 0,.slice none 0 0,.int .i64 0,.int .i64 0,.slice none 0 0,.slice none 0 0,.int .i64 0,.bool false]:=Pl.str Tryz.underlying201 (by kernel_rfl) (by kernel_rfl)
theorem zz201 :(Tryz.prog.info? 201).bind (·.zero)=some (.agg #[.slice none 0 0,.int .i64 0,.slice none 0 0,.slice none 0 0,.slice none 0 0,.int .i64 0,.slice none 0 0,.slice none 0 0,.slice none 0 0,.int .i64 0,.int .i64 0,.int .i64 0,.slice none 0 0,.slice none 0 0,.slice none 0 0,.slice none 0 0,.int .i64 0,.int .i64 0,.slice none 0 0,.slice none 0 0,.int .i64 0,.bool false]):=by kernel_rfl
theorem bs94 :Bs Tryz.prog 94 114 3 [.slice none 0 0,.slice none 0 0,.int .i64 0]:=Bs.mk' Tryz.underlying94 (by kernel_rfl) (by kernel_rfl) rfl
theorem cf118 :CF 118:=cM Tryz.func118 (by kernel_rfl)
theorem cf49 :CF 49:=cM Tryz.func49 (by kernel_rfl)
theorem cf57 :CF 57:=cM Tryz.func57 (by kernel_rfl)
theorem pl114 :Pl Tryz.prog 114 [(0,1),(1,1),(2,1)] [.slice none 0 0,.slice none 0 0,.int .i64 0]:=Pl.str Tryz.underlying114 (by kernel_rfl) (by kernel_rfl)
theorem ykh :FAb 84 0 0:=fAm 0 0 57 Tryz.underlying84 R (by kernel_rfl)
theorem yki :FAb 84 1 57:=fAm 1 57 1 Tryz.underlying84 R (by kernel_rfl)
abbrev lx84(y:((Int×y1d)×(Int×y1d)×Int)×Bool):List LV:=[lV (.int .u8 y.1.1.1),lV (.int .u8 y.1.1.2.1),lV (.int .u8 y.1.1.2.2.1),lV (.int .u8 y.1.1.2.2.2.1.1),lV (.int .u8 y.1.1.2.2.2.1.2.1),lV (.int .u8 y.1.1.2.2.2.1.2.2.1),lV (.int .u8 y.1.1.2.2.2.1.2.2.2.1),lV (.int .u8 y.1.1.2.2.2.1.2.2.2.2),lV (.int .u8 y.1.1.2.2.2.2.1.1),lV (.int .u8 y.1.1.2.2.2.2.1.2.1),lV (.int .u8 y.1.1.2.2.2.2.1.2.2.1),lV (.int .u8 y.1.1.2.2.2.2.1.2.2.2.1),lV (.int .u8 y.1.1.2.2.2.2.1.2.2.2.2),lV (.int .u8 y.1.1.2.2.2.2.2.1.1),lV (.int .u8 y.1.1.2.2.2.2.2.1.2.1),lV (.int .u8 y.1.1.2.2.2.2.2.1.2.2.1),lV (.int .u8 y.1.1.2.2.2.2.2.1.2.2.2.1),lV (.int .u8 y.1.1.2.2.2.2.2.1.2.2.2.2),lV (.int .u8 y.1.1.2.2.2.2.2.2.1.1),lV (.int .u8 y.1.1.2.2.2.2.2.2.1.2.1),lV (.int .u8 y.1.1.2.2.2.2.2.2.1.2.2.1),lV (.int .u8 y.1.1.2.2.2.2.2.2.1.2.2.2.1),lV (.int .u8 y.1.1.2.2.2.2.2.2.1.2.2.2.2),lV (.int .u8 y.1.1.2.2.2.2.2.2.2.1),lV (.int .u8 y.1.1.2.2.2.2.2.2.2.2.1),lV (.int .u8 y.1.1.2.2.2.2.2.2.2.2.2.1),lV (.int .u8 y.1.1.2.2.2.2.2.2.2.2.2.2.1),lV (.int .u8 y.1.1.2.2.2.2.2.2.2.2.2.2.2),lV (.int .u8 y.1.2.1.1),lV (.int .u8 y.1.2.1.2.1),lV (.int .u8 y.1.2.1.2.2.1),lV (.int .u8 y.1.2.1.2.2.2.1.1),lV (.int .u8 y.1.2.1.2.2.2.1.2.1),lV (.int .u8 y.1.2.1.2.2.2.1.2.2.1),lV (.int .u8 y.1.2.1.2.2.2.1.2.2.2.1),lV (.int .u8 y.1.2.1.2.2.2.1.2.2.2.2),lV (.int .u8 y.1.2.1.2.2.2.2.1.1),lV (.int .u8 y.1.2.1.2.2.2.2.1.2.1),lV (.int .u8 y.1.2.1.2.2.2.2.1.2.2.1),lV (.int .u8 y.1.2.1.2.2.2.2.1.2.2.2.1),lV (.int .u8 y.1.2.1.2.2.2.2.1.2.2.2.2),lV (.int .u8 y.1.2.1.2.2.2.2.2.1.1),lV (.int .u8 y.1.2.1.2.2.2.2.2.1.2.1),lV (.int .u8 y.1.2.1.2.2.2.2.2.1.2.2.1),lV (.int .u8 y.1.2.1.2.2.2.2.2.1.2.2.2.1),lV (.int .u8 y.1.2.1.2.2.2.2.2.1.2.2.2.2),lV (.int .u8 y.1.2.1.2.2.2.2.2.2.1.1),lV (.int .u8 y.1.2.1.2.2.2.2.2.2.1.2.1),lV (.int .u8 y.1.2.1.2.2.2.2.2.2.1.2.2.1),lV (.int .u8 y.1.2.1.2.2.2.2.2.2.1.2.2.2.1),lV (.int .u8 y.1.2.1.2.2.2.2.2.2.1.2.2.2.2),lV (.int .u8 y.1.2.1.2.2.2.2.2.2.2.1),lV (.int .u8 y.1.2.1.2.2.2.2.2.2.2.2.1),lV (.int .u8 y.1.2.1.2.2.2.2.2.2.2.2.2.1),lV (.int .u8 y.1.2.1.2.2.2.2.2.2.2.2.2.2.1),lV (.int .u8 y.1.2.1.2.2.2.2.2.2.2.2.2.2.2),lV (.int .u8 y.1.2.2),lB y.2]
theorem cf54 :CF 54:=cM Tryz.func54 (by kernel_rfl)
theorem cf126 :CF 126:=cM Tryz.func126 (by kernel_rfl)
theorem el114 :El Tryz.prog 114 3 56:=El.mk' (z:= .agg #[.slice none 0 0,.slice none 0 0,.int .i64 0]) (by kernel_rfl) (by kernel_rfl) (by kernel_rfl) rfl
theorem yjA :FAb 209 0 0:=fAm 0 0 1 Tryz.underlying209 R (by kernel_rfl)
theorem yjB :FAb 209 1 1:=fAm 1 1 1 Tryz.underlying209 R (by kernel_rfl)
theorem yg1 :FAb 209 2 2:=fAm 2 2 1 Tryz.underlying209 R (by kernel_rfl)
theorem yjC :FAb 209 3 3:=fAm 3 3 1 Tryz.underlying209 R (by kernel_rfl)
theorem sl86 :Sl Tryz.prog 86 209 4:=Sl.mk' Tryz.underlying86 (by kernel_rfl)
abbrev rE209 :Rep (Int×Int×Int×Int):=(rP (rK .u8) (rP (rK .u8) (rP (rK .u8) (rK .u8))))
theorem lv209{y:Int×Int×Int×Int}:Lv rE209 y [lV (.int .u8 y.1),lV (.int .u8 y.2.1),lV (.int .u8 y.2.2.1),lV (.int .u8 y.2.2.2)]:=(.p .k (.p .k (.p .k .k)))
theorem ag84 :Ag Tryz.prog 84 58:=Ag.mk' Tryz.underlying84 rfl (by kernel_rfl)
theorem cf46 :CF 46:=cM Tryz.func46 (by kernel_rfl)
theorem cf47 :CF 47:=cM Tryz.func47 (by kernel_rfl)
theorem cf52 :CF 52:=cM Tryz.func52 (by kernel_rfl)
theorem cf193 :CF 193:=cM Tryz.func193 (by kernel_rfl)
theorem pl221 :Pl Tryz.prog 221 [(0,1),(1,1),(2,1),(3,1),(4,4),(8,1)] [.map none,.map none,.slice none 0 0,.slice none 0 0,.slice none 0 0,.int .i64 0,.slice none 0 0,.slice none 0 0,.slice none 0 0]:=Pl.str Tryz.underlying221 (by kernel_rfl) (by kernel_rfl)
abbrev rE221 :Rep ((List KeyT)×(List KeyT)×List Int×List Int×AutT×List (List Int)):=(rP (rM kvP qI) (rP (rM kvP qI) (rP (rL qI) (rP (rL qI) (rP rE35 (rL (rL qI)))))))
theorem yjD :FAb 221 0 0:=fAm 0 0 1 Tryz.underlying221 R (by kernel_rfl)
theorem yjE :FAb 221 1 1:=fAm 1 1 1 Tryz.underlying221 R (by kernel_rfl)
theorem yjF :FAb 221 2 2:=fAm 2 2 1 Tryz.underlying221 R (by kernel_rfl)
theorem yjG :FAb 221 3 3:=fAm 3 3 1 Tryz.underlying221 R (by kernel_rfl)
theorem yg2 :FAb 221 5 8:=fAm 5 8 1 Tryz.underlying221 R (by kernel_rfl)
abbrev lx221(y:(List KeyT)×(List KeyT)×List Int×List Int×AutT×List (List Int)):List LV:=[lM kvP qI y.1,lM kvP qI y.2.1,lF qI y.2.2.1,lF qI y.2.2.2.1,lF qI y.2.2.2.2.1.1,lI y.2.2.2.2.1.2.1,lF qI y.2.2.2.2.1.2.2.1,lF qT y.2.2.2.2.1.2.2.2,lF (rL qI) y.2.2.2.2.2]
theorem cf138 :CF 138:=cM Tryz.func138 (by kernel_rfl)
theorem cf139 :CF 139:=cM Tryz.func139 (by kernel_rfl)
theorem cf141 :CF 141:=cM Tryz.func141 (by kernel_rfl)
theorem ycm :FAb 221 4 4:=fAm 4 4 4 Tryz.underlying221 R (by kernel_rfl)
theorem lv221{y:(List KeyT)×(List KeyT)×List Int×List Int×AutT×List (List Int)}:Lv rE221 y [lM kvP qI y.1,lM kvP qI y.2.1,lF qI y.2.2.1,lF qI y.2.2.2.1,lF qI y.2.2.2.2.1.1,lI y.2.2.2.2.1.2.1,lF qI y.2.2.2.2.1.2.2.1,lF qT y.2.2.2.2.1.2.2.2,lF (rL qI) y.2.2.2.2.2]:=(.p .m (.p .m (.p .l (.p .l (.p (.p .l (.p .k (.p .l .l))) .l)))))
theorem cf66 :CF 66:=cM Tryz.func66 (by kernel_rfl)
theorem cf67 :CF 67:=cM Tryz.func67 (by kernel_rfl)
theorem cf68 :CF 68:=cM Tryz.func68 (by kernel_rfl)
def y3h(p0:List Int)(p1:Int)(a:Int):Option (Int⊕(Unit⊕Int)):=
 if decide (a<(p0.length:Int)) then
  (idx p0 a).bind fun b=>
  if((decide (b<0))||(decide (b≥p1))) then
   some (.inr (.inr (2)))
  else
   (if decide (a>0) then
    (idx p0 (W (a-1))).bind fun d=>
    some (decide (b≤d))
   else
    some false).bind fun c=>
   if c then
    some (.inr (.inr (5)))
   else
    some (.inl (W (a+1)))
 else
  some (.inr (.inl ()))
def y2p(p0:List Int)(p1:Int):Option Int:=
 (iter (y3h p0 p1) 0).bind fun a=>
 match a with
 | .inl c=>
  some 0
 | .inr (b)=>
  some b
theorem y8b{p0:List Int}{p1:Int}{r:Int}(hm:y2p p0 p1=some r):
  F0 164 [.f qI p0,.i p1] [] (.i r) []:=by
 refine Fw.mk2 Tryz.func164 Tryz.ntmps164 R (fun C=>?_) R;refine .sr (.an R (.seq (.sr (.mv R (.ln sl32 R (.mv R (.ns (.block (bS hm fun o p hm=>?_)))))))));refine .cutU (z:= .exit 0) (fun h=> .inl h=o) (fun (h:Unit)=>⟨[],[],0⟩) ?_ fun u=>?_
 ·rintro h rfl;dsimp only at hm;refine .blkE (.seqN (.sr (.an R (.ret ?_))));cases hm;exact .rr [] Tryz.results164 (.tmp R .nil) R I3 trivial
 refine .cutU (z:= .ret) (fun g=> .inr (g)=o) (fun (g:Int)=>⟨[(4,.i g)],[],0⟩) ?_ fun n=>?_
 ·rintro g rfl;dsimp only at hm;refine .blkR (.seqR ?_);cases hm;exact .rr [] Tryz.results164 (.tmp R .nil) R I3 trivial
 refine .iter (fun (a:Int)=>⟨[(9,.i a),(8,.i p0.length),(7,.f qI p0),(0,.f qI p0),(1,.i p1)],[],0⟩) p [] R ?_;intro a x hm t e;refine .sr (.bi R (.ns (.seq ?_)));refine .cc hm R (fun hm=>?_) fun hm=> .exit (.seqX (.seqX ((u _ (e _ (oj hm))).sub [] R)));refine .skip (.seqN (.seq (.block (.sr (.mv R (bS hm fun c q hm=> .ix sl32 q R (.le nag3 lv3 R (.sa R (.an R (.block (.sr (.mv R (.bi R (.mv R ?_))))))))))))));refine .cut 4 (fun (j:Bool)=>((decide (c<0))||(decide (c≥p1)))=j) (fun j=>⟨[(21,.b j),(6,.i c),(5,.i a),(9,.i a),(8,.i p0.length),(7,.f qI p0),(0,.f qI p0),(1,.i p1)],[],0⟩) ?_ ?_
 ·rintro _ rfl;refine .an R (.cc hm R (fun hm=> .sr (.an R (.ret (.blkR (.blkR (.seqR (.seqR ((n _ (e _ (oj hm))).sub [] R)))))))) fun hm=>?_);refine .sr (.mv R (.bi R (.mv R (bS hm fun v eb19 hm=>?_))));refine .cut 8 (fun (k:Bool)=>v=k) (fun k=>⟨[(33,.b k),(9,.i a),(8,.i p0.length),(7,.f qI p0),(0,.f qI p0),(1,.i p1)],[],0⟩) ?_ ?_
  ·rintro _ rfl;exact .an R (.cc hm R (fun hm=> .sr (.an R (.ret (.blkR (.blkR (.seqR (.seqR ((n _ (e _ (oj hm))).sub [] R)))))))) fun hm=> .skip (.blkN (.blkN (.seqN (.reg (.bi R (.mv R (.nil ((t _ (oj hm)).sub [] R)))))))))
  ·intro m;rcases ifS eb19 with ⟨hc,hm⟩|⟨hc,hm⟩
   ·refine .know (d:=25) R hc ?_;exact .mg R (.mg R (.mg R (.bg R (bS hm fun w s hm=> .op (O.ix sl32 (Gu.mk R R) R R s R) R (.leg nag3 lv3 R (.bg R (.pT R ((m (decide (c≤w)) (oj hm)).sub [] R))))))))
   ·refine .know (d:=25) R hc ?_;exact .sk R (.sk R (.sk R (.sk R (.sk R (.sk R (.sk R (.pF R ((m false (oj hm)).sub [] R))))))))
 ·intro l;rcases yEt (decide (c<0)) with hc|hc
  ·refine .know (d:=17) R hc ?_;exact .sk R (.sk R (.sk R (.pT R ((l true (orT hc).symm).sub [] R))))
  ·refine .know (d:=17) R hc ?_;exact .mg R (.mg R (.bg R (.pF R ((l (decide (c≥p1)) (orF hc).symm).sub [] R))))
def y3R(p0:List Int)(p1:Int)(a:Int):Option (Int⊕(Unit⊕Int)):=
 if decide (a<(p0.length:Int)) then
  (idx p0 a).bind fun b=>
  if(p1==b) then
   some (.inr (.inr (a)))
  else
   some (.inl (W (a+1)))
 else
  some (.inr (.inl ()))
def y7L(p0:List Int)(p1:Int):Option Int:=
 (iter (y3R p0 p1) 0).bind fun a=>
 match a with
 | .inl c=>
  some (-1)
 | .inr (b)=>
  some b
theorem ybh{p0:List Int}{p1:Int}{r:Int}(hm:y7L p0 p1=some r):
  F0 169 [.f qI p0,.i p1] [] (.i r) []:=by
 refine Fw.mk2 Tryz.func169 Tryz.ntmps169 R (fun C=>?_) R;refine .sr (.an R (.seq (.sr (.mv R (.ln sl32 R (.mv R (.ns (.block (bS hm fun j g hm=>?_)))))))));refine .cutU (z:= .exit 0) (fun e=> .inl e=j) (fun (e:Unit)=>⟨[],[],0⟩) ?_ fun K7=>?_
 ·rintro e rfl;dsimp only at hm;refine .blkE (.seqN (.sr (.an R (.ret ?_))));cases hm;exact .rr [] Tryz.results169 (.tmp R .nil) R I3 trivial
 refine .cutU (z:= .ret) (fun a=> .inr (a)=j) (fun (a:Int)=>⟨[(4,.i a)],[],0⟩) ?_ fun K9=>?_
 ·rintro a rfl;dsimp only at hm;refine .blkR (.seqR ?_);cases hm;exact .rr [] Tryz.results169 (.tmp R .nil) R I3 trivial
 refine .iter (fun (c:Int)=>⟨[(8,.i c),(7,.i p0.length),(0,.f qI p0),(1,.i p1)],[],0⟩) g [] R ?_;intro c k hm h b;refine .sr (.bi R (.ns (.seq ?_)));refine .cc hm R (fun hm=>?_) fun hm=> .exit (.seqX (.seqX ((K7 _ (b _ (oj hm))).sub [] R)));refine .skip (.seqN (.seq (.block (.sr (.mv R (.an R (.sr (.mv R (.mv R (.mv R (bS hm fun l d hm=> .ix sl32 d R (.le nag3 lv3 R (.bi R (.ns ?_))))))))))))));exact .cc hm R (fun hm=> .sr (.mv R (.an R (.ret (.blkR (.seqR (.seqR ((K9 _ (b _ (oj hm))).sub [] R)))))))) fun hm=> .skip (.blkN (.seqN (.reg (.bi R (.mv R (.nil ((h _ (oj hm)).sub [] R)))))))
def yf(p0:List Int)(p1:Int):Option Bool:=
 (y7L p0 p1).bind fun a=>
 some (decide (a≥0))
theorem yj{p0:List Int}{p1:Int}{r:Bool}(hm:yf p0 p1=some r):
  F0 104 [.f qI p0,.i p1] [] (.b r) []:=by
 refine Fw.mk2 Tryz.func104 Tryz.ntmps104 R (fun C=>?_) R;refine .sr (.an R (.sr (.mv R (.mv R (bS hm fun c a hm=> .c0 (ybh a) cf169 R (.bi R (.an R (.ret ?_))))))));cases hm;exact .rr [] Tryz.results104 (.tmp R .nil) R I3 trivial
def y2z(a:Int):Option (Int⊕(Unit⊕Int)):=
 some (.inl (W (a+1)))
def y2A(p0:AutT)(a:Int):Option (Int⊕(Unit⊕Int)):=
 if decide (a<(p0.2.2.2.length:Int)) then
  (idx p0.2.2.2 a).bind fun b=>
  if((((decide (b.1<0))||(decide (b.1≥p0.2.1)))||(decide (b.2.2<0)))||(decide (b.2.2≥p0.2.1))) then
   some (.inr (.inr (2)))
  else
   (yf p0.1 b.2.1).bind fun d=>
   if(!d) then
    some (.inr (.inr (9)))
   else
    if(a==0) then
     y2z a
    else
     (idx p0.2.2.2 (W (a-1))).bind fun c=>
     if((decide (b.1<c.1))||((b.1==c.1)&&(decide (b.2.1≤c.2.1)))) then
      some (.inr (.inr (5)))
     else
      y2z a
 else
  some (.inr (.inl ()))
def y5i(p0:AutT):Option Int:=
 (iter (y2A p0) 0).bind fun a=>
 match a with
 | .inl c=>
  some 0
 | .inr (b)=>
  some b
theorem ya6{p0:AutT}{r:Int}(hm:y5i p0=some r):
  F0 165 [.a (lx35 p0)] [] (.i r) []:=by
 refine Fw.mk2 Tryz.func165 Tryz.ntmps165 R (fun C=>?_) R;refine .sr (.bo 0 R (.an R (.seq (.sr (.fa yB R (.lb nag33 R (.ln sl33 R (.mv R (.ns (.block (bS hm fun D F hm=>?_)))))))))));refine .cutU (z:= .exit 0) (fun m=> .inl m=D) (fun (m:Unit)=>⟨[],[],0⟩) ?_ fun K=>?_
 ·rintro m rfl;dsimp only at hm;refine .blkE (.seqN (.sr (.an R (.ret ?_))));cases hm;exact .rr [] Tryz.results165 (.tmp R .nil) R I3 trivial
 refine .cutU (z:= .ret) (fun j=> .inr (j)=D) (fun (j:Int)=>⟨[(2,.i j)],[],0⟩) ?_ fun l=>?_
 ·rintro j rfl;dsimp only at hm;refine .blkR (.seqR ?_);cases hm;exact .rr [] Tryz.results165 (.tmp R .nil) R I3 trivial
 refine .iter (fun (e:Int)=>⟨[(9,.i e),(8,.i p0.2.2.2.length),(7,.f qT p0.2.2.2),(1,.q 0 0)],[(0,.bx 35 (lx35 p0))],1⟩) F [] R ?_;intro e u hm J h;refine .sr (.bi R (.ns (.seq ?_)));refine .cc hm R (fun hm=>?_) fun hm=> .exit (.seqX (.seqX ((K _ (h _ (oj hm))).sub [] R)));refine .skip (.seqN ?_);refine .join0 (y2z e=some u) (⟨[(9,.i e),(8,.i p0.2.2.2.length),(7,.f qT p0.2.2.2),(1,.q 0 0)],[(0,.bx 35 (lx35 p0))],1⟩) ?_ ?_
 ·intro hm;exact .reg (.bi R (.mv R (.nil ((J _ (oj hm)).sub [] R))))
 ·intro k;refine .block (.sr (.mv R (bS hm fun c H hm=> .ix sl33 H R (.lg [lI c.1,lI c.2.1,lI c.2.2] ag124 R (.E lv124) R (.al 1 zz124 R (.sa R (.st ag124.sz R (.ns (.seq (.block (.sr (.fa y1A R (.lb nag3 R (.bi R (.mv R ?_)))))))))))))));refine .cut 6 (fun (n:Bool)=>((decide (c.1<0))||(decide (c.1≥p0.2.1)))=n) (fun n=>⟨[(24,.b n),(3,.i e),(4,.q 1 0),(9,.i e),(8,.i p0.2.2.2.length),(7,.f qT p0.2.2.2),(1,.q 0 0)],[(1,.bx 124 [lI c.1,lI c.2.1,lI c.2.2]),(0,.bx 35 (lx35 p0))],2⟩) ?_ ?_
  ·rintro _ rfl;refine .mv R ?_;refine .cut 4 (fun (o:Bool)=>(((decide (c.1<0))||(decide (c.1≥p0.2.1)))||(decide (c.2.2<0)))=o) (fun o=>⟨[(29,.b o),(3,.i e),(4,.q 1 0),(9,.i e),(8,.i p0.2.2.2.length),(7,.f qT p0.2.2.2),(1,.q 0 0)],[(1,.bx 124 [lI c.1,lI c.2.1,lI c.2.2]),(0,.bx 35 (lx35 p0))],2⟩) ?_ ?_
   ·rintro _ rfl;refine .mv R ?_;refine .cut 6 (fun (p:Bool)=>((((decide (c.1<0))||(decide (c.1≥p0.2.1)))||(decide (c.2.2<0)))||(decide (c.2.2≥p0.2.1)))=p) (fun p=>⟨[(36,.b p),(3,.i e),(4,.q 1 0),(9,.i e),(8,.i p0.2.2.2.length),(7,.f qT p0.2.2.2),(1,.q 0 0)],[(1,.bx 124 [lI c.1,lI c.2.1,lI c.2.2]),(0,.bx 35 (lx35 p0))],2⟩) ?_ ?_
    ·rintro _ rfl;refine .an R (.cc hm R (fun hm=> .sr (.an R (.ret (.blkR (.seqR (.blkR (.seqR (.seqR ((l _ (h _ (oj hm))).sub [] R))))))))) fun hm=>?_);refine .sr (.fa yz R (.lb nag32 R (.fa y2I R (.lb nag3 R (bS hm fun L G hm=> .c0 (yj G) cf104 R (.no R (.an R ?_)))))));refine .cc hm R (fun hm=> .sr (.an R (.ret (.blkR (.seqR (.blkR (.seqR (.seqR ((l _ (h _ (oj hm))).sub [] R))))))))) fun hm=>?_;refine .skip (.blkN (.seqN (.seq (.sr (.mv R (.bi R (.ns ?_)))))));refine .cc hm R (fun hm=> .exit (.seqX (.blkE ((k hm).sub [] R)))) fun hm=>?_;refine .skip (.seqN (.sr (.fa yB R (.lb nag33 R (.mv R (.bi R (bS hm fun g I hm=> .ix sl33 I R (.lg [lI g.1,lI g.2.1,lI g.2.2] ag124 R (.E lv124) R (.al 2 zz124 R (.st ag124.sz R (.nr (.fa y1A R (.lb nag3 R (.fa y1A R (.lb nag3 R (.bi R (.mv R ?_)))))))))))))))));refine .cut 13 (fun (s:Bool)=>((decide (c.1<g.1))||((c.1==g.1)&&(decide (c.2.1≤g.2.1))))=s) (fun s=>⟨[(70,.b s),(9,.i e),(8,.i p0.2.2.2.length),(7,.f qT p0.2.2.2),(1,.q 0 0)],[(0,.bx 35 (lx35 p0))],3⟩) ?_ ?_
     ·rintro _ rfl;exact .ns (.cc hm R (fun hm=> .sr (.an R (.ret (.blkR (.seqR (.seqR ((l _ (h _ (oj hm))).sub [] R))))))) fun hm=> .skip (.blkN ((k hm).sub [] R)))
     ·intro y;rcases yEt (decide (c.1<g.1)) with hc|hc
      ·refine .know (d:=57) R hc ?_;exact .sk R (.sk R (.sk R (.sk R (.sk R (.sk R (.su R (.su R (.su R (.su R (.su R (.sk R (.pT R ((y true (orT hc).symm).sub [] R)))))))))))))
      ·refine .know (d:=57) R hc ?_;refine .fag y1A R (.lbg nag3 R (.fag y1A R (.lbg nag3 R (.bg R (.mg R ?_)))));refine .cut 6 (fun (t:Bool)=>((c.1==g.1)&&(decide (c.2.1≤g.2.1)))=t) (fun t=>⟨[(69,.b t),(57,.b false),(9,.i e),(8,.i p0.2.2.2.length),(7,.f qT p0.2.2.2),(1,.q 0 0)],[(0,.bx 35 (lx35 p0))],3⟩) ?_ ?_
       ·rintro _ rfl;exact .pF R ((y ((c.1==g.1)&&(decide (c.2.1≤g.2.1))) (orF hc).symm).sub [] R)
       ·intro B;rcases yEt (c.1==g.1) with hc|hc
        ·refine .know (d:=63) R hc ?_;exact .fag y2I R (.lbg nag3 R (.fag y2I R (.lbg nag3 R (.bg R (.op (O.pkT (Gu.mk R R) R R R R) R ((B (decide (c.2.1≤g.2.1)) (andT hc).symm).sub [] R))))))
        ·refine .know (d:=63) R hc ?_;exact .sk R (.sk R (.sk R (.sk R (.sk R (.op (O.pkF (Gu.mk R R) R R R R) R ((B false (andF hc).symm).sub [] R))))))
    ·intro x;rcases yEt (((decide (c.1<0))||(decide (c.1≥p0.2.1)))||(decide (c.2.2<0))) with hc|hc
     ·refine .know (d:=30) R hc ?_;exact .sk R (.sk R (.sk R (.sk R (.sk R (.pT R ((x true (orT hc).symm).sub [] R))))))
     ·refine .know (d:=30) R hc ?_;exact .fag y2J R (.lbg nag3 R (.fag y1W R (.lbg nag3 R (.bg R (.pF R ((x (decide (c.2.2≥p0.2.1)) (orF hc).symm).sub [] R))))))
   ·intro w;rcases yEt ((decide (c.1<0))||(decide (c.1≥p0.2.1))) with hc|hc
    ·refine .know (d:=25) R hc ?_;exact .sk R (.sk R (.sk R (.pT R ((w true (orT hc).symm).sub [] R))))
    ·refine .know (d:=25) R hc ?_;exact .fag y2J R (.lbg nag3 R (.bg R (.pF R ((w (decide (c.2.2<0)) (orF hc).symm).sub [] R))))
  ·intro v;rcases yEt (decide (c.1<0)) with hc|hc
   ·refine .know (d:=18) R hc ?_;exact .sk R (.sk R (.sk R (.sk R (.sk R (.pT R ((v true (orT hc).symm).sub [] R))))))
   ·refine .know (d:=18) R hc ?_;exact .fag y1A R (.lbg nag3 R (.fag y1W R (.lbg nag3 R (.bg R (.pF R ((v (decide (c.1≥p0.2.1)) (orF hc).symm).sub [] R))))))
def y1p(p0:AutT):Option Int:=
 (y2p p0.1 32).bind fun a=>
 if(a != 0) then
  some a
 else
  if decide (p0.2.1<0) then
   some 2
  else
   if decide (p0.2.1>4096) then
    some 3
   else
    (y2p p0.2.2.1 p0.2.1).bind fun b=>
    if(b != 0) then
     some b
    else
     (y5i p0).bind fun c=>
     some c
theorem y4R{p0:AutT}{r:Int}(hm:y1p p0=some r):
    F0 101 [.a (lx35 p0)] [] (.i r) []:=by
  refine Fw.mk2 Tryz.func101 Tryz.ntmps101 R (fun C=>?_) R;refine .sr (.bo 0 R (.an R (.seq (.sr (.fa yz R (.lb nag32 R (bS hm fun e b hm=> .c0 (y8b b) cf164 R (.an R (.sr (.mv R (.bi R (.ns ?_))))))))))));refine .cc hm R (fun hm=>?_) fun hm=>?_
  ·refine .sr (.mv R (.an R (.ret (.seqR ?_))));cases hm;exact .rr [] Tryz.results101 (.tmp R .nil) R I3 trivial
  ·refine .skip (.seqN (.seq (.block (.sr (.fa y1W R (.lb nag3 R (.bi R (.an R ?_))))))));refine .cc hm R (fun hm=>?_) fun hm=>?_
   ·refine .sr (.an R (.ret (.blkR (.seqR ?_))));cases hm;exact .rr [] Tryz.results101 (.tmp R .nil) R I3 trivial
   ·refine .sr (.fa y1W R (.lb nag3 R (.bi R (.an R ?_))));refine .cc hm R (fun hm=>?_) fun hm=>?_
    ·refine .sr (.an R (.ret (.blkR (.seqR ?_))));cases hm;exact .rr [] Tryz.results101 (.tmp R .nil) R I3 trivial
    ·refine .skip (.blkN (.seqN (.seq (.sr (.fa y7f R (.lb nag32 R (.fa y1W R (.lb nag3 R (bS hm fun f c hm=> .c0 (y8b c) cf164 R (.an R (.sr (.mv R (.bi R (.ns ?_))))))))))))));refine .cc hm R (fun hm=>?_) fun hm=>?_
     ·refine .sr (.mv R (.an R (.ret (.seqR ?_))));cases hm;exact .rr [] Tryz.results101 (.tmp R .nil) R I3 trivial
     ·refine .skip (.seqN (.sr (.lg (lx35 p0) ag35 R (.B R) R (bS hm fun g d hm=> .c0 (ya6 d) cf165 R (.an R (.ret ?_))))));cases hm;exact .rr [] Tryz.results101 (.tmp R .nil) R I3 trivial
def yq(p2:Bool→Bool→Option Bool)(a:List Int×List Int×List Int)(d:Bool)(e:Bool)(b:List Int)(c:List Int)(f:Int):Option ((List Int×List Int×List Int)⊕(List Int)):=
 (p2 d e).bind fun g=>
 if g then
  (app a.1 ([f]:List Int)).bind fun h=>
  some (.inl (h,b,c))
 else
  some (.inl (a.1,b,c))
def yk(p2:Bool→Bool→Option Bool)(a:List Int×List Int×List Int)(c:Bool)(b:Bool)(d:List Int)(e:Int):Option ((List Int×List Int×List Int)⊕(List Int)):=
 if b then
  (idx a.2.2 0).bind fun f=>
  (slc a.2.2 1 (a.2.2.length:Int)).bind fun g=>
  yq p2 a c b d g f
 else
  yq p2 a c b d a.2.2 e
def ym(p2:Bool→Bool→Option Bool)(a:List Int×List Int×List Int)(b:Bool)(c:Bool):Option ((List Int×List Int×List Int)⊕(List Int)):=
 if b then
  (idx a.2.1 0).bind fun d=>
  (slc a.2.1 1 (a.2.1.length:Int)).bind fun e=>
  yk p2 a b c e d
 else
  yk p2 a b c a.2.1 0
def yr(p2:Bool→Bool→Option Bool)(a:List Int×List Int×List Int)(b:Bool):Option ((List Int×List Int×List Int)⊕(List Int)):=
 if decide ((a.2.2.length:Int)>0) then
  if((a.2.1.length:Int)==0) then
   ym p2 a b true
  else
   (idx a.2.2 0).bind fun c=>
   (idx a.2.1 0).bind fun d=>
   ym p2 a b (decide (c≤d))
 else
  ym p2 a b false
def yg(p2:Bool→Bool→Option Bool)(a:List Int×List Int×List Int):Option ((List Int×List Int×List Int)⊕(List Int)):=
 if((decide ((a.2.1.length:Int)>0))||(decide ((a.2.2.length:Int)>0))) then
  if decide ((a.2.1.length:Int)>0) then
   if((a.2.2.length:Int)==0) then
    yr p2 a true
   else
    (idx a.2.1 0).bind fun b=>
    (idx a.2.2 0).bind fun c=>
    yr p2 a (decide (b≤c))
  else
   yr p2 a false
 else
  some (.inr a.1)
def y2R(p0:List Int)(p1:List Int)(p2:Bool→Bool→Option Bool):Option (List Int):=
 (iter (yg p2) (([]:List Int),p0,p1)).bind fun a=>
 some a
theorem y7M{p0:List Int}{p1:List Int}{p2:Bool→Bool→Option Bool}{r:List Int}(hm:y2R p0 p1 p2=some r):
  F0 75 [.f qI p0,.f qI p1,.o (lW Tryz.prog (fun (x:Bool×Bool)=> [.b x.1,.b x.2]) (fun (r:Bool)=> .b r) (fun x=>p2 x.1 x.2))] [] (.h 0) [rwI r]:=by
 refine Fw.mk2 Tryz.func75 Tryz.ntmps75 R (fun C=>?_) R;refine .sr (.an R (.sr (.an R (.seq (.block (bS hm fun L P hm=>?_))))));refine .cut1 (z:= .exit 0) L (fun (L:List Int)=>⟨[(7,.h 0)],[(0,rwI L)],1⟩) ?_ fun a3=>?_
 ·skip
  refine .blkE (.seqN (.sr (.mv R (.an R (.ret ?_)))));cases hm;exact .rr [0] Tryz.results75 (.tmp R .nil) R I3 ⟨⟨_,R,I4⟩,trivial⟩
 refine .nlg qI 3 7 0 R R (.iter (fun (a:List Int×List Int×List Int)=>⟨[(7,.h 0),(0,.f qI a.2.1),(1,.f qI a.2.2),(2,.o (lW Tryz.prog (fun (x:Bool×Bool)=> [.b x.1,.b x.2]) (fun (r:Bool)=> .b r) (fun x=>p2 x.1 x.2)))],[(0,rwI a.1)],1⟩) P [] R ?_);intro a l hm K a2;refine .seq (.sr (.mv R (.ln sl32 R (.bi R (.mv R ?_)))));refine .cut 4 (fun (M:Bool)=>((decide ((a.2.1.length:Int)>0))||(decide ((a.2.2.length:Int)>0)))=M) (fun M=>⟨[(18,.b M),(7,.h 0),(0,.f qI a.2.1),(1,.f qI a.2.2),(2,.o (lW Tryz.prog (fun (x:Bool×Bool)=> [.b x.1,.b x.2]) (fun (r:Bool)=> .b r) (fun x=>p2 x.1 x.2)))],[(0,rwI a.1)],1⟩) ?_ ?_
 ·rintro _ rfl;refine .ns ?_;refine .cc hm R (fun hm=>?_) fun hm=> .exit (.seqX (.seqX ((a3 _ (a2 _ (oj hm))).sub [] R)));refine .skip (.seqN (.block ?_));refine .join1 (fun (e:Bool)=>yr p2 a e=some l) (fun e=>⟨[(8,.b e),(7,.h 0),(0,.f qI a.2.1),(1,.f qI a.2.2),(2,.o (lW Tryz.prog (fun (x:Bool×Bool)=> [.b x.1,.b x.2]) (fun (r:Bool)=> .b r) (fun x=>p2 x.1 x.2)))],[(0,rwI a.1)],1⟩) ?_ ?_
  ·intro e hm;refine .join1 (fun (g:Bool)=>ym p2 a e g=some l) (fun g=>⟨[(9,.b g),(8,.b e),(7,.h 0),(0,.f qI a.2.1),(1,.f qI a.2.2),(2,.o (lW Tryz.prog (fun (x:Bool×Bool)=> [.b x.1,.b x.2]) (fun (r:Bool)=> .b r) (fun x=>p2 x.1 x.2)))],[(0,rwI a.1)],1⟩) ?_ ?_
   ·intro g hm;refine .sr (.an R ?_);refine .join2 (fun (j:List Int) (B:Int)=>yk p2 a e g j B=some l) (fun j B=>⟨[(0,.f qI j),(10,.i B),(9,.b g),(8,.b e),(7,.h 0),(1,.f qI a.2.2),(2,.o (lW Tryz.prog (fun (x:Bool×Bool)=> [.b x.1,.b x.2]) (fun (r:Bool)=> .b r) (fun x=>p2 x.1 x.2)))],[(0,rwI a.1)],1⟩) ?_ ?_
    ·intro j B hm;refine .join2 (fun (w:List Int) (m:Int)=>yq p2 a e g j w m=some l) (fun w m=>⟨[(1,.f qI w),(10,.i m),(0,.f qI j),(9,.b g),(8,.b e),(7,.h 0),(2,.o (lW Tryz.prog (fun (x:Bool×Bool)=> [.b x.1,.b x.2]) (fun (r:Bool)=> .b r) (fun x=>p2 x.1 x.2)))],[(0,rwI a.1)],1⟩) ?_ ?_
     ·intro w m hm;refine .sr (.mv R (.mv R (.mv R (bS hm fun b2 Q hm=>?_))));refine .op (O.fv (y:=(e,g)) R R R Z R Q R R) R ?_;exact .ns (.cc hm R (fun hm=> .reg (.mv R (.mv R (.bf (r:=qI) ([m]:List Int) bs32 R (.c .k .n) R (bS hm fun b3 S hm=> .op (O.ap 1 Tryz.underlying32 el3 R R Z R R (.fr R) S R) R (.sa R (.nil (.blkN ((K _ (oj hm)).sub [(0,1)] R))))))))) fun hm=> .skip (.blkN ((K _ (oj hm)).sub [] R)))
     ·intro F;refine .sr (.mv R (.ns ?_));refine .cc hm R (fun hm=>?_) fun hm=> .skip ((F _ _ hm).sub [] R);refine .sub (τ:=⟨[(0,.f qI j),(9,.b g),(8,.b e),(7,.h 0),(1,.f qI a.2.2),(2,.o (lW Tryz.prog (fun (x:Bool×Bool)=> [.b x.1,.b x.2]) (fun (r:Bool)=> .b r) (fun x=>p2 x.1 x.2)))],[(0,rwI a.1)],1⟩) ?_ [] R;refine bS hm fun a4 T hm=>bS hm fun a5 U hm=>?_;refine .drg 1 [(1,[]),(1,[oT]),(1,[oT,oT]),(1,[]),(1,[oF,oF,oF,oT]),(1,tT 3),(1,tT 6)] [_,_,_,_,_,_,_] ⟨[(1,.f qI a5),(10,.i a4),(0,.f qI j),(9,.b g),(8,.b e),(7,.h 0),(2,.o (lW Tryz.prog (fun (x:Bool×Bool)=> [.b x.1,.b x.2]) (fun (r:Bool)=> .b r) (fun x=>p2 x.1 x.2)))],[(0,rwI a.1)],1⟩ ⟨O.mv Z R R,O.ix sl32 Z R R T R,O.ld nag3 Z R (.E lv3) R R,O.mv Z R R,O.sf sl32 Z R R U R,O.as Z R R,O.as Z R R,trivial⟩ (by kernel_rfl) R ?_;exact(F _ _ hm).sub [] R
    ·intro D;refine .sr (.mv R (.ns ?_));refine .cc hm R (fun hm=>?_) fun hm=> .skip ((D _ _ hm).sub [] R);refine .sub (τ:=⟨[(9,.b g),(8,.b e),(7,.h 0),(0,.f qI a.2.1),(1,.f qI a.2.2),(2,.o (lW Tryz.prog (fun (x:Bool×Bool)=> [.b x.1,.b x.2]) (fun (r:Bool)=> .b r) (fun x=>p2 x.1 x.2)))],[(0,rwI a.1)],1⟩) ?_ [] R;refine bS hm fun a6 V hm=>bS hm fun a7 W hm=>?_;refine .drg 1 [(1,[]),(1,[oT]),(1,[oT,oT]),(1,[]),(1,[oF,oF,oF,oT]),(1,tT 3),(1,tT 6)] [_,_,_,_,_,_,_] ⟨[(0,.f qI a7),(10,.i a6),(9,.b g),(8,.b e),(7,.h 0),(1,.f qI a.2.2),(2,.o (lW Tryz.prog (fun (x:Bool×Bool)=> [.b x.1,.b x.2]) (fun (r:Bool)=> .b r) (fun x=>p2 x.1 x.2)))],[(0,rwI a.1)],1⟩ ⟨O.mv Z R R,O.ix sl32 Z R R V R,O.ld nag3 Z R (.E lv3) R R,O.mv Z R R,O.sf sl32 Z R R W R,O.as Z R R,O.as Z R R,trivial⟩ (by kernel_rfl) R ?_;exact(D _ _ hm).sub [] R
   ·intro q;refine .sub (τ:=⟨[(8,.b e),(7,.h 0),(0,.f qI a.2.1),(1,.f qI a.2.2),(2,.o (lW Tryz.prog (fun (x:Bool×Bool)=> [.b x.1,.b x.2]) (fun (r:Bool)=> .b r) (fun x=>p2 x.1 x.2)))],[(0,rwI a.1)],1⟩) ?_ [] R;refine .drP 3 [(1,[]),(1,[oT]),(1,[oT,oT])] [_,_,_] ⟨O.mv Z R R,O.len sl32 Z R R,O.bi Z R R R R,trivial⟩ fun G=>?_;rcases ifS hm with ⟨s,hm⟩|⟨s,hm⟩
    ·skip
     refine .drX G 7 [(1,tT 3),(1,tT 4),(1,tT 5),(1,tT 6)] [_,_,_,_] ⟨O.kn (O.mv Z R R) s,O.mv (Gu.mk R R) R R,O.len sl32 (Gu.mk R R) R R,O.bi (Gu.mk R R) R R R R,trivial⟩ (by kernel_rfl) fun H=>?_;rcases ifS hm with ⟨t,hm⟩|⟨t,hm⟩
     ·skip
      exact .drF H [(1,tT 7),(1,tT 8),(1,tT 9),(1,tT 10),(1,tT 8),(1,tA 8 (fA 3 (tT 1))),(1,tA 8 (fA 3 (tT 2))),(1,tT 14),(1,tT 15),(1,tT 16),(1,tT 17)] [_,_,_,_,_,_,_,_,_,_,_] ⟨[(9,.b true),(8,.b e),(7,.h 0),(0,.f qI a.2.1),(1,.f qI a.2.2),(2,.o (lW Tryz.prog (fun (x:Bool×Bool)=> [.b x.1,.b x.2]) (fun (r:Bool)=> .b r) (fun x=>p2 x.1 x.2)))],[(0,rwI a.1)],1⟩ ⟨O.kn (O.mv (Gu.mk R R) R R) t,O.skip R R R R,O.skip R R R R,O.skip R R R R,O.skip R R R R,O.skip R R R R,O.skip R R R R,O.skip R R R R,O.pkT (Gu.mk R R) R R R R,O.pkT Z R R R R,O.as Z R R,trivial⟩ (by kernel_rfl) R ((q _ hm).sub [] R)
     ·skip
      exact bS hm fun a8 X hm=>bS hm fun a9 Y hm=> .drF H [(1,tT 7),(1,tT 8),(1,tT 9),(1,tT 10),(1,tT 8),(1,tA 8 (fA 3 (tT 1))),(1,tA 8 (fA 3 (tT 2))),(1,tT 14),(1,tT 15),(1,tT 16),(1,tT 17)] [_,_,_,_,_,_,_,_,_,_,_] ⟨[(9,.b (decide (a8≤a9))),(8,.b e),(7,.h 0),(0,.f qI a.2.1),(1,.f qI a.2.2),(2,.o (lW Tryz.prog (fun (x:Bool×Bool)=> [.b x.1,.b x.2]) (fun (r:Bool)=> .b r) (fun x=>p2 x.1 x.2)))],[(0,rwI a.1)],1⟩ ⟨O.kn (O.mv (Gu.mk R R) R R) t,O.mv (Gu.mk R R) R R,O.ix sl32 (Gu.mk R R) R R X R,O.ld nag3 (Gu.mk R R) R (.E lv3) R R,O.mv (Gu.mk R R) R R,O.ix sl32 (Gu.mk R R) R R Y R,O.ld nag3 (Gu.mk R R) R (.E lv3) R R,O.bi (Gu.mk R R) R R R R,O.pkF (Gu.mk R R) R R R R,O.pkT Z R R R R,O.as Z R R,trivial⟩ (by kernel_rfl) R ((q _ hm).sub [] R)
    ·skip
     exact .drF G [(1,tT 3),(1,tT 4),(1,tT 5),(1,tT 6),(1,tT 7),(1,tT 8),(1,tT 9),(1,tT 10),(1,tT 8),(1,tA 8 (fA 3 (tT 1))),(1,tA 8 (fA 3 (tT 2))),(1,tT 14),(1,tT 15),(1,tT 16),(1,tT 17)] [_,_,_,_,_,_,_,_,_,_,_,_,_,_,_] ⟨[(9,.b false),(8,.b e),(7,.h 0),(0,.f qI a.2.1),(1,.f qI a.2.2),(2,.o (lW Tryz.prog (fun (x:Bool×Bool)=> [.b x.1,.b x.2]) (fun (r:Bool)=> .b r) (fun x=>p2 x.1 x.2)))],[(0,rwI a.1)],1⟩ ⟨O.kn (O.mv Z R R) s,O.skip R R R R,O.skip R R R R,O.skip R R R R,O.skip R R R R,O.skipU R R R,O.skipU R R R,O.skipU R R R,O.skipU R R R,O.skipU R R R,O.skipU R R R,O.skipU R R R,O.skip R R R R,O.pkF Z R R R R,O.as Z R R,trivial⟩ (by kernel_rfl) R ((q _ hm).sub [] R)
  ·intro p;refine .sub (τ:=⟨[(7,.h 0),(0,.f qI a.2.1),(1,.f qI a.2.2),(2,.o (lW Tryz.prog (fun (x:Bool×Bool)=> [.b x.1,.b x.2]) (fun (r:Bool)=> .b r) (fun x=>p2 x.1 x.2)))],[(0,rwI a.1)],1⟩) ?_ [] R;refine .drP 3 [(1,[]),(1,[oT]),(1,[oT,oT])] [_,_,_] ⟨O.mv Z R R,O.len sl32 Z R R,O.bi Z R R R R,trivial⟩ fun I=>?_;rcases ifS hm with ⟨u,hm⟩|⟨u,hm⟩
   ·skip
    refine .drX I 7 [(1,tT 3),(1,tT 4),(1,tT 5),(1,tT 6)] [_,_,_,_] ⟨O.kn (O.mv Z R R) u,O.mv (Gu.mk R R) R R,O.len sl32 (Gu.mk R R) R R,O.bi (Gu.mk R R) R R R R,trivial⟩ (by kernel_rfl) fun J=>?_;rcases ifS hm with ⟨v,hm⟩|⟨v,hm⟩
    ·skip
     exact .drF J [(1,tT 7),(1,tT 8),(1,tT 9),(1,tT 10),(1,tT 8),(1,tA 8 (fA 3 (tT 1))),(1,tA 8 (fA 3 (tT 2))),(1,tT 14),(1,tT 15),(1,tT 16),(1,tT 17)] [_,_,_,_,_,_,_,_,_,_,_] ⟨[(8,.b true),(7,.h 0),(0,.f qI a.2.1),(1,.f qI a.2.2),(2,.o (lW Tryz.prog (fun (x:Bool×Bool)=> [.b x.1,.b x.2]) (fun (r:Bool)=> .b r) (fun x=>p2 x.1 x.2)))],[(0,rwI a.1)],1⟩ ⟨O.kn (O.mv (Gu.mk R R) R R) v,O.skip R R R R,O.skip R R R R,O.skip R R R R,O.skip R R R R,O.skip R R R R,O.skip R R R R,O.skip R R R R,O.pkT (Gu.mk R R) R R R R,O.pkT Z R R R R,O.as Z R R,trivial⟩ (by kernel_rfl) R ((p _ hm).sub [] R)
    ·skip
     exact bS hm fun b0 a0 hm=>bS hm fun b1 a1 hm=> .drF J [(1,tT 7),(1,tT 8),(1,tT 9),(1,tT 10),(1,tT 8),(1,tA 8 (fA 3 (tT 1))),(1,tA 8 (fA 3 (tT 2))),(1,tT 14),(1,tT 15),(1,tT 16),(1,tT 17)] [_,_,_,_,_,_,_,_,_,_,_] ⟨[(8,.b (decide (b0≤b1))),(7,.h 0),(0,.f qI a.2.1),(1,.f qI a.2.2),(2,.o (lW Tryz.prog (fun (x:Bool×Bool)=> [.b x.1,.b x.2]) (fun (r:Bool)=> .b r) (fun x=>p2 x.1 x.2)))],[(0,rwI a.1)],1⟩ ⟨O.kn (O.mv (Gu.mk R R) R R) v,O.mv (Gu.mk R R) R R,O.ix sl32 (Gu.mk R R) R R a0 R,O.ld nag3 (Gu.mk R R) R (.E lv3) R R,O.mv (Gu.mk R R) R R,O.ix sl32 (Gu.mk R R) R R a1 R,O.ld nag3 (Gu.mk R R) R (.E lv3) R R,O.bi (Gu.mk R R) R R R R,O.pkF (Gu.mk R R) R R R R,O.pkT Z R R R R,O.as Z R R,trivial⟩ (by kernel_rfl) R ((p _ hm).sub [] R)
   ·skip
    exact .drF I [(1,tT 3),(1,tT 4),(1,tT 5),(1,tT 6),(1,tT 7),(1,tT 8),(1,tT 9),(1,tT 10),(1,tT 8),(1,tA 8 (fA 3 (tT 1))),(1,tA 8 (fA 3 (tT 2))),(1,tT 14),(1,tT 15),(1,tT 16),(1,tT 17)] [_,_,_,_,_,_,_,_,_,_,_,_,_,_,_] ⟨[(8,.b false),(7,.h 0),(0,.f qI a.2.1),(1,.f qI a.2.2),(2,.o (lW Tryz.prog (fun (x:Bool×Bool)=> [.b x.1,.b x.2]) (fun (r:Bool)=> .b r) (fun x=>p2 x.1 x.2)))],[(0,rwI a.1)],1⟩ ⟨O.kn (O.mv Z R R) u,O.skip R R R R,O.skip R R R R,O.skip R R R R,O.skip R R R R,O.skipU R R R,O.skipU R R R,O.skipU R R R,O.skipU R R R,O.skipU R R R,O.skipU R R R,O.skipU R R R,O.skip R R R R,O.pkF Z R R R R,O.as Z R R,trivial⟩ (by kernel_rfl) R ((p _ hm).sub [] R)
 ·intro N;rcases yEt (decide ((a.2.1.length:Int)>0)) with hc|hc
  ·refine .know (d:=14) R hc ?_;exact .sk R (.sk R (.sk R (.pT R ((N true (orT hc).symm).sub [] R))))
  ·refine .know (d:=14) R hc ?_;exact .mg R (.op (O.len sl32 (Gu.mk R R) R R) R (.bg R (.pF R ((N (decide ((a.2.2.length:Int)>0)) (orF hc).symm).sub [] R))))
def yw(p0:Bool)(p1:Bool):Option Bool:=
 some (p0&&(!p1))
theorem ybi{p0:Bool}{p1:Bool}{r:Bool}(hm:yw p0 p1=some r):
  F0 76 [.b p0,.b p1] [] (.b r) []:=by
 refine Fw.mk2 Tryz.func76 Tryz.ntmps76 R (fun C=>?_) R;refine .sr (.an R (.sr (.mv R (.mv R ?_))));refine .cut 3 (fun (a:Bool)=>(p0&&(!p1))=a) (fun a=>⟨[(9,.b a)],[],0⟩) ?_ ?_
 ·rintro _ rfl;refine .an R (.ret ?_);cases hm;exact .rr [] Tryz.results76 (.tmp R .nil) R I3 trivial
 ·intro c;rcases yEt p0 with hc|hc
  ·refine .know (d:=6) R hc ?_;exact .mg R (.op (O.not (Gu.mk R R) R R) R (.pT R ((c (!p1) (andT hc).symm).sub [] R)))
  ·refine .know (d:=6) R hc ?_;exact .sk R (.sk R (.pF R ((c false (andF hc).symm).sub [] R)))
def y3N(p0:List Int)(p1:List Int):Option (List Int):=
 (y2R p0 p1 yw).bind fun a=>
 some a
theorem y9p{p0:List Int}{p1:List Int}{r:List Int}(hm:y3N p0 p1=some r):
  F0 17 [.f qI p0,.f qI p1] [] (.h 0) [rwI r]:=by
 refine Fw.mk2 Tryz.func17 Tryz.ntmps17 R (fun C=>?_) R;refine .sr (.an R (.sr (.mv R (.mv R (bS hm fun b a hm=> .op (O.cac (r':= .h 0) [0] [(0,rwI b)] (some 1) (y7M a) cf75 R R Z R R ⟨⟨R,.rf⟩,⟨R,.rf⟩,⟨R,(.c (.fn cf76 (fun x r h=>ybi h) (fun _=>R)) .n)⟩,trivial⟩ R ⟨⟨_,R,I4⟩,trivial⟩ I3 R) R (.an R (.ret ?_)))))));cases hm;exact .rr [0] Tryz.results17 (.tmp R .nil) R I3 ⟨⟨_,R,I4⟩,trivial⟩
end
end Go.Proofs.YtecmobjeeonmaaaGreatDoor
