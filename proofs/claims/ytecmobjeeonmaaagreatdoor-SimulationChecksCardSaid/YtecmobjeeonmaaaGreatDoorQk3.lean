/- Parts of the proof, without what nothing here names. -/
import Derived.Test.YtecmobjeeonmaaaGreatDoorProg
import Derived.Shelf.Strings.Builder1
import Derived.Shelf.Strings.BuilderF
import Derived.Shelf.Strings.BuilderK
import Derived.Shelf.Strconv.Itoa0
import Derived.Shelf.Strconv.Itoa1
import Derived.Shelf.LaysM
import Derived.Shelf.Strconv.Itoa2
import Derived.Shelf.Strconv.Itoa3
import Derived.Shelf.Sort.Plain
import Derived.Shelf.Slices.In.SortNone
import Derived.Ground.SlsfProg
import Derived.RangeFuncBound
import Derived.RangeFuncCalls
import Derived.RangeFuncLeaves
import Derived.RangeFuncNested
import Derived.Shelf.Abstract
import Derived.Test.YtecmobjeeonmaaaGreatDoorQk2
set_option maxRecDepth 100000
namespace Go.Proofs.YtecmobjeeonmaaaGreatDoor
open Go Go.RowKit
variable{β:Type}{x y:Operand}{T' S:TypeId}{off:Nat}{α:Type}{r:Rep α}{P:Program}
def BO(s:Sig)(t:Nat)(a:Option Nat):Prop:=∃(b:Nat) (es:List MapEntry),a=some b∧s.w.heap[b]? =some (.map es.toArray es.length)∧s.tag b=t∧∀(i:Nat) (e:MapEntry),es[i]? =some e→e.born=i
def kent{β:Type}(m:List (Int×β))(k:Int)(z:β):List (Int×β):=if kidx (m.map (·.1)) k<m.length then m else m++[(k,z)]
theorem yh0{m:List (Int×β)}{k:Int}{z:β}(h:¬kidx (m.map (·.1)) k<m.length):kidx ((m++[(k,z)]).map (·.1)) k=m.length:=by
 have hno:∀p∈m.map (·.1),(k==p)=false:=fun p hp=>by
  have hle:=List.findIdx_lt_length_of_exists (p:=fun p=>k==p) (xs:=m.map (·.1));cases hb:k==p with
  | false=>rfl
  | true=>
   have:=hle ⟨p,hp,hb⟩;rw [List.length_map] at this;exact(h this).elim
 have e:kidx (m.map (·.1)) k=m.length:=by
  have:=yao (m.map (·.1)) k;rw [List.length_map] at this;omega
 rw [List.map_append];unfold kidx at e ⊢;rw [List.findIdx_append];rw [List.length_map,if_neg (by omega)];simp
theorem ye5{m:List (Int×β)}{k:Int}{z:β}:kidx ((kent m k z).map (·.1)) k=kidx (m.map (·.1)) k∧kidx (m.map (·.1)) k<(kent m k z).length:=by
 unfold kent;split
 ·rename_i h;exact⟨rfl,h⟩
 ·rename_i h;have e:kidx (m.map (·.1)) k=m.length:=by
   have:=yao (m.map (·.1)) k;rw [List.length_map] at this;omega
  exact⟨(yh0 h).trans e.symm,by rw [e];simp⟩
theorem yh1(m:List (Int×β))(k:Int)(z v:β):kput (kent m k z) k v=kput m k v:=by
 obtain⟨h1,h2⟩:=ye5 (m:=m) (k:=k) (z:=z);rw [kput,h1,if_pos h2,kput];unfold kent at h2 ⊢;split
 ·rename_i h;rfl
 ·rename_i h;have e:kidx (m.map (·.1)) k=m.length:=by
   have:=yao (m.map (·.1)) k;rw [List.length_map] at this;omega
  rw [e,List.set_append_right _ _ (Nat.le_refl _),Nat.sub_self];rfl
theorem yfY{γ:Type}{m:List (Int×β)}{m':List (Int×γ)}(h:m.map (·.1)=m'.map (·.1))(k:Int)(z:β)(z':γ):(kent m k z).map (·.1)=(kent m' k z').map (·.1):=by
 have hl:m.length=m'.length:=by have:=congrArg List.length h;simpa using this
 unfold kent;rw [h,hl];split
 ·exact h
 ·rw [List.map_append,List.map_append,h];rfl
section
variable{Φ:Fr}{P:Program}{Q:Exit→Act→World→Prop}{n:Nat}{e:List (Nat×Value)}{s s':Sig}{ops:Array Oper}{os:List Oper}{d:Nat}{ty:TypeId}{pos:String}{af:Array Edge}{g:Option (Nat×Bool)}
variable{T kt et:TypeId}{a:Option Nat}{cap t:Nat}{m:List (Int×Value)}{k:Int}{zv:Value}
theorem BO.to{t':Nat}(h:BO s t a)(hb:∀b,b<s.w.heap.size→s.tag b=t→s'.w.heap[b]? =s.w.heap[b]? ∧s'.tag b=t'):BO s' t' a:=by
 obtain⟨b,es,e,h1,h2,h3⟩:=h;obtain⟨g1,g2⟩:=hb b (Array.getElem?_eq_some_iff.1 h1).1 h2;exact⟨b,es,e,g1.trans h1,g2,h3⟩
theorem L.mkC(t:Nat)(hd:Nat.blt d n=true)(hw:Wt ops e g)
  (h:∀a cap s',Mv No s s'→MapO kvI rVal s' t T a cap []→BO s' t a→L Φ P Q n ops os ((d,Value.map a)::e) s'.w):L Φ P Q n ops (⟨some d,.makeMap T none,ty,pos,af,g⟩::os) e s.w:=by
 refine L.val hw hd (v:= .map (some s.w.heap.size)) (w':=s.w.alloc (.map #[] 0)) (fun ac ha=>by simp [execOp,run_makeMap]) ?_;refine h (some s.w.heap.size) 0 ⟨s.w.alloc (.map #[] 0),tagUp s.tag s.w.heap.size t⟩ ?_ ⟨rfl,s.w.heap.size,[],0,rfl,heap_alloc_new s.w _,y6T _ _ _,trivial,fun i e p he=>by simp at he⟩ ⟨s.w.heap.size,[],rfl,heap_alloc_new s.w _,y6T _ _ _,fun i e he=>by simp at he⟩;exact⟨rfl,rfl,rfl,by simp,fun b hb _=>⟨heap_alloc_old s.w _ hb,y7p hb⟩⟩
theorem L.enC(hT:Md P T kt et kvI rVal zv zv)(hM:MapO kvI rVal s t T' a cap m)(hB:BO s t a)(ht0:0<t)(hw:Wt ops e g)(hx:Env.ev e x=some (.map a))(hy:Env.ev e y=some (.int .i64 k))(hd:Nat.blt d n=true)
  (h:∀v s',v.oneCell'=true→Mv (One t) s s'→MapO kvI rVal s' t T' a cap (kent m k zv)→BO s' t a→L Φ P Q n ops os ((d,.tuple #[v,.int .i64 (kidx (m.map (·.1)) k:Int)])::e) s'.w):L Φ P Q n ops (⟨some d,.mapEntry T x y,ty,pos,af,g⟩::os) e s.w:=by
 obtain⟨b,es,e1,h1,h2,hb⟩:=hB;obtain⟨b',es',clock,e2,h3,_,h4,h5⟩:=hM.is;have eb:b'=b:=by rw [e1] at e2;exact(Option.some.inj e2).symm
 subst eb;have eo:=h3.symm.trans h1;simp only [Option.some.injEq,Obj.map.injEq] at eo;obtain⟨ee,ec⟩:=eo;have ee:es'=es:=by simpa using congrArg Array.toList ee
 subst ee ec e1;have hf:=hT.key.find es' _ h4 k s.w;have hy:Env.ev e y=some (kvI k):=hy;have hlen:es'.length=m.length:=by rw [h4.len,List.length_map]
 by_cases hlt:kidx (m.map (·.1)) k<m.length
 ·have hel:kidx (m.map (·.1)) k<es'.length:=by omega
  have hkey:=h4.at _ hel (by simpa using hlt);have hbeq:(k==(m.map (·.1))[kidx (m.map (·.1)) k]'(by simpa using hlt))=true:=List.findIdx_getElem (p:=fun p=>k==p) (w:=by simpa [kidx] using hlt);have hst:=hT.key.stays k _ s.w hbeq;rw [←hkey] at hst;have hk2:es'[kidx (m.map (·.1)) k].key=kvI k:=by rw [hkey,←beq_iff_eq.1 hbeq]
  have hborn:=hb _ _ (yGe hel);have hone:es'[kidx (m.map (·.1)) k].val.oneCell'=true:=by
   have:=h5 _ _ _ (yGe hel) (yGe hlt);have hv:=(List.cons.inj this.1).1;rw [hv];exact this.2
  rw [yGe hel,Option.map_some] at hf;have hsame:es'.set (kidx (m.map (·.1)) k) { es'[kidx (m.map (·.1)) k] with key:=kvI k }=es':=by
   apply List.ext_getElem?;intro j;by_cases hj:kidx (m.map (·.1)) k=j
   ·subst hj;rw [List.getElem?_set_self hel,yGe hel,←hk2]
   ·rw [List.getElem?_set_ne hj]
  have hset:=y7q (s:=s) (t:=t) (es':=es') (clock':=es'.length) h1 h2;refine L.val hw hd (v:= .tuple #[es'[kidx (m.map (·.1)) k].val,.int .i64 (kidx (m.map (·.1)) k:Int)]) (w':={ s.w with heap:=s.w.heap.setIfInBounds b' (.map es'.toArray es'.length) }) (fun ac ha=>?_) (h _ ⟨_,_⟩ hone hset.1 ?_ ⟨b',es',rfl,hset.2,h2,hb⟩)
  ·simp [execOp,ha.ev hx,ha.ev hy,Instr.mapEntry,run_underlying hT.und,gobj h1,hT.key.check,hf,hel,hst,sobj _ h1,goInt,hborn];rw [lmod _ (yGe hel),hsame]
  ·rw [kent,if_pos hlt];exact⟨hM.cap0,b',es',es'.length,rfl,hset.2,h2,h4,fun i f p hf' hp=>h5 i f p hf' hp⟩
 ·have hge:es'.length≤kidx (m.map (·.1)) k:=by omega
  have hix:kidx (m.map (·.1)) k=es'.length:=by
   have:=yao (m.map (·.1)) k;rw [List.length_map] at this;omega
  rw [List.getElem?_eq_none hge,Option.map_none] at hf;have hset:=y7q (s:=s) (t:=t) (es':=es'++[(⟨kvI k,zv,es'.length⟩:MapEntry)]) (clock':=es'.length+1) h1 h2;have hz:=hT.zrd s;refine L.val hw hd (v:= .tuple #[zv,.int .i64 (kidx (m.map (·.1)) k:Int)]) (w':={ s.w with heap:=s.w.heap.setIfInBounds b' (.map (es'++[(⟨kvI k,zv,es'.length⟩:MapEntry)]).toArray (es'.length+1)) }) (fun ac ha=>?_) (h _ ⟨_,_⟩ hz.2 hset.1 ?_ ⟨b',es'++[(⟨kvI k,zv,es'.length⟩:MapEntry)],rfl,by rw [hset.2];simp,h2,fun i f hf'=>?_⟩)
  ·simp [execOp,ha.ev hx,ha.ev hy,Instr.mapEntry,run_underlying hT.und,gobj h1,hT.key.check,hf,hT.zero,sobj _ h1,goInt,hix]
  ·rw [kent,if_neg hlt];refine⟨hM.cap0,b',_,_,rfl,hset.2,h2,?_,fun i f p hf' hp=>?_⟩
   ·rw [List.map_append];exact h4.push rfl
   ·by_cases hi:i<es'.length
    ·rw [List.getElem?_append_left hi] at hf';rw [List.getElem?_append_left (by omega)] at hp;exact h5 i f p hf' hp
    ·rw [List.getElem?_append_right (by omega)] at hf';rw [List.getElem?_append_right (by omega)] at hp;by_cases h0:i-es'.length=0
     ·rw [h0] at hf';rw [show i-m.length=0 by omega] at hp;simp only [List.getElem?_cons_zero,Option.some.injEq] at hf' hp;subst hf';subst hp;exact hz
     ·rw [List.getElem?_eq_none (by simp;omega)] at hf';cases hf'
  ·by_cases hi:i<es'.length
   ·rw [List.getElem?_append_left hi] at hf';exact hb i f hf'
   ·rw [List.getElem?_append_right (by omega)] at hf';by_cases h0:i-es'.length=0
    ·rw [h0] at hf';simp only [List.getElem?_cons_zero,Option.some.injEq] at hf';subst hf';show es'.length=i;omega
    ·rw [List.getElem?_eq_none (by simp;omega)] at hf';cases hf'
theorem L.esC{z:Operand}{v:Value}(hM:MapO kvI rVal s t T' a cap m)(hB:BO s t a)(ht0:0<t)(hlt:kidx (m.map (·.1)) k<m.length)(hone:v.oneCell'=true)(hw:Wt ops e g)(hx:Env.ev e x=some (.map a))(hy:Env.ev e y=some (.int .i64 (kidx (m.map (·.1)) k:Int)))(hz:Env.ev e z=some v)
  (h:∀s',Mv (One t) s s'→MapO kvI rVal s' t T' a cap (kput m k v)→BO s' t a→L Φ P Q n ops os e s'.w):L Φ P Q n ops (⟨none,.entryStore T x y z,ty,pos,af,g⟩::os) e s.w:=by
 obtain⟨b,es,e1,h1,h2,hb⟩:=hB;obtain⟨b',es',clock,e2,h3,_,h4,h5⟩:=hM.is;have eb:b'=b:=by rw [e1] at e2;exact(Option.some.inj e2).symm
 subst eb;have eo:=h3.symm.trans h1;simp only [Option.some.injEq,Obj.map.injEq] at eo;obtain⟨ee,ec⟩:=eo;have ee:es'=es:=by simpa using congrArg Array.toList ee
 subst ee ec e1;have hlen:es'.length=m.length:=by rw [h4.len,List.length_map]
 have hel:kidx (m.map (·.1)) k<es'.length:=by omega
 have hkey:=h4.at _ hel (by simpa using hlt);have hk:(m.map (·.1))[kidx (m.map (·.1)) k]'(by simpa using hlt)=k:=yau (by simpa using hlt);rw [hk] at hkey;have hfind:es'.toArray.findIdx? (fun e=>(e.born:Int)==(kidx (m.map (·.1)) k:Int))=some (kidx (m.map (·.1)) k):=by
  rw [List.findIdx?_toArray,List.findIdx?_eq_some_iff_getElem];refine⟨hel,by rw [hb _ _ (yGe hel)];simp,fun j hj hc=>?_⟩;have:=hb j _ (yGe (by omega));rw [this] at hc;simp at hc;omega
 have hset:=y7q (s:=s) (t:=t) (es':=es'.set (kidx (m.map (·.1)) k) { es'[kidx (m.map (·.1)) k] with val:=v }) (clock':=es'.length) h1 h2;refine L.unit hw (w':={ s.w with heap:=s.w.heap.setIfInBounds b' (.map (es'.set (kidx (m.map (·.1)) k) { es'[kidx (m.map (·.1)) k] with val:=v }).toArray es'.length) }) (fun ac ha=>?_) (h ⟨_,_⟩ hset.1 ?_ ⟨b',es'.set (kidx (m.map (·.1)) k) { es'[kidx (m.map (·.1)) k] with val:=v },rfl,by rw [hset.2];simp,h2,fun i f hf'=>?_⟩)
 ·simp [execOp,ha.ev hx,ha.ev hy,ha.ev hz,Instr.entryStore,gobj h1,hfind,sobj _ h1,asInt,asIntOf];rw [lmod _ (yGe hel)]
 ·refine ⟨hM.cap0,b',_,_,rfl,hset.2,h2,?_,fun i f p hf' hp=>?_⟩
  ·rw [kput,if_pos hlt,List.map_set];exact h4.set hkey
  ·rw [kput,if_pos hlt] at hp;by_cases hi:kidx (m.map (·.1)) k=i
   ·subst hi;rw [List.getElem?_set_self hel,Option.some.injEq] at hf';rw [List.getElem?_set_self hlt,Option.some.injEq] at hp;subst hf';subst hp;exact⟨rfl,hone⟩
   ·rw [List.getElem?_set_ne hi] at hf' hp;exact h5 i f p hf' hp
 ·by_cases hi:kidx (m.map (·.1)) k=i
  ·subst hi;rw [List.getElem?_set_self hel,Option.some.injEq] at hf';subst hf';have:=hb _ _ (yGe hel);exact this
  ·rw [List.getElem?_set_ne hi] at hf';exact hb i f hf'
end
section
variable{α:Type}{r:Rep α}{s s':Sig}{t u:Nat}{T':TypeId}{τ:Nat→Nat}{a:Option Nat}{c:Nat}
variable{m:List (Int×List α)}{hs:List (Int×Value)}{h:Value}{o:Option Int}{k:Int}{z:Value}
def usS(s':Sig)(t:Nat):Sig:=⟨s'.w,fun b=>if s'.tag b % 2=1 then t else s'.tag b/2⟩
theorem yi1{m:List (Int×β)}{k:Int}{z:β}(h:(m.map (·.1)).Nodup):((kent m k z).map (·.1)).Nodup:=by
 unfold kent;split
 ·exact h
 ·rename_i h2;have:=yeS (k:=k) (v:=z) h;rwa [kput,if_neg h2] at this
theorem ye6{m:List (Int×β)}{k k':Int}{z v:β}{j:Nat}(hk:k'≠k)(h:(kent m k z)[j]? =some (k',v)):m[j]? =some (k',v):=by
 unfold kent at h;split at h
 ·exact h
 ·by_cases hj:j<m.length
  ·rwa [List.getElem?_append_left hj] at h
  ·rw [List.getElem?_append_right (by omega)] at h;by_cases h0:j-m.length=0
   ·rw [h0] at h;simp only [List.getElem?_cons_zero,Option.some.injEq,Prod.mk.injEq] at h;exact(hk h.1.symm).elim
   ·rw [List.getElem?_eq_none (by simp;omega)] at h;cases h
theorem MtbP.ent(hr:FlatR r)(H:MtbP r T' (some k) m s t h hs τ a c)(mv:Mv (One (2*0+1)) (sp s t τ) s')(hR:MapO kvI rVal s' (2*0+1) 0 a c (kent hs k z)):
  MtbP r T' (some k) (kent m k []) (usS s' t) t h (kent hs k z) (fun b=>s'.tag b/2) a c∧Mv (One t) s (usS s' t):=by
 have odd:∀k b,s'.tag b=2*k+1→(sp (usS s' t) t (fun b=>s'.tag b/2)).tag b=2*k+1:=fun k b e=>by
  have h1:(usS s' t).tag b=t:=if_pos (by omega);rw [sp_at h1];omega
 refine⟨⟨H.e,hR.fl y5S fun b _ e=>⟨rfl,odd 0 b e⟩,yfY H.key k z [],yi1 H.nd,fun j k' hd ys g1 g2 g3=>?_⟩,?_⟩
 ·have hk:k'≠k:=fun e=>g3 (by rw [e]);obtain⟨a,c,e,h5⟩:=H.inn j k' hd ys (ye6 hk g1) (ye6 hk g2) g3;refine⟨a,c,e,h5.fl hr fun b hb e=>?_⟩;obtain⟨q1,q2⟩:=mv.blk b hb (by rw [e];show ¬2*(j+1)+1=2*0+1;omega);exact⟨q1,odd _ b (q2.trans e)⟩
 ·refine ⟨mv.os,mv.tape,mv.output,mv.size,fun b hb hn=>?_⟩;have hn:¬s.tag b=t:=hn;have h1:(sp s t τ).tag b=2*s.tag b:=if_neg hn;obtain⟨q1,q2⟩:=mv.blk b hb (by rw [h1];show ¬2*s.tag b=2*0+1;omega);rw [h1] at q2;refine⟨q1,?_⟩;show(if s'.tag b % 2=1 then t else s'.tag b/2)=s.tag b;rw [if_neg (by omega),q2];omega
theorem BO.tk(H:MtbP r T' o m s t h hs τ a c)(hB:BO s t a)(i:Nat):BO (tkS s t u i τ) t a:=by
 obtain⟨b,es,e,h1,h2,h3⟩:=hB;obtain⟨b',es',clock,e2,_,g3,_⟩:=H.out.is;have eb:b'=b:=by rw [e] at e2;exact(Option.some.inj e2).symm
 subst eb;refine⟨b',es,e,h1,?_,h3⟩;show(if s.tag b'=t∧τ b'=i+1 then u else s.tag b')=t;rw [if_neg (fun g=>by have:=(y7s g3).2;omega),h2]
theorem BO.sp(H:MtbP r T' o m s t h hs τ a c)(hB:BO s t a):BO (Go.Proofs.YtecmobjeeonmaaaGreatDoor.sp s t τ) (2*0+1) a:=by
 obtain⟨b,es,e,h1,h2,h3⟩:=hB;obtain⟨b',es',clock,e2,_,g3,_⟩:=H.out.is;have eb:b'=b:=by rw [e] at e2;exact(Option.some.inj e2).symm
 subst eb;exact⟨b',es,e,h1,g3,h3⟩
def MTC{α:Type}{r:Rep α}(hr:FlatR r)(T':TypeId)(o:Option Int)(m:List (Int×List α)):Ob:= .hp ⟨fun s t h=>∃hs τ a c,MtbP r T' o m s t h hs τ a c∧BO s t a,fzMt r m o,
 fun mv ht _ ⟨hs,τ,a,c,h,hB⟩=>
  have hb:∀b,b<_→_→_:=fun b hb e=>by
   obtain⟨g1,g2⟩:=mv.blk b hb (by rw [e];exact ht);exact⟨g1,g2.trans e⟩
  ⟨hs,τ,a,c,h.to hr hb,hB.to hb⟩,
 fun _ hw ht ⟨hs,τ,a,c,h,hB⟩=>
  have hb:∀b,b<_→_→_:=fun b _ e=>⟨by rw [hw],ht b e⟩
  ⟨hs,τ,a,c,h.to hr hb,hB.to hb⟩,fun⟨_,_,_,_,h,_⟩ _=>h.fz⟩
end
section
variable{K:Kx}{C:Cx}{P:Program}{n:Nat}{ops:Array Oper}{σ:Sx}{d q i:Nat}{ty:TypeId}{pos:String}{af:Array Edge}{g:Option (Nat×Bool)}{β:Nat→Value}{s s':Sig}{e:List (Nat×Value)}
variable{α:Type}{r:Rep α}{hr:FlatR r}{T2:TypeId}{o:Option Int}{m:List (Int×List α)}{ys:List α}{k:Int}{T kt et:TypeId}
theorem fMc :∀z,MTC hr T2 none m= .hp z→z.fz.refs= []:=fun z e=>by cases e;rfl
theorem O.mkC(hr:FlatR r)(T2:TypeId)(i:Nat)(hi:Nat.ble σ.n i=true)(hg:Gu ops σ g)(hb:Nat.blt d n=true):Ox K C P n ops ⟨some d,.makeMap T none,ty,pos,af,g⟩ σ (FN d i (lH i) (MTC hr T2 none [])):=fun Φ Q os β s e hd k=>
 L.mkC (T:=T) (C.tg i) hb (hd.gd hg) fun a c s' m h5 h6=>k _ s' _ (Aft.new hi m.no (lH_at rfl) ⟨[],_,a,c,MtbP.made (h5.fl y5S fun b _ e=>⟨rfl,e⟩),h6⟩)
theorem O.luC(i:Nat)(hT:Md P T kt et kvI rVal (.slice none 0 0) (.slice none 0 0))(hi:Nat.ble σ.n i=true)(hg:Gu ops σ g)(hx:σ.ev x=some (sL (lH q)))(ho:aget σ.ob q=some (MTC hr T2 none m))(hy:Ky K C σ y (kvI k))(hb:Nat.blt d n=true):
  Ox K C P n ops ⟨some d,.lookup T x y false,ty,pos,af,g⟩ σ (FT d i q (lH i) (ROW r T2 ((kget m k).getD [])) (MTC hr T2 (some k) m)):=fun Φ Q os β s e hd kc=>by
 obtain⟨v,h1,h2,_⟩:=hd.evv hx;obtain⟨hs,τ,a,c,H,hB⟩:=hd.ob q _ ho;have hq:q<σ.n:=(hd.fo _ _ ho).1;have hqi:q≠i:=by have:=Nat.le_of_ble_eq_true hi;omega
 have hu:C.tg i≠C.tg q:=fun e=>hqi (hd.ok.inj e).symm;obtain⟨g1,⟨a2,c2,e2,g2⟩,g3⟩:=H.take (u:=C.tg i) hr k hu;exact L.mlV (s:=sp s (C.tg q) τ) hT H.out.any (hd.gd hg) (by rw [h1,h2,H.e]) (hy β s e hd) hb fun hone=>kc (upB β i ((kget hs k).getD (.slice none 0 0))) (tkS s (C.tg q) (C.tg i) (kidx (m.map (·.1)) k) τ) _ (Aft.tk hi hqi g3 (lH_at hone) ⟨a2,c2,e2,g2⟩ ⟨hs,τ,a,c,g1,hB.tk H _⟩)
theorem O.enC(hT:Md P T kt et kvI rVal (.slice none 0 0) (.slice none 0 0))(hg:Gu ops σ g)(hx:σ.ev x=some (sL (lH q)))(ho:aget σ.ob q=some (MTC hr T2 (some k) m))(hy:σ.ev y=some (VL (.int .i64 k)))(hb:Nat.blt d n=true):
  Ox K C P n ops ⟨some d,.mapEntry T x y,ty,pos,af,g⟩ σ ⟨some (d,.tp [⟨false,[lU]⟩,⟨false,[lV (.int .i64 (kidx (m.map (·.1)) k:Int))]⟩]),[(q,MTC hr T2 (some k) (kent m k []))],none⟩:=fun Φ Q os β s e hd kc=>by
 obtain⟨v,h1,h2,_⟩:=hd.evv hx;obtain⟨hs,τ,a,c,H,hB⟩:=hd.ob q _ ho;refine L.enC (s:=sp s (C.tg q) τ) hT H.out (hB.sp H) (by omega) (hd.gd hg) (by rw [h1,h2,H.e]) (hd.evl hy) hb fun v s' hone mv h7 h8=>?_;obtain⟨g1,g2⟩:=H.ent hr mv h7;refine kc β (usS s' (C.tg q)) _ ⟨fun _ _=>rfl,fun _ _=>rfl,g2.weak fun t ht=>⟨q,_,.head _,ht⟩,fun d' hn=>Env.get_put fun e=>hn _ (by rw [e]),fun d' x' ee=>?_,fun j o' hm=>?_⟩
 ·cases ee;refine⟨_,by simp [Env.get];rfl,[_,_],⟨_,_,hone,⟨_,_,⟨rfl,rfl⟩,rfl,rfl⟩,rfl⟩,?_⟩;rw [H.key]
 ·rcases List.mem_cons.1 hm with e|hm
  ·cases e;exact⟨_,_,_,_,g1,h8.to fun b _ e=>⟨rfl,if_pos (by omega)⟩⟩
  ·cases hm
theorem O.esC{z:Operand}(hg:Gu ops σ g)(hx:σ.ev x=some (sL (lH q)))(ho:aget σ.ob q=some (MTC hr T2 (some k) (kent m k [])))(hy:σ.ev y=some (VL (.int .i64 (kidx (m.map (·.1)) k:Int))))(hz:σ.ev z=some (sL (lH i)))(hoi:aget σ.ob i=some (ROW r T2 ys))(hqi:Nat.beq i q=false):
  Ox K C P n ops ⟨none,.entryStore T x y z,ty,pos,af,g⟩ σ ⟨none,[(q,MTC hr T2 none (kput m k ys)),(i,.u)],none⟩:=fun Φ Q os β s e hd kc=>by
 obtain⟨v,h1,h2,_⟩:=hd.evv hx;obtain⟨a2,c2,h4,h5,h6⟩:=hd.row hz hoi;obtain⟨hs,τ,a,c,H,hB⟩:=hd.ob q _ ho;have hne:C.tg i≠C.tg q:=fun e=>by
  have:=hd.ok.inj e;rw [this,Nat.beq_refl] at hqi;cases hqi
 obtain⟨k1,k2⟩:=ye5 (m:=m) (k:=k) (z:=[]);have hl:hs.length=(kent m k []).length:=by have:=congrArg List.length H.key;simpa using this
 refine L.esC (s:=sp s (C.tg q) τ) (k:=k) (v:= .slice a2 ys.length c2) H.out (hB.sp H) (by omega) (by rw [H.key,k1,hl];exact k2) rfl (hd.gd hg) (by rw [h1,h2,H.e]) (by rw [H.key,k1];exact hd.evl hy) h5 fun s' mv h7 h8=>?_;obtain⟨g1,g2⟩:=H.put hr h6 hne (fun k' e=>(Option.some.inj e).symm) mv h7;rw [yh1] at g1;refine kc β (ptS s' (C.tg q) (C.tg i)) e ⟨fun _ _=>rfl,fun _ _=>rfl,g2.weak fun t ht=>ht.elim (fun ht=>⟨q,_,.head _,ht⟩) (fun ht=>⟨i,.u,.tail _ (.head _),ht⟩),fun _ _=>rfl,nofun,fun j o' hm=>?_⟩;rcases List.mem_cons.1 hm with e|hm
 ·cases e;exact⟨_,_,_,_,g1,h8.to fun b _ e=>⟨rfl,if_pos (by omega)⟩⟩
 ·rcases List.mem_cons.1 hm with e|hm
  ·cases e;trivial
  ·cases hm
end
def OBX{α:Type}(r:Rep α)(T:TypeId)(x:Option α):Ob:= .hp ⟨fun s t h=>match x with
  | none=>h= .pointer none
  | some y=>∃(b:Nat) (cs:List Value),h= .pointer (some ⟨b,0,none⟩)∧Bx s t b cs.toArray T∧r.rd s cs y,lK r T x,
 fun m ht h0 h=>by
  cases x with
  | none=>exact h
  | some y=>obtain⟨b,cs,e,h1,h2⟩:=h;exact⟨b,cs,e,h1.mv m ht,r.mono (m.le h0) h2⟩,
 fun hl hw ht h=>by
  cases x with
  | none=>exact h
  | some y=>obtain⟨b,cs,e,h1,h2⟩:=h;exact⟨b,cs,e,⟨by rw [hw];exact h1.heap,ht _ h1.htag⟩,r.mono hl h2⟩,
 fun h β=>by
  cases x with
  | none=>exact h
  | some y=>obtain⟨b,cs,e,h1,h2⟩:=h;exact⟨b,cs,e,h1,h2⟩⟩
theorem Cnv.ph{i:Nat}:Cnv (lP i 0) (lH i):=fun _ _ _ ⟨_,e,h⟩=>⟨h.trans e.symm,by rw [h];rfl⟩
section
variable{K:Kx}{C:Cx}{σ:Sx}{β:Nat→Value}{s:Sig}{e:List (Nat×Value)}{α:Type}{r:Rep α}{T:TypeId}{l:List LV}{x:Option α}{y:α}{i d:Nat}
theorem Den.set(hd:Den K C σ β s e)(i:Nat)(o:Ob)(h1:i<σ.n)(h2:o.p β s (C.tg i) (β i))(h3:∀j,j∈o.refs→j<σ.n):Den K C ⟨σ.sl,(i,o)::σ.ob,σ.n⟩ β s e:=
 ⟨hd.ok,hd.mv,hd.b0,hd.m,hd.sl,fun j q hq=>by
  rcases yh hq with ⟨rfl,rfl⟩|⟨_,hq⟩
  ·exact h2
  ·exact hd.ob j q hq,hd.fs,fun j q hq=>by
  rcases yh hq with ⟨rfl,rfl⟩|⟨_,hq⟩
  ·exact ⟨h1,h3⟩
  ·exact hd.fo j q hq⟩
theorem Den.obx(ho:aget σ.ob i=some (.bx T l))(hv:Rv r l y)(hd:Den K C σ β s e):Den K C ⟨σ.sl,(i,OBX r T (some y))::σ.ob,σ.n⟩ β s e:=by
 obtain⟨b,vs,e,h1,h2⟩:=hd.ob _ _ ho;exact hd.set i _ (hd.fo _ _ ho).1 ⟨b,vs,e,h1,hv β s _ h2⟩ fun j hj=>by cases hj
theorem Den.opn(ho:aget σ.ob i=some (OBX r T x))(hx:x=some y)(hl:Lv r y l)(hr:refsL l= [])(hd:Den K C σ β s e):Den K C ⟨σ.sl,(i,.bx T l)::σ.ob,σ.n⟩ β s e:=by
 subst hx;obtain⟨b,vs,e,h1,h2⟩:=hd.ob _ _ ho;exact hd.set i _ (hd.fo _ _ ho).1 ⟨b,vs,e,h1,hl β s _ h2⟩ fun j (hj:j∈refsL l)=>by rw [hr] at hj;cases hj
theorem Den.hp(h:aget σ.sl d=some (sL (lH i)))(ho:aget σ.ob i=some (.bx T l))(hd:Den K C σ β s e):Den K C ⟨(d,sL (lP i 0))::σ.sl,σ.ob,σ.n⟩ β s e:=by
 obtain⟨b,vs,e1,_,_⟩:=hd.ob _ _ ho;obtain⟨v,g1,g2,_⟩:=hd.sl _ _ h;have hi:=(hd.fo _ _ ho).1;exact⟨hd.ok,hd.mv,hd.b0,hd.m,fun d' x hx=>by
  rcases yh hx with ⟨rfl,rfl⟩|⟨_,hx⟩
  ·exact ⟨v,g1,b,e1,g2.trans e1⟩
  ·exact hd.sl d' x hx,hd.ob,fun d' x hx j hj=>by
  rcases yh hx with ⟨rfl,rfl⟩|⟨_,hx⟩
  ·have:j=i:=by simpa [SV.refs,refsL,lP] using hj
   show j<σ.n;omega
  ·exact hd.fs d' x hx j hj,hd.fo⟩
theorem Den.nlp(r:Rep α)(T:TypeId)(h:aget σ.sl d=some (VL (.pointer none)))(hd:Den K C σ β s e):Den K C ⟨(d,sL (lH σ.n))::σ.sl,(σ.n,OBX r T none)::σ.ob,σ.n+1⟩ (upB β σ.n (.pointer none)) s e:=by
 have hm:=hd.m;have hb:∀i,i<σ.n→upB β σ.n (.pointer none) i=β i:=fun i hi=>y6M (by omega);refine⟨hd.ok,hd.mv,fun i hi=>(hb i (by omega)).trans (hd.b0 i hi),by show K.m≤σ.n+1;omega,fun d' x hx=>?_,fun i o ho=>?_,fun d' x hx i hi=>?_,fun i o ho=>?_⟩
 ·rcases yh hx with ⟨rfl,rfl⟩|⟨_,hx⟩
  ·obtain ⟨v,g1,g2⟩:=hd.sl _ _ h;exact⟨v,g1,g2.1.trans y6X.symm,g2.1▸rfl⟩
  ·obtain ⟨v,g1,g2⟩:=hd.sl _ _ hx;exact⟨v,g1,SV.mono (Le.refl _) (fun i hi=>hb i (hd.fs _ _ hx i hi)) g2⟩
 ·rcases yh ho with ⟨rfl,rfl⟩|⟨_,ho⟩
  ·exact y6X
  ·obtain ⟨g1,g2⟩:=hd.fo _ _ ho;rw [hb i g1];exact Ob.as (Le.refl _) rfl (fun _ h=>h) (fun j hj=>hb j (g2 j hj)) (hd.ob _ _ ho)
 ·show i<σ.n+1;rcases yh hx with ⟨rfl,rfl⟩|⟨_,hx⟩
  ·have:i=σ.n:=by simpa [SV.refs,refsL,lH] using hi
   omega
  ·have:=hd.fs _ _ hx i hi;omega
 ·rcases yh ho with ⟨rfl,rfl⟩|⟨_,ho⟩
  ·exact ⟨by show σ.n<σ.n+1;omega,fun j hj=>by cases hj⟩
  ·obtain ⟨g1,g2⟩:=hd.fo _ _ ho;exact⟨by show i<σ.n+1;omega,fun j hj=>by have:=g2 j hj;show j<σ.n+1;omega⟩
variable{Φ:Fr}{P:Program}{Q:Exit→Act→World→Prop}{n:Nat}{ops:Array Oper}{os:List Oper}{c:Code}{z:Exit}
theorem WX.obx(i:Nat)(ho:aget σ.ob i=some (.bx T l))(hv:Rv r l y)(h:WX K C Φ Q n z ⟨σ.sl,(i,OBX r T (some y))::σ.ob,σ.n⟩):WX K C Φ Q n z σ:=fun β s e hd=>h β s e (hd.obx ho hv)
theorem WX.nlp(r:Rep α)(T:TypeId)(d:Nat)(hs:aget σ.sl d=some (VL (.pointer none)))(h:WX K C Φ Q n z ⟨(d,sL (lH σ.n))::σ.sl,(σ.n,OBX r T none)::σ.ob,σ.n+1⟩):WX K C Φ Q n z σ:=fun β s e hd=>h _ s e (hd.nlp r T hs)
theorem WE.opn(i:Nat)(ho:aget σ.ob i=some (OBX r T x))(hx:x=some y)(hl:Lv r y l)(hr:refsL l= [])(h:WE K C Φ P Q n c ⟨σ.sl,(i,.bx T l)::σ.ob,σ.n⟩):WE K C Φ P Q n c σ:=fun β s e hd=>h β s e (hd.opn ho hx hl hr)
theorem WE.hp(d:Nat)(hs:aget σ.sl d=some (sL (lH i)))(ho:aget σ.ob i=some (.bx T l))(h:WE K C Φ P Q n c ⟨(d,sL (lP i 0))::σ.sl,σ.ob,σ.n⟩):WE K C Φ P Q n c σ:=fun β s e hd=>h β s e (hd.hp hs ho)
end
section
variable{K:Kx}{C:Cx}{P:Program}{Φ:Fr}{Q:Exit→Act→World→Prop}{n:Nat}{ops:Array Oper}{os:List Oper}{σ:Sx}{d:Nat}{ty:TypeId}{pos:String}{af:Array Edge}
theorem V.fa{f o i:Nat}(hF:FA P S f o)(h:(σ.ev x,Nat.blt d n,(F1 d (sL (lP i (off+o)))).ok K σ.n)=(some (sL (lP i off)),true,true))(h2:V K C Φ P Q n ops os (σ.eff (F1 d (sL (lP i (off+o)))))):V K C Φ P Q n ops (⟨some d,.fieldAddr S x f,ty,pos,af,none⟩::os) σ:=by
 simp only [Prod.mk.injEq] at h;exact .op (O.faP hF .no h.1 h.2.1) h.2.2 h2
theorem V.fe{y:α}{f o:Nat}(hF:FA P S f o)(h:(σ.ev x,Nat.blt d n,(F1 d (sL (lE r y (off+o)))).ok K σ.n)=(some (sL (lE r y off)),true,true))(h2:V K C Φ P Q n ops os (σ.eff (F1 d (sL (lE r y (off+o)))))):V K C Φ P Q n ops (⟨some d,.fieldAddr S x f,ty,pos,af,none⟩::os) σ:=by
 simp only [Prod.mk.injEq] at h;exact .op (O.faE hF .no h.1 h.2.1) h.2.2 h2
theorem V.fq{T:TypeId}{f o:Nat}{l:List LV}(hF:FA P S f o)(h:(σ.ev x,Nat.blt d n,(F1 d (sL (lQ T l (off+o)))).ok K σ.n)=(some (sL (lQ T l off)),true,true))(h2:V K C Φ P Q n ops os (σ.eff (F1 d (sL (lQ T l (off+o)))))):V K C Φ P Q n ops (⟨some d,.fieldAddr S x f,ty,pos,af,none⟩::os) σ:=by
 simp only [Prod.mk.injEq] at h;exact .op (O.faQ hF .no h.1 h.2.1) h.2.2 h2
theorem V.lb{T:TypeId}{y:LV}{l:List LV}{i:Nat}(hT:NAg P T)(h:(σ.ev x,aget σ.ob i,l[off]?,Nat.blt d n,(F1 d (sL y)).ok K σ.n)=(some (sL (lP i off)),some (.bx T' l),some y,true,true))(h2:V K C Φ P Q n ops os (σ.eff (F1 d (sL y)))):V K C Φ P Q n ops (⟨some d,.load T x,ty,pos,af,none⟩::os) σ:=by
 simp only [Prod.mk.injEq] at h;exact .op (O.ld hT .no h.1 (.B h.2.1) h.2.2.1 h.2.2.2.1) h.2.2.2.2 h2
theorem V.le{T:TypeId}{z:α}{y:LV}{l:List LV}(hT:NAg P T)(hl:Lv r z l)(h:(σ.ev x,l[off]?,Nat.blt d n,(F1 d (sL y)).ok K σ.n)=(some (sL (lE r z off)),some y,true,true))(h2:V K C Φ P Q n ops os (σ.eff (F1 d (sL y)))):V K C Φ P Q n ops (⟨some d,.load T x,ty,pos,af,none⟩::os) σ:=by
 simp only [Prod.mk.injEq] at h;exact .op (O.ld hT .no h.1 (.E hl) h.2.1 h.2.2.1) h.2.2.2 h2
theorem V.lq{T:TypeId}{y:LV}{l:List LV}(hT:NAg P T)(h:(σ.ev x,l[off]?,Nat.blt d n,(F1 d (sL y)).ok K σ.n)=(some (sL (lQ T' l off)),some y,true,true))(h2:V K C Φ P Q n ops os (σ.eff (F1 d (sL y)))):V K C Φ P Q n ops (⟨some d,.load T x,ty,pos,af,none⟩::os) σ:=by
 simp only [Prod.mk.injEq] at h;exact .op (O.ld hT .no h.1 .Q h.2.1 h.2.2.1) h.2.2.2 h2
theorem V.st{T:TypeId}{i o m:Nat}{l:List LV}{v:TV}(hT:∀w,(sizeOf T).run P w= .ok m w)(h:(σ.ev x,aget σ.ob i,σ.ev y,v.l.length,Nat.ble (o+m) l.length,(FO i (.bx T' (stL l o v.l))).ok K σ.n)=(some (sL (lP i o)),some (.bx T' l),some (.v v),m,true,true))(h2:V K C Φ P Q n ops os (σ.eff (FO i (.bx T' (stL l o v.l))))):V K C Φ P Q n ops (⟨none,.store T x y,ty,pos,af,none⟩::os) σ:=by
 simp only [Prod.mk.injEq] at h;exact .op (O.st hT .no h.1 h.2.1 h.2.2.1 h.2.2.2.1 h.2.2.2.2.1) h.2.2.2.2.2 h2
theorem V.ln{xs:List α}{T E:TypeId}{m:Nat}(hT:Sl P T E m)(h:(σ.ev x,Nat.blt d n,(F1 d (VL (.int .i64 (xs.length:Int)))).ok K σ.n)=(some (sL (lF r xs)),true,true))(h2:V K C Φ P Q n ops os (σ.eff (F1 d (VL (.int .i64 (xs.length:Int)))))):V K C Φ P Q n ops (⟨some d,.call { callee:= .builtin .len,args:= #[x],argTypes:= #[T] },ty,pos,af,none⟩::os) σ:=by
 simp only [Prod.mk.injEq] at h;exact .op (O.len hT .no h.1 h.2.1) h.2.2 h2
theorem V.ex{l:List TV}{i:Nat}{y:TV}(h:(σ.ev x,l[i]?,Nat.blt d n,(F1 d (.v y)).ok K σ.n)=(some (.tp l),some y,true,true))(h2:V K C Φ P Q n ops os (σ.eff (F1 d (.v y)))):V K C Φ P Q n ops (⟨some d,.extract x i,ty,pos,af,none⟩::os) σ:=by
 simp only [Prod.mk.injEq] at h;exact .op (O.ex .no h.1 h.2.1 h.2.2.1) h.2.2.2 h2
theorem V.al{T:TypeId}{z:Value}(i:Nat)(hz:(P.info? T).bind (·.zero)=some z)(h:(Nat.ble σ.n i,z.cells.toList.all Value.oneCell',Nat.blt d n,(FN d i (lP i 0) (.bx T (z.cells.toList.map lV))).ok K σ.n)=(true,true,true,true))(h2:V K C Φ P Q n ops os (σ.eff (FN d i (lP i 0) (.bx T (z.cells.toList.map lV))))):V K C Φ P Q n ops (⟨some d,.alloc T,ty,pos,af,none⟩::os) σ:=by
 simp only [Prod.mk.injEq] at h;exact .op (O.al i h.1 hz h.2.1 .no h.2.2.1) h.2.2.2 h2
theorem V.bo{T:TypeId}{y:TV}(i:Nat)(h:(Nat.ble σ.n i,σ.ev x,ltA σ.n (refsL y.l),Nat.blt d n,(FN d i (lP i 0) (.bx T y.l)).ok K σ.n)=(true,some (.v y),true,true,true))(h2:V K C Φ P Q n ops os (σ.eff (FN d i (lP i 0) (.bx T y.l)))):V K C Φ P Q n ops (⟨some d,.box T x,ty,pos,af,none⟩::os) σ:=by
 simp only [Prod.mk.injEq] at h;exact .op (O.box i h.1 .no h.2.1 h.2.2.1 h.2.2.2.1) h.2.2.2.2 h2
theorem V.ix{xs:List α}{i:Operand}{T U:TypeId}{k:IntKind}{j:Int}{y:α}(hS:Sl P T U r.sz)(hy:idx xs j=some y)(h:(σ.ev x,σ.ev i,Nat.blt d n,(F1 d (sL (lE r y 0))).ok K σ.n)=(some (sL (lF r xs)),some (VL (.int k j)),true,true))(h2:V K C Φ P Q n ops os (σ.eff (F1 d (sL (lE r y 0))))):V K C Φ P Q n ops (⟨some d,.indexAddr T x i,ty,pos,af,none⟩::os) σ:=by
 simp only [Prod.mk.injEq] at h;exact .op (O.ix hS .no h.1 h.2.1 hy h.2.2.1) h.2.2.2 h2
theorem V.c0{f:FuncId}{xs:List Operand}{av:List TV}{c:Call}{r:SV}(hF:Fw P f ⟨0,[]⟩ av [] r [])(hcf:Cf P f)(h:(c.callee,c.args,σ.evs xs,r.refs,Nat.blt d n,(F1 d r).ok K σ.n)=(.value (.func f),xs.toArray,some av,[],true,true))(h2:V K C Φ P Q n ops os (σ.eff (F1 d r))):V K C Φ P Q n ops (⟨some d,.call c,ty,pos,af,none⟩::os) σ:=by
 simp only [Prod.mk.injEq] at h;exact .op (O.ca0 hF hcf h.1 h.2.1 .no h.2.2.1 h.2.2.2.1 h.2.2.2.2.1) h.2.2.2.2.2 h2
theorem V.ns{y:Code}(h:WE K C Φ P Q n y σ):V K C Φ P (Exit.then (y.wpIn Φ.f 2 P Q) Q) n ops [] σ:= .nil (.seqN h)
theorem V.nr{id:Nat}{l:List Oper}{y:Code}(h:V K C Φ P (Exit.then (y.wpIn Φ.f 2 P Q) Q) n l.toArray l σ):V K C Φ P (Exit.then ((Code.seq (.region id l.toArray false) y).wpIn Φ.f 2 P Q) Q) n ops [] σ:= .nil (.seqN (.seq (.reg h)))
theorem WE.sr{id:Nat}{l:List Oper}{y:Code}(h:V K C Φ P (Exit.then (y.wpIn Φ.f 2 P Q) Q) n l.toArray l σ):WE K C Φ P Q n (.seq (.region id l.toArray false) y) σ:= .seq (.reg h)
theorem V.an{z:SV}{y:Code}(h:(σ.ev x,Nat.blt d n,(F1 d z).ok K σ.n)=(some z,true,true))(h2:WE K C Φ P Q n y (σ.eff (F1 d z))):V K C Φ P (Exit.then (y.wpIn Φ.f 2 P Q) Q) n ops (⟨some d,.assign x,ty,pos,af,none⟩::[]) σ:= .sa h (.ns h2)
theorem WE.cc{c:Operand}{x y:Code}{t:Bool}{A B:Option β}{r:β}(hm:(if t=true then A else B)=some r)(hx:σ.ev c=some (VL (.bool t)))(h1:A=some r→WE K C Φ P Q n x σ)(h2:B=some r→WE K C Φ P Q n y σ):WE K C Φ P Q n (.cond c x y) σ:=by
 rcases ifS hm with ⟨h,hm⟩|⟨h,hm⟩
 ·exact .cT hx h (h1 hm)
 ·exact .cF hx h (h2 hm)
end
theorem WX.rr{K:Kx}{C:Cx}{n:Nat}{σ:Sx}{fn:Func}{rs:List ResultVar}{l:List TV}{r:SV}{ob':List Ob}(ρ:List Nat)(hr:fn.results=rs.toArray)(hv:Rw P σ rs l)(hok:endOk K ob'.length ρ=true)(hc:∀β s v,(retS l).p β s v→r.p (fun i=>β (ρ.getD i i)) s v)(hE:EndL σ (fun i=>ρ.getD i i) 0 ob'):WX K C Fr.o (bodyPost P fn (Fin K C P r ob')) n .ret σ:= .rt ρ (.inl rfl) hr hv hok hc hE
theorem Fw.mk2{f:FuncId}{K:Kx}{av:List TV}{ob:List Ob}{r:SV}{ob':List Ob}{fn:Func}{c:Code}{n:Nat}(hf:P.funcs[f]? =some fn)(hn:fn.ntmps=n)(h0:(fn.body,Nat.ble av.length n,ob.length)=(some c,true,K.m))(h:∀C:Cx,WE K C Fr.o P (bodyPost P fn (Fin K C P r ob')) n c ⟨Env.of3 0 av,Env.ofO 0 ob,K.m⟩)(h1:(ltA K.m (refsT av),ob.all (fun o=>ltA K.m o.refs))=(true,true)):Fw P f K av ob r ob':=by
 simp only [Prod.mk.injEq] at h0 h1;exact .mk' hf h0.1 hn h0.2.1 h0.2.2 h h1.1 h1.2
theorem cM {f:FuncId}{fn:Func}(h : P.funcs[f]? = some fn)(hn : ((fn.name == "runtime.NumGoroutine"), fn.body.isNone) = (false, false)) : Cf P f := by
 simp only [Prod.mk.injEq] at hn;exact .mk h hn.1 hn.2
theorem fAm{fs:Array Field}(f o m:Nat){fd:Field}(h:P.underlying S=some (.struct fs))(hf:(fs[f]?,fd.offset)=(some fd,o))(hs:(Nat.blt 0 m,(P.info? fd.type).map (·.size))=(true,some m)):FA P S f o:=by
 simp only [Prod.mk.injEq] at hf hs;exact .mk h hf.1 hf.2 ⟨m,Nat.le_of_ble_eq_true hs.1,hs.2⟩
abbrev F0(f:FuncId)(av:List TV)(ob:List Ob)(r:SV)(ob':List Ob):Prop:=Fw Tryz.prog f ⟨0,[]⟩ av ob r ob'
end Go.Proofs.YtecmobjeeonmaaaGreatDoor
namespace Go.Proofs
open Go.Shelf
def Tryz.lays169_ren :Go.Shelf.Ren:=⟨fun|169=>163|n=>n,fun|70=>242|9=>9|0=>0|72=>245|37=>243|127=>297|3=>3|5=>5|n=>n,fun|n=>n⟩
theorem Tryz.lays169 :Go.Proofs.Lays.n169 Tryz.prog Tryz.lays169_ren:={
 mixed:=by kernel_rfl
 f169:=Tryz.func163.trans (congrArg some (by kernel_rfl))
 t0:=Tryz.underlying0
 a0:=Tryz.isAgg0
 z0:=Tryz.sizeOf0
 v0:=Tryz.zeroValue0
 t3:=Tryz.underlying3
 a3:=Tryz.isAgg3
 z3:=Tryz.sizeOf3
 v3:=Tryz.zeroValue3
 t9:=Tryz.underlying9
 a9:=Tryz.isAgg9
 z9:=Tryz.sizeOf9
 v9:=Tryz.zeroValue9
 t37:=Tryz.underlying243
 a37:=Tryz.isAgg243
 z37:=Tryz.sizeOf243
 v37:=Tryz.zeroValue243
 t70:=Tryz.underlying242
 a70:=Tryz.isAgg242
 z70:=Tryz.sizeOf242
 v70:=Tryz.zeroValue242
 t72:=Tryz.underlying245
 a72:=Tryz.isAgg245
 z72:=Tryz.sizeOf245
 v72:=Tryz.zeroValue245
 t127:=Tryz.underlying297
 a127:=Tryz.isAgg297
 z127:=Tryz.sizeOf297
 v127:=Tryz.zeroValue297 }
theorem Tryz.Builder_Extra_169 :Builder.Extra Tryz.prog Tryz.lays169_ren:={
 sizeBuilder:=by kernel_rfl
 liesBuilder:=by kernel_rfl
 t5:=Tryz.underlying5
 a5:=Tryz.isAgg5
 z5:=Tryz.sizeOf5
 v5:=Tryz.zeroValue5
 infoByte:=by kernel_rfl
 cellsByte:=by kernel_rfl
 sizeByte:=by kernel_rfl
 neB5:=by decide }
open Go.RowKit in
theorem Tryz.Builder_String_any(B b:Nat)(l:List UInt8)(w:World)(h:Lib.IsBuilder 245 5 B b (Lib.byteCells l) w)(hBw:B≤w.heap.size):
  Calls Tryz.prog 163 #[.pointer (some ⟨b,0,none⟩)] w fun e w'=>e= .returned (.string ⟨l.toArray⟩)∧Below B w w':=Any.Builder_String_any Tryz.lays169 Tryz.Builder_Extra_169 B b l w h hBw
def Tryz.lays171_ren :Go.Shelf.Ren:=⟨fun|171=>161|243=>212|246=>239|283=>264|284=>265|285=>266|286=>267|129=>255|317=>281|318=>282|319=>283|320=>284|337=>301|338=>302|n=>n,fun|3=>3|9=>9|2=>2|4=>4|171=>342|0=>0|53=>336|37=>243|5=>5|173=>344|212=>360|51=>334|20=>20|213=>361|46=>295|232=>384|233=>385|n=>n,fun|17=>0|18=>1|19=>2|n=>n⟩
theorem Tryz.lays171 :Go.Proofs.Lays.n171 Tryz.prog Tryz.lays171_ren:={
 mixed:=by kernel_rfl
 f129:=Tryz.func255.trans (congrArg some (by kernel_rfl))
 f171:=Tryz.func161.trans (congrArg some (by kernel_rfl))
 f243:=Tryz.func212.trans (congrArg some (by kernel_rfl))
 f246:=Tryz.func239.trans (congrArg some (by kernel_rfl))
 f283:=Tryz.func264.trans (congrArg some (by kernel_rfl))
 f284:=Tryz.func265.trans (congrArg some (by kernel_rfl))
 f285:=Tryz.func266.trans (congrArg some (by kernel_rfl))
 f286:=Tryz.func267.trans (congrArg some (by kernel_rfl))
 f317:=Tryz.func281.trans (congrArg some (by kernel_rfl))
 f318:=Tryz.func282.trans (congrArg some (by kernel_rfl))
 f319:=Tryz.func283.trans (congrArg some (by kernel_rfl))
 f320:=Tryz.func284.trans (congrArg some (by kernel_rfl))
 f337:=Tryz.func301.trans (congrArg some (by kernel_rfl))
 f338:=Tryz.func302.trans (congrArg some (by kernel_rfl))
 t0:=Tryz.underlying0
 a0:=Tryz.isAgg0
 z0:=Tryz.sizeOf0
 v0:=Tryz.zeroValue0
 t2:=Tryz.underlying2
 a2:=Tryz.isAgg2
 z2:=Tryz.sizeOf2
 v2:=Tryz.zeroValue2
 t3:=Tryz.underlying3
 a3:=Tryz.isAgg3
 z3:=Tryz.sizeOf3
 v3:=Tryz.zeroValue3
 t4:=Tryz.underlying4
 a4:=Tryz.isAgg4
 z4:=Tryz.sizeOf4
 v4:=Tryz.zeroValue4
 t5:=Tryz.underlying5
 a5:=Tryz.isAgg5
 z5:=Tryz.sizeOf5
 v5:=Tryz.zeroValue5
 t9:=Tryz.underlying9
 a9:=Tryz.isAgg9
 z9:=Tryz.sizeOf9
 v9:=Tryz.zeroValue9
 t20:=Tryz.underlying20
 a20:=Tryz.isAgg20
 z20:=Tryz.sizeOf20
 v20:=Tryz.zeroValue20
 t37:=Tryz.underlying243
 a37:=Tryz.isAgg243
 z37:=Tryz.sizeOf243
 v37:=Tryz.zeroValue243
 t46:=Tryz.underlying295
 a46:=Tryz.isAgg295
 z46:=Tryz.sizeOf295
 v46:=Tryz.zeroValue295
 t51:=Tryz.underlying334
 a51:=Tryz.isAgg334
 z51:=Tryz.sizeOf334
 v51:=Tryz.zeroValue334
 t53:=Tryz.underlying336
 a53:=Tryz.isAgg336
 z53:=Tryz.sizeOf336
 v53:=Tryz.zeroValue336
 t171:=Tryz.underlying342
 a171:=Tryz.isAgg342
 z171:=Tryz.sizeOf342
 v171:=Tryz.zeroValue342
 t173:=Tryz.underlying344
 a173:=Tryz.isAgg344
 z173:=Tryz.sizeOf344
 v173:=Tryz.zeroValue344
 t212:=Tryz.underlying360
 a212:=Tryz.isAgg360
 z212:=Tryz.sizeOf360
 v212:=Tryz.zeroValue360
 t213:=Tryz.underlying361
 a213:=Tryz.isAgg361
 z213:=Tryz.sizeOf361
 t232:=Tryz.underlying384
 a232:=Tryz.isAgg384
 z232:=Tryz.sizeOf384
 v232:=Tryz.zeroValue384
 t233:=Tryz.underlying385
 a233:=Tryz.isAgg385
 z233:=Tryz.sizeOf385
 v233:=Tryz.zeroValue385
 g17:=by kernel_rfl
 g18:=by kernel_rfl
 g19:=by kernel_rfl }
open Go.RowKit Go.Sort Go.Lib in
theorem Tryz.strconv_Itoa_small(i:Nat)(hi:i<100)(w:World):
  Calls Tryz.prog 161 #[.int .i64 i] w fun e w'=>e= .returned (.string ⟨(Lib.decDigits i).toArray⟩)∧w'=w:=Any.strconv_Itoa_small Tryz.lays171 i hi w
end Go.Proofs
namespace Go.Proofs.YtecmobjeeonmaaaGreatDoor
open Go Go.RowKit
abbrev bT :TypeId:=245
abbrev bE :TypeId:=5
theorem yi2 :(Tryz.prog.info? bT).map (fun i=>i.size)=some 2:=by kernel_rfl
theorem yi3 :liesAt Tryz.prog (Tryz.prog).depth bT (2/(Tryz.prog).cellsOf bT) 0 bT 1=true:=by kernel_rfl
theorem yeV :(Tryz.prog.info? bE).map (fun i=>(i.zero,i.size,i.bytes))=some (some (.int .u8 0),1,1):=by kernel_rfl
theorem ky_tp :(Tryz.prog).underlying 242=some (.pointer bT):=by kernel_rfl
theorem ky_un :(Tryz.prog).underlying 317=some .unsafePointer:=by kernel_rfl
/-- Behind copyCheck the builder knows its address. -/
theorem ye7(B b:Nat)(bs:List Value)(w:World)(h:Lib.IsBuilder bT bE B b bs w):
  Calls Tryz.prog 211 #[.pointer (some ⟨b,0,none⟩)] w fun e w'=>e= .returned (.tuple #[])∧Lib.BuilderAt bT bE B b (.pointer (some ⟨b,0,none⟩)) bs w'∧Below B w w':=by
 obtain⟨j,hj,hjs⟩:=Option.map_eq_some_iff.1 yi2;rcases h with h|h
 ·have h0:=h.cell0;have hsh:=h.shape;have hfz:=h.frozen0
  suffices hh:Calls Tryz.prog 211 #[.pointer (some ⟨b,0,none⟩)] w fun e w'=>e= .returned (.tuple #[])∧w'=w.setCell ⟨b,0,none⟩ (.pointer (some ⟨b,0,none⟩)) by
   refine hh.mono ?_;rintro e w' ⟨rfl,rfl⟩;exact⟨rfl,h.used _,(Below.refl B w).setCell (p:=⟨b,0,none⟩) h.1 _⟩
  go_enter Tryz.func211,Tryz.ntmps211
  go_wp2
  rw [Lib.run_to_unsafe w ⟨b,0,none⟩ ky_tp ky_un hj (by rw [hjs];decide) hsh (Nat.zero_lt_succ 1)];simp only [Result.andThen];rw [Oper.upon_value]
  go_wp2
  rw [run_callFunc_extern Tryz.func238 (by kernel_rfl) (by kernel_rfl) (by kernel_rfl) (e:=Extern.AbiNoEscape.same) (by kernel_rfl)];rw [Lib.run_noEscape];simp only [Result.andThen];rw [Oper.upon_value]
  go_wp2
  rw [Lib.run_from_unsafe w ⟨b,0,none⟩ ky_un ky_tp hj hsh yi3];simp only [Result.andThen];rw [Oper.upon_value]
  go_wp2
  go_end0
  exact⟨rfl,rfl⟩
 ·have h0:=h.cell0
  suffices hh:Calls Tryz.prog 211 #[.pointer (some ⟨b,0,none⟩)] w fun e w'=>e= .returned (.tuple #[])∧w'=w by
   refine hh.mono ?_;rintro e w' ⟨rfl,rfl⟩;exact⟨rfl,h,Below.refl B _⟩
  go_enter Tryz.func211,Tryz.ntmps211
  go_wp2
  rw [Lib.run_neq_ptr_same w _ ky_tp hj]
  go_wp2
  go_end0
  exact⟨rfl,rfl⟩
theorem yh2(B b:Nat)(bs:List Value)(c:Int)(w:World)(h:Lib.IsBuilder bT bE B b bs w)(hlen:bs.length+1≤1000000)(hBw:B≤w.heap.size):
  Calls Tryz.prog 162 #[.pointer (some ⟨b,0,none⟩),.int .u8 c] w fun e w'=>e= .returned .nilIface∧Lib.BuilderAt bT bE B b (.pointer (some ⟨b,0,none⟩)) (bs++[.int .u8 c]) w'∧Below B w w':=by
 obtain⟨i0,hi,hz0,hz1,hz2⟩:=info_parts yeV
 go_enter Tryz.func162,Tryz.ntmps162
 go_wp2_with (go_at_call 211;refine(ye7 B b bs _ h).mono ?_)
 rintro e w1 ⟨rfl,h1,hb1⟩;obtain⟨hB,v,hbk,hown,hne⟩:=h1;have c1:w1.cell? ⟨b,1,none⟩=some v:=by rw [Lib.cell_of_heap hbk];rfl
 have hlt:b<w1.heap.size:=(Array.getElem?_eq_some_iff.1 hbk).1;have hsz:=hb1.size
 go_wp2_with (at_builtin;refine wpList_append_own _ rfl _ _ 243 rfl B bE i0 (.int .u8 0) 1 1 Tryz.underlying243 hi hz0 hz1 hz2 rfl (by decide) _ _ _ rfl (hown.alloc _) ⟨w1.heap.size,0,none⟩ 1 1 [.int .u8 c] rfl rfl ?c1 ?c2 (by unfold maxLen;omega) (by omega) (by simp;omega) ?_)
 case c1=>
  intro j u hj
  match j,hj with
  | 0,hj=>simp at hj;subst hj;simp [Addr.add]
 case c2=>intro u hu;simp at hu;subst hu;rfl
 intro v' w2 hown' hgrow _;have hb2:w2.heap[b]? =some (.cells #[.pointer (some ⟨b,0,none⟩),v] bT (0,0)):=by
  rw [hgrow.block b (by simp;omega) (fun e=>hne e.symm),Lib.alloc_old w1 _ b hlt];exact hbk
 have d1:w2.cell? ⟨b,1,none⟩=some v:=by rw [Lib.cell_of_heap hb2];rfl
 have f1:w2.frozen? ⟨b,1,none⟩=false:=Lib.frozen_of_heap hb2 1;obtain⟨ao,n',cap,rfl⟩:∃ao n' cap,v'= .slice ao n' cap:=by
  rcases hown'.2 with ⟨hv,_⟩|⟨g,cap,cur,hv,_⟩ <;> exact⟨_,_,_,hv⟩
 go_wp2
 go_ret
 refine⟨rfl,Lib.BuilderAt.put (T:=bT) (e:=bE) hB hb2 (bs':=bs++[.int .u8 c]) (by simpa using hown') (by decide),?_⟩;exact((hb1.alloc (by omega) _).grown hgrow (by simp;omega) (fun k hk=>(hown.lt k hk).1)).setCell (p:=⟨b,1,none⟩) hB _
theorem yi4(B b:Nat)(bs:List Value)(t:ByteArray)(w:World)(h:Lib.IsBuilder bT bE B b bs w)(hlen:bs.length+t.size≤1000000)(hBw:B≤w.heap.size):
  Calls Tryz.prog 160 #[.pointer (some ⟨b,0,none⟩),.string t] w fun e w'=>e= .returned (.tuple #[.int .i64 t.size,.nilIface])∧Lib.BuilderAt bT bE B b (.pointer (some ⟨b,0,none⟩)) (bs++Lib.strCells t) w'∧Below B w w':=by
 obtain⟨i0,hi,hz0,hz1,hz2⟩:=info_parts yeV
 go_enter Tryz.func160,Tryz.ntmps160
 go_wp2_with (go_at_call 211;refine(ye7 B b bs _ h).mono ?_)
 rintro e w1 ⟨rfl,h1,hb1⟩;obtain⟨hB,v,hbk,hown,hne⟩:=h1;have c1:w1.cell? ⟨b,1,none⟩=some v:=by rw [Lib.cell_of_heap hbk];rfl
 have hlt:b<w1.heap.size:=(Array.getElem?_eq_some_iff.1 hbk).1;have hsz:=hb1.size
 go_wp2_with (at_builtin;refine Lib.wpList_append_own_string _ rfl _ _ 243 9 rfl B bE i0 Tryz.underlying243 Tryz.underlying9 hi hz0 hz1 hz2 _ _ _ rfl hown t rfl (by unfold maxLen;omega) (by omega) (by omega) ?_)
 intro v' w2 hown' hgrow _;have hb2:w2.heap[b]? =some (.cells #[.pointer (some ⟨b,0,none⟩),v] bT (0,0)):=by
  rw [hgrow.block b hlt (fun e=>hne e.symm)];exact hbk
 have d1:w2.cell? ⟨b,1,none⟩=some v:=by rw [Lib.cell_of_heap hb2];rfl
 have f1:w2.frozen? ⟨b,1,none⟩=false:=Lib.frozen_of_heap hb2 1;obtain⟨ao,n',cap,rfl⟩:∃ao n' cap,v'= .slice ao n' cap:=by
  rcases hown'.2 with ⟨hv,_⟩|⟨g,cap,cur,hv,_⟩ <;> exact⟨_,_,_,hv⟩
 go_wp2
 go_ret2
 refine⟨rfl,Lib.BuilderAt.put (T:=bT) (e:=bE) hB hb2 (bs':=bs++Lib.strCells t) (by simpa [Lib.strCells_length] using hown') (by decide),?_⟩;exact(hb1.grown hgrow (by omega) (fun k hk=>(hown.lt k hk).1)).setCell (p:=⟨b,1,none⟩) hB _
def dig2(u:Nat):List UInt8:=if u<10 then [UInt8.ofNat (48+u)] else [UInt8.ofNat (48+u/10),UInt8.ofNat (48+u % 10)]
theorem yd2{u:Nat}(h:u<100):Lib.decDigits u=dig2 u:=by
 unfold dig2;split
 ·exact Lib.decDigits_one ‹_›
 ·exact Lib.decDigits_two ‹_› h
theorem ye8(u:Nat):(dig2 u).length≤2:=by unfold dig2;split <;> simp
def keyB :List Int→List UInt8
 | []=> []
 | x::xs=>dig2 x.toNat++32::keyB xs
theorem yds :∀(xs:List Int) (x:Int),keyB (xs++[x])=keyB xs++dig2 x.toNat++[32]
 | [],x=>by simp [keyB]
 | y::ys,x=>by rw [List.cons_append,keyB,yds ys x,keyB];simp
theorem ye9 :∀(xs:List Int),(keyB xs).length≤3*xs.length
 | []=>by simp [keyB]
 | x::xs=>by have h1:=ye9 xs;have h2:=ye8 x.toNat;simp only [keyB,List.length_append,List.length_cons];omega
def y5z(p0:List Int):Option ByteArray:=if(p0.all fun x=>decide (0≤x∧x<100))=true∧p0.length≤1000 then some ⟨(keyB p0).toArray⟩ else none
theorem yi5(a:Option Addr)(c:Nat)(xs:List Int)(w:World)(hr:RdS w 1 a xs.length c (ints xs))(hx:∀x∈xs,0≤x∧x<100)(hl:xs.length≤1000):
  Calls Tryz.prog 98 #[.slice a xs.length c] w fun e w'=>e= .returned (.string ⟨(keyB xs).toArray⟩)∧Below w.heap.size w w':=by
 have Hx:=Lib.hid hx;clear hx
 go_enter Tryz.func98,Tryz.ntmps98
 go_wp2
 go_loopw [8] (fun i wr=>∃k:Nat,k≤xs.length∧i= .int .i64 k∧Lib.IsBuilder bT bE w.heap.size w.heap.size (Lib.byteCells (keyB (xs.take k))) wr∧Below w.heap.size w wr) (fun i _=>xs.length-(intOf i).toNat)
 case atStart=>exact⟨0,Nat.zero_le _,rfl,Lib.fresh_isBuilder bT bE w,(Below.refl _ w).alloc (Nat.le_refl _) _⟩
 case round=>
  obtain⟨k,hk,rfl,hI,hbw⟩:=hrel;by_cases hlt:k<xs.length
  ·obtain ⟨b,off,rfl,hc0⟩:=hr.at_int k hlt;have hc:=keep0 hbw hc0;have hsz:=hbw.size;obtain⟨n,hn⟩:∃n:Nat,xs[k]=n:=⟨xs[k].toNat,by have:=Hx.out _ (List.getElem_mem hlt);omega⟩;have hn100:n<100:=by have:=Hx.out _ (List.getElem_mem hlt);omega
   rw [hn] at hc;have hkl:=ye9 (xs.take k);rw [List.length_take,Nat.min_eq_left hk] at hkl;have hd2:=ye8 n
   go_wp2_with (go_at_call 161;refine(Tryz.strconv_Itoa_small n hn100 _).mono ?_)
   rintro e W0 ⟨rfl,rfl⟩
   go_wp2_with (go_at_call 160;refine(yi4 w.heap.size w.heap.size _ _ _ hI (by rw [Lib.byteCells_length,yd2 hn100];simp [ByteArray.size];omega) hsz).mono ?_)
   rintro e W1 ⟨rfl,h1,b1⟩
   go_wp2_with (go_at_call 162;refine(yh2 w.heap.size w.heap.size _ _ _ (.inr h1) (by rw [List.length_append,Lib.byteCells_length,Lib.strCells_length,yd2 hn100];simp [ByteArray.size];omega) (Nat.le_trans hsz b1.size)).mono ?_)
   rintro e W2 ⟨rfl,h2,b2⟩
   go_wp2
   go_roundw
   case rel=>
    refine⟨k+1,by omega,by go_num,.inr ?_,(hbw.trans b1).trans b2⟩;rw [yby xs k hlt,yds,hn,Lib.byteCells_append,Lib.byteCells_append];rw [yd2 hn100] at h2;exact h2
   case measure=>simp [intOf];omega
  ·have hke:k=xs.length:=by omega
   subst hke;rw [List.take_length] at hI
   go_wp2_with (go_at_call 163;refine(Tryz.Builder_String_any w.heap.size w.heap.size _ _ hI hbw.size).mono ?_)
   rintro e W1 ⟨rfl,b1⟩
   go_wp2
   go_ret
   exact⟨rfl,hbw.trans b1⟩
theorem ycE{s:Sig}{p0:List Int}{a1:Option Addr}{c1:Nat}{r:ByteArray}(h1:RdL (rK .i64) s a1 c1 p0)(hm:y5z p0=some r):
  Calls Tryz.prog 98 #[.slice a1 p0.length c1] s.w (RetS No s fun v s'=>v= .string r):=by
 unfold y5z at hm;split at hm
 ·rename_i hc;cases hm;obtain⟨g1,g2⟩:=hc;obtain⟨a,c,he,h2⟩:=h1.rdI;cases he;refine(yi5 _ _ p0 s.w h2 (fun x hx=>by simpa using List.all_eq_true.1 g1 x hx) g2).mono fun en w' hh=>?_;obtain⟨rfl,hb⟩:=hh;exact⟨_,s.nw w',rfl,rfl,Sig.nw_mv hb,rfl⟩
 ·cases hm
end Go.Proofs.YtecmobjeeonmaaaGreatDoor
namespace Go.Proofs
open Go.Shelf
def Tryz.lays189_ren :Go.Shelf.Ren:=⟨fun|189=>206|125=>234|257=>236|128=>254|129=>255|294=>256|295=>257|296=>258|297=>259|298=>260|299=>261|216=>208|300=>262|301=>263|328=>278|329=>274|330=>275|331=>279|332=>280|215=>214|343=>300|n=>n,fun|28=>32|3=>3|46=>295|0=>0|51=>334|53=>336|4=>4|183=>328|182=>327|131=>170|5=>5|9=>9|218=>351|222=>355|228=>378|229=>58|n=>n,fun|n=>n⟩
theorem Tryz.lays189 :Go.Proofs.Lays.n189 Tryz.prog Tryz.lays189_ren:={
 mixed:=by kernel_rfl
 f125:=Tryz.func234.trans (congrArg some (by kernel_rfl))
 f128:=Tryz.func254.trans (congrArg some (by kernel_rfl))
 f129:=Tryz.func255.trans (congrArg some (by kernel_rfl))
 f189:=Tryz.func206.trans (congrArg some (by kernel_rfl))
 f215:=Tryz.func214.trans (congrArg some (by kernel_rfl))
 f216:=Tryz.func208.trans (congrArg some (by kernel_rfl))
 f257:=Tryz.func236.trans (congrArg some (by kernel_rfl))
 f294:=Tryz.func256.trans (congrArg some (by kernel_rfl))
 f295:=Tryz.func257.trans (congrArg some (by kernel_rfl))
 f296:=Tryz.func258.trans (congrArg some (by kernel_rfl))
 f297:=Tryz.func259.trans (congrArg some (by kernel_rfl))
 f298:=Tryz.func260.trans (congrArg some (by kernel_rfl))
 f299:=Tryz.func261.trans (congrArg some (by kernel_rfl))
 f300:=Tryz.func262.trans (congrArg some (by kernel_rfl))
 f301:=Tryz.func263.trans (congrArg some (by kernel_rfl))
 f328:=Tryz.func278.trans (congrArg some (by kernel_rfl))
 f329:=Tryz.func274.trans (congrArg some (by kernel_rfl))
 f330:=Tryz.func275.trans (congrArg some (by kernel_rfl))
 f331:=Tryz.func279.trans (congrArg some (by kernel_rfl))
 f332:=Tryz.func280.trans (congrArg some (by kernel_rfl))
 f343:=Tryz.func300.trans (congrArg some (by kernel_rfl))
 t0:=Tryz.underlying0
 a0:=Tryz.isAgg0
 z0:=Tryz.sizeOf0
 v0:=Tryz.zeroValue0
 t3:=Tryz.underlying3
 a3:=Tryz.isAgg3
 z3:=Tryz.sizeOf3
 v3:=Tryz.zeroValue3
 t4:=Tryz.underlying4
 a4:=Tryz.isAgg4
 z4:=Tryz.sizeOf4
 v4:=Tryz.zeroValue4
 t5:=Tryz.underlying5
 a5:=Tryz.isAgg5
 z5:=Tryz.sizeOf5
 v5:=Tryz.zeroValue5
 t9:=Tryz.underlying9
 a9:=Tryz.isAgg9
 z9:=Tryz.sizeOf9
 v9:=Tryz.zeroValue9
 t28:=Tryz.underlying32
 a28:=Tryz.isAgg32
 z28:=Tryz.sizeOf32
 v28:=Tryz.zeroValue32
 t46:=Tryz.underlying295
 a46:=Tryz.isAgg295
 z46:=Tryz.sizeOf295
 v46:=Tryz.zeroValue295
 t51:=Tryz.underlying334
 a51:=Tryz.isAgg334
 z51:=Tryz.sizeOf334
 v51:=Tryz.zeroValue334
 t53:=Tryz.underlying336
 a53:=Tryz.isAgg336
 z53:=Tryz.sizeOf336
 v53:=Tryz.zeroValue336
 t131:=Tryz.underlying170
 a131:=Tryz.isAgg170
 z131:=Tryz.sizeOf170
 v131:=Tryz.zeroValue170
 t182:=Tryz.underlying327
 a182:=Tryz.isAgg327
 z182:=Tryz.sizeOf327
 v182:=Tryz.zeroValue327
 t183:=Tryz.underlying328
 a183:=Tryz.isAgg328
 z183:=Tryz.sizeOf328
 v183:=Tryz.zeroValue328
 t218:=Tryz.underlying351
 a218:=Tryz.isAgg351
 z218:=Tryz.sizeOf351
 v218:=Tryz.zeroValue351
 t222:=Tryz.underlying355
 a222:=Tryz.isAgg355
 z222:=Tryz.sizeOf355
 v222:=Tryz.zeroValue355
 t228:=Tryz.underlying378
 a228:=Tryz.isAgg378
 z228:=Tryz.sizeOf378
 v228:=Tryz.zeroValue378
 t229:=Tryz.underlying58
 a229:=Tryz.isAgg58
 z229:=Tryz.sizeOf58
 v229:=Tryz.zeroValue58 }
open Go.RowKit Go.Sort Go.Lib in
theorem Tryz.slices_Sort_int(blk off cap:Nat)(zs:List Int)(w:World)(hH:Holds (Value.int .i64) w blk off zs.toArray)(hblk:blk<w.heap.size)(hsz:zs.length<4611686018427387904):
  Calls Tryz.prog 206 #[.slice (some ⟨blk,off,none⟩) zs.length cap] w fun e w'=>e= .returned (.tuple #[])∧∃n os,w'=grow (putRow (Value.int .i64) (Sort.ahead w n) blk off (zs.mergeSort fun x y=>decide (x≤y)).toArray) os:=Any.slices_Sort_int Tryz.lays189 blk off cap zs w hH hblk hsz
open Go.RowKit Go.Sort Go.Lib in
theorem Tryz.slices_Sort_int_none(p:Option Addr)(cap:Nat)(w:World):
  Calls Tryz.prog 206 #[.slice p 0 cap] w fun e w'=>e= .returned (.tuple #[])∧w'=w:=Any.slices_Sort_int_none Tryz.lays189 p cap w
end Go.Proofs
namespace Go.Proofs.YtecmobjeeonmaaaGreatDoor
open Go Go.RowKit Go.Sort
section
variable{α β:Type}{r:Rep α}{s:Sig}{t:Nat}{T:TypeId}{a:Option Addr}{cap:Nat}{xs ys:List α}
theorem yfZ{enc:β→Value}[Inhabited β]{w:World}{b off n:Nat}{d:Array β}{os:Array Obj}{cur:Array Value}{fr:Nat×Nat}(h:w.heap[b]? =some (.cells cur T fr)):(grow (putRow enc (Sort.ahead w n) b off d) os).heap[b]? =some (.cells (putCells enc off d cur) T fr):=by
 have hb:b<w.heap.size:=(Array.getElem?_eq_some_iff.1 h).1;show((w.heap.modify b (onCells (putCells enc off d)))++os)[b]? =_;rw [Array.getElem?_append_left (by simpa using hb),Array.getElem?_modify,if_pos rfl,h];rfl
theorem ydt{enc:β→Value}[Inhabited β]{w:World}{b b' off n:Nat}{d:Array β}{os:Array Obj}(hb:b'<w.heap.size)(hne:b'≠b):(grow (putRow enc (Sort.ahead w n) b off d) os).heap[b']? =w.heap[b']? :=by
 show((w.heap.modify b (onCells (putCells enc off d)))++os)[b']? =_;rw [Array.getElem?_append_left (by simpa using hb),Array.getElem?_modify,if_neg (Ne.symm hne)]
theorem RowAt.put{b off:Nat}{cur:Array Value}{vs:List Value}(h:RowAt r s t T b off cap cur vs xs)(h1:r.sz=1)(ht:0<t){enc:β→Value}[Inhabited β]{d:Array β}(hd:d.size=xs.length)(hy:ys.length=xs.length)(hr:∀j,j<d.size→∀h2:j<ys.length,r.rd s [enc d[j]!] ys[j]){w':World}(hw:∃n os,w'=grow (putRow enc (Sort.ahead s.w n) b off d) os):
  ∃s',w'=s'.w∧Mv (One t) s s'∧RowT r s' t T (some ⟨b,off,none⟩) cap ys:=by
 obtain⟨n,os,rfl⟩:=hw;have hb:b<s.w.heap.size:=(Array.getElem?_eq_some_iff.1 h.heap).1;refine⟨⟨_,fun b=>if b<s.w.heap.size then s.tag b else 0⟩,rfl,⟨rfl,rfl,rfl,?_,fun b' hb' hn=>⟨ydt hb' fun e=>hn (by rw [e];exact h.tag),if_pos hb'⟩⟩,?_⟩
 ·show _≤((s.w.heap.modify b _)++os).size;simp
 ·have hm:Mv (One t) s ⟨grow (putRow enc (Sort.ahead s.w n) b off d) os,fun b=>if b<s.w.heap.size then s.tag b else 0⟩:=⟨rfl,rfl,rfl,(by show _≤((s.w.heap.modify b _)++os).size;simp),fun b' hb' hn=>⟨ydt hb' fun e=>hn (by rw [e];exact h.tag),if_pos hb'⟩⟩;have hle:=hm.le (by show ¬0=t;omega);have hcap:=h.cap;have hcs:((putCells enc off d cur).toList.drop off).take (ys.length*1)=(d.toList.map enc):=by
   rw [Nat.mul_one];apply List.ext_getElem?;intro j;rw [List.getElem?_take,List.getElem?_drop,List.getElem?_map];by_cases hj:j<ys.length
   ·rw [if_pos hj,Array.getElem?_toList,putCells,Array.getElem?_mapIdx,Array.getElem?_eq_getElem (by omega),Option.map_some,if_pos ⟨by omega,by omega⟩,Nat.add_sub_cancel_left,Array.getElem?_toList,Array.getElem?_eq_getElem (by omega),Option.map_some,getElem!_pos _ _ (by omega)]
   ·rw [if_neg hj,Array.getElem?_toList,Array.getElem?_eq_none (by omega)];rfl
  refine⟨d.toList.map enc,⟨by rw [h1,Nat.mul_one,List.length_map,Array.length_toList];omega,.inr ⟨b,off,cap,putCells enc off d cur,rfl,⟨yfZ h.heap,?_,Nat.zero_le _⟩,by omega,hcap.2.1,?_,by rw [h1];exact hcs⟩⟩,Cells.of h1 (by simp;omega) fun j hj hj2=>?_⟩
  ·show (if b<s.w.heap.size then s.tag b else 0)=t;rw [if_pos hb];exact h.tag
  ·rw [h1,Nat.mul_one,putCells,Array.size_mapIdx];exact hcap.2.2
  ·have hjd:j<d.size:=by simpa using hj
   have:=hr j hjd hj2;rw [getElem!_pos d j hjd] at this;rw [List.getElem_map,Array.getElem_toList];exact r.mono hle this
theorem RowAt.holds{b off:Nat}{cur:Array Value}{vs:List Value}(h:RowAt r s t T b off cap cur vs xs){enc:β→Value}[Inhabited β]{d:Array β}(hd:d.size=vs.length)(he:∀j (h:j<vs.length),enc d[j]! =vs[j]):Holds enc s.w b off d:=fun j hj=>by
 have hc:=h.cell j (by omega);refine⟨?_,?_⟩
 ·unfold World.cell?;rw [h.heap];show cur[off+j]? =_;rw [hc,he j (by omega)]
 ·unfold World.frozen?;rw [h.heap];show(decide (0≤off+j)&&decide (off+j<0))=false;simp
end
def isI(x:Int):List Int→List Int
 | []=> [x]
 | y::l=>if x≤y then x::y::l else y::isI x l
def isL :List Int→List Int
 | []=> []
 | x::l=>isI x (isL l)
theorem yck(x:Int):∀l:List Int,(isI x l).Perm (x::l)
 | []=> .refl _
 | y::l=>by
  unfold isI;split
  ·exact .refl _
  ·exact ((yck x l).cons y).trans (.swap x y l)
theorem y9S :∀l:List Int,(isL l).Perm l
 | []=> .refl _
 | x::l=>(yck x _).trans ((y9S l).cons x)
theorem yg0(x:Int):∀{l:List Int},l.Pairwise (· ≤ ·)→(isI x l).Pairwise (· ≤ ·)
 | [],_=>by simp [isI]
 | y::l,h=>by
  obtain⟨h1,h2⟩:=List.pairwise_cons.1 h;unfold isI;split
  ·rename_i hxy;refine List.pairwise_cons.2 ⟨fun z hz=>?_,h⟩;rcases List.mem_cons.1 hz with rfl|hz
   ·exact hxy
   ·exact Int.le_trans hxy (h1 z hz)
  ·rename_i hxy;refine List.pairwise_cons.2 ⟨fun z hz=>?_,yg0 x h2⟩;rcases List.mem_cons.1 ((yck x l).mem_iff.1 hz) with rfl|hz
   ·omega
   ·exact h1 z hz
theorem yea :∀l:List Int,(isL l).Pairwise (· ≤ ·)
 | []=> .nil
 | x::l=>yg0 x (yea l)
theorem yiC(l:List Int):isL l=l.mergeSort fun x y=>decide (x≤y):=by
 refine List.Perm.eq_of_pairwise (le:=(· ≤ ·)) (fun a b _ _ h1 h2=>Int.le_antisymm h1 h2) (yea l) ?_ ((y9S l).trans (List.mergeSort_perm l _).symm);exact(List.pairwise_mergeSort (le:=fun x y:Int=>decide (x≤y)) (fun a b c h1 h2=>by simp at *;omega) (fun a b=>by simp;omega) l).imp fun h=>by simpa using h
def y5x(p0:List Int):Option (List Int):=if p0.length≤4294967296 then some (isL p0) else none
theorem ybg{s:Sig}{p0:List Int}{t0:Nat}{a1:Option Addr}{c1:Nat}{r:List Int}(zt0:0<t0)(h1:RowT (rK .i64) s t0 3 a1 c1 p0)(hm:y5x p0=some r):
  Calls Tryz.prog 206 #[.slice a1 p0.length c1] s.w (RetS (One t0) s fun v s'=>v= .tuple #[]∧RowT (rK .i64) s' t0 3 a1 c1 r):=by
 obtain⟨hl,rfl⟩:p0.length≤4294967296∧p0.mergeSort (fun x y=>decide (x≤y))=r:=by
  unfold y5x at hm;rw [yiC] at hm;split at hm
  ·exact ⟨by assumption,Option.some.inj hm⟩
  ·cases hm
 rcases h1.seen rfl with ⟨rfl,rfl,rfl⟩|⟨b,off,cur,vs,rfl,h⟩
 ·refine (Tryz.slices_Sort_int_none none 0 s.w).mono ?_;rintro e w' ⟨rfl,rfl⟩;exact⟨_,s,rfl,rfl,Mv.refl _ _,rfl,by simpa using RowT.nil⟩
 ·have hv:∀j (h2:j<vs.length) (h3:j<p0.length),vs[j]= .int .i64 p0[j]:=fun j h2 h3=>by
   have:=h.rd j h2 h3;exact List.head_eq_of_cons_eq this
  have hlen:=h.len;have hb:b<s.w.heap.size:=(Array.getElem?_eq_some_iff.1 h.heap).1;refine(Tryz.slices_Sort_int b off c1 p0 s.w (h.holds (by simp [hlen]) fun j hj=>?_) hb (by omega)).mono ?_
  ·rw [hv j hj (by omega),getElem!_pos _ _ (by simp;omega)];simp
  ·rintro e w' ⟨rfl,hw⟩;obtain⟨s',hw',hm,hr⟩:=h.put rfl zt0 (ys:=p0.mergeSort fun x y=>decide (x≤y)) (by simp) (by simp) (fun j hj h2=>by
    have e:=getElem!_pos (p0.mergeSort fun x y=>decide (x≤y)).toArray j hj;rw [e];show [_]= [_];simp) hw
   exact⟨_,s',hw',rfl,hm,rfl,hr⟩
end Go.Proofs.YtecmobjeeonmaaaGreatDoor
namespace Go.Proofs.YtecmobjeeonmaaaGreatDoor
open Go.RowKit Go.Shelf
def mark(D:Nat):Deferred:={ target:= .collected D,args:= #[] }
def Marks(B:Nat)(w:World)(ds:List Deferred):Prop:=∃Ds:List Nat,ds=Ds.map mark∧Ds.Nodup∧∀D∈Ds,B≤D∧w.heap[D]? =some (.deferred (some []))
structure Quiet (B:Nat) (w w':World):Prop where
 below:Below B w w'
 cells:∀(b:Nat) (cs:Array Value) (t:TypeId) (fr:Nat×Nat),w.heap[b]? =some (Obj.cells cs t fr)→w'.heap[b]? =some (Obj.cells cs t fr)
theorem Quiet.trans{B:Nat}{a b c:World}(h:Quiet B a b)(k:Quiet B b c):Quiet B a c:=⟨h.below.trans k.below,fun b cs t fr hb=>k.cells b cs t fr (h.cells b cs t fr hb)⟩
theorem Marks.turn{B B':Nat}{w w':World}{tag tag':Nat→Nat}{k:Nat}{ds:List Deferred}(h:Marks B w ds)(ht:Turn B' tag tag' k w w'):Marks B w' ds:=by
 obtain⟨Ds,h1,h2,h3⟩:=h;exact⟨Ds,h1,h2,fun D hD=>⟨(h3 D hD).1,ht.keep _ _ (h3 D hD).2 rfl⟩⟩
theorem Marks.below{B:Nat}{w w':World}{ds:List Deferred}(h:Marks B w ds)(hb:Below w.heap.size w w'):Marks B w' ds:=
 h.turn (Turn.below (B:=0) (tag:=fun _=>0) (k:=0) hb)
end Go.Proofs.YtecmobjeeonmaaaGreatDoor
namespace Go.Proofs.YtecmobjeeonmaaaGreatDoor
open Go Go.RowKit
def Yd(P:Program)(l N:Nat)(enc:Nat→List Value)(J:Nat→Sig→Prop):Prop:=
 ∀k,k<N→∀s,J k s→YieldAt Fence.wide 2 P l (enc k).toArray s.w fun e W'=>e= .returned (.bool true)∧∃s',W'=s'.w∧Le s s'∧J (k+1) s'
def FI(P:Program)(s:Sig)(v:Value)(N:Nat)(enc:Nat→List Value):Prop:=
 ∃gf lb,v= .func (.func gf) #[] lb∧Cf P gf∧∀(l:Nat) (J:Nat→Sig→Prop) (s1:Sig),Le s s1→(∀k a b,J k a→Mv No a b→J k b)→Yd P l N enc J→J 0 s1→
  Calls P gf (#[.func (.yield l) #[] #[]]++lb) s1.w fun e W'=>(∃v,e= .returned v)∧∃s2,W'=s2.w∧J N s2
theorem FI.mono{P:Program}{s s':Sig}{v:Value}{N:Nat}{enc:Nat→List Value}(h:FI P s v N enc)(m:Le s s'):FI P s' v N enc:=by
 obtain⟨gf,lb,e,hc,h⟩:=h;exact⟨gf,lb,e,hc,fun l J s1 h1 h2 h3 h4=>h l J s1 (m.trans h1) h2 h3 h4⟩
def Lf(s0 s:Sig):Prop:=Le s0 s
theorem Lf.mono{s0 s s':Sig}(h:Lf s0 s)(m:Le s s'):Lf s0 s':=Le.trans h m
theorem bs32 :Bs Tryz.prog 32 3 1 [.int .i64 0]:=Bs.mk' Tryz.underlying32 (by kernel_rfl) (by kernel_rfl) rfl
theorem el3 :El Tryz.prog 3 1 8:=El.mk' (z:= .int .i64 0) (by kernel_rfl) (by kernel_rfl) (by kernel_rfl) rfl
theorem nag32 :NAg Tryz.prog 32:=NAg.mk' Tryz.underlying32 rfl (by kernel_rfl)
theorem cf206 :Cf Tryz.prog 206:=Cf.mk Tryz.func206 (by kernel_rfl) (by kernel_rfl)
theorem y8m{p0:List Int}{r:ByteArray}(hm:y5z p0=some r):Fw Tryz.prog 98 ⟨0,[]⟩ [.f qI p0] [] (.o (lV (.string r))) []:=
 ⟨fun ts β s vs _ _ _ _ ⟨v,us,⟨a,c,e,h⟩,hu,e2⟩ _=>by
  have hu:us= []:=hu;subst hu;subst e;subst e2;exact Calls.mono (ycE h hm) fun en w' ⟨v,s',e1,e2,m,hv⟩=>⟨v,s',e1,e2,m.no,β,fun _ _=>rfl,⟨hv,rfl⟩,fun i o ho=>by simp at ho⟩⟩
end Go.Proofs.YtecmobjeeonmaaaGreatDoor
set_option maxRecDepth 100000
set_option maxHeartbeats 8000000
namespace Go.Proofs.YtecmobjeeonmaaaGreatDoor
open Go Go.RowKit
noncomputable section
variable{p0:List Int}{p1:Int}
abbrev Arr55 :=(Int×Int×Int×Int×Int)×(Int×Int×Int×Int×Int)×(Int×Int×Int×Int×Int)×(Int×Int×Int×Int×Int)×(Int×Int×Int×Int×Int)
abbrev y1I :=Int×Int×Arr55
abbrev EdgL :=List (Int×Int×Int)
abbrev KeyT :=(Int×Int)×Int
abbrev CodT :=(Int×Int×Int×List Bool×(List (Int×Int)))×List Int×List Int×Int
abbrev PbT :=AutT×AutT×List Int
abbrev BenT :=PbT×CodT×Int×(List Bool×List Bool)
abbrev TskT :=(AutT×(List KeyT))×(AutT×(List KeyT))×(AutT×(List KeyT))×List (List Int)×List Int×List Int
abbrev StpT :=List Int×List Int×List Int×Int×Bool×Int×Bool
abbrev CycT :=List Int×List Int×Int
theorem ag35 :Ag Tryz.prog 35 4:=Ag.mk' Tryz.underlying35 rfl (by kernel_rfl)
theorem ag37 :Ag Tryz.prog 37 9:=Ag.mk' Tryz.underlying37 rfl (by kernel_rfl)
theorem bs33 :Bs Tryz.prog 33 124 3 [.int .i64 0,.int .i64 0,.int .i64 0]:=Bs.mk' Tryz.underlying33 (by kernel_rfl) (by kernel_rfl) rfl
theorem pl124 :Pl Tryz.prog 124 [(0,1),(1,1),(2,1)] [.int .i64 0,.int .i64 0,.int .i64 0]:=Pl.str Tryz.underlying124 (by kernel_rfl) (by kernel_rfl)
theorem pl35 :Pl Tryz.prog 35 [(0,1),(1,1),(2,1),(3,1)] [.slice none 0 0,.int .i64 0,.slice none 0 0,.slice none 0 0]:=Pl.str Tryz.underlying35 (by kernel_rfl) (by kernel_rfl)
theorem pl37 :Pl Tryz.prog 37 [(0,4),(4,4),(8,1)] [.slice none 0 0,.int .i64 0,.slice none 0 0,.slice none 0 0,.slice none 0 0,.int .i64 0,.slice none 0 0,.slice none 0 0,.slice none 0 0]:=Pl.str Tryz.underlying37 (by kernel_rfl) (by kernel_rfl)
theorem zz35 :(Tryz.prog.info? 35).bind (·.zero)=some (.agg #[.slice none 0 0,.int .i64 0,.slice none 0 0,.slice none 0 0]):=by kernel_rfl
theorem zz37 :(Tryz.prog.info? 37).bind (·.zero)=some (.agg #[.slice none 0 0,.int .i64 0,.slice none 0 0,.slice none 0 0,.slice none 0 0,.int .i64 0,.slice none 0 0,.slice none 0 0,.slice none 0 0]):=by kernel_rfl
abbrev rE35 :Rep AutT:=(rP (rL qI) (rP qI (rP (rL qI) (rL qT))))
abbrev rE37 :Rep PbT:=(rP rE35 (rP rE35 (rL qI)))
abbrev lx37(y:PbT):List LV:=[lF qI y.1.1,lI y.1.2.1,lF qI y.1.2.2.1,lF qT y.1.2.2.2,lF qI y.2.1.1,lI y.2.1.2.1,lF qI y.2.1.2.2.1,lF qT y.2.1.2.2.2,lF qI y.2.2]
theorem nag3 :NAg Tryz.prog 3:=NAg.mk' Tryz.underlying3 rfl (by kernel_rfl)
theorem sl32 :Sl Tryz.prog 32 3 1:=Sl.mk' Tryz.underlying32 (by kernel_rfl)
theorem lv3{y:Int}:Lv qI y [lI y]:= .k
theorem cf169 :Cf Tryz.prog 169:=cM Tryz.func169 (by kernel_rfl)
theorem ag124 :Ag Tryz.prog 124 3:=Ag.mk' Tryz.underlying124 rfl (by kernel_rfl)
theorem cf104 :Cf Tryz.prog 104:=cM Tryz.func104 (by kernel_rfl)
theorem y3r :FA Tryz.prog 124 0 0:=fAm 0 0 1 Tryz.underlying124 R (by kernel_rfl)
theorem y4X :FA Tryz.prog 124 1 1:=fAm 1 1 1 Tryz.underlying124 R (by kernel_rfl)
theorem y4Y :FA Tryz.prog 124 2 2:=fAm 2 2 1 Tryz.underlying124 R (by kernel_rfl)
theorem yT :FA Tryz.prog 35 0 0:=fAm 0 0 1 Tryz.underlying35 R (by kernel_rfl)
theorem y2S :FA Tryz.prog 35 1 1:=fAm 1 1 1 Tryz.underlying35 R (by kernel_rfl)
theorem y1J :FA Tryz.prog 35 3 3:=fAm 3 3 1 Tryz.underlying35 R (by kernel_rfl)
theorem nag33 :NAg Tryz.prog 33:=NAg.mk' Tryz.underlying33 rfl (by kernel_rfl)
theorem sl33 :Sl Tryz.prog 33 124 3:=Sl.mk' Tryz.underlying33 (by kernel_rfl)
theorem zz124 :(Tryz.prog.info? 124).bind (·.zero)=some (.agg #[.int .i64 0,.int .i64 0,.int .i64 0]):=by kernel_rfl
theorem lv124{y:Int×Int×Int}:Lv qT y [lI y.1,lI y.2.1,lI y.2.2]:=(.p .k (.p .k .k))
abbrev lx35(y:AutT):List LV:=[lF qI y.1,lI y.2.1,lF qI y.2.2.1,lF qT y.2.2.2]
theorem cf164 :Cf Tryz.prog 164:=cM Tryz.func164 (by kernel_rfl)
theorem cf165 :Cf Tryz.prog 165:=cM Tryz.func165 (by kernel_rfl)
theorem y6N :FA Tryz.prog 35 2 2:=fAm 2 2 1 Tryz.underlying35 R (by kernel_rfl)
theorem cf75 :Cf Tryz.prog 75:=cM Tryz.func75 (by kernel_rfl)
theorem cf76 :Cf Tryz.prog 76:=cM Tryz.func76 (by kernel_rfl)
theorem cf17 :Cf Tryz.prog 17:=cM Tryz.func17 (by kernel_rfl)
theorem cf101 :Cf Tryz.prog 101:=cM Tryz.func101 (by kernel_rfl)
theorem sl66 :Sl Tryz.prog 66 35 4:=Sl.mk' Tryz.underlying66 (by kernel_rfl)
theorem lv35{y:AutT}:Lv rE35 y [lF qI y.1,lI y.2.1,lF qI y.2.2.1,lF qT y.2.2.2]:=(.p .l (.p .k (.p .l .l)))
theorem cf237 :Cf Tryz.prog 237:=cM Tryz.func237 (by kernel_rfl)
theorem cf210 :Cf Tryz.prog 210:=cM Tryz.func210 (by kernel_rfl)
theorem flr3 :FlatR (rK .i64):=fun _ _ _ _ h=>h
theorem ag162 :Ag Tryz.prog 162 3:=Ag.mk' Tryz.underlying162 rfl (by kernel_rfl)
theorem bs160 :Bs Tryz.prog 160 139 1 [.map none]:=Bs.mk' Tryz.underlying160 (by kernel_rfl) (by kernel_rfl) rfl
theorem cf159 :Cf Tryz.prog 159:=cM Tryz.func159 (by kernel_rfl)
theorem el139 :El Tryz.prog 139 1 8:=El.mk' (z:= .map none) (by kernel_rfl) (by kernel_rfl) (by kernel_rfl) rfl
theorem yd3 :FA Tryz.prog 162 2 2:=fAm 2 2 1 Tryz.underlying162 R (by kernel_rfl)
theorem md139 :Md Tryz.prog 139 241 3 kvP (rK .i64) 0 (.int .i64 0):=Md.mk' Tryz.underlying139 (KE.pair' Tryz.underlying241 (by kernel_rfl) Tryz.underlying3 (by kernel_rfl) (NAg.mk' Tryz.underlying3 rfl (by kernel_rfl)).agg) (by kernel_rfl) (fun _=>rfl)
theorem yeb :NAg Tryz.prog 160:=NAg.mk' Tryz.underlying160 rfl (by kernel_rfl)
theorem pl162 :Pl Tryz.prog 162 [(0,1),(1,1),(2,1)] [.slice none 0 0,.slice none 0 0,.slice none 0 0]:=Pl.str Tryz.underlying162 (by kernel_rfl) (by kernel_rfl)
theorem pl241 :Pl Tryz.prog 241 (plK 1 2 0) [.int .i64 0,.int .i64 0]:=Pl.arr Tryz.underlying241 (by kernel_rfl) (by kernel_rfl)
theorem zz162 :(Tryz.prog.info? 162).bind (·.zero)=some (.agg #[.slice none 0 0,.slice none 0 0,.slice none 0 0]):=by kernel_rfl
theorem ybK :FA Tryz.prog 162 0 0:=fAm 0 0 1 Tryz.underlying162 R (by kernel_rfl)
theorem nag66 :NAg Tryz.prog 66:=NAg.mk' Tryz.underlying66 rfl (by kernel_rfl)
theorem zr3 :Zr Tryz.prog (rK .i64) 3 8 (0:Int):=Zr.mk' (v:= .int .i64 0) (by kernel_rfl) (by kernel_rfl) (by kernel_rfl) (fun _=>rfl)
theorem cf214 :Cf Tryz.prog 214:=cM Tryz.func214 (by kernel_rfl)
theorem cf208 :Cf Tryz.prog 208:=cM Tryz.func208 (by kernel_rfl)
theorem cf209 :Cf Tryz.prog 209:=cM Tryz.func209 (by kernel_rfl)
theorem cf158 :Cf Tryz.prog 158:=cM Tryz.func158 (by kernel_rfl)
theorem cf94 :Cf Tryz.prog 94:=cM Tryz.func94 (by kernel_rfl)
theorem cf103 :Cf Tryz.prog 103:=cM Tryz.func103 (by kernel_rfl)
theorem yg1 :NAg Tryz.prog 139:=NAg.mk' Tryz.underlying139 rfl (by kernel_rfl)
theorem sl160 :Sl Tryz.prog 160 139 1:=Sl.mk' Tryz.underlying160 (by kernel_rfl)
theorem lv139{y:List KeyT}:Lv (rM kvP qI) y [lM kvP qI y]:= .m
theorem bs53 :Bs Tryz.prog 53 32 1 [.slice none 0 0]:=Bs.mk' Tryz.underlying53 (by kernel_rfl) (by kernel_rfl) rfl
theorem cf100 :Cf Tryz.prog 100:=cM Tryz.func100 (by kernel_rfl)
theorem cf95 :Cf Tryz.prog 95:=cM Tryz.func95 (by kernel_rfl)
theorem cf96 :Cf Tryz.prog 96:=cM Tryz.func96 (by kernel_rfl)
theorem cf97 :Cf Tryz.prog 97:=cM Tryz.func97 (by kernel_rfl)
theorem cf98 :Cf Tryz.prog 98:=cM Tryz.func98 (by kernel_rfl)
theorem cf99 :Cf Tryz.prog 99:=cM Tryz.func99 (by kernel_rfl)
theorem el124 :El Tryz.prog 124 3 24:=El.mk' (z:= .agg #[.int .i64 0,.int .i64 0,.int .i64 0]) (by kernel_rfl) (by kernel_rfl) (by kernel_rfl) rfl
theorem el32 :El Tryz.prog 32 1 24:=El.mk' (z:= .slice none 0 0) (by kernel_rfl) (by kernel_rfl) (by kernel_rfl) rfl
theorem yeW :FA Tryz.prog 162 1 1:=fAm 1 1 1 Tryz.underlying162 R (by kernel_rfl)
theorem md167 :Md Tryz.prog 167 9 3 kvS (rK .i64) 0 (.int .i64 0):=Md.mk' Tryz.underlying167 (KE.string Tryz.underlying9) (by kernel_rfl) (fun _=>rfl)
theorem sl53 :Sl Tryz.prog 53 32 1:=Sl.mk' Tryz.underlying53 (by kernel_rfl)
theorem lv32{y:List Int}:Lv (rL qI) y [lF qI y]:= .l
theorem cf196 :Cf Tryz.prog 196:=cM Tryz.func196 (by kernel_rfl)
theorem ag141 :Ag Tryz.prog 141 5:=Ag.mk' Tryz.underlying141 rfl (by kernel_rfl)
theorem yi6 :FA Tryz.prog 141 1 4:=fAm 1 4 1 Tryz.underlying141 R (by kernel_rfl)
theorem pl141 :Pl Tryz.prog 141 [(0,4),(4,1)] [.slice none 0 0,.int .i64 0,.slice none 0 0,.slice none 0 0,.map none]:=Pl.str Tryz.underlying141 (by kernel_rfl) (by kernel_rfl)
theorem zz141 :(Tryz.prog.info? 141).bind (·.zero)=some (.agg #[.slice none 0 0,.int .i64 0,.slice none 0 0,.slice none 0 0,.map none]):=by kernel_rfl
abbrev rE141 :Rep (AutT×(List KeyT)):=(rP rE35 (rM kvP qI))
abbrev lx141(y:AutT×(List KeyT)):List LV:=[lF qI y.1.1,lI y.1.2.1,lF qI y.1.2.2.1,lF qT y.1.2.2.2,lM kvP qI y.2]
theorem bs66 :Bs Tryz.prog 66 35 4 [.slice none 0 0,.int .i64 0,.slice none 0 0,.slice none 0 0]:=Bs.mk' Tryz.underlying66 (by kernel_rfl) (by kernel_rfl) rfl
theorem cf145 :Cf Tryz.prog 145:=cM Tryz.func145 (by kernel_rfl)
theorem cf151 :Cf Tryz.prog 151:=cM Tryz.func151 (by kernel_rfl)
theorem cf25 :Cf Tryz.prog 25:=cM Tryz.func25 (by kernel_rfl)
theorem cf26 :Cf Tryz.prog 26:=cM Tryz.func26 (by kernel_rfl)
theorem cf32 :Cf Tryz.prog 32:=cM Tryz.func32 (by kernel_rfl)
theorem y3A :FA Tryz.prog 37 0 0:=fAm 0 0 4 Tryz.underlying37 R (by kernel_rfl)
theorem y4B :FA Tryz.prog 37 1 4:=fAm 1 4 4 Tryz.underlying37 R (by kernel_rfl)
theorem y7N :FA Tryz.prog 37 2 8:=fAm 2 8 1 Tryz.underlying37 R (by kernel_rfl)
theorem pl155 :Pl Tryz.prog 155 [(0,5),(5,5),(10,5),(15,1),(16,1),(17,1)] [.slice none 0 0,.int .i64 0,.slice none 0 0,.slice none 0 0,.map none,.slice none 0 0,.int .i64 0,.slice none 0 0,.slice none 0 0,.map none,.slice none 0 0,.int .i64 0,.slice none 0 0,.slice none 0 0,.map none,.slice none 0 0,.slice none 0 0,.slice none 0 0]:=Pl.str Tryz.underlying155 (by kernel_rfl) (by kernel_rfl)
abbrev rE155 :Rep TskT:=(rP rE141 (rP rE141 (rP rE141 (rP (rL (rL qI)) (rP (rL qI) (rL qI))))))
theorem cf140 :Cf Tryz.prog 140:=cM Tryz.func140 (by kernel_rfl)
theorem cf85 :Cf Tryz.prog 85:=cM Tryz.func85 (by kernel_rfl)
theorem cf136 :Cf Tryz.prog 136:=cM Tryz.func136 (by kernel_rfl)
theorem md229 :Md Tryz.prog 229 3 3 kvI (rK .i64) 0 (.int .i64 0):=Md.mk' Tryz.underlying229 (KE.int Tryz.underlying3) (by kernel_rfl) (fun _=>rfl)
theorem nag4 :NAg Tryz.prog 4:=NAg.mk' Tryz.underlying4 rfl (by kernel_rfl)
theorem sl144 :Sl Tryz.prog 144 4 1:=Sl.mk' Tryz.underlying144 (by kernel_rfl)
theorem zr4 :Zr Tryz.prog rB 4 1 false:=Zr.mk' (v:= .bool false) (by kernel_rfl) (by kernel_rfl) (by kernel_rfl) (fun _=>rfl)
theorem lv4{y:Bool}:Lv rB y [lB y]:= .b
theorem cf229 :Cf Tryz.prog 229:=cM Tryz.func229 (by kernel_rfl)
theorem cf55 :Cf Tryz.prog 55:=cM Tryz.func55 (by kernel_rfl)
theorem cf194 :Cf Tryz.prog 194:=cM Tryz.func194 (by kernel_rfl)
theorem cf228 :Cf Tryz.prog 228:=cM Tryz.func228 (by kernel_rfl)
theorem cf230 :Cf Tryz.prog 230:=cM Tryz.func230 (by kernel_rfl)
theorem cf195 :Cf Tryz.prog 195:=cM Tryz.func195 (by kernel_rfl)
theorem yg2 :FA Tryz.prog 26 0 0:=fAm 0 0 1 Tryz.underlying26 R (by kernel_rfl)
theorem yiD :FA Tryz.prog 26 1 1:=fAm 1 1 1 Tryz.underlying26 R (by kernel_rfl)
theorem yiE :FA Tryz.prog 26 2 2:=fAm 2 2 25 Tryz.underlying26 R (by kernel_rfl)
theorem y5C :FlatR (rP (rK .i64) (rP (rK .i64) (rK .i64))):=fun _ _ _ _ h=>h
theorem ia23 :IA Tryz.prog 23 5 1:=IA.mk Tryz.underlying23 (by kernel_rfl)
theorem ia24 :IA Tryz.prog 24 5 5:=IA.mk Tryz.underlying24 (by kernel_rfl)
theorem nag5 :NAg Tryz.prog 5:=NAg.mk' Tryz.underlying5 rfl (by kernel_rfl)
abbrev lx26(y:y1I):List LV:=[lV (.int .u8 y.1),lV (.int .u8 y.2.1),lV (.int .u8 y.2.2.1.1),lV (.int .u8 y.2.2.1.2.1),lV (.int .u8 y.2.2.1.2.2.1),lV (.int .u8 y.2.2.1.2.2.2.1),lV (.int .u8 y.2.2.1.2.2.2.2),lV (.int .u8 y.2.2.2.1.1),lV (.int .u8 y.2.2.2.1.2.1),lV (.int .u8 y.2.2.2.1.2.2.1),lV (.int .u8 y.2.2.2.1.2.2.2.1),lV (.int .u8 y.2.2.2.1.2.2.2.2),lV (.int .u8 y.2.2.2.2.1.1),lV (.int .u8 y.2.2.2.2.1.2.1),lV (.int .u8 y.2.2.2.2.1.2.2.1),lV (.int .u8 y.2.2.2.2.1.2.2.2.1),lV (.int .u8 y.2.2.2.2.1.2.2.2.2),lV (.int .u8 y.2.2.2.2.2.1.1),lV (.int .u8 y.2.2.2.2.2.1.2.1),lV (.int .u8 y.2.2.2.2.2.1.2.2.1),lV (.int .u8 y.2.2.2.2.2.1.2.2.2.1),lV (.int .u8 y.2.2.2.2.2.1.2.2.2.2),lV (.int .u8 y.2.2.2.2.2.2.1),lV (.int .u8 y.2.2.2.2.2.2.2.1),lV (.int .u8 y.2.2.2.2.2.2.2.2.1),lV (.int .u8 y.2.2.2.2.2.2.2.2.2.1),lV (.int .u8 y.2.2.2.2.2.2.2.2.2.2)]
theorem ag26 :Ag Tryz.prog 26 27:=Ag.mk' Tryz.underlying26 rfl (by kernel_rfl)
theorem cf143 :Cf Tryz.prog 143:=cM Tryz.func143 (by kernel_rfl)
theorem cf144 :Cf Tryz.prog 144:=cM Tryz.func144 (by kernel_rfl)
theorem yg3 :FA Tryz.prog 28 0 0:=fAm 0 0 1 Tryz.underlying28 R (by kernel_rfl)
theorem yg4 :FA Tryz.prog 28 1 1:=fAm 1 1 27 Tryz.underlying28 R (by kernel_rfl)
theorem yg5 :FA Tryz.prog 30 0 0:=fAm 0 0 28 Tryz.underlying30 R (by kernel_rfl)
theorem yg6 :FA Tryz.prog 30 1 28:=fAm 1 28 28 Tryz.underlying30 R (by kernel_rfl)
theorem yiF :FA Tryz.prog 30 2 56:=fAm 2 56 1 Tryz.underlying30 R (by kernel_rfl)
theorem nag22 :NAg Tryz.prog 22:=NAg.mk' Tryz.underlying22 rfl (by kernel_rfl)
abbrev lx30(y:(Int×y1I)×(Int×y1I)×Int):List LV:=[lV (.int .u8 y.1.1),lV (.int .u8 y.1.2.1),lV (.int .u8 y.1.2.2.1),lV (.int .u8 y.1.2.2.2.1.1),lV (.int .u8 y.1.2.2.2.1.2.1),lV (.int .u8 y.1.2.2.2.1.2.2.1),lV (.int .u8 y.1.2.2.2.1.2.2.2.1),lV (.int .u8 y.1.2.2.2.1.2.2.2.2),lV (.int .u8 y.1.2.2.2.2.1.1),lV (.int .u8 y.1.2.2.2.2.1.2.1),lV (.int .u8 y.1.2.2.2.2.1.2.2.1),lV (.int .u8 y.1.2.2.2.2.1.2.2.2.1),lV (.int .u8 y.1.2.2.2.2.1.2.2.2.2),lV (.int .u8 y.1.2.2.2.2.2.1.1),lV (.int .u8 y.1.2.2.2.2.2.1.2.1),lV (.int .u8 y.1.2.2.2.2.2.1.2.2.1),lV (.int .u8 y.1.2.2.2.2.2.1.2.2.2.1),lV (.int .u8 y.1.2.2.2.2.2.1.2.2.2.2),lV (.int .u8 y.1.2.2.2.2.2.2.1.1),lV (.int .u8 y.1.2.2.2.2.2.2.1.2.1),lV (.int .u8 y.1.2.2.2.2.2.2.1.2.2.1),lV (.int .u8 y.1.2.2.2.2.2.2.1.2.2.2.1),lV (.int .u8 y.1.2.2.2.2.2.2.1.2.2.2.2),lV (.int .u8 y.1.2.2.2.2.2.2.2.1),lV (.int .u8 y.1.2.2.2.2.2.2.2.2.1),lV (.int .u8 y.1.2.2.2.2.2.2.2.2.2.1),lV (.int .u8 y.1.2.2.2.2.2.2.2.2.2.2.1),lV (.int .u8 y.1.2.2.2.2.2.2.2.2.2.2.2),lV (.int .u8 y.2.1.1),lV (.int .u8 y.2.1.2.1),lV (.int .u8 y.2.1.2.2.1),lV (.int .u8 y.2.1.2.2.2.1.1),lV (.int .u8 y.2.1.2.2.2.1.2.1),lV (.int .u8 y.2.1.2.2.2.1.2.2.1),lV (.int .u8 y.2.1.2.2.2.1.2.2.2.1),lV (.int .u8 y.2.1.2.2.2.1.2.2.2.2),lV (.int .u8 y.2.1.2.2.2.2.1.1),lV (.int .u8 y.2.1.2.2.2.2.1.2.1),lV (.int .u8 y.2.1.2.2.2.2.1.2.2.1),lV (.int .u8 y.2.1.2.2.2.2.1.2.2.2.1),lV (.int .u8 y.2.1.2.2.2.2.1.2.2.2.2),lV (.int .u8 y.2.1.2.2.2.2.2.1.1),lV (.int .u8 y.2.1.2.2.2.2.2.1.2.1),lV (.int .u8 y.2.1.2.2.2.2.2.1.2.2.1),lV (.int .u8 y.2.1.2.2.2.2.2.1.2.2.2.1),lV (.int .u8 y.2.1.2.2.2.2.2.1.2.2.2.2),lV (.int .u8 y.2.1.2.2.2.2.2.2.1.1),lV (.int .u8 y.2.1.2.2.2.2.2.2.1.2.1),lV (.int .u8 y.2.1.2.2.2.2.2.2.1.2.2.1),lV (.int .u8 y.2.1.2.2.2.2.2.2.1.2.2.2.1),lV (.int .u8 y.2.1.2.2.2.2.2.2.1.2.2.2.2),lV (.int .u8 y.2.1.2.2.2.2.2.2.2.1),lV (.int .u8 y.2.1.2.2.2.2.2.2.2.2.1),lV (.int .u8 y.2.1.2.2.2.2.2.2.2.2.2.1),lV (.int .u8 y.2.1.2.2.2.2.2.2.2.2.2.2.1),lV (.int .u8 y.2.1.2.2.2.2.2.2.2.2.2.2.2),lV (.int .u8 y.2.2)]
theorem yd4 :FA Tryz.prog 289 2 5:=fAm 2 5 1 Tryz.underlying289 R (by kernel_rfl)
theorem y6B :FA Tryz.prog 289 3 6:=fAm 3 6 1 Tryz.underlying289 R (by kernel_rfl)
theorem y3i :NAg Tryz.prog 144:=NAg.mk' Tryz.underlying144 rfl (by kernel_rfl)
theorem yec :NAg Tryz.prog 271:=NAg.mk' Tryz.underlying271 rfl (by kernel_rfl)
theorem pl289 :Pl Tryz.prog 289 [(0,4),(4,1),(5,1),(6,1)] [.slice none 0 0,.int .i64 0,.slice none 0 0,.slice none 0 0,.slice none 0 0,.map none,.slice none 0 0]:=Pl.str Tryz.underlying289 (by kernel_rfl) (by kernel_rfl)
theorem ycF :Md Tryz.prog 271 3 32 kvI rVal (.slice none 0 0) (.slice none 0 0):=Md.mk' Tryz.underlying271 (KE.int Tryz.underlying3) (by kernel_rfl) (fun _=>⟨rfl,rfl⟩)
theorem bs127 :Bs Tryz.prog 127 286 4 [.int .i64 0,.int .i64 0,.int .i64 0,.int .i64 0]:=Bs.mk' Tryz.underlying127 (by kernel_rfl) (by kernel_rfl) rfl
theorem el286 :El Tryz.prog 286 4 32:=El.mk' (z:= .agg #[.int .i64 0,.int .i64 0,.int .i64 0,.int .i64 0]) (by kernel_rfl) (by kernel_rfl) (by kernel_rfl) rfl
theorem yeX :FA Tryz.prog 286 0 0:=fAm 0 0 1 Tryz.underlying286 R (by kernel_rfl)
theorem y8a :FA Tryz.prog 289 0 0:=fAm 0 0 4 Tryz.underlying289 R (by kernel_rfl)
theorem yi7 :FA Tryz.prog 289 1 4:=fAm 1 4 1 Tryz.underlying289 R (by kernel_rfl)
theorem pl286 :Pl Tryz.prog 286 [(0,1),(1,1),(2,1),(3,1)] [.int .i64 0,.int .i64 0,.int .i64 0,.int .i64 0]:=Pl.str Tryz.underlying286 (by kernel_rfl) (by kernel_rfl)
theorem sl127 :Sl Tryz.prog 127 286 4:=Sl.mk' Tryz.underlying127 (by kernel_rfl)
abbrev rE286 :Rep (Int×Int×Int×Int):=(rP qI (rP qI (rP qI qI)))
theorem lv286{y:Int×Int×Int×Int}:Lv rE286 y [lI y.1,lI y.2.1,lI y.2.2.1,lI y.2.2.2]:=(.p .k (.p .k (.p .k .k)))
abbrev lx289(y:AutT×List Int×(List (Int×List Int))×List Bool):List LV:=[lF qI y.1.1,lI y.1.2.1,lF qI y.1.2.2.1,lF qT y.1.2.2.2,lF qI y.2.1,lM kvI (rL qI) y.2.2.1,lF rB y.2.2.2]
theorem yg7 :Md Tryz.prog 271 3 32 kvI (rL qI) [] (.slice none 0 0):=Md.mk' Tryz.underlying271 (KE.int Tryz.underlying3) (by kernel_rfl) (fun _=>⟨none,0,rfl,RdL.nil⟩)
theorem cf201 :Cf Tryz.prog 201:=cM Tryz.func201 (by kernel_rfl)
theorem cf231 :Cf Tryz.prog 231:=cM Tryz.func231 (by kernel_rfl)
theorem cf232 :Cf Tryz.prog 232:=cM Tryz.func232 (by kernel_rfl)
theorem sl314 :Sl Tryz.prog 314 33 1:=Sl.mk' Tryz.underlying314 (by kernel_rfl)
theorem zv33 :Zr Tryz.prog rVal 33 24 (.slice none 0 0):=Zr.mk' (v:= .slice none 0 0) (by kernel_rfl) (by kernel_rfl) (by kernel_rfl) (fun _=>⟨rfl,rfl⟩)
theorem lv33{y:List (Int×Int×Int)}:Lv (rL qT) y [lF qT y]:= .l
theorem ag131 :Ag Tryz.prog 131 9:=Ag.mk' Tryz.underlying131 rfl (by kernel_rfl)
theorem ag286 :Ag Tryz.prog 286 4:=Ag.mk' Tryz.underlying286 rfl (by kernel_rfl)
theorem cf197 :Cf Tryz.prog 197:=cM Tryz.func197 (by kernel_rfl)
theorem cf198 :Cf Tryz.prog 198:=cM Tryz.func198 (by kernel_rfl)
theorem cf199 :Cf Tryz.prog 199:=cM Tryz.func199 (by kernel_rfl)
theorem cf202 :Cf Tryz.prog 202:=cM Tryz.func202 (by kernel_rfl)
theorem yeY :FA Tryz.prog 129 0 0:=fAm 0 0 1 Tryz.underlying129 R (by kernel_rfl)
theorem yeZ :FA Tryz.prog 129 1 1:=fAm 1 1 1 Tryz.underlying129 R (by kernel_rfl)
theorem yav :FA Tryz.prog 129 2 2:=fAm 2 2 1 Tryz.underlying129 R (by kernel_rfl)
theorem y7D :FA Tryz.prog 131 0 0:=fAm 0 0 3 Tryz.underlying131 R (by kernel_rfl)
theorem yf0 :FA Tryz.prog 131 1 3:=fAm 1 3 1 Tryz.underlying131 R (by kernel_rfl)
theorem yf1 :FA Tryz.prog 131 2 4:=fAm 2 4 4 Tryz.underlying131 R (by kernel_rfl)
theorem yi8 :FA Tryz.prog 131 3 8:=fAm 3 8 1 Tryz.underlying131 R (by kernel_rfl)
theorem yg8 :FlatR (rP (rK .i64) (rP (rK .i64) (rP (rK .i64) (rK .i64)))):=fun _ _ _ _ h=>h
theorem ybz :NAg Tryz.prog 127:=NAg.mk' Tryz.underlying127 rfl (by kernel_rfl)
theorem zz131 :(Tryz.prog.info? 131).bind (·.zero)=some (.agg #[.slice none 0 0,.slice none 0 0,.slice none 0 0,.int .i64 0,.slice none 0 0,.int .i64 0,.slice none 0 0,.slice none 0 0,.slice none 0 0]):=by kernel_rfl
theorem zz286 :(Tryz.prog.info? 286).bind (·.zero)=some (.agg #[.int .i64 0,.int .i64 0,.int .i64 0,.int .i64 0]):=by kernel_rfl
abbrev lx286(y:Int×Int×Int×Int):List LV:=[lI y.1,lI y.2.1,lI y.2.2.1,lI y.2.2.2]
theorem cf146 :Cf Tryz.prog 146:=cM Tryz.func146 (by kernel_rfl)
theorem cf147 :Cf Tryz.prog 147:=cM Tryz.func147 (by kernel_rfl)
theorem pl131 :Pl Tryz.prog 131 [(0,3),(3,1),(4,4),(8,1)] [.slice none 0 0,.slice none 0 0,.slice none 0 0,.int .i64 0,.slice none 0 0,.int .i64 0,.slice none 0 0,.slice none 0 0,.slice none 0 0]:=Pl.str Tryz.underlying131 (by kernel_rfl) (by kernel_rfl)
theorem ag30 :Ag Tryz.prog 30 57:=Ag.mk' Tryz.underlying30 rfl (by kernel_rfl)
theorem cf72 :Cf Tryz.prog 72:=cM Tryz.func72 (by kernel_rfl)
theorem cf73 :Cf Tryz.prog 73:=cM Tryz.func73 (by kernel_rfl)
theorem cf74 :Cf Tryz.prog 74:=cM Tryz.func74 (by kernel_rfl)
theorem cf16 :Cf Tryz.prog 16:=cM Tryz.func16 (by kernel_rfl)
theorem cf106 :Cf Tryz.prog 106:=cM Tryz.func106 (by kernel_rfl)
theorem cf59 :Cf Tryz.prog 59:=cM Tryz.func59 (by kernel_rfl)
theorem yd5 :FA Tryz.prog 269 1 1:=fAm 1 1 1 Tryz.underlying269 R (by kernel_rfl)
theorem yf2 :FA Tryz.prog 269 2 2:=fAm 2 2 1 Tryz.underlying269 R (by kernel_rfl)
abbrev rE302 :Rep (Int×Int):=(rP qI qI)
theorem ag241 :Ag Tryz.prog 241 2:=Ag.mk' Tryz.underlying241 rfl (by kernel_rfl)
theorem bs189 :Bs Tryz.prog 189 302 2 [.int .i64 0,.int .i64 0]:=Bs.mk' Tryz.underlying189 (by kernel_rfl) (by kernel_rfl) rfl
theorem el302 :El Tryz.prog 302 2 16:=El.mk' (z:= .agg #[.int .i64 0,.int .i64 0]) (by kernel_rfl) (by kernel_rfl) (by kernel_rfl) rfl
theorem y9L :FA Tryz.prog 269 0 0:=fAm 0 0 1 Tryz.underlying269 R (by kernel_rfl)
theorem ia241 :IA Tryz.prog 241 2 1:=IA.mk Tryz.underlying241 (by kernel_rfl)
theorem y6Y :NAg Tryz.prog 189:=NAg.mk' Tryz.underlying189 rfl (by kernel_rfl)
theorem pl302 :Pl Tryz.prog 302 [(0,1),(1,1)] [.int .i64 0,.int .i64 0]:=Pl.str Tryz.underlying302 (by kernel_rfl) (by kernel_rfl)
theorem sl322 :Sl Tryz.prog 322 241 2:=Sl.mk' Tryz.underlying322 (by kernel_rfl)
theorem zz241 :(Tryz.prog.info? 241).bind (·.zero)=some (.agg #[.int .i64 0,.int .i64 0]):=by kernel_rfl
abbrev rE241 :Rep (Int×Int):=(rP qI qI)
theorem lv241{y:Int×Int}:Lv rE241 y [lI y.1,lI y.2]:=(.p .k .k)
theorem bs322 :Bs Tryz.prog 322 241 2 [.int .i64 0,.int .i64 0]:=Bs.mk' Tryz.underlying322 (by kernel_rfl) (by kernel_rfl) rfl
theorem cf182 :Cf Tryz.prog 182:=cM Tryz.func182 (by kernel_rfl)
theorem cf217 :Cf Tryz.prog 217:=cM Tryz.func217 (by kernel_rfl)
theorem y7f :FA Tryz.prog 302 1 1:=fAm 1 1 1 Tryz.underlying302 R (by kernel_rfl)
theorem sl189 :Sl Tryz.prog 189 302 2:=Sl.mk' Tryz.underlying189 (by kernel_rfl)
theorem lv302{y:Int×Int}:Lv rE302 y [lI y.1,lI y.2]:=(.p .k .k)
theorem ag193 :Ag Tryz.prog 193 8:=Ag.mk' Tryz.underlying193 rfl (by kernel_rfl)
theorem cf181 :Cf Tryz.prog 181:=cM Tryz.func181 (by kernel_rfl)
theorem cf183 :Cf Tryz.prog 183:=cM Tryz.func183 (by kernel_rfl)
theorem cf184 :Cf Tryz.prog 184:=cM Tryz.func184 (by kernel_rfl)
theorem pl191 :Pl Tryz.prog 191 [(0,1),(1,1),(2,1),(3,1),(4,1)] [.int .i64 0,.int .i64 0,.int .i64 0,.slice none 0 0,.slice none 0 0]:=Pl.str Tryz.underlying191 (by kernel_rfl) (by kernel_rfl)
theorem pl193 :Pl Tryz.prog 193 [(0,5),(5,1),(6,1),(7,1)] [.int .i64 0,.int .i64 0,.int .i64 0,.slice none 0 0,.slice none 0 0,.slice none 0 0,.slice none 0 0,.int .i64 0]:=Pl.str Tryz.underlying193 (by kernel_rfl) (by kernel_rfl)
theorem pl269 :Pl Tryz.prog 269 [(0,1),(1,1),(2,1)] [.slice none 0 0,.int .i64 0,.int .i64 0]:=Pl.str Tryz.underlying269 (by kernel_rfl) (by kernel_rfl)
theorem zz193 :(Tryz.prog.info? 193).bind (·.zero)=some (.agg #[.int .i64 0,.int .i64 0,.int .i64 0,.slice none 0 0,.slice none 0 0,.slice none 0 0,.slice none 0 0,.int .i64 0]):=by kernel_rfl
theorem yiG :Md Tryz.prog 270 3 33 kvI (rL qT) [] (.slice none 0 0):=Md.mk' Tryz.underlying270 (KE.int Tryz.underlying3) (by kernel_rfl) (fun _=>⟨none,0,rfl,RdL.nil⟩)
theorem yg9 :Md Tryz.prog 270 3 33 kvI rVal (.slice none 0 0) (.slice none 0 0):=Md.mk' Tryz.underlying270 (KE.int Tryz.underlying3) (by kernel_rfl) (fun _=>⟨rfl,rfl⟩)
theorem cf120 :Cf Tryz.prog 120:=cM Tryz.func120 (by kernel_rfl)
theorem yga :FlatR (rP (rK .i64) (rK .i64)):=fun _ _ _ _ h=>h
theorem flr4 :FlatR rB:=fun _ _ _ _ h=>h
theorem cf119 :Cf Tryz.prog 119:=cM Tryz.func119 (by kernel_rfl)
theorem cf131 :Cf Tryz.prog 131:=cM Tryz.func131 (by kernel_rfl)
theorem ag114 :Ag Tryz.prog 114 3:=Ag.mk' Tryz.underlying114 rfl (by kernel_rfl)
theorem cf137 :Cf Tryz.prog 137:=cM Tryz.func137 (by kernel_rfl)
theorem cf62 :Cf Tryz.prog 62:=cM Tryz.func62 (by kernel_rfl)
theorem yaw :FA Tryz.prog 114 0 0:=fAm 0 0 1 Tryz.underlying114 R (by kernel_rfl)
theorem yax :FA Tryz.prog 114 1 1:=fAm 1 1 1 Tryz.underlying114 R (by kernel_rfl)
theorem y8b :FA Tryz.prog 114 2 2:=fAm 2 2 1 Tryz.underlying114 R (by kernel_rfl)
theorem sl94 :Sl Tryz.prog 94 114 3:=Sl.mk' Tryz.underlying94 (by kernel_rfl)
theorem zz114 :(Tryz.prog.info? 114).bind (·.zero)=some (.agg #[.slice none 0 0,.slice none 0 0,.int .i64 0]):=by kernel_rfl
abbrev rE114 :Rep CycT:=(rP (rL qI) (rP (rL qI) qI))
theorem lv114{y:CycT}:Lv rE114 y [lF qI y.1,lF qI y.2.1,lI y.2.2]:=(.p .l (.p .l .k))
theorem y9M :FA Tryz.prog 191 0 0:=fAm 0 0 1 Tryz.underlying191 R (by kernel_rfl)
theorem y9N :FA Tryz.prog 191 1 1:=fAm 1 1 1 Tryz.underlying191 R (by kernel_rfl)
theorem yay :FA Tryz.prog 191 2 2:=fAm 2 2 1 Tryz.underlying191 R (by kernel_rfl)
theorem yf3 :FA Tryz.prog 191 3 3:=fAm 3 3 1 Tryz.underlying191 R (by kernel_rfl)
theorem y9O :FA Tryz.prog 191 4 4:=fAm 4 4 1 Tryz.underlying191 R (by kernel_rfl)
theorem pl367 :Pl Tryz.prog 367 (plK 1 3 0) [.int .i64 0,.int .i64 0,.int .i64 0]:=Pl.arr Tryz.underlying367 (by kernel_rfl) (by kernel_rfl)
abbrev rE191 :Rep (Int×Int×Int×List Bool×(List (Int×Int))):=(rP qI (rP qI (rP qI (rP (rL rB) (rL rE302)))))
abbrev lx191(y:Int×Int×Int×List Bool×(List (Int×Int))):List LV:=[lI y.1,lI y.2.1,lI y.2.2.1,lF rB y.2.2.2.1,lF rE302 y.2.2.2.2]
theorem bs368 :Bs Tryz.prog 368 372 5 [.int .i64 0,.string (⟨#[]⟩:ByteArray),.nilFunc,.nilFunc,.nilFunc]:=Bs.mk' Tryz.underlying368 (by kernel_rfl) (by kernel_rfl) rfl
theorem cf306 :Cf Tryz.prog 306:=cM Tryz.func306 (by kernel_rfl)
theorem cf307 :Cf Tryz.prog 307:=cM Tryz.func307 (by kernel_rfl)
theorem cf308 :Cf Tryz.prog 308:=cM Tryz.func308 (by kernel_rfl)
theorem cf309 :Cf Tryz.prog 309:=cM Tryz.func309 (by kernel_rfl)
theorem cf310 :Cf Tryz.prog 310:=cM Tryz.func310 (by kernel_rfl)
theorem cf311 :Cf Tryz.prog 311:=cM Tryz.func311 (by kernel_rfl)
theorem cf312 :Cf Tryz.prog 312:=cM Tryz.func312 (by kernel_rfl)
theorem cf313 :Cf Tryz.prog 313:=cM Tryz.func313 (by kernel_rfl)
theorem cf314 :Cf Tryz.prog 314:=cM Tryz.func314 (by kernel_rfl)
theorem cf315 :Cf Tryz.prog 315:=cM Tryz.func315 (by kernel_rfl)
theorem cf316 :Cf Tryz.prog 316:=cM Tryz.func316 (by kernel_rfl)
theorem cf317 :Cf Tryz.prog 317:=cM Tryz.func317 (by kernel_rfl)
theorem cf318 :Cf Tryz.prog 318:=cM Tryz.func318 (by kernel_rfl)
theorem pl372 :Pl Tryz.prog 372 [(0,1),(1,1),(2,1),(3,1),(4,1)] [.int .i64 0,.string (⟨#[]⟩:ByteArray),.nilFunc,.nilFunc,.nilFunc]:=Pl.str Tryz.underlying372 (by kernel_rfl) (by kernel_rfl)
abbrev rE372 :Rep (Int×ByteArray×(Option (Bool→Bool→Option Bool))×(Option (Bool→Bool→Option Bool))×(Option (Bool→Option Bool))):=(rP qI (rP rStr (rP (rF2 Tryz.prog (fun (x0:Bool) (x1:Bool)=> [.bool x0,.bool x1]) (fun (r:Bool)=> .bool r)) (rP (rF2 Tryz.prog (fun (x0:Bool) (x1:Bool)=> [.bool x0,.bool x1]) (fun (r:Bool)=> .bool r)) (rF1 Tryz.prog (fun (x0:Bool)=> [.bool x0]) (fun (r:Bool)=> .bool r))))))
theorem ag191 :Ag Tryz.prog 191 5:=Ag.mk' Tryz.underlying191 rfl (by kernel_rfl)
theorem ag302 :Ag Tryz.prog 302 2:=Ag.mk' Tryz.underlying302 rfl (by kernel_rfl)
theorem ag372 :Ag Tryz.prog 372 5:=Ag.mk' Tryz.underlying372 rfl (by kernel_rfl)
theorem cf293 :Cf Tryz.prog 293:=cM Tryz.func293 (by kernel_rfl)
theorem cf294 :Cf Tryz.prog 294:=cM Tryz.func294 (by kernel_rfl)
theorem ybL :FA Tryz.prog 302 0 0:=fAm 0 0 1 Tryz.underlying302 R (by kernel_rfl)
theorem yd6 :FA Tryz.prog 372 3 3:=fAm 3 3 1 Tryz.underlying372 R (by kernel_rfl)
theorem yf4 :FA Tryz.prog 372 4 4:=fAm 4 4 1 Tryz.underlying372 R (by kernel_rfl)
theorem ybA :NAg Tryz.prog 135:=NAg.mk' Tryz.underlying135 rfl (by kernel_rfl)
theorem ygb :NAg Tryz.prog 370:=NAg.mk' Tryz.underlying370 rfl (by kernel_rfl)
theorem sl368 :Sl Tryz.prog 368 372 5:=Sl.mk' Tryz.underlying368 (by kernel_rfl)
theorem zz302 :(Tryz.prog.info? 302).bind (·.zero)=some (.agg #[.int .i64 0,.int .i64 0]):=by kernel_rfl
theorem zz372 :(Tryz.prog.info? 372).bind (·.zero)=some (.agg #[.int .i64 0,.string (⟨#[]⟩:ByteArray),.nilFunc,.nilFunc,.nilFunc]):=by kernel_rfl
theorem lv372{y:Int×ByteArray×(Option (Bool→Bool→Option Bool))×(Option (Bool→Bool→Option Bool))×(Option (Bool→Option Bool))}:Lv rE372 y [lI y.1,lV (.string y.2.1),lF2 Tryz.prog (fun (x0:Bool) (x1:Bool)=> [.bool x0,.bool x1]) (fun (r:Bool)=> .bool r) y.2.2.1,lF2 Tryz.prog (fun (x0:Bool) (x1:Bool)=> [.bool x0,.bool x1]) (fun (r:Bool)=> .bool r) y.2.2.2.1,lF1 Tryz.prog (fun (x0:Bool)=> [.bool x0]) (fun (r:Bool)=> .bool r) y.2.2.2.2]:=(.p .k (.p .s (.p .f2 (.p .f2 .f1))))
theorem cf269 :Cf Tryz.prog 269:=cM Tryz.func269 (by kernel_rfl)
theorem cf270 :Cf Tryz.prog 270:=cM Tryz.func270 (by kernel_rfl)
theorem ag197 :Ag Tryz.prog 197 2:=Ag.mk' Tryz.underlying197 rfl (by kernel_rfl)
theorem bs144 :Bs Tryz.prog 144 4 1 [.bool false]:=Bs.mk' Tryz.underlying144 (by kernel_rfl) (by kernel_rfl) rfl
theorem cf243 :Cf Tryz.prog 243:=cM Tryz.func243 (by kernel_rfl)
theorem el4 :El Tryz.prog 4 1 1:=El.mk' (z:= .bool false) (by kernel_rfl) (by kernel_rfl) (by kernel_rfl) rfl
theorem pl197 :Pl Tryz.prog 197 [(0,1),(1,1)] [.slice none 0 0,.slice none 0 0]:=Pl.str Tryz.underlying197 (by kernel_rfl) (by kernel_rfl)
theorem zz197 :(Tryz.prog.info? 197).bind (·.zero)=some (.agg #[.slice none 0 0,.slice none 0 0]):=by kernel_rfl
theorem cf220 :Cf Tryz.prog 220:=cM Tryz.func220 (by kernel_rfl)
theorem ybM :FA Tryz.prog 193 0 0:=fAm 0 0 5 Tryz.underlying193 R (by kernel_rfl)
theorem pl199 :Pl Tryz.prog 199 [(0,9),(9,8),(17,1),(18,2)] [.slice none 0 0,.int .i64 0,.slice none 0 0,.slice none 0 0,.slice none 0 0,.int .i64 0,.slice none 0 0,.slice none 0 0,.slice none 0 0,.int .i64 0,.int .i64 0,.int .i64 0,.slice none 0 0,.slice none 0 0,.slice none 0 0,.slice none 0 0,.int .i64 0,.int .i64 0,.slice none 0 0,.slice none 0 0]:=Pl.str Tryz.underlying199 (by kernel_rfl) (by kernel_rfl)
abbrev rE193 :Rep CodT:=(rP rE191 (rP (rL qI) (rP (rL qI) qI)))
abbrev rE197 :Rep (List Bool×List Bool):=(rP (rL rB) (rL rB))
abbrev rE199 :Rep BenT:=(rP rE37 (rP rE193 (rP qI rE197)))
theorem ybN :FA Tryz.prog 199 2 17:=fAm 2 17 1 Tryz.underlying199 R (by kernel_rfl)
theorem y5m :NAg Tryz.prog 276:=NAg.mk' Tryz.underlying276 rfl (by kernel_rfl)
theorem lv199{y:BenT}:Lv rE199 y [lF qI y.1.1.1,lI y.1.1.2.1,lF qI y.1.1.2.2.1,lF qT y.1.1.2.2.2,lF qI y.1.2.1.1,lI y.1.2.1.2.1,lF qI y.1.2.1.2.2.1,lF qT y.1.2.1.2.2.2,lF qI y.1.2.2,lI y.2.1.1.1,lI y.2.1.1.2.1,lI y.2.1.1.2.2.1,lF rB y.2.1.1.2.2.2.1,lF rE302 y.2.1.1.2.2.2.2,lF qI y.2.1.2.1,lF qI y.2.1.2.2.1,lI y.2.1.2.2.2,lI y.2.2.1,lF rB y.2.2.2.1,lF rB y.2.2.2.2]:=(.p (.p (.p .l (.p .k (.p .l .l))) (.p (.p .l (.p .k (.p .l .l))) .l)) (.p (.p (.p .k (.p .k (.p .k (.p .l .l)))) (.p .l (.p .l .k))) (.p .k (.p .l .l))))
abbrev lx199(y:BenT):List LV:=[lF qI y.1.1.1,lI y.1.1.2.1,lF qI y.1.1.2.2.1,lF qT y.1.1.2.2.2,lF qI y.1.2.1.1,lI y.1.2.1.2.1,lF qI y.1.2.1.2.2.1,lF qT y.1.2.1.2.2.2,lF qI y.1.2.2,lI y.2.1.1.1,lI y.2.1.1.2.1,lI y.2.1.1.2.2.1,lF rB y.2.1.1.2.2.2.1,lF rE302 y.2.1.1.2.2.2.2,lF qI y.2.1.2.1,lF qI y.2.1.2.2.1,lI y.2.1.2.2.2,lI y.2.2.1,lF rB y.2.2.2.1,lF rB y.2.2.2.2]
theorem cf242 :Cf Tryz.prog 242:=cM Tryz.func242 (by kernel_rfl)
theorem y7E :FA Tryz.prog 199 0 0:=fAm 0 0 9 Tryz.underlying199 R (by kernel_rfl)
theorem cf219 :Cf Tryz.prog 219:=cM Tryz.func219 (by kernel_rfl)
theorem cf295 :Cf Tryz.prog 295:=cM Tryz.func295 (by kernel_rfl)
theorem yd7 :FA Tryz.prog 193 1 5:=fAm 1 5 1 Tryz.underlying193 R (by kernel_rfl)
abbrev lx193(y:CodT):List LV:=[lI y.1.1,lI y.1.2.1,lI y.1.2.2.1,lF rB y.1.2.2.2.1,lF rE302 y.1.2.2.2.2,lF qI y.2.1,lF qI y.2.2.1,lI y.2.2.2]
theorem cf321 :Cf Tryz.prog 321:=cM Tryz.func321 (by kernel_rfl)
theorem sl387 :Sl Tryz.prog 387 144 1:=Sl.mk' Tryz.underlying387 (by kernel_rfl)
theorem lv144{y:List Bool}:Lv (rL rB) y [lF rB y]:= .l
theorem bs387 :Bs Tryz.prog 387 144 1 [.slice none 0 0]:=Bs.mk' Tryz.underlying387 (by kernel_rfl) (by kernel_rfl) rfl
theorem cf319 :Cf Tryz.prog 319:=cM Tryz.func319 (by kernel_rfl)
theorem yaz :FA Tryz.prog 197 0 0:=fAm 0 0 1 Tryz.underlying197 R (by kernel_rfl)
theorem ybO :FA Tryz.prog 197 1 1:=fAm 1 1 1 Tryz.underlying197 R (by kernel_rfl)
theorem yf5 :FA Tryz.prog 372 2 2:=fAm 2 2 1 Tryz.underlying372 R (by kernel_rfl)
theorem cf296 :Cf Tryz.prog 296:=cM Tryz.func296 (by kernel_rfl)
theorem cf297 :Cf Tryz.prog 297:=cM Tryz.func297 (by kernel_rfl)
theorem cf298 :Cf Tryz.prog 298:=cM Tryz.func298 (by kernel_rfl)
theorem cf271 :Cf Tryz.prog 271:=cM Tryz.func271 (by kernel_rfl)
theorem cf272 :Cf Tryz.prog 272:=cM Tryz.func272 (by kernel_rfl)
theorem cf244 :Cf Tryz.prog 244:=cM Tryz.func244 (by kernel_rfl)
theorem ybP :FA Tryz.prog 199 1 9:=fAm 1 9 8 Tryz.underlying199 R (by kernel_rfl)
theorem yaA :FA Tryz.prog 199 3 18:=fAm 3 18 2 Tryz.underlying199 R (by kernel_rfl)
theorem cf245 :Cf Tryz.prog 245:=cM Tryz.func245 (by kernel_rfl)
theorem yf6 :FA Tryz.prog 193 2 6:=fAm 2 6 1 Tryz.underlying193 R (by kernel_rfl)
theorem cf224 :Cf Tryz.prog 224:=cM Tryz.func224 (by kernel_rfl)
theorem y8D :FA Tryz.prog 100 2 2:=fAm 2 2 1 Tryz.underlying100 R (by kernel_rfl)
abbrev rE100 :Rep StpT:=(rP (rL qI) (rP (rL qI) (rP (rL qI) (rP qI (rP rB (rP qI rB))))))
abbrev lx100(y:StpT):List LV:=[lF qI y.1,lF qI y.2.1,lF qI y.2.2.1,lI y.2.2.2.1,lB y.2.2.2.2.1,lI y.2.2.2.2.2.1,lB y.2.2.2.2.2.2]
theorem cf186 :Cf Tryz.prog 186:=cM Tryz.func186 (by kernel_rfl)
theorem yi9 :FA Tryz.prog 193 3 7:=fAm 3 7 1 Tryz.underlying193 R (by kernel_rfl)
theorem ag100 :Ag Tryz.prog 100 7:=Ag.mk' Tryz.underlying100 rfl (by kernel_rfl)
theorem cf221 :Cf Tryz.prog 221:=cM Tryz.func221 (by kernel_rfl)
theorem cf222 :Cf Tryz.prog 222:=cM Tryz.func222 (by kernel_rfl)
theorem cf223 :Cf Tryz.prog 223:=cM Tryz.func223 (by kernel_rfl)
theorem cf225 :Cf Tryz.prog 225:=cM Tryz.func225 (by kernel_rfl)
theorem cf226 :Cf Tryz.prog 226:=cM Tryz.func226 (by kernel_rfl)
theorem cf227 :Cf Tryz.prog 227:=cM Tryz.func227 (by kernel_rfl)
theorem y8c :FA Tryz.prog 100 0 0:=fAm 0 0 1 Tryz.underlying100 R (by kernel_rfl)
theorem y8E :FA Tryz.prog 100 1 1:=fAm 1 1 1 Tryz.underlying100 R (by kernel_rfl)
theorem y6b :FA Tryz.prog 100 3 3:=fAm 3 3 1 Tryz.underlying100 R (by kernel_rfl)
theorem y7F :FA Tryz.prog 100 4 4:=fAm 4 4 1 Tryz.underlying100 R (by kernel_rfl)
theorem yaB :FA Tryz.prog 100 5 5:=fAm 5 5 1 Tryz.underlying100 R (by kernel_rfl)
theorem yaC :FA Tryz.prog 100 6 6:=fAm 6 6 1 Tryz.underlying100 R (by kernel_rfl)
theorem zz100 :(Tryz.prog.info? 100).bind (·.zero)=some (.agg #[.slice none 0 0,.slice none 0 0,.slice none 0 0,.int .i64 0,.bool false,.int .i64 0,.bool false]):=by kernel_rfl
theorem bs91 :Bs Tryz.prog 91 100 7 [.slice none 0 0,.slice none 0 0,.slice none 0 0,.int .i64 0,.bool false,.int .i64 0,.bool false]:=Bs.mk' Tryz.underlying91 (by kernel_rfl) (by kernel_rfl) rfl
theorem cf191 :Cf Tryz.prog 191:=cM Tryz.func191 (by kernel_rfl)
theorem cf192 :Cf Tryz.prog 192:=cM Tryz.func192 (by kernel_rfl)
theorem el100 :El Tryz.prog 100 7 104:=El.mk' (z:= .agg #[.slice none 0 0,.slice none 0 0,.slice none 0 0,.int .i64 0,.bool false,.int .i64 0,.bool false]) (by kernel_rfl) (by kernel_rfl) (by kernel_rfl) rfl
theorem cf130 :Cf Tryz.prog 130:=cM Tryz.func130 (by kernel_rfl)
theorem cf128 :Cf Tryz.prog 128:=cM Tryz.func128 (by kernel_rfl)
theorem cf129 :Cf Tryz.prog 129:=cM Tryz.func129 (by kernel_rfl)
theorem cf65 :Cf Tryz.prog 65:=cM Tryz.func65 (by kernel_rfl)
theorem cf218 :Cf Tryz.prog 218:=cM Tryz.func218 (by kernel_rfl)
theorem cf185 :Cf Tryz.prog 185:=cM Tryz.func185 (by kernel_rfl)
theorem cf123 :Cf Tryz.prog 123:=cM Tryz.func123 (by kernel_rfl)
theorem sl91 :Sl Tryz.prog 91 100 7:=Sl.mk' Tryz.underlying91 (by kernel_rfl)
theorem lv100{y:StpT}:Lv rE100 y [lF qI y.1,lF qI y.2.1,lF qI y.2.2.1,lI y.2.2.2.1,lB y.2.2.2.2.1,lI y.2.2.2.2.2.1,lB y.2.2.2.2.2.2]:=(.p .l (.p .l (.p .l (.p .k (.p .b (.p .k .b))))))
theorem yd8 :FA Tryz.prog 201 1 20:=fAm 1 20 1 Tryz.underlying201 R (by kernel_rfl)
theorem y6Z :NAg Tryz.prog 275:=NAg.mk' Tryz.underlying275 rfl (by kernel_rfl)
abbrev rE201 :Rep (BenT×Int×Bool):=(rP rE199 (rP qI rB))
theorem lv201{y:BenT×Int×Bool}:Lv rE201 y [lF qI y.1.1.1.1,lI y.1.1.1.2.1,lF qI y.1.1.1.2.2.1,lF qT y.1.1.1.2.2.2,lF qI y.1.1.2.1.1,lI y.1.1.2.1.2.1,lF qI y.1.1.2.1.2.2.1,lF qT y.1.1.2.1.2.2.2,lF qI y.1.1.2.2,lI y.1.2.1.1.1,lI y.1.2.1.1.2.1,lI y.1.2.1.1.2.2.1,lF rB y.1.2.1.1.2.2.2.1,lF rE302 y.1.2.1.1.2.2.2.2,lF qI y.1.2.1.2.1,lF qI y.1.2.1.2.2.1,lI y.1.2.1.2.2.2,lI y.1.2.2.1,lF rB y.1.2.2.2.1,lF rB y.1.2.2.2.2,lI y.2.1,lB y.2.2]:=(.p (.p (.p (.p .l (.p .k (.p .l .l))) (.p (.p .l (.p .k (.p .l .l))) .l)) (.p (.p (.p .k (.p .k (.p .k (.p .l .l)))) (.p .l (.p .l .k))) (.p .k (.p .l .l)))) (.p .k .b))
abbrev lx201(y:BenT×Int×Bool):List LV:=[lF qI y.1.1.1.1,lI y.1.1.1.2.1,lF qI y.1.1.1.2.2.1,lF qT y.1.1.1.2.2.2,lF qI y.1.1.2.1.1,lI y.1.1.2.1.2.1,lF qI y.1.1.2.1.2.2.1,lF qT y.1.1.2.1.2.2.2,lF qI y.1.1.2.2,lI y.1.2.1.1.1,lI y.1.2.1.1.2.1,lI y.1.2.1.1.2.2.1,lF rB y.1.2.1.1.2.2.2.1,lF rE302 y.1.2.1.1.2.2.2.2,lF qI y.1.2.1.2.1,lF qI y.1.2.1.2.2.1,lI y.1.2.1.2.2.2,lI y.1.2.2.1,lF rB y.1.2.2.2.1,lF rB y.1.2.2.2.2,lI y.2.1,lB y.2.2]
theorem ag201 :Ag Tryz.prog 201 22:=Ag.mk' Tryz.underlying201 rfl (by kernel_rfl)
theorem cf122 :Cf Tryz.prog 122:=cM Tryz.func122 (by kernel_rfl)
theorem cf124 :Cf Tryz.prog 124:=cM Tryz.func124 (by kernel_rfl)
theorem cf53 :Cf Tryz.prog 53:=cM Tryz.func53 (by kernel_rfl)
theorem pl201 :Pl Tryz.prog 201 [(0,20),(20,1),(21,1)] [.slice none 0 0,.int .i64 0,.slice none 0 0,.slice none 0 0,.slice none 0 0,.int .i64 0,.slice none 0 0,.slice none 0 0,.slice none 0 0,.int .i64 0,.int .i64 0,.int .i64 0,.slice none 0 0,.slice none 0 0,.slice none 0 0,.slice none 0 0,.int .i64 0,.int .i64 0,.slice none 0 0,.slice none 0 0,.int .i64 0,.bool false]:=Pl.str Tryz.underlying201 (by kernel_rfl) (by kernel_rfl)
theorem zz201 :(Tryz.prog.info? 201).bind (·.zero)=some (.agg #[.slice none 0 0,.int .i64 0,.slice none 0 0,.slice none 0 0,.slice none 0 0,.int .i64 0,.slice none 0 0,.slice none 0 0,.slice none 0 0,.int .i64 0,.int .i64 0,.int .i64 0,.slice none 0 0,.slice none 0 0,.slice none 0 0,.slice none 0 0,.int .i64 0,.int .i64 0,.slice none 0 0,.slice none 0 0,.int .i64 0,.bool false]):=by kernel_rfl
theorem bs94 :Bs Tryz.prog 94 114 3 [.slice none 0 0,.slice none 0 0,.int .i64 0]:=Bs.mk' Tryz.underlying94 (by kernel_rfl) (by kernel_rfl) rfl
theorem cf118 :Cf Tryz.prog 118:=cM Tryz.func118 (by kernel_rfl)
theorem cf49 :Cf Tryz.prog 49:=cM Tryz.func49 (by kernel_rfl)
theorem cf57 :Cf Tryz.prog 57:=cM Tryz.func57 (by kernel_rfl)
theorem pl114 :Pl Tryz.prog 114 [(0,1),(1,1),(2,1)] [.slice none 0 0,.slice none 0 0,.int .i64 0]:=Pl.str Tryz.underlying114 (by kernel_rfl) (by kernel_rfl)
theorem yiH :FA Tryz.prog 84 0 0:=fAm 0 0 57 Tryz.underlying84 R (by kernel_rfl)
theorem yiI :FA Tryz.prog 84 1 57:=fAm 1 57 1 Tryz.underlying84 R (by kernel_rfl)
abbrev lx84(y:((Int×y1I)×(Int×y1I)×Int)×Bool):List LV:=[lV (.int .u8 y.1.1.1),lV (.int .u8 y.1.1.2.1),lV (.int .u8 y.1.1.2.2.1),lV (.int .u8 y.1.1.2.2.2.1.1),lV (.int .u8 y.1.1.2.2.2.1.2.1),lV (.int .u8 y.1.1.2.2.2.1.2.2.1),lV (.int .u8 y.1.1.2.2.2.1.2.2.2.1),lV (.int .u8 y.1.1.2.2.2.1.2.2.2.2),lV (.int .u8 y.1.1.2.2.2.2.1.1),lV (.int .u8 y.1.1.2.2.2.2.1.2.1),lV (.int .u8 y.1.1.2.2.2.2.1.2.2.1),lV (.int .u8 y.1.1.2.2.2.2.1.2.2.2.1),lV (.int .u8 y.1.1.2.2.2.2.1.2.2.2.2),lV (.int .u8 y.1.1.2.2.2.2.2.1.1),lV (.int .u8 y.1.1.2.2.2.2.2.1.2.1),lV (.int .u8 y.1.1.2.2.2.2.2.1.2.2.1),lV (.int .u8 y.1.1.2.2.2.2.2.1.2.2.2.1),lV (.int .u8 y.1.1.2.2.2.2.2.1.2.2.2.2),lV (.int .u8 y.1.1.2.2.2.2.2.2.1.1),lV (.int .u8 y.1.1.2.2.2.2.2.2.1.2.1),lV (.int .u8 y.1.1.2.2.2.2.2.2.1.2.2.1),lV (.int .u8 y.1.1.2.2.2.2.2.2.1.2.2.2.1),lV (.int .u8 y.1.1.2.2.2.2.2.2.1.2.2.2.2),lV (.int .u8 y.1.1.2.2.2.2.2.2.2.1),lV (.int .u8 y.1.1.2.2.2.2.2.2.2.2.1),lV (.int .u8 y.1.1.2.2.2.2.2.2.2.2.2.1),lV (.int .u8 y.1.1.2.2.2.2.2.2.2.2.2.2.1),lV (.int .u8 y.1.1.2.2.2.2.2.2.2.2.2.2.2),lV (.int .u8 y.1.2.1.1),lV (.int .u8 y.1.2.1.2.1),lV (.int .u8 y.1.2.1.2.2.1),lV (.int .u8 y.1.2.1.2.2.2.1.1),lV (.int .u8 y.1.2.1.2.2.2.1.2.1),lV (.int .u8 y.1.2.1.2.2.2.1.2.2.1),lV (.int .u8 y.1.2.1.2.2.2.1.2.2.2.1),lV (.int .u8 y.1.2.1.2.2.2.1.2.2.2.2),lV (.int .u8 y.1.2.1.2.2.2.2.1.1),lV (.int .u8 y.1.2.1.2.2.2.2.1.2.1),lV (.int .u8 y.1.2.1.2.2.2.2.1.2.2.1),lV (.int .u8 y.1.2.1.2.2.2.2.1.2.2.2.1),lV (.int .u8 y.1.2.1.2.2.2.2.1.2.2.2.2),lV (.int .u8 y.1.2.1.2.2.2.2.2.1.1),lV (.int .u8 y.1.2.1.2.2.2.2.2.1.2.1),lV (.int .u8 y.1.2.1.2.2.2.2.2.1.2.2.1),lV (.int .u8 y.1.2.1.2.2.2.2.2.1.2.2.2.1),lV (.int .u8 y.1.2.1.2.2.2.2.2.1.2.2.2.2),lV (.int .u8 y.1.2.1.2.2.2.2.2.2.1.1),lV (.int .u8 y.1.2.1.2.2.2.2.2.2.1.2.1),lV (.int .u8 y.1.2.1.2.2.2.2.2.2.1.2.2.1),lV (.int .u8 y.1.2.1.2.2.2.2.2.2.1.2.2.2.1),lV (.int .u8 y.1.2.1.2.2.2.2.2.2.1.2.2.2.2),lV (.int .u8 y.1.2.1.2.2.2.2.2.2.2.1),lV (.int .u8 y.1.2.1.2.2.2.2.2.2.2.2.1),lV (.int .u8 y.1.2.1.2.2.2.2.2.2.2.2.2.1),lV (.int .u8 y.1.2.1.2.2.2.2.2.2.2.2.2.2.1),lV (.int .u8 y.1.2.1.2.2.2.2.2.2.2.2.2.2.2),lV (.int .u8 y.1.2.2),lB y.2]
theorem cf54 :Cf Tryz.prog 54:=cM Tryz.func54 (by kernel_rfl)
theorem cf121 :Cf Tryz.prog 121:=cM Tryz.func121 (by kernel_rfl)
theorem y6O :FA Tryz.prog 206 0 0:=fAm 0 0 9 Tryz.underlying206 R (by kernel_rfl)
theorem y8F :FA Tryz.prog 206 1 9:=fAm 1 9 1 Tryz.underlying206 R (by kernel_rfl)
abbrev lx206(y:PbT×Int×Int×Bool):List LV:=[lF qI y.1.1.1,lI y.1.1.2.1,lF qI y.1.1.2.2.1,lF qT y.1.1.2.2.2,lF qI y.1.2.1.1,lI y.1.2.1.2.1,lF qI y.1.2.1.2.2.1,lF qT y.1.2.1.2.2.2,lF qI y.1.2.2,lI y.2.1,lI y.2.2.1,lB y.2.2.2]
theorem yaD :FA Tryz.prog 206 2 10:=fAm 2 10 1 Tryz.underlying206 R (by kernel_rfl)
theorem yf7 :FA Tryz.prog 206 3 11:=fAm 3 11 1 Tryz.underlying206 R (by kernel_rfl)
theorem cf188 :Cf Tryz.prog 188:=cM Tryz.func188 (by kernel_rfl)
theorem cf189 :Cf Tryz.prog 189:=cM Tryz.func189 (by kernel_rfl)
theorem cf190 :Cf Tryz.prog 190:=cM Tryz.func190 (by kernel_rfl)
theorem pl100 :Pl Tryz.prog 100 [(0,1),(1,1),(2,1),(3,1),(4,1),(5,1),(6,1)] [.slice none 0 0,.slice none 0 0,.slice none 0 0,.int .i64 0,.bool false,.int .i64 0,.bool false]:=Pl.str Tryz.underlying100 (by kernel_rfl) (by kernel_rfl)
theorem cf125 :Cf Tryz.prog 125:=cM Tryz.func125 (by kernel_rfl)
theorem pl206 :Pl Tryz.prog 206 [(0,9),(9,1),(10,1),(11,1)] [.slice none 0 0,.int .i64 0,.slice none 0 0,.slice none 0 0,.slice none 0 0,.int .i64 0,.slice none 0 0,.slice none 0 0,.slice none 0 0,.int .i64 0,.int .i64 0,.bool false]:=Pl.str Tryz.underlying206 (by kernel_rfl) (by kernel_rfl)
theorem ag84 :Ag Tryz.prog 84 58:=Ag.mk' Tryz.underlying84 rfl (by kernel_rfl)
theorem cf46 :Cf Tryz.prog 46:=cM Tryz.func46 (by kernel_rfl)
theorem cf47 :Cf Tryz.prog 47:=cM Tryz.func47 (by kernel_rfl)
theorem cf48 :Cf Tryz.prog 48:=cM Tryz.func48 (by kernel_rfl)
theorem cf51 :Cf Tryz.prog 51:=cM Tryz.func51 (by kernel_rfl)
theorem cf58 :Cf Tryz.prog 58:=cM Tryz.func58 (by kernel_rfl)
theorem cf132 :Cf Tryz.prog 132:=cM Tryz.func132 (by kernel_rfl)
theorem cf135 :Cf Tryz.prog 135:=cM Tryz.func135 (by kernel_rfl)
theorem cf133 :Cf Tryz.prog 133:=cM Tryz.func133 (by kernel_rfl)
theorem cf134 :Cf Tryz.prog 134:=cM Tryz.func134 (by kernel_rfl)
theorem cf61 :Cf Tryz.prog 61:=cM Tryz.func61 (by kernel_rfl)
theorem cf63 :Cf Tryz.prog 63:=cM Tryz.func63 (by kernel_rfl)
theorem cf64 :Cf Tryz.prog 64:=cM Tryz.func64 (by kernel_rfl)
def y3a(p0:List Int)(p1:Int)(a:Int):Option (Int⊕(Unit⊕Int)):=
 if decide (a<(p0.length:Int)) then
  (idx p0 a).bind fun b=>
  if((decide (b<0))||(decide (b≥p1))) then
   some (.inr (.inr (2)))
  else
   (if decide (a>0) then
    (idx p0 (W (a-1))).bind fun d=>
    some (decide (b≤d))
   else
    some false).bind fun c=>
   if c then
    some (.inr (.inr (5)))
   else
    some (.inl (W (a+1)))
 else
  some (.inr (.inl ()))
def y2m(p0:List Int)(p1:Int):Option Int:=
 (iter (y3a p0 p1) 0).bind fun a=>
 match a with
 | .inl c=>
  some 0
 | .inr (b)=>
  some b
theorem y7O{r:Int}(hm:y2m p0 p1=some r):
  F0 164 [.f qI p0,.i p1] [] (.i r) []:=by
 unfold y2m at hm;refine Fw.mk2 Tryz.func164 Tryz.ntmps164 R (fun C=>?_) R;refine .sr (.an R (.seq (.sr (.mv R (.ln sl32 R (.mv R (.ns (.block (bS hm fun o p hm=>?_)))))))));refine .cutU (z:= .exit 0) (fun h=> .inl h=o) (fun (h:Unit)=>⟨[],[],0⟩) ?_ fun u=>?_
 ·rintro h rfl;dsimp only at hm;refine .blkE (.seqN (.sr (.an R (.ret ?_))));cases hm;exact .rr [] Tryz.results164 (.tmp R .nil) R I3 trivial
 refine .cutU (z:= .ret) (fun g=> .inr (g)=o) (fun (g:Int)=>⟨[(4,.i g)],[],0⟩) ?_ fun n=>?_
 ·rintro g rfl;dsimp only at hm;refine .blkR (.seqR ?_);cases hm;exact .rr [] Tryz.results164 (.tmp R .nil) R I3 trivial
 refine .iter (fun (a:Int)=>⟨[(9,.i a),(8,.i (p0.length:Int)),(7,.f qI p0),(0,.f qI p0),(1,.i p1)],[],0⟩) p [] R ?_;intro a x hm t e;unfold y3a at hm;refine .sr (.bi R (.ns (.seq ?_)));refine .cc hm R (fun hm=>?_) fun hm=> .exit (.seqX (.seqX ((u _ (e _ (oi hm).symm)).sub [] R)));refine .skip (.seqN (.seq (.block (.sr (.mv R (bS hm fun c q hm=> .ix sl32 q R (.le nag3 lv3 R (.sa R (.an R (.block (.sr (.mv R (.bi R (.mv R ?_))))))))))))));refine .cut 4 (fun (j:Bool)=>((decide (c<0))||(decide (c≥p1)))=j) (fun j=>⟨[(21,.b j),(6,.i c),(5,.i a),(9,.i a),(8,.i (p0.length:Int)),(7,.f qI p0),(0,.f qI p0),(1,.i p1)],[],0⟩) ?_ ?_
 ·rintro _ rfl;refine .an R (.cc hm R (fun hm=> .sr (.an R (.ret (.blkR (.blkR (.seqR (.seqR ((n _ (e _ (oi hm).symm)).sub [] R)))))))) fun hm=>?_);refine .sr (.mv R (.bi R (.mv R (bS hm fun v eb19 hm=>?_))));refine .cut 8 (fun (k:Bool)=>v=k) (fun k=>⟨[(33,.b k),(9,.i a),(8,.i (p0.length:Int)),(7,.f qI p0),(0,.f qI p0),(1,.i p1)],[],0⟩) ?_ ?_
  ·rintro _ rfl;exact .an R (.cc hm R (fun hm=> .sr (.an R (.ret (.blkR (.blkR (.seqR (.seqR ((n _ (e _ (oi hm).symm)).sub [] R)))))))) fun hm=> .skip (.blkN (.blkN (.seqN (.reg (.bi R (.mv R (.nil ((t _ (oi hm).symm).sub [] R)))))))))
  ·intro m;rcases ifS eb19 with ⟨hc,hm⟩|⟨hc,hm⟩
   ·refine .know (d:=25) R hc ?_;exact .op (O.mv (Gu.mk R R) R R) R (.op (O.mv (Gu.mk R R) R R) R (.op (O.mv (Gu.mk R R) R R) R (.op (O.bi (Gu.mk R R) R R R R) R (bS hm fun w s hm=> .op (O.ix sl32 (Gu.mk R R) R R s R) R (.op (O.ld nag3 (Gu.mk R R) R (.E lv3) R R) R (.op (O.bi (Gu.mk R R) R R R R) R (.op (O.pkT Z R R R R) R ((m (decide (c≤w)) (oi hm).symm).sub [] R))))))))
   ·refine .know (d:=25) R hc ?_;exact .sk R (.sk R (.sk R (.sk R (.sk R (.sk R (.sk R (.op (O.pkF Z R R R R) R ((m false (oi hm).symm).sub [] R))))))))
 ·intro l;rcases Bool.eq_false_or_eq_true (decide (c<0)) with hc|hc
  ·refine .know (d:=17) R hc ?_;exact .sk R (.sk R (.sk R (.op (O.pkT Z R R R R) R ((l true (orT hc).symm).sub [] R))))
  ·refine .know (d:=17) R hc ?_;exact .op (O.mv (Gu.mk R R) R R) R (.op (O.mv (Gu.mk R R) R R) R (.op (O.bi (Gu.mk R R) R R R R) R (.op (O.pkF Z R R R R) R ((l (decide (c≥p1)) (orF hc).symm).sub [] R))))
def y3F(p0:List Int)(p1:Int)(a:Int):Option (Int⊕(Unit⊕Int)):=
 if decide (a<(p0.length:Int)) then
  (idx p0 a).bind fun b=>
  if(p1==b) then
   some (.inr (.inr (a)))
  else
   some (.inl (W (a+1)))
 else
  some (.inr (.inl ()))
def y6D(p0:List Int)(p1:Int):Option Int:=
 (iter (y3F p0 p1) 0).bind fun a=>
 match a with
 | .inl c=>
  some (-1)
 | .inr (b)=>
  some b
theorem yaU{r:Int}(hm:y6D p0 p1=some r):
  F0 169 [.f qI p0,.i p1] [] (.i r) []:=by
 unfold y6D at hm;refine Fw.mk2 Tryz.func169 Tryz.ntmps169 R (fun C=>?_) R;refine .sr (.an R (.seq (.sr (.mv R (.ln sl32 R (.mv R (.ns (.block (bS hm fun j g hm=>?_)))))))));refine .cutU (z:= .exit 0) (fun e=> .inl e=j) (fun (e:Unit)=>⟨[],[],0⟩) ?_ fun K7=>?_
 ·rintro e rfl;dsimp only at hm;refine .blkE (.seqN (.sr (.an R (.ret ?_))));cases hm;exact .rr [] Tryz.results169 (.tmp R .nil) R I3 trivial
 refine .cutU (z:= .ret) (fun a=> .inr (a)=j) (fun (a:Int)=>⟨[(4,.i a)],[],0⟩) ?_ fun K9=>?_
 ·rintro a rfl;dsimp only at hm;refine .blkR (.seqR ?_);cases hm;exact .rr [] Tryz.results169 (.tmp R .nil) R I3 trivial
 refine .iter (fun (c:Int)=>⟨[(8,.i c),(7,.i (p0.length:Int)),(0,.f qI p0),(1,.i p1)],[],0⟩) g [] R ?_;intro c k hm h b;unfold y3F at hm;refine .sr (.bi R (.ns (.seq ?_)));refine .cc hm R (fun hm=>?_) fun hm=> .exit (.seqX (.seqX ((K7 _ (b _ (oi hm).symm)).sub [] R)));refine .skip (.seqN (.seq (.block (.sr (.mv R (.an R (.sr (.mv R (.mv R (.mv R (bS hm fun l d hm=> .ix sl32 d R (.le nag3 lv3 R (.bi R (.ns ?_))))))))))))));exact .cc hm R (fun hm=> .sr (.mv R (.an R (.ret (.blkR (.seqR (.seqR ((K9 _ (b _ (oi hm).symm)).sub [] R)))))))) fun hm=> .skip (.blkN (.seqN (.reg (.bi R (.mv R (.nil ((h _ (oi hm).symm).sub [] R)))))))
def ye(p0:List Int)(p1:Int):Option Bool:=
 (y6D p0 p1).bind fun a=>
 some (decide (a≥0))
theorem yg{r:Bool}(hm:ye p0 p1=some r):
  F0 104 [.f qI p0,.i p1] [] (.b r) []:=by
 unfold ye at hm;refine Fw.mk2 Tryz.func104 Tryz.ntmps104 R (fun C=>?_) R;refine .sr (.an R (.sr (.mv R (.mv R (bS hm fun c a hm=> .c0 (yaU a) cf169 R (.bi R (.an R (.ret ?_))))))));cases hm;exact .rr [] Tryz.results104 (.tmp R .nil) R I3 trivial
def y2v(a:Int):Option (Int⊕(Unit⊕Int)):=
 some (.inl (W (a+1)))
def y2w(p0:AutT)(a:Int):Option (Int⊕(Unit⊕Int)):=
 if decide (a<(p0.2.2.2.length:Int)) then
  (idx p0.2.2.2 a).bind fun b=>
  if((((decide (b.1<0))||(decide (b.1≥p0.2.1)))||(decide (b.2.2<0)))||(decide (b.2.2≥p0.2.1))) then
   some (.inr (.inr (2)))
  else
   (ye p0.1 b.2.1).bind fun d=>
   if(!d) then
    some (.inr (.inr (9)))
   else
    if(a==0) then
     y2v a
    else
     (idx p0.2.2.2 (W (a-1))).bind fun c=>
     if((decide (b.1<c.1))||((b.1==c.1)&&(decide (b.2.1≤c.2.1)))) then
      some (.inr (.inr (5)))
     else
      y2v a
 else
  some (.inr (.inl ()))
def y4C(p0:AutT):Option Int:=
 (iter (y2w p0) 0).bind fun a=>
 match a with
 | .inl c=>
  some 0
 | .inr (b)=>
  some b
theorem y9T{p0:AutT}{r:Int}(hm:y4C p0=some r):
  F0 165 [.a (lx35 p0)] [] (.i r) []:=by
 unfold y4C at hm;refine Fw.mk2 Tryz.func165 Tryz.ntmps165 R (fun C=>?_) R;refine .sr (.bo 0 R (.an R (.seq (.sr (.fa y1J R (.lb nag33 R (.ln sl33 R (.mv R (.ns (.block (bS hm fun G H hm=>?_)))))))))));refine .cutU (z:= .exit 0) (fun n=> .inl n=G) (fun (n:Unit)=>⟨[],[],0⟩) ?_ fun M=>?_
 ·rintro n rfl;dsimp only at hm;refine .blkE (.seqN (.sr (.an R (.ret ?_))));cases hm;exact .rr [] Tryz.results165 (.tmp R .nil) R I3 trivial
 refine .cutU (z:= .ret) (fun j=> .inr (j)=G) (fun (j:Int)=>⟨[(2,.i j)],[],0⟩) ?_ fun m=>?_
 ·rintro j rfl;dsimp only at hm;refine .blkR (.seqR ?_);cases hm;exact .rr [] Tryz.results165 (.tmp R .nil) R I3 trivial
 refine .iter (fun (e:Int)=>⟨[(9,.i e),(8,.i (p0.2.2.2.length:Int)),(7,.f qT p0.2.2.2),(1,.q 0 0)],[(0,.bx 35 (lx35 p0))],1⟩) H [] R ?_;intro e v hm L h;unfold y2w at hm;refine .sr (.bi R (.ns (.seq ?_)));refine .cc hm R (fun hm=>?_) fun hm=> .exit (.seqX (.seqX ((M _ (h _ (oi hm).symm)).sub [] R)));refine .skip (.seqN ?_);refine .join0 (y2v e=some v) (⟨[(9,.i e),(8,.i (p0.2.2.2.length:Int)),(7,.f qT p0.2.2.2),(1,.q 0 0)],[(0,.bx 35 (lx35 p0))],1⟩) ?_ ?_
 ·intro hm;unfold y2v at hm;exact .reg (.bi R (.mv R (.nil ((L _ (oi hm).symm).sub [] R))))
 ·intro k;refine .block (.sr (.mv R (bS hm fun c J hm=> .ix sl33 J R (.op (O.lg (l':=[lI c.1,lI c.2.1,lI c.2.2]) ag124 Z R (.E lv124) R R R) R (.al 1 zz124 R (.sa R (.st ag124.sz R (.ns (.seq (.block (.sr (.fa y3r R (.lb nag3 R (.bi R (.mv R ?_)))))))))))))));refine .cut 6 (fun (o:Bool)=>((decide (c.1<0))||(decide (c.1≥p0.2.1)))=o) (fun o=>⟨[(24,.b o),(3,.i e),(4,.q 1 0),(9,.i e),(8,.i (p0.2.2.2.length:Int)),(7,.f qT p0.2.2.2),(1,.q 0 0)],[(1,.bx 124 [lI c.1,lI c.2.1,lI c.2.2]),(0,.bx 35 (lx35 p0))],2⟩) ?_ ?_
  ·rintro _ rfl;refine .mv R ?_;refine .cut 4 (fun (p:Bool)=>(((decide (c.1<0))||(decide (c.1≥p0.2.1)))||(decide (c.2.2<0)))=p) (fun p=>⟨[(29,.b p),(3,.i e),(4,.q 1 0),(9,.i e),(8,.i (p0.2.2.2.length:Int)),(7,.f qT p0.2.2.2),(1,.q 0 0)],[(1,.bx 124 [lI c.1,lI c.2.1,lI c.2.2]),(0,.bx 35 (lx35 p0))],2⟩) ?_ ?_
   ·rintro _ rfl;refine .mv R ?_;refine .cut 6 (fun (s:Bool)=>((((decide (c.1<0))||(decide (c.1≥p0.2.1)))||(decide (c.2.2<0)))||(decide (c.2.2≥p0.2.1)))=s) (fun s=>⟨[(36,.b s),(3,.i e),(4,.q 1 0),(9,.i e),(8,.i (p0.2.2.2.length:Int)),(7,.f qT p0.2.2.2),(1,.q 0 0)],[(1,.bx 124 [lI c.1,lI c.2.1,lI c.2.2]),(0,.bx 35 (lx35 p0))],2⟩) ?_ ?_
    ·rintro _ rfl;refine .an R (.cc hm R (fun hm=> .sr (.an R (.ret (.blkR (.seqR (.blkR (.seqR (.seqR ((m _ (h _ (oi hm).symm)).sub [] R))))))))) fun hm=>?_);refine .sr (.fa yT R (.lb nag32 R (.fa y4X R (.lb nag3 R (bS hm fun N I hm=> .c0 (yg I) cf104 R (.op (O.not Z R R) R (.an R ?_)))))));refine .cc hm R (fun hm=> .sr (.an R (.ret (.blkR (.seqR (.blkR (.seqR (.seqR ((m _ (h _ (oi hm).symm)).sub [] R))))))))) fun hm=>?_;refine .skip (.blkN (.seqN (.seq (.sr (.mv R (.bi R (.ns ?_)))))));refine .cc hm R (fun hm=> .exit (.seqX (.blkE ((k hm).sub [] R)))) fun hm=>?_;refine .skip (.seqN (.sr (.fa y1J R (.lb nag33 R (.mv R (.bi R (bS hm fun g K hm=> .ix sl33 K R (.op (O.lg (l':=[lI g.1,lI g.2.1,lI g.2.2]) ag124 Z R (.E lv124) R R R) R (.al 2 zz124 R (.st ag124.sz R (.nr (.fa y3r R (.lb nag3 R (.fa y3r R (.lb nag3 R (.bi R (.mv R ?_)))))))))))))))));refine .cut 13 (fun (t:Bool)=>((decide (c.1<g.1))||((c.1==g.1)&&(decide (c.2.1≤g.2.1))))=t) (fun t=>⟨[(70,.b t),(9,.i e),(8,.i (p0.2.2.2.length:Int)),(7,.f qT p0.2.2.2),(1,.q 0 0)],[(0,.bx 35 (lx35 p0))],3⟩) ?_ ?_
     ·rintro _ rfl;exact .ns (.cc hm R (fun hm=> .sr (.an R (.ret (.blkR (.seqR (.seqR ((m _ (h _ (oi hm).symm)).sub [] R))))))) fun hm=> .skip (.blkN ((k hm).sub [] R)))
     ·intro D;rcases Bool.eq_false_or_eq_true (decide (c.1<g.1)) with hc|hc
      ·refine .know (d:=57) R hc ?_;exact .sk R (.sk R (.sk R (.sk R (.sk R (.sk R (.op (O.skipU R R R) R (.op (O.skipU R R R) R (.op (O.skipU R R R) R (.op (O.skipU R R R) R (.op (O.skipU R R R) R (.sk R (.op (O.pkT Z R R R R) R ((D true (orT hc).symm).sub [] R)))))))))))))
      ·refine .know (d:=57) R hc ?_;refine .op (O.faP y3r (Gu.mk R R) R R) R (.op (O.ld nag3 (Gu.mk R R) R (.B R) R R) R (.op (O.faP y3r (Gu.mk R R) R R) R (.op (O.ld nag3 (Gu.mk R R) R (.B R) R R) R (.op (O.bi (Gu.mk R R) R R R R) R (.op (O.mv (Gu.mk R R) R R) R ?_)))));refine .cut 6 (fun (u:Bool)=>((c.1==g.1)&&(decide (c.2.1≤g.2.1)))=u) (fun u=>⟨[(69,.b u),(57,.b false),(9,.i e),(8,.i (p0.2.2.2.length:Int)),(7,.f qT p0.2.2.2),(1,.q 0 0)],[(0,.bx 35 (lx35 p0))],3⟩) ?_ ?_
       ·rintro _ rfl;exact .op (O.pkF Z R R R R) R ((D ((c.1==g.1)&&(decide (c.2.1≤g.2.1))) (orF hc).symm).sub [] R)
       ·intro F;rcases Bool.eq_false_or_eq_true (c.1==g.1) with hc|hc
        ·refine .know (d:=63) R hc ?_;exact .op (O.faP y4X (Gu.mk R R) R R) R (.op (O.ld nag3 (Gu.mk R R) R (.B R) R R) R (.op (O.faP y4X (Gu.mk R R) R R) R (.op (O.ld nag3 (Gu.mk R R) R (.B R) R R) R (.op (O.bi (Gu.mk R R) R R R R) R (.op (O.pkT (Gu.mk R R) R R R R) R ((F (decide (c.2.1≤g.2.1)) (andT hc).symm).sub [] R))))))
        ·refine .know (d:=63) R hc ?_;exact .sk R (.sk R (.sk R (.sk R (.sk R (.op (O.pkF (Gu.mk R R) R R R R) R ((F false (andF hc).symm).sub [] R))))))
    ·intro y;rcases Bool.eq_false_or_eq_true (((decide (c.1<0))||(decide (c.1≥p0.2.1)))||(decide (c.2.2<0))) with hc|hc
     ·refine .know (d:=30) R hc ?_;exact .sk R (.sk R (.sk R (.sk R (.sk R (.op (O.pkT Z R R R R) R ((y true (orT hc).symm).sub [] R))))))
     ·refine .know (d:=30) R hc ?_;exact .op (O.faP y4Y (Gu.mk R R) R R) R (.op (O.ld nag3 (Gu.mk R R) R (.B R) R R) R (.op (O.faP y2S (Gu.mk R R) R R) R (.op (O.ld nag3 (Gu.mk R R) R (.B R) R R) R (.op (O.bi (Gu.mk R R) R R R R) R (.op (O.pkF Z R R R R) R ((y (decide (c.2.2≥p0.2.1)) (orF hc).symm).sub [] R))))))
   ·intro x;rcases Bool.eq_false_or_eq_true ((decide (c.1<0))||(decide (c.1≥p0.2.1))) with hc|hc
    ·refine .know (d:=25) R hc ?_;exact .sk R (.sk R (.sk R (.op (O.pkT Z R R R R) R ((x true (orT hc).symm).sub [] R))))
    ·refine .know (d:=25) R hc ?_;exact .op (O.faP y4Y (Gu.mk R R) R R) R (.op (O.ld nag3 (Gu.mk R R) R (.B R) R R) R (.op (O.bi (Gu.mk R R) R R R R) R (.op (O.pkF Z R R R R) R ((x (decide (c.2.2<0)) (orF hc).symm).sub [] R))))
  ·intro w;rcases Bool.eq_false_or_eq_true (decide (c.1<0)) with hc|hc
   ·refine .know (d:=18) R hc ?_;exact .sk R (.sk R (.sk R (.sk R (.sk R (.op (O.pkT Z R R R R) R ((w true (orT hc).symm).sub [] R))))))
   ·refine .know (d:=18) R hc ?_;exact .op (O.faP y3r (Gu.mk R R) R R) R (.op (O.ld nag3 (Gu.mk R R) R (.B R) R R) R (.op (O.faP y2S (Gu.mk R R) R R) R (.op (O.ld nag3 (Gu.mk R R) R (.B R) R R) R (.op (O.bi (Gu.mk R R) R R R R) R (.op (O.pkF Z R R R R) R ((w (decide (c.1≥p0.2.1)) (orF hc).symm).sub [] R))))))
def y2b(p0:AutT):Option Int:=
 (y2m p0.1 32).bind fun a=>
 if(a != 0) then
  some a
 else
  if decide (p0.2.1<0) then
   some 2
  else
   if decide (p0.2.1>4096) then
    some 3
   else
    (y2m p0.2.2.1 p0.2.1).bind fun b=>
    if(b != 0) then
     some b
    else
     (y4C p0).bind fun c=>
     some c
theorem y6y{p0:AutT}{r:Int}(hm:y2b p0=some r):
    F0 101 [.a (lx35 p0)] [] (.i r) []:=by
  unfold y2b at hm;refine Fw.mk2 Tryz.func101 Tryz.ntmps101 R (fun C=>?_) R;refine .sr (.bo 0 R (.an R (.seq (.sr (.fa yT R (.lb nag32 R (bS hm fun e b hm=> .c0 (y7O b) cf164 R (.an R (.sr (.mv R (.bi R (.ns ?_))))))))))));refine .cc hm R (fun hm=>?_) fun hm=>?_
  ·refine .sr (.mv R (.an R (.ret (.seqR ?_))));cases hm;exact .rr [] Tryz.results101 (.tmp R .nil) R I3 trivial
  ·refine .skip (.seqN (.seq (.block (.sr (.fa y2S R (.lb nag3 R (.bi R (.an R ?_))))))));refine .cc hm R (fun hm=>?_) fun hm=>?_
   ·refine .sr (.an R (.ret (.blkR (.seqR ?_))));cases hm;exact .rr [] Tryz.results101 (.tmp R .nil) R I3 trivial
   ·refine .sr (.fa y2S R (.lb nag3 R (.bi R (.an R ?_))));refine .cc hm R (fun hm=>?_) fun hm=>?_
    ·refine .sr (.an R (.ret (.blkR (.seqR ?_))));cases hm;exact .rr [] Tryz.results101 (.tmp R .nil) R I3 trivial
    ·refine .skip (.blkN (.seqN (.seq (.sr (.fa y6N R (.lb nag32 R (.fa y2S R (.lb nag3 R (bS hm fun f c hm=> .c0 (y7O c) cf164 R (.an R (.sr (.mv R (.bi R (.ns ?_))))))))))))));refine .cc hm R (fun hm=>?_) fun hm=>?_
     ·refine .sr (.mv R (.an R (.ret (.seqR ?_))));cases hm;exact .rr [] Tryz.results101 (.tmp R .nil) R I3 trivial
     ·refine .skip (.seqN (.sr (.op (O.lg (l':=(lx35 p0)) ag35 Z R (.B R) R R R) R (bS hm fun g d hm=> .c0 (y9T d) cf165 R (.an R (.ret ?_))))));cases hm;exact .rr [] Tryz.results101 (.tmp R .nil) R I3 trivial
def yp(p2:Bool→Bool→Option Bool)(a:List Int×List Int×List Int)(d:Bool)(e:Bool)(b:List Int)(c:List Int)(f:Int):Option ((List Int×List Int×List Int)⊕(List Int)):=
 (p2 d e).bind fun g=>
 if g then
  (app a.1 ([f]:List Int)).bind fun h=>
  some (.inl (h,b,c))
 else
  some (.inl (a.1,b,c))
def yi(p2:Bool→Bool→Option Bool)(a:List Int×List Int×List Int)(c:Bool)(b:Bool)(d:List Int)(e:Int):Option ((List Int×List Int×List Int)⊕(List Int)):=
 if b then
  (idx a.2.2 0).bind fun f=>
  (slc a.2.2 1 (a.2.2.length:Int)).bind fun g=>
  yp p2 a c b d g f
 else
  yp p2 a c b d a.2.2 e
def yl(p2:Bool→Bool→Option Bool)(a:List Int×List Int×List Int)(b:Bool)(c:Bool):Option ((List Int×List Int×List Int)⊕(List Int)):=
 if b then
  (idx a.2.1 0).bind fun d=>
  (slc a.2.1 1 (a.2.1.length:Int)).bind fun e=>
  yi p2 a b c e d
 else
  yi p2 a b c a.2.1 0
def yw(p2:Bool→Bool→Option Bool)(a:List Int×List Int×List Int)(b:Bool):Option ((List Int×List Int×List Int)⊕(List Int)):=
 if decide ((a.2.2.length:Int)>0) then
  if((a.2.1.length:Int)==0) then
   yl p2 a b true
  else
   (idx a.2.2 0).bind fun c=>
   (idx a.2.1 0).bind fun d=>
   yl p2 a b (decide (c≤d))
 else
  yl p2 a b false
def yf(p2:Bool→Bool→Option Bool)(a:List Int×List Int×List Int):Option ((List Int×List Int×List Int)⊕(List Int)):=
 if((decide ((a.2.1.length:Int)>0))||(decide ((a.2.2.length:Int)>0))) then
  if decide ((a.2.1.length:Int)>0) then
   if((a.2.2.length:Int)==0) then
    yw p2 a true
   else
    (idx a.2.1 0).bind fun b=>
    (idx a.2.2 0).bind fun c=>
    yw p2 a (decide (b≤c))
  else
   yw p2 a false
 else
  some (.inr a.1)
def y3g(p0:List Int)(p1:List Int)(p2:Bool→Bool→Option Bool):Option (List Int):=
 (iter (yf p2) (([]:List Int),p0,p1)).bind fun a=>
 some a
theorem y7t{p1:List Int}{p2:Bool→Bool→Option Bool}{r:List Int}(hm:y3g p0 p1 p2=some r):
  F0 75 [.f qI p0,.f qI p1,.o (lW Tryz.prog (fun (x:Bool×Bool)=> [.b x.1,.b x.2]) (fun (r:Bool)=> .b r) (fun x=>p2 x.1 x.2))] [] (.h 0) [ROW qI 3 r]:=by
 unfold y3g at hm;refine Fw.mk2 Tryz.func75 Tryz.ntmps75 R (fun C=>?_) R;refine .sr (.an R (.sr (.an R (.seq (.block (bS hm fun L P hm=>?_))))));refine .cut1 (z:= .exit 0) L (fun (L:List Int)=>⟨[(7,.h 0)],[(0,ROW qI 3 L)],1⟩) ?_ fun a3=>?_
 ·skip
  refine .blkE (.seqN (.sr (.mv R (.an R (.ret ?_)))));cases hm;exact .rr [0] Tryz.results75 (.tmp R .nil) R I3 ⟨⟨_,R,I4⟩,trivial⟩
 refine .nlg qI 3 7 0 R R (.iter (fun (a:List Int×List Int×List Int)=>⟨[(7,.h 0),(0,.f qI a.2.1),(1,.f qI a.2.2),(2,.o (lW Tryz.prog (fun (x:Bool×Bool)=> [.b x.1,.b x.2]) (fun (r:Bool)=> .b r) (fun x=>p2 x.1 x.2)))],[(0,ROW qI 3 a.1)],1⟩) P [] R ?_);intro a l hm K a2;unfold yf at hm;refine .seq (.sr (.mv R (.ln sl32 R (.bi R (.mv R ?_)))));refine .cut 4 (fun (M:Bool)=>((decide ((a.2.1.length:Int)>0))||(decide ((a.2.2.length:Int)>0)))=M) (fun M=>⟨[(18,.b M),(7,.h 0),(0,.f qI a.2.1),(1,.f qI a.2.2),(2,.o (lW Tryz.prog (fun (x:Bool×Bool)=> [.b x.1,.b x.2]) (fun (r:Bool)=> .b r) (fun x=>p2 x.1 x.2)))],[(0,ROW qI 3 a.1)],1⟩) ?_ ?_
 ·rintro _ rfl;refine .ns ?_;refine .cc hm R (fun hm=>?_) fun hm=> .exit (.seqX (.seqX ((a3 _ (a2 _ (oi hm).symm)).sub [] R)));refine .skip (.seqN (.block ?_));refine .join1 (fun (e:Bool)=>yw p2 a e=some l) (fun e=>⟨[(8,.b e),(7,.h 0),(0,.f qI a.2.1),(1,.f qI a.2.2),(2,.o (lW Tryz.prog (fun (x:Bool×Bool)=> [.b x.1,.b x.2]) (fun (r:Bool)=> .b r) (fun x=>p2 x.1 x.2)))],[(0,ROW qI 3 a.1)],1⟩) ?_ ?_
  ·intro e hm;unfold yw at hm;refine .join1 (fun (g:Bool)=>yl p2 a e g=some l) (fun g=>⟨[(9,.b g),(8,.b e),(7,.h 0),(0,.f qI a.2.1),(1,.f qI a.2.2),(2,.o (lW Tryz.prog (fun (x:Bool×Bool)=> [.b x.1,.b x.2]) (fun (r:Bool)=> .b r) (fun x=>p2 x.1 x.2)))],[(0,ROW qI 3 a.1)],1⟩) ?_ ?_
   ·intro g hm;unfold yl at hm;refine .sr (.an R ?_);refine .join2 (fun (j:List Int) (B:Int)=>yi p2 a e g j B=some l) (fun j B=>⟨[(0,.f qI j),(10,.i B),(9,.b g),(8,.b e),(7,.h 0),(1,.f qI a.2.2),(2,.o (lW Tryz.prog (fun (x:Bool×Bool)=> [.b x.1,.b x.2]) (fun (r:Bool)=> .b r) (fun x=>p2 x.1 x.2)))],[(0,ROW qI 3 a.1)],1⟩) ?_ ?_
    ·intro j B hm;unfold yi at hm;refine .join2 (fun (w:List Int) (m:Int)=>yp p2 a e g j w m=some l) (fun w m=>⟨[(1,.f qI w),(10,.i m),(0,.f qI j),(9,.b g),(8,.b e),(7,.h 0),(2,.o (lW Tryz.prog (fun (x:Bool×Bool)=> [.b x.1,.b x.2]) (fun (r:Bool)=> .b r) (fun x=>p2 x.1 x.2)))],[(0,ROW qI 3 a.1)],1⟩) ?_ ?_
     ·intro w m hm;unfold yp at hm;refine .sr (.mv R (.mv R (.mv R (bS hm fun b2 Q hm=>?_))));refine .op (O.fv (y:=(e,g)) R R R Z R Q R R) R ?_;exact .ns (.cc hm R (fun hm=> .reg (.mv R (.mv R (.op (O.bsF (r:=qI) (zs:=([m]:List Int)) bs32 R R Z R R R (.c .k .n) R R R) R (bS hm fun b3 S hm=> .op (O.ap 1 Tryz.underlying32 el3 R R Z R R (.fr R) S R) R (.sa R (.nil (.blkN ((K _ (oi hm).symm).sub [(0,1)] R))))))))) fun hm=> .skip (.blkN ((K _ (oi hm).symm).sub [] R)))
     ·intro F;refine .sr (.mv R (.ns ?_));refine .cc hm R (fun hm=>?_) fun hm=> .skip ((F _ _ hm).sub [] R);refine .sub (τ:=⟨[(0,.f qI j),(9,.b g),(8,.b e),(7,.h 0),(1,.f qI a.2.2),(2,.o (lW Tryz.prog (fun (x:Bool×Bool)=> [.b x.1,.b x.2]) (fun (r:Bool)=> .b r) (fun x=>p2 x.1 x.2)))],[(0,ROW qI 3 a.1)],1⟩) ?_ [] R;refine bS hm fun a4 T hm=>bS hm fun a5 U hm=>?_;refine .drg 1 [(1,[]),(1,[oT]),(1,[oT,oT]),(1,[]),(1,[oF,oF,oF,oT]),(1,tT 3),(1,tT 6)] [_,_,_,_,_,_,_] ⟨[(1,.f qI a5),(10,.i a4),(0,.f qI j),(9,.b g),(8,.b e),(7,.h 0),(2,.o (lW Tryz.prog (fun (x:Bool×Bool)=> [.b x.1,.b x.2]) (fun (r:Bool)=> .b r) (fun x=>p2 x.1 x.2)))],[(0,ROW qI 3 a.1)],1⟩ ⟨O.mv Z R R,O.ix sl32 Z R R T R,O.ld nag3 Z R (.E lv3) R R,O.mv Z R R,O.sf sl32 Z R R U R,O.as Z R R,O.as Z R R,trivial⟩ (by kernel_rfl) R ?_;exact(F _ _ hm).sub [] R
    ·intro D;refine .sr (.mv R (.ns ?_));refine .cc hm R (fun hm=>?_) fun hm=> .skip ((D _ _ hm).sub [] R);refine .sub (τ:=⟨[(9,.b g),(8,.b e),(7,.h 0),(0,.f qI a.2.1),(1,.f qI a.2.2),(2,.o (lW Tryz.prog (fun (x:Bool×Bool)=> [.b x.1,.b x.2]) (fun (r:Bool)=> .b r) (fun x=>p2 x.1 x.2)))],[(0,ROW qI 3 a.1)],1⟩) ?_ [] R;refine bS hm fun a6 V hm=>bS hm fun a7 W hm=>?_;refine .drg 1 [(1,[]),(1,[oT]),(1,[oT,oT]),(1,[]),(1,[oF,oF,oF,oT]),(1,tT 3),(1,tT 6)] [_,_,_,_,_,_,_] ⟨[(0,.f qI a7),(10,.i a6),(9,.b g),(8,.b e),(7,.h 0),(1,.f qI a.2.2),(2,.o (lW Tryz.prog (fun (x:Bool×Bool)=> [.b x.1,.b x.2]) (fun (r:Bool)=> .b r) (fun x=>p2 x.1 x.2)))],[(0,ROW qI 3 a.1)],1⟩ ⟨O.mv Z R R,O.ix sl32 Z R R V R,O.ld nag3 Z R (.E lv3) R R,O.mv Z R R,O.sf sl32 Z R R W R,O.as Z R R,O.as Z R R,trivial⟩ (by kernel_rfl) R ?_;exact(D _ _ hm).sub [] R
   ·intro q;refine .sub (τ:=⟨[(8,.b e),(7,.h 0),(0,.f qI a.2.1),(1,.f qI a.2.2),(2,.o (lW Tryz.prog (fun (x:Bool×Bool)=> [.b x.1,.b x.2]) (fun (r:Bool)=> .b r) (fun x=>p2 x.1 x.2)))],[(0,ROW qI 3 a.1)],1⟩) ?_ [] R;refine .drP 3 [(1,[]),(1,[oT]),(1,[oT,oT])] [_,_,_] ⟨O.mv Z R R,O.len sl32 Z R R,O.bi Z R R R R,trivial⟩ fun G=>?_;rcases ifS hm with ⟨s,hm⟩|⟨s,hm⟩
    ·skip
     refine .drX G 7 [(1,tT 3),(1,tT 4),(1,tT 5),(1,tT 6)] [_,_,_,_] ⟨O.kn (O.mv Z R R) s,O.mv (Gu.mk R R) R R,O.len sl32 (Gu.mk R R) R R,O.bi (Gu.mk R R) R R R R,trivial⟩ (by kernel_rfl) fun H=>?_;rcases ifS hm with ⟨t,hm⟩|⟨t,hm⟩
     ·skip
      exact .drF H [(1,tT 7),(1,tT 8),(1,tT 9),(1,tT 10),(1,tT 8),(1,tA 8 (fA 3 (tT 1))),(1,tA 8 (fA 3 (tT 2))),(1,tT 14),(1,tT 15),(1,tT 16),(1,tT 17)] [_,_,_,_,_,_,_,_,_,_,_] ⟨[(9,.b true),(8,.b e),(7,.h 0),(0,.f qI a.2.1),(1,.f qI a.2.2),(2,.o (lW Tryz.prog (fun (x:Bool×Bool)=> [.b x.1,.b x.2]) (fun (r:Bool)=> .b r) (fun x=>p2 x.1 x.2)))],[(0,ROW qI 3 a.1)],1⟩ ⟨O.kn (O.mv (Gu.mk R R) R R) t,O.skip R R R R,O.skip R R R R,O.skip R R R R,O.skip R R R R,O.skip R R R R,O.skip R R R R,O.skip R R R R,O.pkT (Gu.mk R R) R R R R,O.pkT Z R R R R,O.as Z R R,trivial⟩ (by kernel_rfl) R ((q _ hm).sub [] R)
     ·skip
      exact bS hm fun a8 X hm=>bS hm fun a9 Y hm=> .drF H [(1,tT 7),(1,tT 8),(1,tT 9),(1,tT 10),(1,tT 8),(1,tA 8 (fA 3 (tT 1))),(1,tA 8 (fA 3 (tT 2))),(1,tT 14),(1,tT 15),(1,tT 16),(1,tT 17)] [_,_,_,_,_,_,_,_,_,_,_] ⟨[(9,.b (decide (a8≤a9))),(8,.b e),(7,.h 0),(0,.f qI a.2.1),(1,.f qI a.2.2),(2,.o (lW Tryz.prog (fun (x:Bool×Bool)=> [.b x.1,.b x.2]) (fun (r:Bool)=> .b r) (fun x=>p2 x.1 x.2)))],[(0,ROW qI 3 a.1)],1⟩ ⟨O.kn (O.mv (Gu.mk R R) R R) t,O.mv (Gu.mk R R) R R,O.ix sl32 (Gu.mk R R) R R X R,O.ld nag3 (Gu.mk R R) R (.E lv3) R R,O.mv (Gu.mk R R) R R,O.ix sl32 (Gu.mk R R) R R Y R,O.ld nag3 (Gu.mk R R) R (.E lv3) R R,O.bi (Gu.mk R R) R R R R,O.pkF (Gu.mk R R) R R R R,O.pkT Z R R R R,O.as Z R R,trivial⟩ (by kernel_rfl) R ((q _ hm).sub [] R)
    ·skip
     exact .drF G [(1,tT 3),(1,tT 4),(1,tT 5),(1,tT 6),(1,tT 7),(1,tT 8),(1,tT 9),(1,tT 10),(1,tT 8),(1,tA 8 (fA 3 (tT 1))),(1,tA 8 (fA 3 (tT 2))),(1,tT 14),(1,tT 15),(1,tT 16),(1,tT 17)] [_,_,_,_,_,_,_,_,_,_,_,_,_,_,_] ⟨[(9,.b false),(8,.b e),(7,.h 0),(0,.f qI a.2.1),(1,.f qI a.2.2),(2,.o (lW Tryz.prog (fun (x:Bool×Bool)=> [.b x.1,.b x.2]) (fun (r:Bool)=> .b r) (fun x=>p2 x.1 x.2)))],[(0,ROW qI 3 a.1)],1⟩ ⟨O.kn (O.mv Z R R) s,O.skip R R R R,O.skip R R R R,O.skip R R R R,O.skip R R R R,O.skipU R R R,O.skipU R R R,O.skipU R R R,O.skipU R R R,O.skipU R R R,O.skipU R R R,O.skipU R R R,O.skip R R R R,O.pkF Z R R R R,O.as Z R R,trivial⟩ (by kernel_rfl) R ((q _ hm).sub [] R)
  ·intro p;refine .sub (τ:=⟨[(7,.h 0),(0,.f qI a.2.1),(1,.f qI a.2.2),(2,.o (lW Tryz.prog (fun (x:Bool×Bool)=> [.b x.1,.b x.2]) (fun (r:Bool)=> .b r) (fun x=>p2 x.1 x.2)))],[(0,ROW qI 3 a.1)],1⟩) ?_ [] R;refine .drP 3 [(1,[]),(1,[oT]),(1,[oT,oT])] [_,_,_] ⟨O.mv Z R R,O.len sl32 Z R R,O.bi Z R R R R,trivial⟩ fun I=>?_;rcases ifS hm with ⟨u,hm⟩|⟨u,hm⟩
   ·skip
    refine .drX I 7 [(1,tT 3),(1,tT 4),(1,tT 5),(1,tT 6)] [_,_,_,_] ⟨O.kn (O.mv Z R R) u,O.mv (Gu.mk R R) R R,O.len sl32 (Gu.mk R R) R R,O.bi (Gu.mk R R) R R R R,trivial⟩ (by kernel_rfl) fun J=>?_;rcases ifS hm with ⟨v,hm⟩|⟨v,hm⟩
    ·skip
     exact .drF J [(1,tT 7),(1,tT 8),(1,tT 9),(1,tT 10),(1,tT 8),(1,tA 8 (fA 3 (tT 1))),(1,tA 8 (fA 3 (tT 2))),(1,tT 14),(1,tT 15),(1,tT 16),(1,tT 17)] [_,_,_,_,_,_,_,_,_,_,_] ⟨[(8,.b true),(7,.h 0),(0,.f qI a.2.1),(1,.f qI a.2.2),(2,.o (lW Tryz.prog (fun (x:Bool×Bool)=> [.b x.1,.b x.2]) (fun (r:Bool)=> .b r) (fun x=>p2 x.1 x.2)))],[(0,ROW qI 3 a.1)],1⟩ ⟨O.kn (O.mv (Gu.mk R R) R R) v,O.skip R R R R,O.skip R R R R,O.skip R R R R,O.skip R R R R,O.skip R R R R,O.skip R R R R,O.skip R R R R,O.pkT (Gu.mk R R) R R R R,O.pkT Z R R R R,O.as Z R R,trivial⟩ (by kernel_rfl) R ((p _ hm).sub [] R)
    ·skip
     exact bS hm fun b0 a0 hm=>bS hm fun b1 a1 hm=> .drF J [(1,tT 7),(1,tT 8),(1,tT 9),(1,tT 10),(1,tT 8),(1,tA 8 (fA 3 (tT 1))),(1,tA 8 (fA 3 (tT 2))),(1,tT 14),(1,tT 15),(1,tT 16),(1,tT 17)] [_,_,_,_,_,_,_,_,_,_,_] ⟨[(8,.b (decide (b0≤b1))),(7,.h 0),(0,.f qI a.2.1),(1,.f qI a.2.2),(2,.o (lW Tryz.prog (fun (x:Bool×Bool)=> [.b x.1,.b x.2]) (fun (r:Bool)=> .b r) (fun x=>p2 x.1 x.2)))],[(0,ROW qI 3 a.1)],1⟩ ⟨O.kn (O.mv (Gu.mk R R) R R) v,O.mv (Gu.mk R R) R R,O.ix sl32 (Gu.mk R R) R R a0 R,O.ld nag3 (Gu.mk R R) R (.E lv3) R R,O.mv (Gu.mk R R) R R,O.ix sl32 (Gu.mk R R) R R a1 R,O.ld nag3 (Gu.mk R R) R (.E lv3) R R,O.bi (Gu.mk R R) R R R R,O.pkF (Gu.mk R R) R R R R,O.pkT Z R R R R,O.as Z R R,trivial⟩ (by kernel_rfl) R ((p _ hm).sub [] R)
   ·skip
    exact .drF I [(1,tT 3),(1,tT 4),(1,tT 5),(1,tT 6),(1,tT 7),(1,tT 8),(1,tT 9),(1,tT 10),(1,tT 8),(1,tA 8 (fA 3 (tT 1))),(1,tA 8 (fA 3 (tT 2))),(1,tT 14),(1,tT 15),(1,tT 16),(1,tT 17)] [_,_,_,_,_,_,_,_,_,_,_,_,_,_,_] ⟨[(8,.b false),(7,.h 0),(0,.f qI a.2.1),(1,.f qI a.2.2),(2,.o (lW Tryz.prog (fun (x:Bool×Bool)=> [.b x.1,.b x.2]) (fun (r:Bool)=> .b r) (fun x=>p2 x.1 x.2)))],[(0,ROW qI 3 a.1)],1⟩ ⟨O.kn (O.mv Z R R) u,O.skip R R R R,O.skip R R R R,O.skip R R R R,O.skip R R R R,O.skipU R R R,O.skipU R R R,O.skipU R R R,O.skipU R R R,O.skipU R R R,O.skipU R R R,O.skipU R R R,O.skip R R R R,O.pkF Z R R R R,O.as Z R R,trivial⟩ (by kernel_rfl) R ((p _ hm).sub [] R)
 ·intro N;rcases Bool.eq_false_or_eq_true (decide ((a.2.1.length:Int)>0)) with hc|hc
  ·refine .know (d:=14) R hc ?_;exact .sk R (.sk R (.sk R (.op (O.pkT Z R R R R) R ((N true (orT hc).symm).sub [] R))))
  ·refine .know (d:=14) R hc ?_;exact .op (O.mv (Gu.mk R R) R R) R (.op (O.len sl32 (Gu.mk R R) R R) R (.op (O.bi (Gu.mk R R) R R R R) R (.op (O.pkF Z R R R R) R ((N (decide ((a.2.2.length:Int)>0)) (orF hc).symm).sub [] R))))
def yB(p0:Bool)(p1:Bool):Option Bool:=
 some (p0&&(!p1))
theorem yaV{p0:Bool}{p1:Bool}{r:Bool}(hm:yB p0 p1=some r):
  F0 76 [.b p0,.b p1] [] (.b r) []:=by
 unfold yB at hm;refine Fw.mk2 Tryz.func76 Tryz.ntmps76 R (fun C=>?_) R;refine .sr (.an R (.sr (.mv R (.mv R ?_))));refine .cut 3 (fun (a:Bool)=>(p0&&(!p1))=a) (fun a=>⟨[(9,.b a)],[],0⟩) ?_ ?_
 ·rintro _ rfl;refine .an R (.ret ?_);cases hm;exact .rr [] Tryz.results76 (.tmp R .nil) R I3 trivial
 ·intro c;rcases Bool.eq_false_or_eq_true p0 with hc|hc
  ·refine .know (d:=6) R hc ?_;exact .op (O.mv (Gu.mk R R) R R) R (.op (O.not (Gu.mk R R) R R) R (.op (O.pkT Z R R R R) R ((c (!p1) (andT hc).symm).sub [] R)))
  ·refine .know (d:=6) R hc ?_;exact .sk R (.sk R (.op (O.pkF Z R R R R) R ((c false (andF hc).symm).sub [] R)))
def y3P(p0:List Int)(p1:List Int):Option (List Int):=
 (y3g p0 p1 yB).bind fun a=>
 some a
theorem y9d{p1:List Int}{r:List Int}(hm:y3P p0 p1=some r):
  F0 17 [.f qI p0,.f qI p1] [] (.h 0) [ROW qI 3 r]:=by
 unfold y3P at hm;refine Fw.mk2 Tryz.func17 Tryz.ntmps17 R (fun C=>?_) R;refine .sr (.an R (.sr (.mv R (.mv R (bS hm fun b a hm=> .op (O.cac (r':= .h 0) [0] [(0,ROW qI 3 b)] (some 1) (y7t a) cf75 R R Z R R ⟨⟨R,.rf⟩,⟨R,.rf⟩,⟨R,(.c (.fn cf76 (fun x r h=>yaV h) (fun _=>R)) .n)⟩,trivial⟩ R ⟨⟨_,R,I4⟩,trivial⟩ I3 R) R (.an R (.ret ?_)))))));cases hm;exact .rr [0] Tryz.results17 (.tmp R .nil) R I3 ⟨⟨_,R,I4⟩,trivial⟩
def y1c(p0:List Int)(p1:List Int):Option Bool:=
 (y3P p0 p1).bind fun a=>
 some ((a.length:Int)==0)
theorem y7i{p1:List Int}{r:Bool}(hm:y1c p0 p1=some r):
  F0 26 [.f qI p0,.f qI p1] [] (.b r) []:=by
 unfold y1c at hm;refine Fw.mk2 Tryz.func26 Tryz.ntmps26 R (fun C=>?_) R;refine .sr (.an R (.sr (.mv R (.mv R (bS hm fun c a hm=> .op (O.ca (r':= .h 0) [0] [(0,ROW qI 3 c)] (some 1) (y9d a) cf17 R R Z R R R R ⟨⟨_,R,I4⟩,trivial⟩ I3 R) R (.op (O.lenH sl32 Z R R R) R (.bi R (.an R (.ret ?_)))))))));cases hm;exact .rr [] Tryz.results26 (.tmp R .nil) R I3 trivial
def y7P(p0:List Int)(p1:Int)(a:Int):Option (Int⊕(Unit⊕Int)):=
 if decide (a<(p0.length:Int)) then
  (idx p0 a).bind fun b=>
  if((decide (b<0))||(decide (b≥p1))) then
   some (.inr (.inr (2)))
  else
   (if decide (a>0) then
    (idx p0 (W (a-1))).bind fun d=>
    some (decide (b≤d))
   else
    some false).bind fun c=>
   if c then
    some (.inr (.inr (5)))
   else
    some (.inl (W (a+1)))
 else
  some (.inr (.inl ()))
def y1M(p0:List Int)(p1:Int):Option Int:=
 (iter (y7P p0 p1) 0).bind fun a=>
 match a with
 | .inl c=>
  some 0
 | .inr (b)=>
  some b
theorem y4Z{r:Int}(hm:y1M p0 p1=some r):
  F0 25 [.f qI p0,.i p1] [] (.i r) []:=by
 unfold y1M at hm;refine Fw.mk2 Tryz.func25 Tryz.ntmps25 R (fun C=>?_) R;refine .sr (.an R (.seq (.sr (.mv R (.ln sl32 R (.mv R (.ns (.block (bS hm fun o p hm=>?_)))))))));refine .cutU (z:= .exit 0) (fun h=> .inl h=o) (fun (h:Unit)=>⟨[],[],0⟩) ?_ fun u=>?_
 ·rintro h rfl;dsimp only at hm;refine .blkE (.seqN (.sr (.an R (.ret ?_))));cases hm;exact .rr [] Tryz.results25 (.tmp R .nil) R I3 trivial
 refine .cutU (z:= .ret) (fun g=> .inr (g)=o) (fun (g:Int)=>⟨[(4,.i g)],[],0⟩) ?_ fun n=>?_
 ·rintro g rfl;dsimp only at hm;refine .blkR (.seqR ?_);cases hm;exact .rr [] Tryz.results25 (.tmp R .nil) R I3 trivial
 refine .iter (fun (a:Int)=>⟨[(9,.i a),(8,.i (p0.length:Int)),(7,.f qI p0),(0,.f qI p0),(1,.i p1)],[],0⟩) p [] R ?_;intro a x hm t e;unfold y7P at hm;refine .sr (.bi R (.ns (.seq ?_)));refine .cc hm R (fun hm=>?_) fun hm=> .exit (.seqX (.seqX ((u _ (e _ (oi hm).symm)).sub [] R)));refine .skip (.seqN (.seq (.block (.sr (.mv R (bS hm fun c q hm=> .ix sl32 q R (.le nag3 lv3 R (.sa R (.an R (.seq (.sr (.mv R (.bi R (.mv R ?_))))))))))))));refine .cut 4 (fun (j:Bool)=>((decide (c<0))||(decide (c≥p1)))=j) (fun j=>⟨[(20,.b j),(6,.i c),(5,.i a),(9,.i a),(8,.i (p0.length:Int)),(7,.f qI p0),(0,.f qI p0),(1,.i p1)],[],0⟩) ?_ ?_
 ·rintro _ rfl;refine .ns (.cc hm R (fun hm=> .sr (.an R (.ret (.seqR (.blkR (.seqR (.seqR ((n _ (e _ (oi hm).symm)).sub [] R)))))))) fun hm=>?_);refine .skip (.seqN (.sr (.mv R (.bi R (.mv R (bS hm fun v eb19 hm=>?_))))));refine .cut 8 (fun (k:Bool)=>v=k) (fun k=>⟨[(31,.b k),(9,.i a),(8,.i (p0.length:Int)),(7,.f qI p0),(0,.f qI p0),(1,.i p1)],[],0⟩) ?_ ?_
  ·rintro _ rfl;exact .ns (.cc hm R (fun hm=> .sr (.an R (.ret (.blkR (.seqR (.seqR ((n _ (e _ (oi hm).symm)).sub [] R))))))) fun hm=> .skip (.blkN (.seqN (.reg (.bi R (.mv R (.nil ((t _ (oi hm).symm).sub [] R))))))))
  ·intro m;rcases ifS eb19 with ⟨hc,hm⟩|⟨hc,hm⟩
   ·refine .know (d:=23) R hc ?_;exact .op (O.mv (Gu.mk R R) R R) R (.op (O.mv (Gu.mk R R) R R) R (.op (O.mv (Gu.mk R R) R R) R (.op (O.bi (Gu.mk R R) R R R R) R (bS hm fun w s hm=> .op (O.ix sl32 (Gu.mk R R) R R s R) R (.op (O.ld nag3 (Gu.mk R R) R (.E lv3) R R) R (.op (O.bi (Gu.mk R R) R R R R) R (.op (O.pkT Z R R R R) R ((m (decide (c≤w)) (oi hm).symm).sub [] R))))))))
   ·refine .know (d:=23) R hc ?_;exact .sk R (.sk R (.sk R (.sk R (.sk R (.sk R (.sk R (.op (O.pkF Z R R R R) R ((m false (oi hm).symm).sub [] R))))))))
 ·intro l;rcases Bool.eq_false_or_eq_true (decide (c<0)) with hc|hc
  ·refine .know (d:=16) R hc ?_;exact .sk R (.sk R (.sk R (.op (O.pkT Z R R R R) R ((l true (orT hc).symm).sub [] R))))
  ·refine .know (d:=16) R hc ?_;exact .op (O.mv (Gu.mk R R) R R) R (.op (O.mv (Gu.mk R R) R R) R (.op (O.bi (Gu.mk R R) R R R R) R (.op (O.pkF Z R R R R) R ((l (decide (c≥p1)) (orF hc).symm).sub [] R))))
def y2n(p0:List AutT)(a:Int):Option (Int⊕(Unit⊕Int)):=
 if decide (a<(p0.length:Int)) then
  (idx p0 a).bind fun c=>
  (y2b c).bind fun b=>
  if(b != 0) then
   some (.inr (.inr (b)))
  else
   some (.inl (W (a+1)))
 else
  some (.inr (.inl ()))
def y5n(p0:List AutT):Option Int:=
 if decide ((p0.length:Int)>12) then
  some 3
 else
  (iter (y2n p0) 0).bind fun a=>
  match a with
  | .inl c=>
   some 0
  | .inr (b)=>
   some b
theorem ybV{p0:List AutT}{r:Int}(hm:y5n p0=some r):
    F0 95 [.f rE35 p0] [] (.i r) []:=by
  unfold y5n at hm;refine Fw.mk2 Tryz.func95 Tryz.ntmps95 R (fun C=>?_) R;refine .sr (.an R (.seq (.sr (.mv R (.ln sl66 R (.bi R (.ns ?_)))))));refine .cc hm R (fun hm=>?_) fun hm=>?_
  ·refine .sr (.an R (.ret (.seqR ?_)));cases hm;exact .rr [] Tryz.results95 (.tmp R .nil) R I3 trivial
  ·refine .skip (.seqN (.seq (.sr (.mv R (.ln sl66 R (.mv R (.ns (.block (bS hm fun n k hm=>?_)))))))));refine .cutU (z:= .exit 0) (fun h=> .inl h=n) (fun (h:Unit)=>⟨[],[],0⟩) ?_ fun K8=>?_
   · rintro h rfl;dsimp only at hm;refine .blkE (.seqN (.sr (.an R (.ret ?_))));cases hm;exact .rr [] Tryz.results95 (.tmp R .nil) R I3 trivial
   refine .cutU (z:= .ret) (fun a=> .inr (a)=n) (fun (a:Int)=>⟨[(2,.i a)],[],0⟩) ?_ fun j=>?_
   · rintro a rfl;dsimp only at hm;refine .blkR (.seqR ?_);cases hm;exact .rr [] Tryz.results95 (.tmp R .nil) R I3 trivial
   refine .iter (fun (c:Int)=>⟨[(11,.i c),(10,.i (p0.length:Int)),(9,.f rE35 p0)],[],0⟩) k [] R ?_;intro c o hm m b;unfold y2n at hm;refine .sr (.bi R (.ns (.seq ?_)));refine .cc hm R (fun hm=>?_) fun hm=> .exit (.seqX (.seqX ((K8 _ (b _ (oi hm).symm)).sub [] R)));refine .skip (.seqN (.seq (.block (.sr (bS hm fun d g hm=> .ix sl66 g R (.op (O.lg (l':=(lx35 d)) ag35 Z R (.E lv35) R R R) R (.al 0 zz35 R (.st ag35.sz R (.nr (.op (O.lg (l':=(lx35 d)) ag35 Z R (.B R) R R R) R (bS hm fun p e hm=> .c0 (y6y e) cf101 R (.an R (.sr (.mv R (.bi R (.ns ?_))))))))))))))));exact .cc hm R (fun hm=> .sr (.mv R (.an R (.ret (.blkR (.seqR (.seqR ((j _ (b _ (oi hm).symm)).sub [] R)))))))) fun hm=> .skip (.blkN (.seqN (.reg (.bi R (.mv R (.nil ((m _ (oi hm).symm).sub [] R)))))))
def yE(p0:Bool)(p1:Bool):Option Bool:=
 some (p0||p1)
theorem yaW{p0:Bool}{p1:Bool}{r:Bool}(hm:yE p0 p1=some r):
  F0 237 [.b p0,.b p1] [] (.b r) []:=by
 unfold yE at hm;refine Fw.mk2 Tryz.func237 Tryz.ntmps237 R (fun C=>?_) R;refine .sr (.an R (.sr (.mv R (.mv R ?_))));refine .cut 2 (fun (a:Bool)=>(p0||p1)=a) (fun a=>⟨[(8,.b a)],[],0⟩) ?_ ?_
 ·rintro _ rfl;refine .an R (.ret ?_);cases hm;exact .rr [] Tryz.results237 (.tmp R .nil) R I3 trivial
 ·intro c;rcases Bool.eq_false_or_eq_true p0 with hc|hc
  ·refine .know (d:=6) R hc ?_;exact .sk R (.op (O.pkT Z R R R R) R ((c true (orT hc).symm).sub [] R))
  ·refine .know (d:=6) R hc ?_;exact .op (O.mv (Gu.mk R R) R R) R (.op (O.pkF Z R R R R) R ((c p1 (orF hc).symm).sub [] R))
def y4S(p0:List Int)(p1:List Int):Option (List Int):=
 (y3g p0 p1 yE).bind fun a=>
 some a
theorem ybB{p1:List Int}{r:List Int}(hm:y4S p0 p1=some r):
  F0 210 [.f qI p0,.f qI p1] [] (.h 0) [ROW qI 3 r]:=by
 unfold y4S at hm;refine Fw.mk2 Tryz.func210 Tryz.ntmps210 R (fun C=>?_) R;refine .sr (.an R (.sr (.mv R (.mv R (bS hm fun b a hm=> .op (O.cac (r':= .h 0) [0] [(0,ROW qI 3 b)] (some 1) (y7t a) cf75 R R Z R R ⟨⟨R,.rf⟩,⟨R,.rf⟩,⟨R,(.c (.fn cf237 (fun x r h=>yaW h) (fun _=>R)) .n)⟩,trivial⟩ R ⟨⟨_,R,I4⟩,trivial⟩ I3 R) R (.an R (.ret ?_)))))));cases hm;exact .rr [0] Tryz.results210 (.tmp R .nil) R I3 ⟨⟨_,R,I4⟩,trivial⟩
def y1N(p0:List AutT)(a:Int×List Int):Option ((Int×List Int)⊕(List Int)):=
 if decide (a.1<(p0.length:Int)) then
  (idx p0 a.1).bind fun c=>
  (y4S a.2 c.1).bind fun b=>
  some (.inl (W (a.1+1),b))
 else
  some (.inr a.2)
def y4T(p0:List AutT):Option (List Int):=
 (iter (y1N p0) (0,([]:List Int))).bind fun a=>
 some a
theorem ybC{p0:List AutT}{r:List Int}(hm:y4T p0=some r):
  F0 159 [.f rE35 p0] [] (.h 0) [ROW qI 3 r]:=by
 unfold y4T at hm;refine Fw.mk2 Tryz.func159 Tryz.ntmps159 R (fun C=>?_) R;refine .sr (.an R (.sr (.an R (.seq (.sr (.mv R (.ln sl66 R (.mv R (.ns (.block (bS hm fun d e hm=>?_)))))))))));refine .cut1 (z:= .exit 0) d (fun (d:List Int)=>⟨[(3,.h 0)],[(0,ROW qI 3 d)],1⟩) ?_ fun K9=>?_
 ·skip
  refine .blkE (.seqN (.sr (.mv R (.an R (.ret ?_)))));cases hm;exact .rr [0] Tryz.results159 (.tmp R .nil) R I3 ⟨⟨_,R,I4⟩,trivial⟩
 refine .nlg qI 3 3 0 R R (.iter (fun (a:Int×List Int)=>⟨[(8,.i a.1),(7,.i (p0.length:Int)),(6,.f rE35 p0),(3,.h 0)],[(0,ROW qI 3 a.2)],1⟩) e [] R ?_);intro a n hm j g;unfold y1N at hm;refine .sr (.bi R (.ns (.seq ?_)));exact .cc hm R (fun hm=> .skip (.seqN (.seq (.block (.sr (bS hm fun m c hm=> .ix sl66 c R (.op (O.lg (l':=(lx35 m)) ag35 Z R (.E lv35) R R R) R (.al 1 zz35 R (.st ag35.sz R (.ns (.reg (.mv R (.fa yT R (.lb nag32 R (bS hm fun k b hm=> .op (O.caY (r':= .h 2) [2] [(0,ROW qI 3 k)] (some 3) (ybB b) cf210 R R Z R R ⟨⟨R,.hr R,trivial⟩,⟨R,LnL.rf⟩,trivial⟩ R ⟨.row flr3,trivial⟩ (fun _ _ _ _ h=>h) ⟨⟨_,R,I4⟩,trivial⟩ I3 R) R (.sa R (.nil (.blkN (.seqN (.reg (.bi R (.mv R (.nil ((j _ (oi hm).symm).sub [(0,2)] R)))))))))))))))))))))))) fun hm=> .exit (.seqX (.seqX ((K9 _ (g _ (oi hm).symm)).sub [] R)))
def y2c(c:AutT)(a:Int×(List KeyT)):Option ((Int×(List KeyT))⊕(List KeyT)):=
 if decide (a.1<(c.2.2.2.length:Int)) then
  (idx c.2.2.2 a.1).bind fun b=>
  some (.inl (W (a.1+1),(kput a.2 (b.1,b.2.1) b.2.2)))
 else
  some (.inr a.2)
def y2D(p0:List AutT)(a:Int×(List (List KeyT))):Option ((Int×(List (List KeyT)))⊕(List (List KeyT))):=
 if decide (a.1<(p0.length:Int)) then
  (idx p0 a.1).bind fun c=>
  (iter (y2c c) (0,([]:List KeyT))).bind fun b=>
  (app a.2 ([b]:List (List KeyT))).bind fun d=>
  some (.inl (W (a.1+1),d))
 else
  some (.inr a.2)
def y5a(p0:List AutT):Option ((List AutT)×List Int×(List (List KeyT))):=
 (y4T p0).bind fun b=>
 (iter (y2D p0) (0,([]:List (List KeyT)))).bind fun a=>
 some (p0,b,a)
theorem ycl{p0:List AutT}{r:((List AutT)×List Int×(List (List KeyT)))}(hm:y5a p0=some r):
  F0 96 [.f rE35 p0] [] (.g [lF rE35 r.1,lH 0,lH 1]) [ROW qI 3 r.2.1,ROW (rM kvP qI) 139 r.2.2]:=by
 unfold y5a at hm;refine Fw.mk2 Tryz.func96 Tryz.ntmps96 R (fun C=>?_) R;refine .sr (.al 0 zz162 R (.nr (.mv R (.mv R (bS hm fun p K hm=> .op (O.ca (r':= .h 1) [1] [(0,ROW qI 3 p)] (some 2) (ybC K) cf159 R R Z R R R R ⟨⟨_,R,I4⟩,trivial⟩ I3 R) R (.op (O.bu (l:=[lF rE35 p0,lH 1,lN]) pl162 R Z R R R) R (.al 2 zz162 R (.st ag162.sz R (.ns (.seq (.sr (.mv R (.ln sl66 R (.mv R (.ns (.block (bS hm fun o t hm=>?_)))))))))))))))));refine .cut1 (z:= .exit 0) o (fun (o:(List (List KeyT)))=>⟨[(3,.q 0 0),(2,.q 3 0)],[(0,.bx 162 [lF rE35 p0,lH 1,lH 2]),(1,ROW qI 3 p),(2,ROW (rM kvP qI) 139 o),(3,.bx 162 [lN,lN,lN])],4⟩) ?_ fun I=>?_
 ·skip
  refine .blkE (.seqN (.sr (.op (O.lg (l':=[lF rE35 p0,lH 1,lH 2]) ag162 Z R (.B R) R R R) R (.st ag162.sz R (.ns (.ret ?_))))));cases hm;exact .rr [1,2] Tryz.results96 (.cell R R ag162 R .nil) R I3 ⟨⟨_,R,I4⟩,⟨_,R,I4⟩,trivial⟩
 refine .nlb (rM kvP qI) 139 2 2 R R (.iter (fun (b:Int×(List (List KeyT)))=>⟨[(15,.i b.1),(14,.i (p0.length:Int)),(13,.f rE35 p0),(3,.q 0 0),(2,.q 3 0)],[(0,.bx 162 [lF rE35 p0,lH 1,lH 2]),(1,ROW qI 3 p),(2,ROW (rM kvP qI) 139 b.2),(3,.bx 162 [lN,lN,lN])],4⟩) t [(0,2),(2,3),(3,0)] R ?_);intro b L hm G D;unfold y2D at hm;refine .sr (.bi R (.ns (.seq ?_)));refine .cc hm R (fun hm=>?_) fun hm=> .exit (.seqX (.seqX ((I _ (D _ (oi hm).symm)).sub [] R)));refine .skip (.seqN (.seq (.block (.sr (bS hm fun s w hm=> .ix sl66 w R (.op (O.lg (l':=(lx35 s)) ag35 Z R (.E lv35) R R R) R (.al 4 zz35 R (.st ag35.sz R (.nr (.op (O.mk2 (kv:=kvP) (r:=qI) 5 R Z R) R (.an R (.seq (.sr (.fa y1J R (.lb nag33 R (.ln sl33 R (.mv R (.ns (.block (bS hm fun j u hm=>?_))))))))))))))))))));refine .cut1 (z:= .exit 2) j (fun (j:(List KeyT))=>⟨[(6,.h 0),(15,.i b.1),(14,.i (p0.length:Int)),(13,.f rE35 p0),(3,.q 1 0),(2,.q 4 0)],[(0,MAP kvP qI 139 j),(1,.bx 162 [lF rE35 p0,lH 2,lH 3]),(2,ROW qI 3 p),(3,ROW (rM kvP qI) 139 b.2),(4,.bx 162 [lN,lN,lN])],5⟩) ?_ fun J=>?_
 ·skip
  exact .blkE (.seqN (.reg (.fa yd3 R (.lb yeb R (.mv R (.fz 0 [38] [] R R fM R R (.op (O.bsF (r:=(rM kvP qI)) (zs:=([j]:List (List KeyT))) bs160 R R Z R R R (.c .m .n) R R R) R (bS hm fun N x hm=> .op (O.ap 5 Tryz.underlying160 el139 R R Z R R (.fr R) x R) R (.fa yd3 R (.st yeb.sz R (.nil (.blkN (.seqN (.reg (.bi R (.mv R (.nil ((G _ (oi hm).symm).sub [(0,1),(1,2),(2,5),(3,4)] R))))))))))))))))))
 refine .iter (fun (e:Int×(List KeyT))=>⟨[(23,.i e.1),(22,.i (s.2.2.2.length:Int)),(21,.f qT s.2.2.2),(6,.h 0),(15,.i b.1),(14,.i (p0.length:Int)),(13,.f rE35 p0),(3,.q 1 0),(2,.q 4 0)],[(0,MAP kvP qI 139 e.2),(1,.bx 162 [lF rE35 p0,lH 2,lH 3]),(2,ROW qI 3 p),(3,ROW (rM kvP qI) 139 b.2),(4,.bx 162 [lN,lN,lN])],5⟩) u [(0,5),(1,0),(2,1),(3,2),(4,3)] R ?_;intro e M hm H F;unfold y2c at hm;refine .sr (.bi R (.ns (.seq ?_)));exact .cc hm R (fun hm=> .skip (.seqN (.seq (.block (.sr (bS hm fun d y hm=> .ix sl33 y R (.op (O.lg (l':=[lI d.1,lI d.2.1,lI d.2.2]) ag124 Z R (.E lv124) R R R) R (.al 5 zz124 R (.st ag124.sz R (.ns (.reg (.mv R (.fa y3r R (.lb nag3 R (.fa y4X R (.lb nag3 R (.op (O.bu (l:=[lI d.1,lI d.2.1]) pl241 R Z R R R) R (.fa y4Y R (.lb nag3 R (.op (O.mu (k:=(d.1,d.2.1)) (v:=d.2.2) md139 (fun _ _=>eqP) Z R R (.a R R) R .k) R (.nil (.blkN (.seqN (.reg (.bi R (.mv R (.nil ((H _ (oi hm).symm).sub [] R)))))))))))))))))))))))))))) fun hm=> .exit (.seqX (.seqX ((J _ (F _ (oi hm).symm)).sub [] R)))
def yj(p0:(List AutT)×List Int×(List (List KeyT)))(a:Int):Option (Int⊕(Unit⊕Unit)):=
 if decide (a<(p0.1.length:Int)) then
  (idx p0.1 a).bind fun b=>
  if(b.2.1==0) then
   some (.inr (.inr (())))
  else
   some (.inl (W (a+1)))
 else
  some (.inr (.inl ()))
def yx(p0:(List AutT)×List Int×(List (List KeyT))):Option (List Int×Bool):=
 (iter (yj p0) 0).bind fun a=>
 match a with
 | .inl c=>
  (mkL (p0.1.length:Int) (0:Int)).bind fun b=>
  some (b,true)
 | .inr (d)=>
  some (([]:List Int),false)
theorem y9e{p0:(List AutT)×List Int×(List (List KeyT))}{r:List Int×Bool}(hm:yx p0=some r):
  F0 97 [.a [lF rE35 p0.1,lF qI p0.2.1,lF (rM kvP qI) p0.2.2]] [] (.tp [.h 0,.b r.2]) [ROW qI 3 r.1]:=by
 unfold yx at hm;refine Fw.mk2 Tryz.func97 Tryz.ntmps97 R (fun C=>?_) R;refine .sr (.bo 0 R (.sa R (.an R (.seq (.sr (.fa ybK R (.lb nag66 R (.ln sl66 R (.mv R (.ns (.block (bS hm fun p k hm=>?_))))))))))));refine .cutU (z:= .exit 0) (fun g=> .inl g=p) (fun (g:Unit)=>⟨[(1,.q 0 0)],[(0,.bx 162 [lF rE35 p0.1,lF qI p0.2.1,lF (rM kvP qI) p0.2.2])],1⟩) ?_ fun K6=>?_
 ·rintro g rfl;dsimp only at hm;refine .blkE (.seqN (.sr (.fa ybK R (.lb nag66 R (.ln sl66 R (bS hm fun u m hm=> .op (O.mk (z:=(0:Int)) 1 Tryz.underlying32 zr3 R R Z R R m R) R (.sa R (.an R (.ret ?_)))))))));cases hm;exact .rr [1] Tryz.results97 (.tmp R (.tmp R .nil)) R I3 ⟨⟨_,R,I4⟩,trivial⟩
 refine .cutU (z:= .ret) (fun j=> .inr (j)=p) (fun (j:Unit)=>⟨[(3,.b false),(2,.o (lN))],[],0⟩) ?_ fun K9=>?_
 ·rintro j rfl;dsimp only at hm;refine .blkR (.seqR (.nlg qI 3 2 0 R R ?_));cases hm;exact .rr [0] Tryz.results97 (.tmp R (.tmp R .nil)) R I3 ⟨⟨_,R,I4⟩,trivial⟩
 refine .iter (fun (d:Int)=>⟨[(9,.i d),(8,.i (p0.1.length:Int)),(7,.f rE35 p0.1),(1,.q 0 0)],[(0,.bx 162 [lF rE35 p0.1,lF qI p0.2.1,lF (rM kvP qI) p0.2.2])],1⟩) k [] R ?_;intro d t hm n c;unfold yj at hm;refine .sr (.bi R (.ns (.seq ?_)));refine .cc hm R (fun hm=>?_) fun hm=> .exit (.seqX (.seqX ((K6 _ (c _ (oi hm).symm)).sub [] R)));refine .skip (.seqN (.seq (.block (.sr (bS hm fun s e hm=> .ix sl66 e R (.op (O.lg (l':=(lx35 s)) ag35 Z R (.E lv35) R R R) R (.al 1 zz35 R (.st ag35.sz R (.nr (.fa y2S R (.lb nag3 R (.bi R (.ns ?_)))))))))))));exact .cc hm R (fun hm=> .sr (.sa R (.an R (.ret (.blkR (.seqR (.seqR ((K9 _ (c _ (oi hm).symm)).sub [] R)))))))) fun hm=> .skip (.blkN (.seqN (.reg (.bi R (.mv R (.nil ((n _ (oi hm).symm).sub [] R)))))))
def y6c(p0:Int):Option Bool:=
 some (p0 != p0)
theorem y9z{p0:Int}{r:Bool}(hm:y6c p0=some r):
  F0 214 [.i p0] [] (.b r) []:=by
 unfold y6c at hm;refine Fw.mk2 Tryz.func214 Tryz.ntmps214 R (fun C=>?_) R;refine .sr (.an R (.sr (.mv R (.mv R (.bi R (.an R (.ret ?_)))))));cases hm;exact .rr [] Tryz.results214 (.tmp R .nil) R I3 trivial
def y6P(p0:Int)(p1:Int):Option Bool:=
 (y6c p0).bind fun b=>
 (if b then
  (y6c p1).bind fun c=>
  some (!c)
 else
  some false).bind fun a=>
 some (a||(decide (p0<p1)))
theorem ycm{p0:Int}{r:Bool}(hm:y6P p0 p1=some r):
  F0 208 [.i p0,.i p1] [] (.b r) []:=by
 unfold y6P at hm;refine Fw.mk2 Tryz.func208 Tryz.ntmps208 R (fun C=>?_) R;refine .sr (.an R (.sr (.mv R (bS hm fun l h hm=> .c0 (y9z h) cf214 R (.mv R (bS hm fun a eb2 hm=>?_))))));refine .cut 4 (fun (c:Bool)=>a=c) (fun c=>⟨[(11,.b c),(0,.i p0),(1,.i p1)],[],0⟩) ?_ ?_
 ·rintro _ rfl;refine .mv R ?_;refine .cut 4 (fun (e:Bool)=>(a||(decide (p0<p1)))=e) (fun e=>⟨[(16,.b e)],[],0⟩) ?_ ?_
  ·rintro _ rfl;refine .an R (.ret ?_);cases hm;exact .rr [] Tryz.results208 (.tmp R .nil) R I3 trivial
  ·intro g;rcases Bool.eq_false_or_eq_true a with hc|hc
   ·refine .know (d:=12) R hc ?_;exact .sk R (.sk R (.sk R (.op (O.pkT Z R R R R) R ((g true (orT hc).symm).sub [] R))))
   ·refine .know (d:=12) R hc ?_;exact .op (O.mv (Gu.mk R R) R R) R (.op (O.mv (Gu.mk R R) R R) R (.op (O.bi (Gu.mk R R) R R R R) R (.op (O.pkF Z R R R R) R ((g (decide (p0<p1)) (orF hc).symm).sub [] R))))
 ·intro f;rcases ifS eb2 with ⟨hc,hm⟩|⟨hc,hm⟩
  ·refine .know (d:=7) R hc ?_;exact .op (O.mv (Gu.mk R R) R R) R (bS hm fun k j hm=> .op (O.ca0 (y9z j) cf214 R R (Gu.mk R R) R R R) R (.op (O.not (Gu.mk R R) R R) R (.op (O.pkT Z R R R R) R ((f (!k) (oi hm).symm).sub [] R))))
  ·refine .know (d:=7) R hc ?_;exact .sk R (.sk R (.sk R (.op (O.pkF Z R R R R) R ((f false (oi hm).symm).sub [] R))))
def y5b(p0:Int):Option Bool:=
 some (p0 != p0)
theorem y8n{p0:Int}{r:Bool}(hm:y5b p0=some r):
  F0 209 [.i p0] [] (.b r) []:=by
 unfold y5b at hm;refine Fw.mk2 Tryz.func209 Tryz.ntmps209 R (fun C=>?_) R;refine .sr (.an R (.sr (.mv R (.mv R (.bi R (.an R (.ret ?_)))))));cases hm;exact .rr [] Tryz.results209 (.tmp R .nil) R I3 trivial
def y1w(p0:List Int)(p1:Int)(a:Int×Int):Option ((Int×Int)⊕Int):=
 if decide (a.2<a.1) then
  (idx p0 (W ((IntKind.u64.wrap (W (a.2+a.1))).fdiv (2 ^ (min (1:Int).toNat 64))))).bind fun c=>
  (y6P c p1).bind fun b=>
  if b then
   some (.inl (a.1,W ((W ((IntKind.u64.wrap (W (a.2+a.1))).fdiv (2 ^ (min (1:Int).toNat 64))))+1)))
  else
   some (.inl (W ((IntKind.u64.wrap (W (a.2+a.1))).fdiv (2 ^ (min (1:Int).toNat 64))),a.2))
 else
  some (.inr a.2)
def y5j(p0:List Int)(p1:Int):Option (Int×Bool):=
 (iter (y1w p0 p1) ((p0.length:Int),0)).bind fun a=>
 (if decide (a<(p0.length:Int)) then
  (idx p0 a).bind fun g=>
  (if (g==p1) then
   some true
  else
   (idx p0 a).bind fun h=>
   (y5b h).bind fun e=>
   (if e then
    (y5b p1).bind fun f=>
    some f
   else
    some false).bind fun d=>
   some d).bind fun c=>
  some c
 else
  some false).bind fun b=>
 some (a,b)
theorem y9f{r:Int×Bool}(hm:y5j p0 p1=some r):
  F0 158 [.f qI p0,.i p1] [] (.tp [.i r.1,.b r.2]) []:=by
 unfold y5j at hm;refine Fw.mk2 Tryz.func158 Tryz.ntmps158 R (fun C=>?_) R;refine .sr (.sa R (.an R (.sr (.mv R (.ln sl32 R (.an R (.sr (.mv R (.sa R (.an R (.seq (.block (bS hm fun a x hm=>?_)))))))))))));refine .cut1 (z:= .exit 0) a (fun (a:Int)=>⟨[(7,.i a),(6,.i (p0.length:Int)),(0,.f qI p0),(1,.i p1)],[],0⟩) ?_ fun K9=>?_
 ·skip
  refine .blkE (.seqN (.sr (.mv R (.mv R (.mv R (.bi R (.mv R (bS hm fun w eb10 hm=>?_))))))));refine .cut 18 (fun (e:Bool)=>w=e) (fun e=>⟨[(53,.b e),(31,.i a)],[],0⟩) ?_ ?_
  ·rintro _ rfl;refine .sa R (.an R (.ret ?_));cases hm;exact .rr [] Tryz.results158 (.tmp R (.tmp R .nil)) R I3 trivial
  ·intro j;rcases ifS eb10 with ⟨hc,hm⟩|⟨hc,hm⟩
   ·refine .know (d:=35) R hc ?_;refine .op (O.mv (Gu.mk R R) R R) R (.op (O.mv (Gu.mk R R) R R) R (bS hm fun H t hm=> .op (O.ix sl32 (Gu.mk R R) R R t R) R (.op (O.ld nag3 (Gu.mk R R) R (.E lv3) R R) R (.op (O.mv (Gu.mk R R) R R) R (.op (O.bi (Gu.mk R R) R R R R) R (.op (O.mv (Gu.mk R R) R R) R (bS hm fun m eb14 hm=>?_)))))));refine .cut 10 (fun (g:Bool)=>m=g) (fun g=>⟨[(52,.b g),(35,.b true),(31,.i a)],[],0⟩) ?_ ?_
    ·rintro _ rfl;exact .op (O.pkT Z R R R R) R ((j m (oi hm).symm).sub [] R)
    ·intro k;rcases ifS eb14 with ⟨hc,hm⟩|⟨hc,hm⟩
     ·refine .know (d:=42) R hc ?_;exact .sk R (.sk R (.sk R (.sk R (.sk R (.sk R (.op (O.skipU R R R) R (.op (O.skipU R R R) R (.sk R (.op (O.pkT (Gu.mk R R) R R R R) R ((k true (oi hm).symm).sub [] R))))))))))
     ·refine .know (d:=42) R hc ?_;refine .op (O.mv (Gu.mk R R) R R) R (.op (O.mv (Gu.mk R R) R R) R (bS hm fun I u hm=> .op (O.ix sl32 (Gu.mk R R) R R u R) R (.op (O.ld nag3 (Gu.mk R R) R (.E lv3) R R) R (bS hm fun F p hm=> .op (O.ca0 (y8n p) cf209 R R (Gu.mk R R) R R R) R (.op (O.mv (Gu.mk R R) R R) R (bS hm fun n eb19 hm=>?_))))));refine .cut 3 (fun (h:Bool)=>n=h) (fun h=>⟨[(51,.b h),(42,.b false),(35,.b true),(31,.i a)],[],0⟩) ?_ ?_
      ·rintro _ rfl;exact .op (O.pkF (Gu.mk R R) R R R R) R ((k n (oi hm).symm).sub [] R)
      ·intro l;rcases ifS eb19 with ⟨hc,hm⟩|⟨hc,hm⟩
       ·refine .know (d:=48) R hc ?_;exact .op (O.mv (Gu.mk R R) R R) R (bS hm fun B q hm=> .op (O.ca0 (y8n q) cf209 R R (Gu.mk R R) R R R) R (.op (O.pkT (Gu.mk R R) R R R R) R ((l B (oi hm).symm).sub [] R)))
       ·refine .know (d:=48) R hc ?_;exact .sk R (.sk R (.op (O.pkF (Gu.mk R R) R R R R) R ((l false (oi hm).symm).sub [] R)))
   ·refine .know (d:=35) R hc ?_;exact .sk R (.sk R (.sk R (.sk R (.sk R (.sk R (.sk R (.op (O.skipU R R R) R (.op (O.skipU R R R) R (.op (O.skipU R R R) R (.op (O.skipU R R R) R (.op (O.skipU R R R) R (.op (O.skipU R R R) R (.op (O.skipU R R R) R (.op (O.skipU R R R) R (.op (O.skipU R R R) R (.sk R (.op (O.pkF Z R R R R) R ((j false (oi hm).symm).sub [] R))))))))))))))))))
 refine .iter (fun (c:Int×Int)=>⟨[(8,.i c.1),(7,.i c.2),(6,.i (p0.length:Int)),(0,.f qI p0),(1,.i p1)],[],0⟩) x [] R ?_;intro c D hm o y;unfold y1w at hm;refine .seq (.sr (.mv R (.mv R (.bi R (.ns ?_)))));refine .cc hm R (fun hm=>?_) fun hm=> .exit (.seqX (.seqX ((K9 _ (y _ (oi hm).symm)).sub [] R)));refine .skip (.seqN (.block (.sr (.mv R (.mv R (.bi R (.op (O.cv Tryz.underlying3 Tryz.underlying295 Z R R) R (.op (O.shr Z R R (by decide) R) R (.op (O.cv Tryz.underlying295 Tryz.underlying3 Z R R) R (.an R (.sr (.mv R (.mv R (bS hm fun J v hm=> .ix sl32 v R (.le nag3 lv3 R (.mv R (bS hm fun G s hm=> .c0 (ycm s) cf208 R (.ns ?_))))))))))))))))));exact .cc hm R (fun hm=> .reg (.mv R (.bi R (.sa R (.nil (.blkN ((o _ (oi hm).symm).sub [] R))))))) fun hm=> .reg (.mv R (.sa R (.nil (.blkN ((o _ (oi hm).symm).sub [] R)))))
def y3z(p0:List Int)(p1:Int):Option Bool:=
 (y5j p0 p1).bind fun a=>
 some a.2
theorem y6Q{r:Bool}(hm:y3z p0 p1=some r):
  F0 94 [.f qI p0,.i p1] [] (.b r) []:=by
 unfold y3z at hm;refine Fw.mk2 Tryz.func94 Tryz.ntmps94 R (fun C=>?_) R;refine .sr (.an R (.sr (.mv R (.mv R (bS hm fun c a hm=> .c0 (y9f a) cf158 R (.mv R (.ex R (.ex R (.sa R (.an R (.sr (.mv R (.an R (.ret ?_))))))))))))));cases hm;exact .rr [] Tryz.results94 (.tmp R .nil) R I3 trivial
def y2T(p0:(List AutT)×List Int×(List (List KeyT)))(p1:List Int)(a:Int):Option (Int⊕(Unit⊕Unit)):=
 if decide (a<(p0.1.length:Int)) then
  (idx p0.1 a).bind fun c=>
  (idx p1 a).bind fun d=>
  (y3z c.2.2.1 d).bind fun b=>
  if(!b) then
   some (.inr (.inr (())))
  else
   some (.inl (W (a+1)))
 else
  some (.inr (.inl ()))
def yL(p0:(List AutT)×List Int×(List (List KeyT)))(p1:List Int):Option Bool:=
 (iter (y2T p0 p1) 0).bind fun a=>
 match a with
 | .inl b=>
  some true
 | .inr (c)=>
  some false
theorem y9r{p0:(List AutT)×List Int×(List (List KeyT))}{p1:List Int}{r:Bool}(hm:yL p0 p1=some r):
  F0 99 [.a [lF rE35 p0.1,lF qI p0.2.1,lF (rM kvP qI) p0.2.2],.f qI p1] [] (.b r) []:=by
 unfold yL at hm;refine Fw.mk2 Tryz.func99 Tryz.ntmps99 R (fun C=>?_) R;refine .sr (.bo 0 R (.an R (.seq (.sr (.fa ybK R (.lb nag66 R (.ln sl66 R (.mv R (.ns (.block (bS hm fun s o hm=>?_)))))))))));refine .cutU (z:= .exit 0) (fun k=> .inl k=s) (fun (k:Unit)=>⟨[],[],0⟩) ?_ fun K8=>?_
 ·rintro k rfl;dsimp only at hm;refine .blkE (.seqN (.sr (.an R (.ret ?_))));cases hm;exact .rr [] Tryz.results99 (.tmp R .nil) R I3 trivial
 refine .cutU (z:= .ret) (fun m=> .inr (m)=s) (fun (m:Unit)=>⟨[(4,.b false)],[],0⟩) ?_ fun n=>?_
 ·rintro m rfl;dsimp only at hm;refine .blkR (.seqR ?_);cases hm;exact .rr [] Tryz.results99 (.tmp R .nil) R I3 trivial
 refine .iter (fun (c:Int)=>⟨[(10,.i c),(9,.i (p0.1.length:Int)),(8,.f rE35 p0.1),(1,.f qI p1)],[],0⟩) o [] R ?_;intro c u hm p d;unfold y2T at hm;refine .sr (.bi R (.ns (.seq ?_)));refine .cc hm R (fun hm=>?_) fun hm=> .exit (.seqX (.seqX ((K8 _ (d _ (oi hm).symm)).sub [] R)));refine .skip (.seqN (.seq (.block (.sr (.mv R (bS hm fun e h hm=> .ix sl66 h R (.op (O.lg (l':=(lx35 e)) ag35 Z R (.E lv35) R R R) R (.al 0 zz35 R (.sa R (.st ag35.sz R (.ns (.seq ?_))))))))))));refine .sub (τ:=⟨[(5,.i c),(6,.q 0 0),(10,.i c),(9,.i (p0.1.length:Int)),(8,.f rE35 p0.1),(1,.f qI p1)],[(0,.bx 35 (lx35 e))],1⟩) ?_ [] R;refine bS hm fun v j hm=>bS hm fun t g hm=>?_;refine .drw [(1,[]),(1,[oT]),(1,[]),(1,[]),(1,[oF,oF,oT,oT]),(1,fA 2 (tT 3)),(1,tT 6),(1,tT 7)] [_,_,_,_,_,_,_,_] ⟨[(22,.b (!t)),(10,.i c),(9,.i (p0.1.length:Int)),(8,.f rE35 p0.1),(1,.f qI p1)],[],1⟩ ⟨O.faP y6N Z R R,O.ld nag32 Z R (.B R) R R,O.mv Z R R,O.mv Z R R,O.ix sl32 Z R R j R,O.ld nag3 Z R (.E lv3) R R,O.ca0 (y6Q g) cf94 R R Z R R R,O.not Z R R,trivial⟩ (by kernel_rfl) R ?_;exact .seqN (.cc hm R (fun hm=> .sr (.an R (.ret (.blkR (.seqR (.seqR ((n _ (d _ (oi hm).symm)).sub [] R))))))) fun hm=> .skip (.blkN (.seqN (.reg (.bi R (.mv R (.nil ((p _ (oi hm).symm).sub [] R))))))))
def y2o(p0:List Int):Option (List Int):=
 (app ([]:List Int) p0).bind fun a=>
 some a
theorem y6n{r:List Int}(hm:y2o p0=some r):
  F0 103 [.f qI p0] [] (.h 0) [ROW qI 3 r]:=by
 unfold y2o at hm;refine Fw.mk2 Tryz.func103 Tryz.ntmps103 R (fun C=>?_) R;refine .sr (.an R (.seq (.sr (.mv R (.op (O.nil? Tryz.underlying32 Z R R R) R (.ns ?_))))));refine .cN R (fun hz=>?_) ?_
 ·subst hz;replace hm:some ([]:List Int)=some r:=by simpa [app,slc,slc3] using hm
  refine .sr (.an R (.ret (.seqR (.nlg qI 3 2 0 R R ?_))));cases hm;exact .rr [0] Tryz.results103 (.tmp R .nil) R I3 ⟨⟨_,R,I4⟩,trivial⟩
 ·skip
  refine .skip (.seqN (.sr (.op (O.b0O (r:=qI) 0 R bs32 R Z R) R (.mv R (bS hm fun b a hm=> .op (O.ap 1 Tryz.underlying32 el3 R R Z R R (.fr R) a R) R (.an R (.ret ?_)))))));cases hm;exact .rr [1] Tryz.results103 (.tmp R .nil) R I3 ⟨⟨_,R,I4⟩,trivial⟩
def yy(a:Int×List Int)(b:List Int):Option ((Int×List Int)⊕((List Int)⊕Unit)):=
 some (.inl (W (a.1+1),b))
def yn(p0:(List AutT)×List Int×(List (List KeyT)))(p1:List Int)(p2:Int)(a:Int×List Int):Option ((Int×List Int)⊕((List Int)⊕Unit)):=
 if decide (a.1<(p0.1.length:Int)) then
  (idx p0.1 a.1).bind fun e=>
  (y3z e.1 p2).bind fun d=>
  if(!d) then
   yy a a.2
  else
   (idx p0.2.2 a.1).bind fun b=>
   (idx p1 a.1).bind fun c=>
   if(!((kget b (c,p2)).isSome)) then
    some (.inr (.inr (())))
   else
    (idx a.2 a.1).bind fun g=>
    (upd a.2 a.1 ((kget b (c,p2)).getD 0)).bind fun f=>
    yy a f
 else
  some (.inr (.inl a.2))
def y1d(p0:(List AutT)×List Int×(List (List KeyT)))(p1:List Int)(p2:Int):Option (List Int×Bool):=
 (y2o p1).bind fun c=>
 (iter (yn p0 p1 p2) (0,c)).bind fun a=>
 match a with
 | .inl b=>
  some (b,true)
 | .inr (d)=>
  some (([]:List Int),false)
theorem y9U{p0:(List AutT)×List Int×(List (List KeyT))}{p1:List Int}{p2:Int}{r:List Int×Bool}(hm:y1d p0 p1 p2=some r):
  F0 100 [.a [lF rE35 p0.1,lF qI p0.2.1,lF (rM kvP qI) p0.2.2],.f qI p1,.i p2] [] (.tp [.h 0,.b r.2]) [ROW qI 3 r.1]:=by
 unfold y1d at hm;refine Fw.mk2 Tryz.func100 Tryz.ntmps100 R (fun C=>?_) R;refine .sr (.bo 0 R (.sa R (.an R (.sr (.mv R (bS hm fun L J hm=> .op (O.ca (r':= .h 1) [1] [(0,ROW qI 3 L)] (some 2) (y6n J) cf103 R R Z R R R R ⟨⟨_,R,I4⟩,trivial⟩ I3 R) R (.an R (.seq (.sr (.fa ybK R (.lb nag66 R (.ln sl66 R (.mv R (.ns (.block (bS hm fun u v hm=>?_))))))))))))))));refine .cutU (z:= .exit 0) (fun g=> .inl g=u) (fun (g:List Int)=>⟨[(8,.h 0)],[(0,ROW qI 3 g)],1⟩) ?_ fun H=>?_
 ·rintro g rfl;dsimp only at hm;refine .blkE (.seqN (.sr (.mv R (.sa R (.an R (.ret ?_))))));cases hm;exact .rr [0] Tryz.results100 (.tmp R (.tmp R .nil)) R I3 ⟨⟨_,R,I4⟩,trivial⟩
 refine .cutU (z:= .ret) (fun p=> .inr (p)=u) (fun (p:Unit)=>⟨[(7,.b false),(6,.o (lN))],[],0⟩) ?_ fun I=>?_
 ·rintro p rfl;dsimp only at hm;refine .blkR (.seqR (.nlg qI 3 6 0 R R ?_));cases hm;exact .rr [0] Tryz.results100 (.tmp R (.tmp R .nil)) R I3 ⟨⟨_,R,I4⟩,trivial⟩
 refine .iter (fun (c:Int×List Int)=>⟨[(18,.i c.1),(17,.i (p0.1.length:Int)),(16,.f rE35 p0.1),(8,.h 0),(3,.q 1 0),(1,.f qI p1),(2,.i p2)],[(0,ROW qI 3 c.2),(1,.bx 162 [lF rE35 p0.1,lF qI p0.2.1,lF (rM kvP qI) p0.2.2])],2⟩) v [(0,1),(1,0)] R ?_;intro c t hm G n;unfold yn at hm;refine .sr (.bi R (.ns (.seq ?_)));refine .cc hm R (fun hm=>?_) fun hm=> .exit (.seqX (.seqX ((H _ (n _ (oi hm).symm)).sub [] R)));refine .skip (.seqN ?_);refine .join1 (fun (e:List Int)=>yy c e=some t) (fun e=>⟨[(18,.i c.1),(17,.i (p0.1.length:Int)),(16,.f rE35 p0.1),(8,.h 0),(3,.q 1 0),(1,.f qI p1),(2,.i p2)],[(0,ROW qI 3 e),(1,.bx 162 [lF rE35 p0.1,lF qI p0.2.1,lF (rM kvP qI) p0.2.2])],2⟩) ?_ ?_
 ·intro e hm;unfold yy at hm;exact .reg (.bi R (.mv R (.nil ((G _ (oi hm).symm).sub [] R))))
 ·intro j;refine .block (.sr (.mv R (bS hm fun K x hm=> .ix sl66 x R (.op (O.lg (l':=(lx35 K)) ag35 Z R (.E lv35) R R R) R (.al 2 zz35 R (.sa R (.st ag35.sz R (.ns (.seq (.sr (.fa yT R (.lb nag32 R (.mv R (bS hm fun M w hm=> .c0 (y6Q w) cf94 R (.op (O.not Z R R) R (.ns ?_))))))))))))))));refine .cc hm R (fun hm=> .exit (.seqX (.blkE ((j _ hm).sub [] R)))) fun hm=>?_;refine .skip (.seqN (.seq ?_));refine .sub (τ:=⟨[(9,.i c.1),(18,.i c.1),(17,.i (p0.1.length:Int)),(16,.f rE35 p0.1),(8,.h 0),(3,.q 1 0),(1,.f qI p1),(2,.i p2)],[(0,ROW qI 3 c.2),(1,.bx 162 [lF rE35 p0.1,lF qI p0.2.1,lF (rM kvP qI) p0.2.2])],3⟩) ?_ [] R;refine bS hm fun s y hm=>bS hm fun d D hm=>?_;refine .drw [(3,[]),(3,[oT]),(3,[]),(3,tT 3),(3,tT 4),(3,[]),(3,[]),(3,[oF,oF,oF,oF,oF,oT,oT]),(3,fA 5 (tT 3)),(3,[]),(3,fA 5 (tT 5)),(3,tT 11),(3,tT 12),(3,tT 13),(3,tT 13),(3,tT 14),(3,tT 16)] [_,_,_,_,_,_,_,_,_,_,_,_,_,_,_,_,_] ⟨[(12,.b ((kget s (d,p2)).isSome)),(11,.i ((kget s (d,p2)).getD 0)),(9,.i c.1),(18,.i c.1),(17,.i (p0.1.length:Int)),(16,.f rE35 p0.1),(8,.h 0),(3,.q 1 0),(1,.f qI p1),(2,.i p2)],[(0,ROW qI 3 c.2),(1,.bx 162 [lF rE35 p0.1,lF qI p0.2.1,lF (rM kvP qI) p0.2.2])],3⟩ ⟨O.faP yd3 Z R R,O.ld yeb Z R (.B R) R R,O.mv Z R R,O.ix sl160 Z R R y R,O.ld yg1 Z R (.E lv139) R R,O.mv Z R R,O.mv Z R R,O.ix sl32 Z R R D R,O.ld nag3 Z R (.E lv3) R R,O.mv Z R R,O.bu (l:=[lI d,lI p2]) pl241 R Z R R R,O.mi2 (k:=(d,p2)) md139 Z (.fr R) (.a R R) R,O.mv Z R R,O.ex Z R R R,O.ex Z R R R,O.as Z R R,O.as Z R R,trivial⟩ (by kernel_rfl) R ?_;refine .seqN (.seq (.sr (.mv R (.op (O.not Z R R) R (.ns ?_)))));exact .cc hm R (fun hm=> .sr (.sa R (.an R (.ret (.seqR (.blkR (.seqR (.seqR ((I _ (n _ (oi hm).symm)).sub [] R))))))))) fun hm=> .skip (.seqN (.reg (.mv R (.mv R (.mv R (bS hm fun N m hm=> .op (O.ir sl32 Z R R R m R) R (bS hm fun P F hm=> .op (O.su (z:=((kget s (d,p2)).getD 0)) nag3.sz Z R R m F R R R lv3 R .k) R (.nil (.blkN ((j _ hm).sub [] R))))))))))
def y2E(d:Int×(List (ByteArray×Int))×List (List Int)×EdgL)(a:List (ByteArray×Int))(b:List (List Int))(c:List (Int×Int×Int)):Option ((Int×(List (ByteArray×Int))×List (List Int)×EdgL)⊕(((List (ByteArray×Int))×List (List Int)×EdgL)⊕Unit)):=
 some (.inl (W (d.1+1),a,b,c))
def y2F(e:Int×(List (ByteArray×Int))×List (List Int)×List Int×EdgL)(a:Int×(List (ByteArray×Int))×List (List Int)×EdgL)(f:Int)(b:List (List Int))(d:Int)(c:List (ByteArray×Int)):Option ((Int×(List (ByteArray×Int))×List (List Int)×EdgL)⊕(((List (ByteArray×Int))×List (List Int)×EdgL)⊕Unit)):=
 (app a.2.2.2 ([(e.1,f,d)]:List (Int×Int×Int))).bind fun g=>
 y2E a c b g
def y2G(g:((List AutT)×List Int×(List (List KeyT))))(c:Int×(List (ByteArray×Int))×List (List Int)×List Int×EdgL)(a:Int×(List (ByteArray×Int))×List (List Int)×EdgL):Option ((Int×(List (ByteArray×Int))×List (List Int)×EdgL)⊕(((List (ByteArray×Int))×List (List Int)×EdgL)⊕Unit)):=
 if decide (a.1<(g.2.1.length:Int)) then
  (idx g.2.1 a.1).bind fun d=>
  (idx a.2.2.1 c.1).bind fun h=>
  (y1d g h d).bind fun b=>
  if(!b.2) then
   y2E a a.2.1 a.2.2.1 a.2.2.2
  else
   (y5z b.1).bind fun e=>
   if(!((kget a.2.1 e).isSome)) then
    if((a.2.2.1.length:Int)==4096) then
     some (.inr (.inr (())))
    else
     (y5z b.1).bind fun f=>
     (app a.2.2.1 ([b.1]:List (List Int))).bind fun i=>
     y2F c a d i (a.2.2.1.length:Int) (kput a.2.1 f (a.2.2.1.length:Int))
   else
    y2F c a d a.2.2.1 ((kget a.2.1 e).getD 0) a.2.1
 else
  some (.inr (.inl a.2))
def y2H(e:((List AutT)×List Int×(List (List KeyT))))(a:Int×(List (ByteArray×Int))×List (List Int)×List Int×EdgL)(c:List Int):Option ((Int×(List (ByteArray×Int))×List (List Int)×List Int×EdgL)⊕((List (List Int)×List Int×EdgL)⊕Unit)):=
 (iter (y2G e a) (0,a.2.1,a.2.2.1,a.2.2.2.2)).bind fun d=>
 match d with
 | .inl b=>
  some (.inl (W (a.1+1),b.1,b.2.1,c,b.2.2))
 | .inr (f)=>
  some (.inr (.inr (())))
def y2I(c:((List AutT)×List Int×(List (List KeyT))))(a:Int×(List (ByteArray×Int))×List (List Int)×List Int×EdgL):Option ((Int×(List (ByteArray×Int))×List (List Int)×List Int×EdgL)⊕((List (List Int)×List Int×EdgL)⊕Unit)):=
 if decide (a.1<(a.2.2.1.length:Int)) then
  (idx a.2.2.1 a.1).bind fun d=>
  (yL c d).bind fun b=>
  if b then
   (app a.2.2.2.1 ([a.1]:List Int)).bind fun e=>
   y2H c a e
  else
   y2H c a a.2.2.2.1
 else
  some (.inr (.inl a.2.2))
def yz(p0:List AutT):Option (AutT×List (List Int)×Int):=
 (y5n p0).bind fun e=>
 if(e != 0) then
  some ((([]:List Int),0,([]:List Int),([]:List (Int×Int×Int))),([]:List (List Int)),e)
 else
  (y5a p0).bind fun b=>
  (yx b).bind fun c=>
  if(!c.2) then
   some ((b.2.1,0,([]:List Int),([]:List (Int×Int×Int))),([]:List (List Int)),0)
  else
   (y5z c.1).bind fun f=>
   (iter (y2I b) (0,(kput ([]:List (ByteArray×Int)) f 0),([c.1]:List (List Int)),([]:List Int),([]:List (Int×Int×Int)))).bind fun d=>
   match d with
   | .inl a=>
    some ((b.2.1,(a.1.length:Int),a.2),a.1,0)
   | .inr (g)=>
    some ((([]:List Int),0,([]:List Int),([]:List (Int×Int×Int))),([]:List (List Int)),3)
theorem y7G{p0:List AutT}{r:AutT×List (List Int)×Int}(hm:yz p0=some r):
    F0 32 [.f rE35 p0] [] (.tp [.a [lH 0,lI r.1.2.1,lH 1,lH 2],.h 3,.i r.2.2]) [ROW qI 3 r.1.1,ROW qI 3 r.1.2.2.1,ROW qT 124 r.1.2.2.2,ROW (rL qI) 32 r.2.1]:=by
  unfold yz at hm;refine Fw.mk2 Tryz.func32 Tryz.ntmps32 R (fun C=>?_) R;refine .sr (.al 0 zz35 R (.sa R (.an R (.seq (.sr (.mv R (bS hm fun r1 b6 hm=> .c0 (ybV b6) cf95 R (.an R (.sr (.mv R (.bi R (.ns ?_))))))))))));refine .cc hm R (fun hm=>?_) fun hm=>?_
  ·refine .sr (.op (O.bu (l:=[lN,lI 0,lN,lN]) pl35 R Z R R R) R (.mv R (.st ag35.sz R (.sa R (.an R (.ret (.seqR (.nlb qI 3 0 0 R R (.nlb qI 3 0 2 R R (.nlb qT 124 0 3 R R (.nlg (rL qI) 32 3 0 R R ?_)))))))))));cases hm;exact .rr [1,2,3,4] Tryz.results32 (.cell R R ag35 R (.tmp R (.tmp R .nil))) R I3 ⟨⟨_,R,I4⟩,⟨_,R,I4⟩,⟨_,R,I4⟩,⟨_,R,I4⟩,trivial⟩
  ·refine .skip (.seqN (.sr (.mv R (bS hm fun e b7 hm=> .op (O.ca (r':= .g [lF rE35 e.1,lH 1,lH 2]) [1,2] [(0,ROW qI 3 e.2.1),(1,ROW (rM kvP qI) 139 e.2.2)] (some 3) (ycl b7) cf96 R R Z R R R R ⟨⟨_,R,I4⟩,⟨_,R,I4⟩,trivial⟩ I3 R) R (.al 3 zz162 R (.st ag162.sz R (.nr (.fa yeW R (.lb nag32 R (.fa yT R (.st nag32.sz R (.nr (.op (O.lg (l':=[lF rE35 e.1,lH 1,lH 2]) ag162 Z R (.B R) R R R) R (bS hm fun r3 b8 hm=> .op (O.caY (r':= .tp [.h 4,.b r3.2]) [4] [(0,ROW qI 3 r3.1)] (some 5) (y9e b8) cf97 R R Z R R ⟨⟨R,.rf,.hr R,.hr R,trivial⟩,trivial⟩ R ⟨.row flr3,trivial⟩ (fun _ _ _ _ h=>h) ⟨⟨_,R,I4⟩,trivial⟩ I3 R) R (.mv R (.ex R (.ex R (.sa R (.an R (.seq (.sr (.mv R (.op (O.not Z R R) R (.ns ?_))))))))))))))))))))))));refine .cc hm R (fun hm=>?_) fun hm=>?_
   ·refine .sr (.op (O.lg (l':=[lH 1,lI 0,lN,lN]) ag35 Z R (.B R) R R R) R (.st ag35.sz R (.sa R (.an R (.ret (.seqR (.nlb qI 3 0 2 R R (.nlb qT 124 0 3 R R (.nlg (rL qI) 32 3 0 R R ?_)))))))));cases hm;exact .rr [1,5,6,7] Tryz.results32 (.cell R R ag35 R (.tmp R (.tmp R .nil))) R I3 ⟨⟨_,R,I4⟩,⟨_,R,I4⟩,⟨_,R,I4⟩,⟨_,R,I4⟩,trivial⟩
   ·refine .skip (.seqN (.sr (.mv R (.fz 4 [36,7] [] R R fR R R (.op (O.bsO (r:=(rL qI)) (zs:=([r3.1]:List (List Int))) 5 R bs53 R R Z R R R (.c .l .n) R R R) R (.an R (.sr (.op (O.mk2 (kv:=kvS) (r:=qI) 6 R Z R) R (.mv R (bS hm fun r4 b9 hm=> .c0 (y8m b9) cf98 R (.op (O.ins (k:=r4) (v:=0) md167 (fun _ _=>eqS) Z R R (.o R) R .k) R (.mv R (.an R (.seq (.sr (.an R (.block (bS hm fun a3 a7 hm=>?_))))))))))))))))));refine .cutU (z:= .exit 0) (fun x=> .inl x=a3) (fun (x:List (List Int)×List Int×EdgL)=>⟨[(3,.h 0),(2,.q 1 0)],[(0,ROW (rL qI) 32 x.1),(1,.bx 35 [lH 2,lI 0,lH 3,lH 4]),(2,ROW qI 3 e.2.1),(3,ROW qI 3 x.2.1),(4,ROW qT 124 x.2.2)],5⟩) ?_ fun b4=>?_
    · rintro x rfl;dsimp only at hm;refine .blkE (.seqN (.sr (.mv R (.op (O.lenH sl53 Z R R R) R (.fa y2S R (.st nag3.sz R (.nr (.op (O.lg (l':=[lH 2,lI (x.1.length:Int),lH 3,lH 4]) ag35 Z R (.B R) R R R) R (.mv R (.st ag35.sz R (.sa R (.an R (.ret ?_)))))))))))));cases hm;exact .rr [2,3,4,0] Tryz.results32 (.cell R R ag35 R (.tmp R (.tmp R .nil))) R I3 ⟨⟨_,R,I4⟩,⟨_,R,I4⟩,⟨_,R,I4⟩,⟨_,R,I4⟩,trivial⟩
    refine .cutU (z:= .ret) (fun T=> .inr (T)=a3) (fun (T:Unit)=>⟨[(4,.i 3),(3,.o (lN)),(2,.q 0 0)],[(0,.bx 35 [lN,lI 0,lN,lN])],1⟩) ?_ fun b5=>?_
    · rintro T rfl;dsimp only at hm;refine .blkR (.seqR (.nlb qI 3 0 0 R R (.nlb qI 3 0 2 R R (.nlb qT 124 0 3 R R (.nlg (rL qI) 32 3 0 R R ?_)))));cases hm;exact .rr [1,2,3,4] Tryz.results32 (.cell R R ag35 R (.tmp R (.tmp R .nil))) R I3 ⟨⟨_,R,I4⟩,⟨_,R,I4⟩,⟨_,R,I4⟩,⟨_,R,I4⟩,trivial⟩
    refine .nlb qI 3 0 2 R R (.nlb qT 124 0 3 R R (.iter (fun (d:Int×(List (ByteArray×Int))×List (List Int)×List Int×EdgL)=>⟨[(10,.i d.1),(9,.h 0),(3,.h 1),(6,.q 2 0),(2,.q 5 0)],[(0,MAP kvS qI 167 d.2.1),(1,ROW (rL qI) 32 d.2.2.1),(2,.bx 162 [lF rE35 e.1,lH 3,lH 4]),(3,ROW qI 3 e.2.1),(4,ROW (rM kvP qI) 139 e.2.2),(5,.bx 35 [lH 3,lI 0,lH 6,lH 7]),(6,ROW qI 3 d.2.2.2.1),(7,ROW qT 124 d.2.2.2.2)],8⟩) a7 [(0,6),(1,5),(2,3),(3,1),(4,2),(5,0),(6,7),(7,8)] R ?_));intro d a2 hm a9 Q;unfold y2I at hm;refine .seq (.sr (.mv R (.mv R (.op (O.lenH sl53 Z R R R) R (.bi R (.ns ?_))))));refine .cc hm R (fun hm=>?_) fun hm=> .exit (.seqX (.seqX ((b4 _ (Q _ (oi hm).symm)).sub [(0,1),(1,5),(2,3),(3,6),(4,7)] R)));refine .skip (.seqN (.seq (.block ?_)));refine .join1 (fun (m:List Int)=>y2H e d m=some a2) (fun m=>⟨[(10,.i d.1),(9,.h 0),(3,.h 1),(6,.q 2 0),(2,.q 5 0)],[(0,MAP kvS qI 167 d.2.1),(1,ROW (rL qI) 32 d.2.2.1),(2,.bx 162 [lF rE35 e.1,lH 3,lH 4]),(3,ROW qI 3 e.2.1),(4,ROW (rM kvP qI) 139 e.2.2),(5,.bx 35 [lH 3,lI 0,lH 6,lH 7]),(6,ROW qI 3 m),(7,ROW qT 124 d.2.2.2.2)],8⟩) ?_ ?_
    · intro m hm;unfold y2H at hm;refine .sr (.fa yeW R (.lb nag32 R (.op (O.lenH sl32 Z R R R) R (.mv R (.ns (.block (bS hm fun a4 a8 hm=>?_)))))));refine .cutU (z:= .exit 2) (fun t=> .inl t=a4) (fun (t:(List (ByteArray×Int))×List (List Int)×EdgL)=>⟨[(10,.i d.1),(9,.h 0),(3,.h 1),(6,.q 2 0),(2,.q 5 0)],[(0,MAP kvS qI 167 t.1),(1,ROW (rL qI) 32 t.2.1),(2,.bx 162 [lF rE35 e.1,lH 3,lH 4]),(3,ROW qI 3 e.2.1),(4,ROW (rM kvP qI) 139 e.2.2),(5,.bx 35 [lH 3,lI 0,lH 6,lH 7]),(6,ROW qI 3 m),(7,ROW qT 124 t.2.2)],8⟩) ?_ fun a5=>?_
      · rintro t rfl;dsimp only at hm;exact .blkE (.blkN (.seqN (.reg (.mv R (.bi R (.sa R (.nil ((a9 _ (oi hm).symm).sub [] R))))))))
      refine .cutU (z:= .ret) (fun H=> .inr (H)=a4) (fun (H:Unit)=>⟨[(4,.i 3),(3,.o (lN)),(2,.q 0 0)],[(0,.bx 35 [lN,lI 0,lN,lN])],1⟩) ?_ fun a6=>?_
      · rintro H rfl;dsimp only at hm;exact .blkR (.blkR (.seqR (.seqR ((b5 _ (Q _ (oi hm).symm)).sub [] R))))
      refine .iter (fun (j:Int×(List (ByteArray×Int))×List (List Int)×EdgL)=>⟨[(63,.i j.1),(62,.i (e.2.1.length:Int)),(61,.h 0),(10,.i d.1),(9,.h 1),(3,.h 2),(6,.q 3 0),(2,.q 5 0)],[(0,ROW qI 3 e.2.1),(1,MAP kvS qI 167 j.2.1),(2,ROW (rL qI) 32 j.2.2.1),(3,.bx 162 [lF rE35 e.1,lH 0,lH 4]),(4,ROW (rM kvP qI) 139 e.2.2),(5,.bx 35 [lH 0,lI 0,lH 6,lH 7]),(6,ROW qI 3 m),(7,ROW qT 124 j.2.2.2)],8⟩) a8 [(0,3),(1,0),(2,1),(3,2)] R ?_;intro j N hm b0 S;unfold y2G at hm;refine .sr (.bi R (.ns (.seq ?_)));refine .cc hm R (fun hm=>?_) fun hm=> .exit (.seqX (.seqX ((a5 _ (S _ (oi hm).symm)).sub [(0,1),(1,2),(2,3),(3,0)] R)));refine .skip (.seqN ?_);refine .join3 (fun (y:List (ByteArray×Int)) (D:List (List Int)) (E:List (Int×Int×Int))=>y2E j y D E=some N) (fun y D E=>⟨[(63,.i j.1),(62,.i (e.2.1.length:Int)),(61,.h 0),(10,.i d.1),(9,.h 1),(3,.h 2),(6,.q 3 0),(2,.q 5 0)],[(0,ROW qI 3 e.2.1),(1,MAP kvS qI 167 y),(2,ROW (rL qI) 32 D),(3,.bx 162 [lF rE35 e.1,lH 0,lH 4]),(4,ROW (rM kvP qI) 139 e.2.2),(5,.bx 35 [lH 0,lI 0,lH 6,lH 7]),(6,ROW qI 3 m),(7,ROW qT 124 E)],8⟩) ?_ ?_
      · intro y D E hm;unfold y2E at hm;exact .reg (.bi R (.mv R (.nil ((b0 _ (oi hm).symm).sub [] R))))
      · intro I;refine .block (.sr (bS hm fun u K hm=> .op (O.ir sl32 Z R R R K R) R (.op (O.ld nag3 Z R (.R R K lv3) R R) R (.an R (.seq ?_)))));refine .sub (τ:=⟨[(12,.i u),(63,.i j.1),(62,.i (e.2.1.length:Int)),(61,.h 0),(10,.i d.1),(9,.h 1),(3,.h 2),(6,.q 3 0),(2,.q 5 0)],[(0,ROW qI 3 e.2.1),(1,MAP kvS qI 167 j.2.1),(2,ROW (rL qI) 32 j.2.2.1),(3,.bx 162 [lF rE35 e.1,lH 0,lH 4]),(4,ROW (rM kvP qI) 139 e.2.2),(5,.bx 35 [lH 0,lI 0,lH 6,lH 7]),(6,ROW qI 3 m),(7,ROW qT 124 j.2.2.2)],8⟩) ?_ [] R;refine bS hm fun c1 L hm=>bS hm fun w U hm=>?_;refine .drw [(8,[]),(8,[]),(8,[]),(8,[oF,oT,oT]),(8,fA 1 (tT 3)),(8,[]),(8,tT 6),(9,tT 7),(9,tT 8),(9,tT 8),(9,tT 9),(9,tT 11)] [_,_,_,_,_,_,_,_,_,_,_,_] ⟨[(14,.b w.2),(13,.h 8),(12,.i u),(63,.i j.1),(62,.i (e.2.1.length:Int)),(61,.h 0),(10,.i d.1),(9,.h 1),(3,.h 2),(6,.q 3 0),(2,.q 5 0)],[(8,ROW qI 3 w.1),(0,ROW qI 3 e.2.1),(1,MAP kvS qI 167 j.2.1),(2,ROW (rL qI) 32 j.2.2.1),(3,.bx 162 [lF rE35 e.1,lH 0,lH 4]),(4,ROW (rM kvP qI) 139 e.2.2),(5,.bx 35 [lH 0,lI 0,lH 6,lH 7]),(6,ROW qI 3 m),(7,ROW qT 124 j.2.2.2)],9⟩ ⟨O.lg (l':=[lF rE35 e.1,lH 0,lH 4]) ag162 Z R (.B R) R R R,O.mv Z R R,O.mv Z R R,O.ir sl53 Z R R R L R,O.ld nag32 Z R (.R R L lv32) R R,O.mv Z R R,O.caY (r':= .tp [.h 8,.b w.2]) [8] [(0,ROW qI 3 w.1)] (some 9) (y9U U) cf100 R R Z R R ⟨⟨R,.rf,.hr R,.hr R,trivial⟩,⟨R,LnL.rf⟩,⟨R,LnL.rf⟩,trivial⟩ R ⟨.row flr3,trivial⟩ (fun _ _ _ _ h=>h) ⟨⟨_,R,I4⟩,trivial⟩ I3 R,O.mv Z R R,O.ex Z R R R,O.ex Z R R R,O.as Z R R,O.as Z R R,trivial⟩ (by kernel_rfl) R ?_;refine .seqN (.seq (.sr (.mv R (.op (O.not Z R R) R (.ns ?_)))));refine .cc hm R (fun hm=> .exit (.seqX (.blkE ((I _ _ _ hm).sub [] R)))) fun hm=>?_;refine .skip (.seqN (.sr (.mv R (.mv R (bS hm fun b1 V hm=> .op (O.caZ (y8m V) cf98 R R Z R ⟨⟨R,.hr R,trivial⟩,trivial⟩ (fun _ _ _ _ _ h=>h) R) R (.op (O.mi2 (k:=b1) md167 Z (.ow R R) (.o R) R) R (.mv R (.ex R (.ex R (.sa R (.an R ?_)))))))))));refine .join3 (fun (F:List (List Int)) (s:Int) (G:List (ByteArray×Int))=>y2F d j u F s G=some N) (fun F s G=>⟨[(3,.h 0),(15,.i s),(12,.i u),(63,.i j.1),(62,.i (e.2.1.length:Int)),(61,.h 1),(10,.i d.1),(9,.h 2),(6,.q 3 0),(2,.q 5 0)],[(0,ROW (rL qI) 32 F),(1,ROW qI 3 e.2.1),(2,MAP kvS qI 167 G),(3,.bx 162 [lF rE35 e.1,lH 1,lH 4]),(4,ROW (rM kvP qI) 139 e.2.2),(5,.bx 35 [lH 1,lI 0,lH 6,lH 7]),(6,ROW qI 3 m),(7,ROW qT 124 j.2.2.2)],8⟩) ?_ ?_
        · intro F s G hm;unfold y2F at hm;exact .reg (.fa y1J R (.lb nag33 R (.mv R (.mv R (.mv R (.op (O.bu (l:=[lI d.1,lI u,lI s]) pl124 R Z R R R) R (.op (O.bsF (r:=qT) (zs:=([(d.1,u,s)]:List (Int×Int×Int))) bs33 R R Z R R R (.c (.p .k (.p .k .k)) .n) R R R) R (bS hm fun c2 Y hm=> .op (O.ap 8 Tryz.underlying33 el124 R R Z R R (.fr R) Y R) R (.fa y1J R (.st nag33.sz R (.nil (.blkN ((I _ _ _ hm).sub [(0,1),(1,2),(2,0),(7,8)] R)))))))))))))
        · intro J;refine .sr (.mv R (.op (O.not Z R R) R (.ns ?_)));refine .cc hm R (fun hm=>?_) fun hm=> .skip ((J _ _ _ hm).sub [(0,2),(1,0),(2,1)] R);refine .seq (.sr (.mv R (.op (O.lenH sl53 Z R R R) R (.bi R (.ns ?_)))));exact .cc hm R (fun hm=> .sr (.op (O.bu (l:=[lN,lI 0,lN,lN]) pl35 R Z R R R) R (.st ag35.sz R (.sa R (.an R (.ret (.seqR (.seqR (.blkR (.seqR (.seqR ((a6 _ (S _ (oi hm).symm)).sub [(0,5)] R)))))))))))) fun hm=> .skip (.seqN (.sr (.mv R (.op (O.lenH sl53 Z R R R) R (.an R (.sr (.mv R (.mv R (bS hm fun b2 W hm=> .op (O.caZ (y8m W) cf98 R R Z R ⟨⟨R,.hr R,trivial⟩,trivial⟩ (fun _ _ _ _ _ h=>h) R) R (.mv R (.op (O.mu (k:=b2) (v:=(j.2.2.1.length:Int)) md167 (fun _ _=>eqS) Z R R (.o R) R .k) R (.ns (.reg (.mv R (.mv R (.fz 8 [99] [] R R fR R R (.op (O.bsF (r:=(rL qI)) (zs:=([w.1]:List (List Int))) bs53 R R Z R R R (.c .l .n) R R R) R (bS hm fun c3 a0 hm=> .op (O.ap 9 Tryz.underlying53 el32 R R Z R R (.fr R) a0 R) R (.sa R (.nil ((J _ _ _ hm).sub [(0,9),(1,0),(2,1)] R)))))))))))))))))))))
    · intro P;refine .seq ?_;refine .sub (τ:=⟨[(10,.i d.1),(9,.h 0),(3,.h 1),(6,.q 2 0),(2,.q 5 0)],[(0,MAP kvS qI 167 d.2.1),(1,ROW (rL qI) 32 d.2.2.1),(2,.bx 162 [lF rE35 e.1,lH 3,lH 4]),(3,ROW qI 3 e.2.1),(4,ROW (rM kvP qI) 139 e.2.2),(5,.bx 35 [lH 3,lI 0,lH 6,lH 7]),(6,ROW qI 3 d.2.2.2.1),(7,ROW qT 124 d.2.2.2.2)],8⟩) ?_ [] R;refine bS hm fun c4 M hm=>bS hm fun b3 X hm=>?_;refine .drw [(8,[]),(8,[]),(8,[]),(8,[oF,oT,oT]),(8,fA 1 (tT 3)),(8,tT 5)] [_,_,_,_,_,_] ⟨[(53,.b b3),(10,.i d.1),(9,.h 0),(3,.h 1),(6,.q 2 0),(2,.q 5 0)],[(0,MAP kvS qI 167 d.2.1),(1,ROW (rL qI) 32 d.2.2.1),(2,.bx 162 [lF rE35 e.1,lH 3,lH 4]),(3,ROW qI 3 e.2.1),(4,ROW (rM kvP qI) 139 e.2.2),(5,.bx 35 [lH 3,lI 0,lH 6,lH 7]),(6,ROW qI 3 d.2.2.2.1),(7,ROW qT 124 d.2.2.2.2)],8⟩ ⟨O.lg (l':=[lF rE35 e.1,lH 3,lH 4]) ag162 Z R (.B R) R R R,O.mv Z R R,O.mv Z R R,O.ir sl53 Z R R R M R,O.ld nag32 Z R (.R R M lv32) R R,O.caZ (y9r X) cf99 R R Z R ⟨⟨R,.rf,.hr R,.hr R,trivial⟩,⟨R,LnL.rf⟩,trivial⟩ (fun _ _ _ _ _ h=>h) R,trivial⟩ (by kernel_rfl) R ?_;exact .seqN (.cc hm R (fun hm=> .reg (.fa y6N R (.lb nag32 R (.mv R (.op (O.bsF (r:=qI) (zs:=([d.1]:List Int)) bs32 R R Z R R R (.c .k .n) R R R) R (bS hm fun c5 a1 hm=> .op (O.ap 8 Tryz.underlying32 el3 R R Z R R (.fr R) a1 R) R (.fa y6N R (.st nag32.sz R (.nil ((P _ hm).sub [(6,8)] R)))))))))) fun hm=> .skip ((P _ hm).sub [] R))
def y5P(p0:Bool)(p1:Bool):Option Bool:=
 some (p0&&p1)
theorem y9V{p0:Bool}{p1:Bool}{r:Bool}(hm:y5P p0 p1=some r):
  F0 196 [.b p0,.b p1] [] (.b r) []:=by
 unfold y5P at hm;refine Fw.mk2 Tryz.func196 Tryz.ntmps196 R (fun C=>?_) R;refine .sr (.an R (.sr (.mv R (.mv R ?_))));refine .cut 2 (fun (a:Bool)=>(p0&&p1)=a) (fun a=>⟨[(8,.b a)],[],0⟩) ?_ ?_
 ·rintro _ rfl;refine .an R (.ret ?_);cases hm;exact .rr [] Tryz.results196 (.tmp R .nil) R I3 trivial
 ·intro c;rcases Bool.eq_false_or_eq_true p0 with hc|hc
  ·refine .know (d:=6) R hc ?_;exact .op (O.mv (Gu.mk R R) R R) R (.op (O.pkT Z R R R R) R ((c p1 (andT hc).symm).sub [] R))
  ·refine .know (d:=6) R hc ?_;exact .sk R (.op (O.pkF Z R R R R) R ((c false (andF hc).symm).sub [] R))
def y4a(p0:List Int)(p1:List Int):Option (List Int):=
 (y3g p0 p1 y5P).bind fun a=>
 some a
theorem y7Q{p1:List Int}{r:List Int}(hm:y4a p0 p1=some r):
  F0 145 [.f qI p0,.f qI p1] [] (.h 0) [ROW qI 3 r]:=by
 unfold y4a at hm;refine Fw.mk2 Tryz.func145 Tryz.ntmps145 R (fun C=>?_) R;refine .sr (.an R (.sr (.mv R (.mv R (bS hm fun b a hm=> .op (O.cac (r':= .h 0) [0] [(0,ROW qI 3 b)] (some 1) (y7t a) cf75 R R Z R R ⟨⟨R,.rf⟩,⟨R,.rf⟩,⟨R,(.c (.fn cf196 (fun x r h=>y9V h) (fun _=>R)) .n)⟩,trivial⟩ R ⟨⟨_,R,I4⟩,trivial⟩ I3 R) R (.an R (.ret ?_)))))));cases hm;exact .rr [0] Tryz.results145 (.tmp R .nil) R I3 ⟨⟨_,R,I4⟩,trivial⟩
def y6E(p0:AutT)(a:Int×(List KeyT)):Option ((Int×(List KeyT))⊕(List KeyT)):=
 if decide (a.1<(p0.2.2.2.length:Int)) then
  (idx p0.2.2.2 a.1).bind fun b=>
  some (.inl (W (a.1+1),(kput a.2 (b.1,b.2.1) b.2.2)))
 else
  some (.inr a.2)
def y6s(p0:AutT):Option (AutT×(List KeyT)):=
 (iter (y6E p0) (0,([]:List KeyT))).bind fun a=>
 some (p0,a)
theorem y8G{p0:AutT}{r:(AutT×(List KeyT))}(hm:y6s p0=some r):
  F0 151 [.a (lx35 p0)] [] (.g (lx141 r)) []:=by
 unfold y6s at hm;refine Fw.mk2 Tryz.func151 Tryz.ntmps151 R (fun C=>?_) R;refine .sr (.bo 0 R (.al 1 zz141 R (.nr (.op (O.lg (l':=(lx35 p0)) ag35 Z R (.B R) R R R) R (.op (O.mk2 (kv:=kvP) (r:=qI) 2 R Z R) R (.op (O.bu (l:=[lF qI p0.1,lI p0.2.1,lF qI p0.2.2.1,lF qT p0.2.2.2,lH 2]) pl141 R Z R R R) R (.al 3 zz141 R (.st ag141.sz R (.ns (.seq (.sr (.fa y1J R (.lb nag33 R (.ln sl33 R (.mv R (.ns (.block (bS hm fun d e hm=>?_))))))))))))))))));refine .cut1 (z:= .exit 0) d (fun (d:(List KeyT))=>⟨[(3,.q 0 0),(2,.q 2 0)],[(0,.bx 141 [lF qI p0.1,lI p0.2.1,lF qI p0.2.2.1,lF qT p0.2.2.2,lH 1]),(1,MAP kvP qI 139 d),(2,.bx 141 [lN,lI 0,lN,lN,lV (.map none)])],3⟩) ?_ fun K8=>?_
 ·skip
  refine .blkE (.seqN (.sr (.op (O.lg (l':=[lF qI p0.1,lI p0.2.1,lF qI p0.2.2.1,lF qT p0.2.2.2,lH 1]) ag141 Z R (.B R) R R R) R (.st ag141.sz R (.ns (.ret (.fz 1 [] [0,2] R R fM R R ?_)))))));cases hm;exact .rr [] Tryz.results151 (.cell R R ag141 R .nil) R I3 trivial
 refine .iter (fun (c:Int×(List KeyT))=>⟨[(12,.i c.1),(11,.i (p0.2.2.2.length:Int)),(10,.f qT p0.2.2.2),(3,.q 0 0),(2,.q 2 0)],[(0,.bx 141 [lF qI p0.1,lI p0.2.1,lF qI p0.2.2.1,lF qT p0.2.2.2,lH 1]),(1,MAP kvP qI 139 c.2),(2,.bx 141 [lN,lI 0,lN,lN,lV (.map none)])],3⟩) e [(0,3),(1,2),(2,1)] R ?_;intro c n hm m j;unfold y6E at hm;refine .sr (.bi R (.ns (.seq ?_)));exact .cc hm R (fun hm=> .skip (.seqN (.seq (.block (.sr (bS hm fun b h hm=> .ix sl33 h R (.op (O.lg (l':=[lI b.1,lI b.2.1,lI b.2.2]) ag124 Z R (.E lv124) R R R) R (.al 3 zz124 R (.st ag124.sz R (.ns (.reg (.fa yi6 R (.lb yg1 R (.fa y3r R (.lb nag3 R (.fa y4X R (.lb nag3 R (.op (O.bu (l:=[lI b.1,lI b.2.1]) pl241 R Z R R R) R (.fa y4Y R (.lb nag3 R (.op (O.mu (k:=(b.1,b.2.1)) (v:=b.2.2) md139 (fun _ _=>eqP) Z R R (.a R R) R .k) R (.nil (.blkN (.seqN (.reg (.bi R (.mv R (.nil ((m _ (oi hm).symm).sub [] R))))))))))))))))))))))))))))) fun hm=> .exit (.seqX (.seqX ((K8 _ (j _ (oi hm).symm)).sub [] R)))
def y6q(p0:PbT)(a:Int):Option (Int⊕(Unit⊕Int)):=
 if decide (a<(([p0.1,p0.2.1]:List AutT).length:Int)) then
  (idx ([p0.1,p0.2.1]:List AutT) a).bind fun c=>
  (y2b c).bind fun b=>
  if(b != 0) then
   some (.inr (.inr (b)))
  else
   some (.inl (W (a+1)))
 else
  some (.inr (.inl ()))
def y7g(p0:PbT):Option ((Option TskT)×Int):=
 (iter (y6q p0) 0).bind fun i=>
 match i with
 | .inl k=>
  (y1c p0.2.1.1 p0.1.1).bind fun j=>
  if(!j) then
   some (none,9)
  else
   (y1M p0.2.2 32).bind fun b=>
   if(b != 0) then
    some (none,b)
   else
    (yz ([p0.1,p0.2.1]:List AutT)).bind fun a=>
    if(a.2.2 != 0) then
     some (none,a.2.2)
    else
     (y4a p0.1.1 p0.2.2).bind fun c=>
     (y6s p0.1).bind fun d=>
     (y6s p0.2.1).bind fun e=>
     (y6s a.1).bind fun f=>
     (y3P p0.1.1 c).bind fun g=>
     some ((some (d,e,f,a.2.1,c,g)),0)
 | .inr (h)=>
  some (none,h)
theorem ydM{p0:PbT}{r:(Option TskT)×Int}(hm:y7g p0=some r):
    F0 85 [.a (lx37 p0)] [] (.tp [.o (lK rE155 155 r.1),.i r.2]) []:=by
  unfold y7g at hm;refine Fw.mk2 Tryz.func85 Tryz.ntmps85 R (fun C=>?_) R;refine .sr (.bo 0 R (.sa R (.an R (.seq (.sr (.fa y3A R (.op (O.lg (l':=(lx35 p0.1)) ag35 Z R (.B R) R R R) R (.fa y4B R (.op (O.lg (l':=(lx35 p0.2.1)) ag35 Z R (.B R) R R R) R (.op (O.bsF (r:=rE35) (zs:=([p0.1,p0.2.1]:List AutT)) bs66 R R Z R R R (.c (.p .l (.p .k (.p .l .l))) (.c (.p .l (.p .k (.p .l .l))) .n)) R R R) R (.ln sl66 R (.mv R (.ns (.block (bS hm fun S N hm=>?_)))))))))))))));refine .cutU (z:= .exit 0) (fun L=> .inl L=S) (fun (L:Unit)=>⟨[(1,.q 0 0)],[(0,.bx 37 (lx37 p0))],1⟩) ?_ fun K8=>?_
  · rintro L rfl;dsimp only at hm;refine .blkE (.seqN (.seq (.sr (.fa y4B R (.fa yT R (.lb nag32 R (.fa y3A R (.fa yT R (.lb nag32 R (bS hm fun X P hm=> .c0 (y7i P) cf26 R (.op (O.not Z R R) R (.ns ?_))))))))))));refine .cc hm R (fun hm=>?_) fun hm=>?_
    ·refine .sr (.sa R (.an R (.ret (.seqR (.cnt 2 R (.c (.pn (r:=rE155) (T:=155)) .n) R ?_)))));cases hm;exact .rr [] Tryz.results85 (.tmp R (.tmp R .nil)) R I3 trivial
    ·refine .skip (.seqN (.seq (.sr (.fa y7N R (.lb nag32 R (bS hm fun V x hm=> .c0 (y4Z x) cf25 R (.an R (.sr (.mv R (.bi R (.ns ?_)))))))))));refine .cc hm R (fun hm=>?_) fun hm=>?_
     ·refine .sr (.mv R (.sa R (.an R (.ret (.seqR (.cnt 2 R (.c (.pn (r:=rE155) (T:=155)) .n) R ?_))))));cases hm;exact .rr [] Tryz.results85 (.tmp R (.tmp R .nil)) R I3 trivial
     ·refine .skip (.seqN (.sr (.fa y3A R (.op (O.lg (l':=(lx35 p0.1)) ag35 Z R (.B R) R R R) R (.fa y4B R (.op (O.lg (l':=(lx35 p0.2.1)) ag35 Z R (.B R) R R R) R (.op (O.bsF (r:=rE35) (zs:=([p0.1,p0.2.1]:List AutT)) bs66 R R Z R R R (.c (.p .l (.p .k (.p .l .l))) (.c (.p .l (.p .k (.p .l .l))) .n)) R R R) R (bS hm fun b y hm=> .op (O.ca (r':= .tp [.a [lH 1,lI b.1.2.1,lH 2,lH 3],.h 4,.i b.2.2]) [1,2,3,4] [(0,ROW qI 3 b.1.1),(1,ROW qI 3 b.1.2.2.1),(2,ROW qT 124 b.1.2.2.2),(3,ROW (rL qI) 32 b.2.1)] (some 5) (y7G y) cf32 R R Z R R R R ⟨⟨_,R,I4⟩,⟨_,R,I4⟩,⟨_,R,I4⟩,⟨_,R,I4⟩,trivial⟩ I3 R) R (.mv R (.ex R (.ex R (.ex R (.al 5 zz35 R (.st ag35.sz R (.sa R (.an R (.seq (.sr (.mv R (.bi R (.ns ?_)))))))))))))))))))));refine .cc hm R (fun hm=>?_) fun hm=>?_
      ·refine .sr (.mv R (.sa R (.an R (.ret (.seqR (.cnt 2 R (.c (.pn (r:=rE155) (T:=155)) .n) R ?_))))));cases hm;exact .rr [] Tryz.results85 (.tmp R (.tmp R .nil)) R I3 trivial
      ·refine .skip (.seqN (.sr (.fa y3A R (.fa yT R (.lb nag32 R (.fa y7N R (.lb nag32 R (bS hm fun s D hm=> .op (O.ca (r':= .h 6) [6] [(0,ROW qI 3 s)] (some 7) (y7Q D) cf145 R R Z R R R R ⟨⟨_,R,I4⟩,trivial⟩ I3 R) R (.an R (.seq (.fz 1 [49,42,48] [5] R R fR R R (.fz 2 [49,42,48] [5] R R fR R R (.fz 3 [49,42,48] [5] R R fR R R ?_)))))))))))));refine .sub (τ:=⟨[(11,.h 6),(9,.h 4),(8,.q 5 0),(1,.q 0 0)],[(6,ROW qI 3 s),(4,ROW (rL qI) 32 b.2.1),(5,.bx 35 (lx35 b.1)),(0,.bx 37 (lx37 p0))],7⟩) ?_ [] R;refine bS hm fun d F hm=>bS hm fun e G hm=>bS hm fun g H hm=>bS hm fun u I hm=>?_;refine .drw [(7,[]),(7,[oT]),(7,[oT,oT]),(7,[]),(7,[oF,oF,oF,oT]),(7,tT 5),(7,[]),(7,tT 7),(7,[]),(7,[]),(7,[]),(7,[oF,oF,oF,oF,oF,oF,oF,oF,oF,oF,oT]),(7,[oF,oF,oF,oF,oF,oF,oF,oF,oF,oF,oT,oT]),(7,[]),(7,tA 8 (fA 2 (tT 4))),(8,tT 15),(8,tT 16),(9,tT 17),(9,tT 18)] [_,_,_,_,_,_,_,_,_,_,_,_,_,_,_,_,_,_,_] ⟨[(3,.i 0),(2,.q 8 0)],[(8,.bx 155 [lF qI d.1.1,lI d.1.2.1,lF qI d.1.2.2.1,lF qT d.1.2.2.2,lM kvP qI d.2,lF qI e.1.1,lI e.1.2.1,lF qI e.1.2.2.1,lF qT e.1.2.2.2,lM kvP qI e.2,lF qI g.1.1,lI g.1.2.1,lF qI g.1.2.2.1,lF qT g.1.2.2.2,lM kvP qI g.2,lH 4,lH 6,lH 7]),(4,ROW (rL qI) 32 b.2.1),(6,ROW qI 3 s),(7,ROW qI 3 u)],9⟩ ⟨O.faP y3A Z R R,O.lg (l':=(lx35 p0.1)) ag35 Z R (.B R) R R R,O.ca0 (y8G F) cf151 R R Z R R R,O.faP y4B Z R R,O.lg (l':=(lx35 p0.2.1)) ag35 Z R (.B R) R R R,O.ca0 (y8G G) cf151 R R Z R R R,O.lg (l':=(lx35 b.1)) ag35 Z R (.B R) R R R,O.ca0 (y8G H) cf151 R R Z R R R,O.mv Z R R,O.mv Z R R,O.faP y3A Z R R,O.faP yT Z R R,O.ld nag32 Z R (.B R) R R,O.mv Z R R,O.caY (r':= .h 7) [7] [(0,ROW qI 3 u)] (some 8) (y9d I) cf17 R R Z R R ⟨⟨R,LnL.rf⟩,⟨R,.hr R,trivial⟩,trivial⟩ R ⟨.row flr3,trivial⟩ (fun _ _ _ _ h=>h) ⟨⟨_,R,I4⟩,trivial⟩ I3 R,O.bu (l:=[lF qI d.1.1,lI d.1.2.1,lF qI d.1.2.2.1,lF qT d.1.2.2.2,lM kvP qI d.2,lF qI e.1.1,lI e.1.2.1,lF qI e.1.2.2.1,lF qT e.1.2.2.2,lM kvP qI e.2,lF qI g.1.1,lI g.1.2.1,lF qI g.1.2.2.1,lF qT g.1.2.2.2,lM kvP qI g.2,lH 4,lH 6,lH 7]) pl155 R Z R R R,O.box 8 R Z R R R,O.as Z R R,O.as Z R R,trivial⟩ (by kernel_rfl) R ?_;refine .seqN (.ret (.fz 4 [] [8] R R fR R R (.fz 6 [] [8] R R fR R R (.fz 7 [] [8] R R fR R R (.fz 8 [2] [] R R fB R R (.cnt 2 R (.c (.pk (r:=rE155) (.p (.p (.p .l (.p .k (.p .l .l))) .m) (.p (.p (.p .l (.p .k (.p .l .l))) .m) (.p (.p (.p .l (.p .k (.p .l .l))) .m) (.p .l (.p .l .l)))))) .n) R ?_))))));cases hm;exact .rr [] Tryz.results85 (.tmp R (.tmp R .nil)) R I3 trivial
  refine .cutU (z:= .ret) (fun j=> .inr (j)=S) (fun (j:Int)=>⟨[(3,.i j),(2,.o (lV (.pointer none)))],[],0⟩) ?_ fun M=>?_
  · rintro j rfl;dsimp only at hm;refine .blkR (.seqR (.cnt 2 R (.c (.pn (r:=rE155) (T:=155)) .n) R ?_));cases hm;exact .rr [] Tryz.results85 (.tmp R (.tmp R .nil)) R I3 trivial
  refine .iter (fun (v:Int)=>⟨[(18,.i v),(17,.i (([p0.1,p0.2.1]:List AutT).length:Int)),(16,.f rE35 ([p0.1,p0.2.1]:List AutT)),(1,.q 0 0)],[(0,.bx 37 (lx37 p0))],1⟩) N [] R ?_;intro v U hm Q t;unfold y6q at hm;refine .sr (.bi R (.ns (.seq ?_)));refine .cc hm R (fun hm=>?_) fun hm=> .exit (.seqX (.seqX ((K8 _ (t _ (oi hm).symm)).sub [] R)));refine .skip (.seqN (.seq (.block (.sr (bS hm fun w K hm=> .ix sl66 K R (.op (O.lg (l':=(lx35 w)) ag35 Z R (.E lv35) R R R) R (.al 1 zz35 R (.st ag35.sz R (.nr (.op (O.lg (l':=(lx35 w)) ag35 Z R (.B R) R R R) R (bS hm fun W J hm=> .c0 (y6y J) cf101 R (.an R (.sr (.mv R (.bi R (.ns ?_))))))))))))))));exact .cc hm R (fun hm=> .sr (.mv R (.sa R (.an R (.ret (.blkR (.seqR (.seqR ((M _ (t _ (oi hm).symm)).sub [] R))))))))) fun hm=> .skip (.blkN (.seqN (.reg (.bi R (.mv R (.nil ((Q _ (oi hm).symm).sub [] R)))))))
def y2k(p0:List (Int×Int×Int))(p1:(Int×Int×Int)→Option Bool)(a:Int):Option (Int⊕(Unit⊕Int)):=
 if decide (a<(p0.length:Int)) then
  (idx p0 a).bind fun c=>
  (p1 c).bind fun b=>
  if b then
   some (.inr (.inr (a)))
  else
   some (.inl (W (a+1)))
 else
  some (.inr (.inl ()))
def y2f(p0:List (Int×Int×Int))(p1:(Int×Int×Int)→Option Bool):Option Int:=
 (iter (y2k p0 p1) 0).bind fun a=>
 match a with
 | .inl c=>
  some (-1)
 | .inr (b)=>
  some b
theorem y6o{p0:List (Int×Int×Int)}{p1:(Int×Int×Int)→Option Bool}{r:Int}(hm:y2f p0 p1=some r):
  F0 140 [.f qT p0,.o (lW Tryz.prog (fun (x:(Int×Int×Int))=> [.a [lI x.1,lI x.2.1,lI x.2.2]]) (fun (r:Bool)=> .b r) p1)] [] (.i r) []:=by
 unfold y2f at hm;refine Fw.mk2 Tryz.func140 Tryz.ntmps140 R (fun C=>?_) R;refine .sr (.an R (.seq (.sr (.mv R (.ln sl33 R (.mv R (.ns (.block (bS hm fun q n hm=>?_)))))))));refine .cutU (z:= .exit 0) (fun k=> .inl k=q) (fun (k:Unit)=>⟨[],[],0⟩) ?_ fun K8=>?_
 ·rintro k rfl;dsimp only at hm;refine .blkE (.seqN (.sr (.an R (.ret ?_))));cases hm;exact .rr [] Tryz.results140 (.tmp R .nil) R I3 trivial
 refine .cutU (z:= .ret) (fun d=> .inr (d)=q) (fun (d:Int)=>⟨[(4,.i d)],[],0⟩) ?_ fun m=>?_
 ·rintro d rfl;dsimp only at hm;refine .blkR (.seqR ?_);cases hm;exact .rr [] Tryz.results140 (.tmp R .nil) R I3 trivial
 refine .iter (fun (g:Int)=>⟨[(8,.i g),(7,.i (p0.length:Int)),(0,.f qT p0),(1,.o (lW Tryz.prog (fun (x:(Int×Int×Int))=> [.a [lI x.1,lI x.2.1,lI x.2.2]]) (fun (r:Bool)=> .b r) p1))],[],0⟩) n [] R ?_;intro g s hm p e;unfold y2k at hm;refine .sr (.bi R (.ns (.seq ?_)));refine .cc hm R (fun hm=>?_) fun hm=> .exit (.seqX (.seqX ((K8 _ (e _ (oi hm).symm)).sub [] R)));refine .skip (.seqN (.seq (.block (.sr (.mv R (.an R (.sr (.mv R (.mv R (.mv R (bS hm fun c j hm=> .ix sl33 j R (.op (O.lg (l':=[lI c.1,lI c.2.1,lI c.2.2]) ag124 Z R (.E lv124) R R R) R (bS hm fun t h hm=>?_)))))))))))));refine .op (O.fv (y:=c) R R R Z R h R R) R ?_;exact .ns (.cc hm R (fun hm=> .sr (.mv R (.an R (.ret (.blkR (.seqR (.seqR ((m _ (e _ (oi hm).symm)).sub [] R)))))))) fun hm=> .skip (.blkN (.seqN (.reg (.bi R (.mv R (.nil ((p _ (oi hm).symm).sub [] R))))))))
def y3B(p0:List Int)(p1:Int→Option Bool)(a:Int):Option (Int⊕(Unit⊕Int)):=
 if decide (a<(p0.length:Int)) then
  (idx p0 a).bind fun c=>
  (p1 c).bind fun b=>
  if b then
   some (.inr (.inr (a)))
  else
   some (.inl (W (a+1)))
 else
  some (.inr (.inl ()))
def y4D(p0:List Int)(p1:Int→Option Bool):Option Int:=
 (iter (y3B p0 p1) 0).bind fun a=>
 match a with
 | .inl c=>
  some (-1)
 | .inr (b)=>
  some b
theorem y7u{p1:Int→Option Bool}{r:Int}(hm:y4D p0 p1=some r):
  F0 136 [.f qI p0,.o (lW Tryz.prog (fun (x:Int)=> [.i x]) (fun (r:Bool)=> .b r) p1)] [] (.i r) []:=by
 unfold y4D at hm;refine Fw.mk2 Tryz.func136 Tryz.ntmps136 R (fun C=>?_) R;refine .sr (.an R (.seq (.sr (.mv R (.ln sl32 R (.mv R (.ns (.block (bS hm fun m k hm=>?_)))))))));refine .cutU (z:= .exit 0) (fun h=> .inl h=m) (fun (h:Unit)=>⟨[],[],0⟩) ?_ fun K8=>?_
 ·rintro h rfl;dsimp only at hm;refine .blkE (.seqN (.sr (.an R (.ret ?_))));cases hm;exact .rr [] Tryz.results136 (.tmp R .nil) R I3 trivial
 refine .cutU (z:= .ret) (fun a=> .inr (a)=m) (fun (a:Int)=>⟨[(4,.i a)],[],0⟩) ?_ fun j=>?_
 ·rintro a rfl;dsimp only at hm;refine .blkR (.seqR ?_);cases hm;exact .rr [] Tryz.results136 (.tmp R .nil) R I3 trivial
 refine .iter (fun (d:Int)=>⟨[(8,.i d),(7,.i (p0.length:Int)),(0,.f qI p0),(1,.o (lW Tryz.prog (fun (x:Int)=> [.i x]) (fun (r:Bool)=> .b r) p1))],[],0⟩) k [] R ?_;intro d p hm l c;unfold y3B at hm;refine .sr (.bi R (.ns (.seq ?_)));refine .cc hm R (fun hm=>?_) fun hm=> .exit (.seqX (.seqX ((K8 _ (c _ (oi hm).symm)).sub [] R)));refine .skip (.seqN (.seq (.block (.sr (.mv R (.an R (.sr (.mv R (.mv R (.mv R (bS hm fun n g hm=> .ix sl32 g R (.le nag3 lv3 R (bS hm fun q e hm=>?_)))))))))))));refine .op (O.fv (y:=n) R R R Z R e R R) R ?_;exact .ns (.cc hm R (fun hm=> .sr (.mv R (.an R (.ret (.blkR (.seqR (.seqR ((j _ (c _ (oi hm).symm)).sub [] R)))))))) fun hm=> .skip (.blkN (.seqN (.reg (.bi R (.mv R (.nil ((l _ (oi hm).symm).sub [] R))))))))
def y1q(b:Int×List Int)(a:List Int):Option ((Int×List Int)⊕(List Int)):=
 some (.inl (W (b.1+1),a))
def y2A(p0:Int)(a:Int×List Int):Option ((Int×List Int)⊕(List Int)):=
 if decide (a.1<5) then
  (ng a.1).bind fun _=>
  if((IntKind.u8.wrap (((BitVec.ofInt 8 (p0.fdiv (2 ^ (min a.1.toNat 8))) &&& BitVec.ofInt 8 1).toNat:Int)))==1) then
   (app a.2 ([a.1]:List Int)).bind fun b=>
   y1q a b
  else
   y1q a a.2
 else
  some (.inr a.2)
def y1m(p0:Int):Option (List Int):=
 (iter (y2A p0) (0,([]:List Int))).bind fun a=>
 some a
theorem y5K{p0:Int}{r:List Int}(hm:y1m p0=some r):
  F0 144 [.o (lV (.int .u8 p0))] [] (.h 0) [ROW qI 3 r]:=by
 unfold y1m at hm;refine Fw.mk2 Tryz.func144 Tryz.ntmps144 R (fun C=>?_) R;refine .sr (.an R (.sr (.an R (.seq (.sr (.an R (.block (bS hm fun f l hm=>?_))))))));refine .cut1 (z:= .exit 0) f (fun (f:List Int)=>⟨[(3,.h 0)],[(0,ROW qI 3 f)],1⟩) ?_ fun j=>?_
 ·skip
  refine .blkE (.seqN (.sr (.mv R (.an R (.ret ?_)))));cases hm;exact .rr [0] Tryz.results144 (.tmp R .nil) R I3 ⟨⟨_,R,I4⟩,trivial⟩
 refine .nlg qI 3 3 0 R R (.iter (fun (a:Int×List Int)=>⟨[(4,.i a.1),(3,.h 0),(0,.o (lV (.int .u8 p0)))],[(0,ROW qI 3 a.2)],1⟩) l [] R ?_);intro a g hm p m;unfold y2A at hm;refine .seq (.sr (.mv R (.bi R (.ns ?_))));refine .cc hm R (fun hm=>?_) fun hm=> .exit (.seqX (.seqX ((j _ (m _ (oi hm).symm)).sub [] R)));refine .skip (.seqN ?_);refine .join1 (fun (b:List Int)=>y1q a b=some g) (fun b=>⟨[(3,.h 0),(4,.i a.1),(0,.o (lV (.int .u8 p0)))],[(0,ROW qI 3 b)],1⟩) ?_ ?_
 ·intro b hm;unfold y1q at hm;exact .reg (.mv R (.bi R (.sa R (.nil ((p _ (oi hm).symm).sub [] R)))))
 ·intro d;refine .block (.sr (.mv R (.mv R (bS hm fun _ q hm=> .op (O.shr Z R R (yeN q) R) R (.bi R (.bi R (.ns ?_)))))));exact .cc hm R (fun hm=> .reg (.mv R (.mv R (.op (O.bsF (r:=qI) (zs:=([a.1]:List Int)) bs32 R R Z R R R (.c .k .n) R R R) R (bS hm fun s e hm=> .op (O.ap 1 Tryz.underlying32 el3 R R Z R R (.fr R) e R) R (.sa R (.nil (.blkN ((d _ hm).sub [(0,1)] R))))))))) fun hm=> .skip (.blkN ((d _ hm).sub [] R))
def y2J(p0:List Int):Option AutT:=
 (app ([]:List Int) p0).bind fun a=>
 some (a,0,([]:List Int),([]:List (Int×Int×Int)))
theorem y6A{r:AutT}(hm:y2J p0=some r):
  F0 194 [.f qI p0] [] (.g [lH 0,lI r.2.1,lH 1,lH 2]) [ROW qI 3 r.1,ROW qI 3 r.2.2.1,ROW qT 124 r.2.2.2]:=by
 unfold y2J at hm;refine Fw.mk2 Tryz.func194 Tryz.ntmps194 R (fun C=>?_) R;refine .sr (.al 0 zz35 R (.nr (.op (O.b0O (r:=qI) 1 R bs32 R Z R) R (.mv R (bS hm fun b a hm=> .op (O.ap 2 Tryz.underlying32 el3 R R Z R R (.fr R) a R) R (.op (O.bu (l:=[lH 2,lI 0,lN,lN]) pl35 R Z R R R) R (.st ag35.sz R (.ns (.ret (.nlb qI 3 0 2 R R (.nlb qT 124 0 3 R R ?_)))))))))));cases hm;exact .rr [2,3,4] Tryz.results194 (.cell R R ag35 R .nil) R I3 ⟨⟨_,R,I4⟩,⟨_,R,I4⟩,⟨_,R,I4⟩,trivial⟩
def y4i(p0:AutT)(p1:Int)(p2:Int)(a:Int):Option (Int⊕(Unit⊕Int)):=
 if decide (a<(p0.2.2.2.length:Int)) then
  (idx p0.2.2.2 a).bind fun c=>
  (if (c.1==p1) then
   (idx p0.2.2.2 a).bind fun e=>
   some (e.2.1==p2)
  else
   some false).bind fun b=>
  if b then
   (idx p0.2.2.2 a).bind fun d=>
   some (.inr (.inr (d.2.2)))
  else
   some (.inl (W (a+1)))
 else
  some (.inr (.inl ()))
def yq(p0:AutT)(p1:Int)(p2:Int):Option Int:=
 (iter (y4i p0 p1 p2) 0).bind fun b=>
 match b with
 | .inl c=>
  some (-1)
 | .inr (a)=>
  some a
theorem yK{p0:AutT}{p2:Int}{r:Int}(hm:yq p0 p1 p2=some r):
  F0 55 [.a (lx35 p0),.i p1,.i p2] [] (.i r) []:=by
 unfold yq at hm;refine Fw.mk2 Tryz.func55 Tryz.ntmps55 R (fun C=>?_) R;refine .sr (.bo 0 R (.an R (.seq (.sr (.an R (.block (bS hm fun u s hm=>?_)))))));refine .cutU (z:= .exit 0) (fun f=> .inl f=u) (fun (f:Unit)=>⟨[],[],0⟩) ?_ fun n=>?_
 ·rintro f rfl;dsimp only at hm;refine .blkE (.seqN (.sr (.an R (.ret ?_))));cases hm;exact .rr [] Tryz.results55 (.tmp R .nil) R I3 trivial
 refine .cutU (z:= .ret) (fun c=> .inr (c)=u) (fun (c:Int)=>⟨[(6,.i c)],[],0⟩) ?_ fun o=>?_
 ·rintro c rfl;dsimp only at hm;refine .blkR (.seqR ?_);cases hm;exact .rr [] Tryz.results55 (.tmp R .nil) R I3 trivial
 refine .iter (fun (e:Int)=>⟨[(7,.i e),(3,.q 0 0),(1,.i p1),(2,.i p2)],[(0,.bx 35 (lx35 p0))],1⟩) s [] R ?_;intro e w hm t j;unfold y4i at hm;refine .seq (.sr (.mv R (.fa y1J R (.lb nag33 R (.ln sl33 R (.bi R (.ns ?_)))))));refine .cc hm R (fun hm=>?_) fun hm=> .exit (.seqX (.seqX ((n _ (j _ (oi hm).symm)).sub [] R)));refine .skip (.seqN (.seq (.block (.sr (.fa y1J R (.lb nag33 R (.mv R (bS hm fun x k hm=> .ix sl33 k R (.fe y3r R (.le nag3 lv124 R (.mv R (.bi R (.mv R (bS hm fun p eb16 hm=>?_))))))))))))));refine .cut 9 (fun (g:Bool)=>p=g) (fun g=>⟨[(32,.b g),(7,.i e),(3,.q 0 0),(1,.i p1),(2,.i p2)],[(0,.bx 35 (lx35 p0))],1⟩) ?_ ?_
 ·rintro _ rfl;exact .ns (.cc hm R (fun hm=> .sr (.fa y1J R (.lb nag33 R (.mv R (bS hm fun y l hm=> .ix sl33 l R (.fe y4Y R (.le nag3 lv124 R (.an R (.ret (.blkR (.seqR (.seqR ((o _ (j _ (oi hm).symm)).sub [] R))))))))))))) fun hm=> .skip (.blkN (.seqN (.reg (.mv R (.bi R (.sa R (.nil ((t _ (oi hm).symm).sub [] R)))))))))
 ·intro h;rcases ifS eb16 with ⟨hc,hm⟩|⟨hc,hm⟩
  ·refine .know (d:=23) R hc ?_;exact .op (O.faP y1J (Gu.mk R R) R R) R (.op (O.ld nag33 (Gu.mk R R) R (.B R) R R) R (.op (O.mv (Gu.mk R R) R R) R (bS hm fun v m hm=> .op (O.ix sl33 (Gu.mk R R) R R m R) R (.op (O.faE y4X (Gu.mk R R) R R) R (.op (O.ld nag3 (Gu.mk R R) R (.E lv124) R R) R (.op (O.mv (Gu.mk R R) R R) R (.op (O.bi (Gu.mk R R) R R R R) R (.op (O.pkT Z R R R R) R ((h (v.2.1==p2) (oi hm).symm).sub [] R)))))))))
  ·refine .know (d:=23) R hc ?_;exact .sk R (.sk R (.sk R (.sk R (.sk R (.sk R (.sk R (.sk R (.op (O.pkF Z R R R R) R ((h false (oi hm).symm).sub [] R)))))))))
def y4E(p0:List Int)(p1:Int)(a:Int):Option (Int⊕(Unit⊕Unit)):=
 if decide (a<(p0.length:Int)) then
  (idx p0 a).bind fun b=>
  if(b==p1) then
   some (.inr (.inr (())))
  else
   some (.inl (W (a+1)))
 else
  some (.inr (.inl ()))
def y4v(p0:List Int)(p1:Int):Option Bool:=
 (iter (y4E p0 p1) 0).bind fun a=>
 match a with
 | .inl b=>
  some false
 | .inr (c)=>
  some true
theorem y8d{r:Bool}(hm:y4v p0 p1=some r):
  F0 229 [.f qI p0,.i p1] [] (.b r) []:=by
 unfold y4v at hm;refine Fw.mk2 Tryz.func229 Tryz.ntmps229 R (fun C=>?_) R;refine .sr (.an R (.seq (.sr (.an R (.block (bS hm fun k g hm=>?_))))));refine .cutU (z:= .exit 0) (fun d=> .inl d=k) (fun (d:Unit)=>⟨[],[],0⟩) ?_ fun K6=>?_
 ·rintro d rfl;dsimp only at hm;refine .blkE (.seqN (.sr (.an R (.ret ?_))));cases hm;exact .rr [] Tryz.results229 (.tmp R .nil) R I3 trivial
 refine .cutU (z:= .ret) (fun e=> .inr (e)=k) (fun (e:Unit)=>⟨[(4,.b true)],[],0⟩) ?_ fun K8=>?_
 ·rintro e rfl;dsimp only at hm;refine .blkR (.seqR ?_);cases hm;exact .rr [] Tryz.results229 (.tmp R .nil) R I3 trivial
 refine .iter (fun (c:Int)=>⟨[(5,.i c),(0,.f qI p0),(1,.i p1)],[],0⟩) g [] R ?_;intro c l hm j a;unfold y4E at hm;refine .seq (.sr (.mv R (.mv R (.ln sl32 R (.bi R (.ns ?_))))));refine .cc hm R (fun hm=>?_) fun hm=> .exit (.seqX (.seqX ((K6 _ (a _ (oi hm).symm)).sub [] R)));refine .skip (.seqN (.seq (.block (.sr (.mv R (.mv R (bS hm fun m h hm=> .ix sl32 h R (.le nag3 lv3 R (.mv R (.bi R (.ns ?_)))))))))));exact .cc hm R (fun hm=> .sr (.an R (.ret (.blkR (.seqR (.seqR ((K8 _ (a _ (oi hm).symm)).sub [] R))))))) fun hm=> .skip (.blkN (.seqN (.reg (.mv R (.bi R (.sa R (.nil ((j _ (oi hm).symm).sub [] R))))))))
def y2K(a:Int×List Int)(b:List Int):Option ((Int×List Int)⊕(List Int)):=
 some (.inl (W (a.1+1),b))
def y2L(p0:AutT)(c:Int×List Int)(a:Int×List Int):Option ((Int×List Int)⊕(List Int)):=
 if decide (a.1<(p0.1.length:Int)) then
  (idx a.2 c.1).bind fun f=>
  (idx p0.1 a.1).bind fun g=>
  (yq p0 f g).bind fun b=>
  (if decide (b≥0) then
   (y4v a.2 b).bind fun e=>
   some (!e)
  else
   some false).bind fun d=>
  if d then
   (app a.2 ([b]:List Int)).bind fun h=>
   y2K a h
  else
   y2K a a.2
 else
  some (.inr a.2)
def y2M(p0:AutT)(a:Int×List Int):Option ((Int×List Int)⊕(List Int)):=
 if decide (a.1<(a.2.length:Int)) then
  (iter (y2L p0 a) (0,a.2)).bind fun b=>
  some (.inl (W (a.1+1),b))
 else
  some (.inr a.2)
def y3Q(p0:AutT)(b:List Int):Option (List Int):=
 (iter (y2M p0) (0,b)).bind fun a=>
 some a
def y5c(p0:AutT):Option (List Int):=
 if decide (p0.2.1>0) then
  (app ([]:List Int) ([0]:List Int)).bind fun a=>
  y3Q p0 a
 else
  y3Q p0 ([]:List Int)
theorem ya6{p0:AutT}{r:List Int}(hm:y5c p0=some r):
  F0 228 [.a (lx35 p0)] [] (.h 0) [ROW qI 3 r]:=by
 unfold y5c at hm;refine Fw.mk2 Tryz.func228 Tryz.ntmps228 R (fun C=>?_) R;refine .sr (.bo 0 R (.an R (.sr (.an R ?_))));refine .join1 (fun (u:List Int)=>y3Q p0 u=some r) (fun u=>⟨[(3,.h 0),(1,.q 1 0)],[(0,ROW qI 3 u),(1,.bx 35 (lx35 p0))],2⟩) ?_ ?_
 ·intro u hm;unfold y3Q at hm;refine .seq (.sr (.an R (.block (bS hm fun o y hm=>?_))));refine .cut1 (z:= .exit 0) o (fun (o:List Int)=>⟨[(3,.h 0)],[(0,ROW qI 3 o)],1⟩) ?_ fun P=>?_
  ·skip
   refine .blkE (.seqN (.sr (.mv R (.an R (.ret ?_)))));cases hm;exact .rr [0] Tryz.results228 (.tmp R .nil) R I3 ⟨⟨_,R,I4⟩,trivial⟩
  refine .iter (fun (f:Int×List Int)=>⟨[(4,.i f.1),(3,.h 0),(1,.q 1 0)],[(0,ROW qI 3 f.2),(1,.bx 35 (lx35 p0))],2⟩) y [] R ?_;intro f U hm M K;unfold y2M at hm;refine .seq (.sr (.mv R (.mv R (.op (O.lenH sl32 Z R R R) R (.bi R (.ns ?_))))));refine .cc hm R (fun hm=>?_) fun hm=> .exit (.seqX (.seqX ((P _ (K _ (oi hm).symm)).sub [] R)));refine .skip (.seqN (.seq (.block (.sr (.an R (.block (bS hm fun p D hm=>?_)))))));refine .cut1 (z:= .exit 2) p (fun (p:List Int)=>⟨[(4,.i f.1),(3,.h 0),(1,.q 1 0)],[(0,ROW qI 3 p),(1,.bx 35 (lx35 p0))],2⟩) ?_ fun Q=>?_
  ·skip
   exact .blkE (.blkN (.seqN (.reg (.mv R (.bi R (.sa R (.nil ((M _ (oi hm).symm).sub [] R))))))))
  refine .iter (fun (e:Int×List Int)=>⟨[(5,.i e.1),(4,.i f.1),(3,.h 0),(1,.q 1 0)],[(0,ROW qI 3 e.2),(1,.bx 35 (lx35 p0))],2⟩) D [] R ?_;intro e v hm N L;unfold y2L at hm;refine .seq (.sr (.mv R (.fa yT R (.lb nag32 R (.ln sl32 R (.bi R (.ns ?_)))))));refine .cc hm R (fun hm=>?_) fun hm=> .exit (.seqX (.seqX ((Q _ (L _ (oi hm).symm)).sub [] R)));refine .skip (.seqN ?_);refine .join1 (fun (g:List Int)=>y2K e g=some v) (fun g=>⟨[(3,.h 0),(5,.i e.1),(4,.i f.1),(1,.q 1 0)],[(0,ROW qI 3 g),(1,.bx 35 (lx35 p0))],2⟩) ?_ ?_
  ·intro g hm;unfold y2K at hm;exact .reg (.mv R (.bi R (.sa R (.nil ((N _ (oi hm).symm).sub [] R)))))
  ·intro j;refine .block (.seq ?_);refine .sub (τ:=⟨[(5,.i e.1),(4,.i f.1),(3,.h 0),(1,.q 1 0)],[(0,ROW qI 3 e.2),(1,.bx 35 (lx35 p0))],2⟩) ?_ [] R;refine bS hm fun V m hm=>bS hm fun W H hm=>bS hm fun s F hm=>?_;refine .drw [(2,[]),(2,[]),(2,[]),(2,[oF,oT,oT]),(2,fA 1 (tT 3)),(2,[]),(2,[oF,oF,oF,oF,oF,oT]),(2,[]),(2,fA 5 (tT 3)),(2,fA 5 (tT 4)),(2,tT 10),(2,tT 11)] [_,_,_,_,_,_,_,_,_,_,_,_] ⟨[(6,.i s),(5,.i e.1),(4,.i f.1),(3,.h 0),(1,.q 1 0)],[(0,ROW qI 3 e.2),(1,.bx 35 (lx35 p0))],2⟩ ⟨O.lg (l':=(lx35 p0)) ag35 Z R (.B R) R R R,O.mv Z R R,O.mv Z R R,O.ir sl32 Z R R R m R,O.ld nag3 Z R (.R R m lv3) R R,O.faP yT Z R R,O.ld nag32 Z R (.B R) R R,O.mv Z R R,O.ix sl32 Z R R H R,O.ld nag3 Z R (.E lv3) R R,O.ca0 (yK F) cf55 R R Z R R R,O.as Z R R,trivial⟩ (by kernel_rfl) R ?_;refine .seqN (.sr (.mv R (.bi R (.mv R (bS hm fun S eb59 hm=>?_)))));refine .cut 5 (fun (t:Bool)=>S=t) (fun t=>⟨[(44,.b t),(6,.i s),(5,.i e.1),(4,.i f.1),(3,.h 0),(1,.q 1 0)],[(0,ROW qI 3 e.2),(1,.bx 35 (lx35 p0))],2⟩) ?_ ?_
   ·rintro _ rfl;exact .ns (.cc hm R (fun hm=> .reg (.mv R (.mv R (.op (O.bsF (r:=qI) (zs:=([s]:List Int)) bs32 R R Z R R R (.c .k .n) R R R) R (bS hm fun X I hm=> .op (O.ap 2 Tryz.underlying32 el3 R R Z R R (.fr R) I R) R (.sa R (.nil (.blkN ((j _ hm).sub [(0,2)] R))))))))) fun hm=> .skip (.blkN ((j _ hm).sub [] R)))
   ·intro w;rcases ifS eb59 with ⟨hc,hm⟩|⟨hc,hm⟩
    ·refine .know (d:=39) R hc ?_;exact .op (O.mv (Gu.mk R R) R R) R (.op (O.mv (Gu.mk R R) R R) R (bS hm fun T G hm=> .op (O.caZ (y8d G) cf229 R R (Gu.mk R R) R ⟨⟨R,.hr R,trivial⟩,⟨R,LnL.rf⟩,trivial⟩ (fun _ _ _ _ _ h=>h) R) R (.op (O.not (Gu.mk R R) R R) R (.op (O.pkT Z R R R R) R ((w (!T) (oi hm).symm).sub [] R)))))
    ·refine .know (d:=39) R hc ?_;exact .sk R (.sk R (.sk R (.sk R (.op (O.pkF Z R R R R) R ((w false (oi hm).symm).sub [] R)))))
 ·intro x;refine .sr (.fa y2S R (.lb nag3 R (.bi R (.ns ?_))));exact .cc hm R (fun hm=> .reg (.mv R (.op (O.bsF (r:=qI) (zs:=([0]:List Int)) bs32 R R Z R R R (.c .k .n) R R R) R (bS hm fun Y J hm=> .op (O.apN (r:=qI) 1 Tryz.underlying32 el3 R R Z R (.fr R) J R) R (.sa R (.nil ((x _ hm).sub [(0,1),(1,0)] R))))))) fun hm=> .skip (.nlg qI 3 3 0 R R ((x _ hm).sub [(0,1),(1,0)] R))
def y3R(p0:List Int)(p1:Int)(a:Int):Option (Int⊕(Unit⊕Int)):=
 if decide (a<(p0.length:Int)) then
  (idx p0 a).bind fun b=>
  if(b==p1) then
   some (.inr (.inr (a)))
  else
   some (.inl (W (a+1)))
 else
  some (.inr (.inl ()))
def y5d(p0:List Int)(p1:Int):Option Int:=
 (iter (y3R p0 p1) 0).bind fun a=>
 match a with
 | .inl c=>
  some (-1)
 | .inr (b)=>
  some b
theorem ya7{r:Int}(hm:y5d p0 p1=some r):
  F0 230 [.f qI p0,.i p1] [] (.i r) []:=by
 unfold y5d at hm;refine Fw.mk2 Tryz.func230 Tryz.ntmps230 R (fun C=>?_) R;refine .sr (.an R (.seq (.sr (.an R (.block (bS hm fun j g hm=>?_))))));refine .cutU (z:= .exit 0) (fun e=> .inl e=j) (fun (e:Unit)=>⟨[],[],0⟩) ?_ fun K7=>?_
 ·rintro e rfl;dsimp only at hm;refine .blkE (.seqN (.sr (.an R (.ret ?_))));cases hm;exact .rr [] Tryz.results230 (.tmp R .nil) R I3 trivial
 refine .cutU (z:= .ret) (fun a=> .inr (a)=j) (fun (a:Int)=>⟨[(4,.i a)],[],0⟩) ?_ fun K9=>?_
 ·rintro a rfl;dsimp only at hm;refine .blkR (.seqR ?_);cases hm;exact .rr [] Tryz.results230 (.tmp R .nil) R I3 trivial
 refine .iter (fun (c:Int)=>⟨[(5,.i c),(0,.f qI p0),(1,.i p1)],[],0⟩) g [] R ?_;intro c k hm h b;unfold y3R at hm;refine .seq (.sr (.mv R (.mv R (.ln sl32 R (.bi R (.ns ?_))))));refine .cc hm R (fun hm=>?_) fun hm=> .exit (.seqX (.seqX ((K7 _ (b _ (oi hm).symm)).sub [] R)));refine .skip (.seqN (.seq (.block (.sr (.mv R (.mv R (bS hm fun l d hm=> .ix sl32 d R (.le nag3 lv3 R (.mv R (.bi R (.ns ?_)))))))))));exact .cc hm R (fun hm=> .sr (.mv R (.an R (.ret (.blkR (.seqR (.seqR ((K9 _ (b _ (oi hm).symm)).sub [] R)))))))) fun hm=> .skip (.blkN (.seqN (.reg (.mv R (.bi R (.sa R (.nil ((h _ (oi hm).symm).sub [] R))))))))
end
end Go.Proofs.YtecmobjeeonmaaaGreatDoor
