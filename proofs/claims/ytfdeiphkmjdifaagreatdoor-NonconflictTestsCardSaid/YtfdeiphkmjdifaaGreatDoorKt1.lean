/- Parts of the proof, without what nothing here names. -/
import Derived.WalkKit
import Derived.Lib.Hide
import Derived.RangeFuncWrites
import Derived.CallsIn
import Derived.TacticsIn
import Derived.Laws.CopyRow
import Derived.Laws.Tables
import Derived.Great.BuildSlice
import Derived.Laws.Small
import Derived.MapKept
import Derived.Laws.OwnMore
import Derived.Laws.Slices
import Derived.Orders
import Derived.RegionTactic
import Derived.OrdersIn
import Derived.Laws.StructEq
import Derived.Lib.AppendZeros
import Derived.WalkSpells
import Derived.ChangeKeysEq
import Derived.WideKeyRuns
namespace Go.Proofs.YtfdeiphkmjdifaaGreatDoor
section
theorem iN{c:Prop}{h:Decidable c}(hn:¬c){α:Sort _}{t e:α}:(ite c t e)=e:=if_neg hn
theorem iP{c:Prop}{h:Decidable c}(hn:c){α:Sort _}{t e:α}:(ite c t e)=t:=if_pos hn
theorem yGs{α:Type _}{i:Nat}{a:α}{l:List α}:l[i]? =some a↔ ∃h:i<l.length,l[i]=a:=List.getElem?_eq_some_iff
theorem yGd{α:Type _}{l:List α}{i:Nat}{a:α}:l.getD i a=l[i]?.getD a:=List.getD_eq_getElem?_getD
theorem yAe(a b:Bool):((a&&b)=true)=(a=true∧b=true):=Bool.and_eq_true a b
theorem yAl{α:Type _}{l r:List α}{i:Nat}(h:i<l.length):(l++r)[i]? =l[i]? :=List.getElem?_append_left h
theorem yAr{α:Type _}{l r:List α}{i:Nat}(h:l.length≤i):(l++r)[i]? =r[i-l.length]? :=List.getElem?_append_right h
theorem yLa{α:Type _}{a b:List α}:(a++b).length=a.length+b.length:=List.length_append
theorem yLc{α:Type _}{a:α}{b:List α}:(a::b).length=b.length+1:=rfl
theorem yNl{n m:Nat}(h:n.ble m=true):n≤m:=Nat.le_of_ble_eq_true h
theorem yMr{α:Type _}{b:α}(l:List α){r:List α}(h:b∈r):b∈l++r:=List.mem_append_right l h
theorem yMl{α:Type _}{a:α}{l:List α}(r:List α)(h:a∈l):a∈l++r:=List.mem_append_left r h
theorem yGo{α:Type _}{a:α}{l:List α}(h:a∈l):∃(i:Nat),∃(h:i<l.length),l[i]=a:=List.getElem_of_mem h
theorem yNr(n:Nat):n≤n:=Nat.le_refl n
theorem yMc{α:Type _}{a:α}{l:List α}:a∈a::l:=List.mem_cons_self
theorem yAs{α:Type _}{i:Nat}{b:α}{l:Array α}:l[i]? =some b↔ ∃h:i<l.size,l[i]=b:=Array.getElem?_eq_some_iff
theorem yMo{α:Type _}{b:α}{l:List α}{a:α}:a∈b::l↔a=b∨a∈l:=List.mem_cons
theorem yTn(n:Nat):(n:Int).toNat=n:=rfl
theorem yMm{α:Type _}(y:α){a:α}{l:List α}(h:a∈l):a∈y::l:=List.mem_cons_of_mem y h
theorem yLt{α:Type _}{i:Nat}{l:List α}:(l.take i).length=min i l.length:=List.length_take
theorem yPg{α:Type _}{R:α→α→Prop}{l:List α}:l.Pairwise R↔ ∀(i j:Nat) (_hi:i<l.length) (_hj:j<l.length),i<j→R l[i] l[j]:=List.pairwise_iff_getElem
theorem yLz{α:Type _}{l:List α}(h:l.length=0):l= []:=List.eq_nil_of_length_eq_zero h
theorem yLm{α:Type _}{β:Type _}{l:List α}(f:α→β):(l.map f).length=l.length:=List.length_map f
theorem yAa{α:Type _}(a b c:List α):a++b++c=a++(b++c):=List.append_assoc a b c
theorem yGn{α:Type _}{l:List α}{i:Nat}(h:l.length≤i):l[i]? =none:=List.getElem?_eq_none h
theorem ySi{α:Type _}{a b:α}(h:some a=some b):a=b:=Option.some.inj h
theorem yDc{α:Type _}{i:Nat}{l:List α}(h:i<l.length):l.drop i=l[i]::l.drop (i+1):=List.drop_eq_getElem_cons h
theorem yMp{α:Type _}{β:Type _}{b:β}{f:α→β}{l:List α}:b∈l.map f↔ ∃a,a∈l∧f a=b:=List.mem_map
theorem yAd{α:Type _}{l:Array α}{i:Nat}{d:α}:l.getD i d=l[i]?.getD d:=Array.getD_eq_getD_getElem?
theorem yGl{α:Type _}{i:Nat}{l r:List α}(h:i<l.length){h':i<(l++r).length}:(l++r)[i]=l[i]:=List.getElem_append_left h
theorem yPc{α:Type _}{R:α→α→Prop}{a:α}{l:List α}:(a::l).Pairwise R↔(∀b,b∈l→R a b)∧l.Pairwise R:=List.pairwise_cons
theorem yNz(n:Nat):0+n=n:=Nat.zero_add n
theorem yPn{α:Type _}{R:α→α→Prop}:([]:List α).Pairwise R:=List.Pairwise.nil
abbrev LI:=List Int
variable{a:Option Addr}{n:Int}{w w':World}{v:Value}{sz cap:Nat}{xs:LI}{k:Nat}
theorem yOb{α:Type _}{β:Type _}(x:α)(f:α→Option β):(some x).bind f=f x:=rfl
theorem yGe{α:Type _}{l:List α}{i:Nat}(h:i<l.length):l[i]? =some l[i]:=List.getElem?_eq_getElem h
theorem yMs{α:Type _}{a b:α}:a∈ [b]↔a=b:=List.mem_singleton
theorem yEt(b:Bool):b=true∨b=false:=Bool.eq_false_or_eq_true b
theorem yNb{n m:Nat}(h:Nat.beq n m=true):n=m:=Nat.eq_of_beq_eq_true h
theorem yGm{α:Type _}{l:List α}{n:Nat}(h:n<l.length):l[n]∈l:=List.getElem_mem h
theorem yMa{α:Type _}{a:α}{s t:List α}:a∈s++t↔a∈s∨a∈t:=List.mem_append
theorem yTs{α:Type _}{l:List α}{i:Nat}(h:i<l.length):l.take (i+1)=l.take i++[l[i]]:=List.take_succ_eq_append_getElem h
theorem yAt{α:Type _}{p:α→Bool}{l:List α}:l.all p=true↔ ∀x∈l,p x=true:=List.all_eq_true
theorem yIj{α:Type _}(a b:α):(some a=some b)=(a=b):=Option.some.injEq a b
theorem yZl(n:Nat):0≤n:=Nat.zero_le n
open Go.RowKit
structure RdS (w:World) (sz:Nat) (a:Option Addr) (len cap:Nat) (cs:List Value):Prop where
 hlen:cs.length=len*sz
 hcap:len≤cap
 hmax:cap≤maxLen
 hnil:a=none→cap=0
 spot:∀ad,a=some ad→ad.spot=none
 cell:∀ad,a=some ad→∀j (h:j<cs.length),w.cell? ⟨ad.block,ad.off+j,none⟩=some cs[j]
theorem keep{B:Nat}(hb:Below B w w'){a:Addr}(h:w.cell? a=some v)(ha:a.block<B):w'.cell? a=some v:=(hb.cell ha).trans h
theorem keep0(hb:Below w.heap.size w w'){a:Addr}(h:w.cell? a=some v):w'.cell? a=some v:=keep hb h (World.block_lt_of_cell? w a h)
theorem yR{B:Nat}{a:World}(h:Below B a w)(h2:Below w.heap.size w w')(hB:B≤w.heap.size):Below B a w':=h.trans (h2.mono hB)
theorem RdS.mono{len:Nat}{cs:List Value}(h:RdS w sz a len cap cs)(hb:Below w.heap.size w w'):RdS w' sz a len cap cs:=
 ⟨h.hlen,h.hcap,h.hmax,h.hnil,h.spot,fun ad e j hj=>keep0 hb (h.cell ad e j hj)⟩
theorem RdS.at_elem{len:Nat}{cs:List Value}(h:RdS w sz a len cap cs)(k:Nat)(hk:k<len):
  ∃b off,a=some ⟨b,off,none⟩∧∀j,(hj:j<cs.length)→w.cell? ⟨b,off+j,none⟩=some cs[j]:=by
 cases a with
 | none=>have:=h.hnil rfl;have:=h.hcap;omega
 | some ad=>
  obtain⟨b,off,sp⟩:=ad;obtain h1:=h.spot _ rfl;subst h1;exact⟨b,off,rfl,fun j hj=>h.cell _ rfl j hj⟩
abbrev ints(xs:LI):List Value:=xs.map (Value.int .i64)
def RdI(w:World)(v:Value)(xs:LI):Prop:=∃a cap,v= .slice a xs.length cap∧RdS w 1 a xs.length cap (ints xs)
theorem RdI.mono(h:RdI w v xs)(hb:Below w.heap.size w w'):RdI w' v xs:=by
 obtain⟨a,cap,rfl,hr⟩:=h;exact⟨a,cap,rfl,hr.mono hb⟩
theorem RdS.at_int(h:RdS w 1 a xs.length cap (ints xs))(k:Nat)(hk:k<xs.length):
  ∃b off,a=some ⟨b,off,none⟩∧w.cell? ⟨b,off+k,none⟩=some (.int .i64 xs[k]):=by
 obtain⟨b,off,e,hc⟩:=h.at_elem k hk;exact⟨b,off,e,by have h':=hc k (by simpa using hk);rwa [List.getElem_map] at h'⟩
structure Ed where
 f:Int
 e:Int
 t:Int
 deriving DecidableEq
def Ed.cells(x:Ed):List Value:=[.int .i64 x.f,.int .i64 x.e,.int .i64 x.t]
theorem y8n{α:Type}(f:α→List Value)(sz:Nat)(hf:∀x,(f x).length=sz):∀(l:List α) (k j:Nat) (hk:k<l.length) (_hj:j<sz),(l.flatMap f)[k*sz+j]? =(f l[k])[j]?
 | [],_,_,hk,_=>absurd hk (by simp)
 | x::l,0,j,_,hj=>by
  rw [List.flatMap_cons,yAl (by rw [hf];omega)];simp
 | x::l,k+1,j,hk,hj=>by
  rw [List.flatMap_cons,yAr (by rw [hf,Nat.succ_mul];omega),hf];rw [show (k+1)*sz+j-sz=k*sz+j by rw [Nat.succ_mul];omega];rw [y8n f sz hf l k j (by simpa using hk) hj];simp
theorem y9k{α:Type}(f:α→List Value)(sz:Nat)(hf:∀x,(f x).length=sz):∀(l:List α),(l.flatMap f).length=l.length*sz
 | []=>by simp
 | x::l=>by rw [List.flatMap_cons,yLa,hf,y9k f sz hf l,yLc,Nat.succ_mul];omega
abbrev y7h(es:List Ed):List Value:=es.flatMap Ed.cells
def RdE(w:World)(v:Value)(es:List Ed):Prop:=∃a cap,v= .slice a es.length cap∧RdS w 3 a es.length cap (y7h es)
theorem RdE.mono{xs:List Ed}(h:RdE w v xs)(hb:Below w.heap.size w w'):RdE w' v xs:=by
 obtain⟨a,cap,rfl,hr⟩:=h;exact⟨a,cap,rfl,hr.mono hb⟩
theorem RdS.at_flat{α:Type}{f:α→List Value}(hf:∀x,(f x).length=sz){es:List α}(h:RdS w sz a es.length cap (es.flatMap f))(k:Nat)(hk:k<es.length):
  ∃b off,a=some ⟨b,off,none⟩∧∀j,j<sz→w.cell? ⟨b,off+k*sz+j,none⟩=(f es[k])[j]? :=by
 obtain⟨b,off,e,hc⟩:=h.at_elem k hk;refine⟨b,off,e,fun j hj=>?_⟩;have hlt:k*sz+j<(es.flatMap f).length:=by
  rw [y9k f sz hf];have:=Nat.mul_le_mul_right sz (show k+1≤es.length from hk);rw [Nat.succ_mul] at this;omega
 have h1:=hc (k*sz+j) hlt;rw [←y8n f sz hf es k j hk hj,Nat.add_assoc,h1,yGe hlt]
theorem RdS.at_edge{es:List Ed}(h:RdS w 3 a es.length cap (y7h es))(k:Nat)(hk:k<es.length):
  ∃b off,a=some ⟨b,off,none⟩∧w.cell? ⟨b,off+k*3,none⟩=some (.int .i64 es[k].f)∧w.cell? ⟨b,off+k*3+1,none⟩=some (.int .i64 es[k].e)∧w.cell? ⟨b,off+k*3+2,none⟩=some (.int .i64 es[k].t):=by
 obtain⟨b,off,e,hc⟩:=h.at_flat (f:=Ed.cells) (fun _=>rfl) k hk;exact⟨b,off,e,hc 0 (by omega),hc 1 (by omega),hc 2 (by omega)⟩
def hasB(xs:LI)(n:Int):Bool:=xs.contains n
theorem yd:hasB xs n=true↔n∈xs:=by simp [hasB]
theorem y7n:hasB xs n=false↔n∉xs:=by simp [hasB]
def ym(n:Int):Option Int→LI→Int
 | _,[]=>0
 | p,x::xs=>if x<0∨n≤x then 2 else if(∃q,p=some q∧x≤q) then 5 else ym n (some x) xs
def y4G(xs:LI)(k:Nat):Option Int:=if k=0 then none else xs[k-1]?
theorem y9l(hk:k<xs.length):ym n (y4G xs k) (xs.drop k)=if xs[k]<0∨n≤xs[k] then 2 else if(∃q,y4G xs k=some q∧xs[k]≤q) then 5 else ym n (y4G xs (k+1)) (xs.drop (k+1)):=by
 rw [yDc hk,ym];congr 2;simp [y4G,yGe hk]
theorem ybv(hk:k<xs.length)(h:xs[k]<0∨n≤xs[k]):ym n (y4G xs k) (xs.drop k)=2:=by rw [y9l hk,iP h]
theorem ybw(hk:k<xs.length)(h:¬(xs[k]<0∨n≤xs[k]))(h0:0<k)(h1:xs[k]≤xs[k-1]):ym n (y4G xs k) (xs.drop k)=5:=by
 rw [y9l hk,iN h,iP];exact⟨xs[k-1],by rw [y4G,iN (by omega),yGe (by omega)],h1⟩
theorem y7I(hk:k<xs.length)(h:¬(xs[k]<0∨n≤xs[k]))(h1:0<k→xs[k-1]<xs[k]):ym n (y4G xs k) (xs.drop k)=ym n (y4G xs (k+1)) (xs.drop (k+1)):=by
 rw [y9l hk,iN h,iN];rintro⟨q,hq,hle⟩;unfold y4G at hq;split at hq
 ·cases hq
 ·rw [yGe (by omega)] at hq;have:=h1 (by omega);have:=ySi hq;omega
theorem yc5(hk:¬k<xs.length):ym n (y4G xs k) (xs.drop k)=0:=by
 rw [List.drop_of_length_le (by omega)];cases y4G xs k <;> rfl
def Ret(w:World)(R:Value→World→Prop)(e:Ending)(w':World):Prop:=∃v,e= .returned v∧R v w'∧Below w.heap.size w w'
theorem yhZ{a b:Bool}(h:a=b):Ending.returned (.bool a)= .returned (.bool b):=by rw [h]
theorem y7i{k:IntKind}{a b:Int}(h:a=b):Ending.returned (.int k a)= .returned (.int k b):=by rw [h]
end
section
open Go.RowKit
structure Own (w:World) (B:Nat) (tag:Nat→Nat) (k:Nat) (b:Nat) (cs:Array Value) (t:TypeId):Prop where
 heap:w.heap[b]? =some (.cells cs t (0,0))
 htag:tag b=k
 base:B≤b
def y8u(B:Nat)(v:Value):Prop:=∀(ad:Addr) (l c:Nat),v= .slice (some ad) l c→B≤ad.block
theorem y8u.mono{B B':Nat}{v:Value}(h:y8u B v)(hb:B'≤B):y8u B' v:=fun ad l c e=>Nat.le_trans hb (h ad l c e)
structure Turn (B:Nat) (tag tag':Nat→Nat) (k:Nat) (w w':World):Prop where
 os:w'.os=w.os
 tape:w'.tape=w.tape
 output:w'.output=w.output
 size:w.heap.size≤w'.heap.size
 tags:∀b,b<w.heap.size→tag' b=tag b
 heap:∀b,b<w.heap.size→(b<B∨tag b≠k)→w'.heap[b]? =w.heap[b]?
 keep:∀(b:Nat) (o:Obj),w.heap[b]? =some o→o.isCells=false→w'.heap[b]? =some o
section
variable{w w':World}{B:Nat}{tag tag':Nat→Nat}{k k':Nat}{b:Nat}{cs:Array Value}{t:TypeId}
theorem Own.lt(h:Own w B tag k b cs t):b<w.heap.size:=(yAs.1 h.heap).1
theorem Own.turn(h:Own w B tag k b cs t)(ht:Turn B tag tag' k' w w')(hk:k≠k'):Own w' B tag' k b cs t:=
 ⟨(ht.heap b h.lt (Or.inr (h.htag▸hk))).trans h.heap,(ht.tags b h.lt).trans h.htag,h.base⟩
theorem Own.below(h:Own w B tag k b cs t)(hb:Below w.heap.size w w'):Own w' B tag k b cs t:=
 ⟨(hb.block b h.lt).trans h.heap,h.htag,h.base⟩
theorem Own.cell(h:Own w B tag k b cs t)(j:Nat):w.cell? ⟨b,j,none⟩=cs[j]? :=by simp [World.cell?,h.heap]
theorem Own.frozen(h:Own w B tag k b cs t)(j:Nat):w.frozen? ⟨b,j,none⟩=false:=by simp [World.frozen?,h.heap]
theorem Own.set(h:Own w B tag k b cs t)(j:Nat)(u:Value):Own (w.setCell ⟨b,j,none⟩ u) B tag k b (cs.setIfInBounds j u) t:=
 ⟨by simp [World.setCell,Array.getElem?_modify,h.heap],h.htag,h.base⟩
theorem Turn.setCell(h:Own w B tag k b cs t)(j:Nat)(u:Value):Turn B tag tag k w (w.setCell ⟨b,j,none⟩ u):=by
 refine⟨rfl,rfl,rfl,by simp [World.setCell],fun _ _=>rfl,fun b' _ hne=>?_,fun b' o ho hc=>?_⟩
 ·refine Below.heap_setCell _ _ _ _ ?_;rintro rfl;rcases hne with h1|h1
  ·exact absurd h.base (Nat.not_le.2 h1)
  ·exact h1 h.htag
 ·rw [Below.heap_setCell _ _ _ _ ?_,ho];rintro rfl;rw [h.heap] at ho;cases ho;cases hc
theorem Turn.refl(B:Nat)(tag:Nat→Nat)(k:Nat)(w:World):Turn B tag tag k w w:=⟨rfl,rfl,rfl,yNr _,fun _ _=>rfl,fun _ _ _=>rfl,fun _ _ h _=>h⟩
theorem Turn.below(hb:Below w.heap.size w w'):Turn B tag tag k w w':=⟨hb.os,hb.tape,hb.output,hb.size,fun _ _=>rfl,fun b h _=>hb.block b h,fun b _o ho _=>(hb.block b (yAs.1 ho).1).trans ho⟩
theorem Turn.trans{w'':World}{tag'':Nat→Nat}(h:Turn B tag tag' k w w')(h2:Turn B tag' tag'' k w' w''):Turn B tag tag'' k w w'':=
 ⟨h2.os.trans h.os,h2.tape.trans h.tape,h2.output.trans h.output,Nat.le_trans h.size h2.size,fun b hb=>(h2.tags b (Nat.lt_of_lt_of_le hb h.size)).trans (h.tags b hb),
  fun b hb hne=>(h2.heap b (Nat.lt_of_lt_of_le hb h.size) (hne.imp id (fun e=>by rw [h.tags b hb];exact e))).trans (h.heap b hb hne),fun b o ho hc=>h2.keep b o (h.keep b o ho hc) hc⟩
theorem y2A{a:World}(h:Below B a w)(ht:Turn B tag tag' k w w')(hB:B≤w.heap.size):Below B a w':=
 h.trans ⟨ht.os,ht.tape,ht.output,ht.size,fun b hb=>ht.heap b (by omega) (Or.inl hb)⟩
theorem Own.new(w:World)(B:Nat)(tag:Nat→Nat)(k:Nat)(cs:Array Value)(t:TypeId)(hB:B≤w.heap.size)(htag:tag w.heap.size=k):Own (w.alloc (.cells cs t)) B tag k w.heap.size cs t:=
 ⟨heap_alloc_new w _,htag,hB⟩
end
theorem y4b{w:World}{o:Obj}{b:Nat}(h:b=w.heap.size):(w.alloc o).heap[b]? =some o:=h▸heap_alloc_new w o
theorem y1E{w:World}{o:Obj}{b:Nat}{x:Option Obj}(h:b≠w.heap.size)(h2:w.heap[b]? =x):(w.alloc o).heap[b]? =x:=by
 show(w.heap.push o)[b]? =_;rw [Array.getElem?_push,iN h,h2]
theorem y1f{w:World}{b:Nat}{x:Option Obj}(h:w.heap[b]? =x):w.drew.heap[b]? =x:=h
theorem y1F(w:World)(o:Obj):Below w.heap.size w (w.alloc o):=(Below.refl _ _).alloc (yNr _) _
theorem y5G(w:World):Below w.heap.size w w.drew:=(Below.refl _ _).drew
def Row(w:World)(B:Nat)(tag:Nat→Nat)(k:Nat)(t:TypeId)(sz:Nat)(v:Value)(n:Nat)(cs:List Value):Prop:=
 cs.length=n*sz∧((v= .slice none 0 0∧n=0)∨
  ∃b off cap cur,v= .slice (some ⟨b,off,none⟩) n cap∧Own w B tag k b cur t∧n≤cap∧cap≤maxLen∧off+cap*sz≤cur.size∧(cur.toList.drop off).take (n*sz)=cs)
section
variable{w w':World}{B:Nat}{tag tag':Nat→Nat}{k k':Nat}{t:TypeId}{sz:Nat}{v:Value}{n:Nat}{cs:List Value}
theorem Row.nil(w:World)(B:Nat)(tag:Nat→Nat)(k:Nat)(t:TypeId)(sz:Nat):Row w B tag k t sz (.slice none 0 0) 0 []:=⟨by simp,.inl ⟨rfl,rfl⟩⟩
theorem Row.turn(h:Row w B tag k t sz v n cs)(ht:Turn B tag tag' k' w w')(hk:k≠k'):Row w' B tag' k t sz v n cs:=
 ⟨h.1,h.2.imp id fun⟨b,off,cap,cur,h1,h2,h3⟩=>⟨b,off,cap,cur,h1,h2.turn ht hk,h3⟩⟩
theorem Row.below(h:Row w B tag k t sz v n cs)(hb:Below w.heap.size w w'):Row w' B tag k t sz v n cs:=
 ⟨h.1,h.2.imp id fun⟨b,off,cap,cur,h1,h2,h3⟩=>⟨b,off,cap,cur,h1,h2.below hb,h3⟩⟩
theorem Row.of_own{B':Nat}(h:w.ownsRow B' t sz v n cs)(hB:B≤B')(htag:∀b,B'≤b→b<w.heap.size→tag b=k):Row w B tag k t sz v n cs:=by
 refine⟨h.1,h.2.imp id fun⟨g,cap,cur,h1,h2,h3,h4,h5,h6,h7⟩=>⟨g,0,cap,cur,h1,⟨h3,htag g h2 (yAs.1 h3).1,Nat.le_trans hB h2⟩,h4,h5,by omega,by simpa using h7⟩⟩
theorem Row.cellAt{b off cap:Nat}(h:Row w B tag k t sz (.slice (some ⟨b,off,none⟩) n cap) n cs)(j:Nat)(hj:j<n*sz):w.cell? ⟨b,off+j,none⟩=cs[j]? :=by
 rcases h.2 with ⟨h',_⟩|⟨b',off',cap',cur,h',ho,h1,h2,h3,h4⟩
 ·simp at h'
 ·simp only [Value.slice.injEq,yIj,Addr.mk.injEq,and_true,true_and] at h';obtain⟨⟨rfl,rfl⟩,rfl⟩:=h';rw [ho.cell,←h4,List.getElem?_take,iP hj,List.getElem?_drop];simp
theorem Row.frozenAt{b off cap:Nat}(h:Row w B tag k t sz (.slice (some ⟨b,off,none⟩) n cap) n cs)(j:Nat):w.frozen? ⟨b,j,none⟩=false:=by
 rcases h.2 with ⟨h',_⟩|⟨b',off',cap',cur,h',ho,_⟩
 ·simp at h'
 ·simp only [Value.slice.injEq,yIj,Addr.mk.injEq,and_true,true_and] at h';obtain⟨⟨rfl,rfl⟩,rfl⟩:=h';exact ho.frozen j
theorem Row.val(h:Row w B tag k t sz v n cs):∃a cap,v= .slice a n cap:=by
 rcases h.2 with ⟨h',h0⟩|⟨b',off',cap',cur,h',_⟩
 ·subst h0;exact⟨_,_,h'⟩
 ·exact ⟨_,_,h'⟩
theorem Row.addr(h:Row w B tag k t sz v n cs)(hn:0<n):∃b off cap,v= .slice (some ⟨b,off,none⟩) n cap∧b<w.heap.size∧B≤b∧tag b=k:=by
 rcases h.2 with ⟨_,h0⟩|⟨b',off',cap',cur,h',ho,_⟩
 ·omega
 ·exact ⟨_,_,_,h',ho.lt,ho.base,ho.htag⟩
theorem Row.rd(h:Row w B tag k t sz v n cs):∃a cap,v= .slice a n cap∧RdS w sz a n cap cs:=by
 have h0:=h;rcases h.2 with ⟨rfl,rfl⟩|⟨b,off,cap,cur,rfl,ho,h1,h2,h3,h4⟩
 ·exact ⟨none,0,rfl,⟨h.1,yNr _,by simp [maxLen],fun _=>rfl,fun _ e=>(by cases e),fun _ e=>(by cases e)⟩⟩
 ·refine ⟨_,cap,rfl,⟨h.1,h1,h2,fun e=>(by cases e),fun _ e=>(by cases e;rfl),fun _ e j hj=>?_⟩⟩;cases e;rw [h0.cellAt j (by have:=h.1;omega),yGe hj]
theorem Row.frs(h:Row w B tag k t sz v n cs):y8u B v:=by
 rcases h.2 with ⟨rfl,_⟩|⟨b,off,cap,cur,rfl,ho,_⟩
 ·exact fun ad l c e=>by cases e
 ·exact fun ad l c e=>by cases e;exact ho.base
theorem Row.rdI{xs:LI}(h:Row w B tag k t 1 v xs.length (ints xs)):RdI w v xs:=by
 obtain⟨a,cap,e,hr⟩:=h.rd;exact⟨a,cap,e,hr⟩
theorem Row.set{b off cap:Nat}(h:Row w B tag k t sz (.slice (some ⟨b,off,none⟩) n cap) n cs)(j:Nat)(u:Value):
  Row (w.setCell ⟨b,off+j,none⟩ u) B tag k t sz (.slice (some ⟨b,off,none⟩) n cap) n (cs.set j u)∧Turn B tag tag k w (w.setCell ⟨b,off+j,none⟩ u):=by
 rcases h.2 with ⟨h',_⟩|⟨b',off',cap',cur,h',ho,h1,h2,h3,h4⟩
 ·simp at h'
 ·simp only [Value.slice.injEq,yIj,Addr.mk.injEq,and_true,true_and] at h';obtain⟨⟨rfl,rfl⟩,rfl⟩:=h';refine⟨⟨by simpa using h.1,.inr ⟨b,off,cap,cur.setIfInBounds (off+j) u,rfl,ho.set _ _,h1,h2,by simpa using h3,?_⟩⟩,Turn.setCell ho _ _⟩;rw [←h4];apply List.ext_getElem?;intro i;simp only [Array.toList_setIfInBounds,List.getElem?_take,List.getElem?_drop,List.getElem?_set,yLt,List.length_drop];by_cases hi:i<n*sz
  ·rw [iP hi,iP hi];by_cases he:j=i
   ·subst he;rw [iP rfl,iP rfl];have hl:off+j<cur.toList.length:=by
     rw [Array.length_toList];have:=Nat.mul_le_mul_right sz h1;omega
    rw [iP hl,iP (by omega)]
   ·rw [iN (by omega),iN he]
  ·rw [iN hi,iN hi];by_cases he:j=i
   ·subst he;rw [iP rfl,iN (by omega)]
   ·rw [iN he]
def tagUp(tag:Nat→Nat)(s k:Nat):Nat→Nat:=fun b=>if b=s then k else tag b
theorem y5f{tag:Nat→Nat}{s k b:Nat}(h:b<s):tagUp tag s k b=tag b:=iN (by omega)
theorem y4R(tag:Nat→Nat)(s k:Nat):tagUp tag s k s=k:=iP rfl
theorem y7x{P:Program}(ty tt e:TypeId)(i:TypeInfo)(z:Value)(bytes:Nat)(ht:P.underlying tt=some (.slice e))(hi:P.info? e=some i)(hz:i.zero=some z)
  (hsize:i.size=sz) (hby:i.bytes=bytes) (hzs:z.cells.size=sz)
  (hrow:Row w B tag k e sz v n cs) (ao:Option Addr) (m c:Nat) (news:List Value) (hl:news.length=m*sz) (hnone:ao=none→m=0∧c=0)
  (hnews:∀ad,ao=some ad→∀j u,news[j]? =some u→w.cell? (ad.add j)=some u) (h1:∀u∈news,u.oneCell'=true)
  (h63:n+m≤maxLen) (hbytes:(n+m)*bytes≤140737488355328) (hB:B≤w.heap.size):
  ∃v' w' tag',(Builtin.append_ #[tt,tt] ty #[v,.slice ao m c]).run P w= .ok v' w'∧Row w' B tag' k e sz v' (n+m) (cs++news)∧Turn B tag tag' k w w':=by
 subst hsize;subst hby;have hlen:(cs++news).length=(n+m)*i.size:=by rw [yLa,hrow.1,hl,Nat.add_mul]
 have hsmall:n+m≤9223372036854775807:=by simp only [maxLen] at h63;omega
 cases ao with
 | none=>
  obtain⟨rfl,rfl⟩:=hnone rfl;have hn:news= []:=yLz (by simpa using hl);subst hn;refine⟨v,w,tag,?_,by simpa using hrow,Turn.refl _ _ _ _⟩;rcases hrow.2 with ⟨rfl,rfl⟩|⟨b,off,cap,cur,rfl,ho,g1,g2,g3,g4⟩
  ·simp [Builtin.append_,run_underlying ht,sizeOf,typeInfo,hi,Builtin.lenOf,Builtin.firstCells]
  ·simp [Builtin.append_,run_underlying ht,sizeOf,typeInfo,hi,Builtin.lenOf,Builtin.firstCells,g1,storeCells]
 | some a=>
  replace hnews:=hnews a rfl;have grown:∀(old:Nat),old<n+m→
    Row (w.drew.alloc (.cells (cs.toArray++news.toArray++Builtin.zeroCells z.cells (grownCap w (n+m) old e-(n+m))) e)) B (tagUp tag w.heap.size k) k e i.size
     (.slice (some ⟨w.heap.size,0,none⟩) (n+m) (grownCap w (n+m) old e)) (n+m) (cs++news)∧
    Turn B tag (tagUp tag w.heap.size k) k w (w.drew.alloc (.cells (cs.toArray++news.toArray++Builtin.zeroCells z.cells (grownCap w (n+m) old e-(n+m))) e)):=by
   intro old ho;have hge:=grownCap_ge w (n+m) old e;have hcm:grownCap w (n+m) old e≤maxLen:=grownCap_le_maxLen w (n+m) old e h63;refine⟨⟨hlen,.inr ⟨w.heap.size,0,_,_,rfl,⟨heap_alloc_new w.drew _,y4R _ _ _,hB⟩,hge,hcm,?_,?_⟩⟩,⟨rfl,rfl,rfl,by simp,fun b hb=>y5f hb,fun b hb _=>heap_alloc_old w.drew _ hb,fun b o ho _=>(heap_alloc_old w.drew _ (yAs.1 ho).1).trans ho⟩⟩
   ·simp only [Array.size_append,List.size_toArray,size_zeroCells,hzs,hrow.1,hl,←Nat.add_mul];rw [yNz];apply Nat.le_of_eq;congr 1;omega
   ·simp only [Array.toList_append,yAa,List.drop_zero];rw [←yAa,←hlen];exact List.take_left
  rcases hrow.2 with ⟨rfl,rfl⟩|⟨b,off,cap,cur,rfl,ho,g1,g2,g3,g4⟩
  ·have hx:cs= []:=yLz (by simpa using hrow.1);subst hx;by_cases hm:m=0
   ·subst hm;have hn:news= []:=yLz (by simpa using hl);subst hn;refine⟨.slice none 0 0,w,tag,?_,Row.nil _ _ _ _ _ _,Turn.refl _ _ _ _⟩;simp [Builtin.append_,run_underlying ht,sizeOf,typeInfo,hi,Builtin.lenOf,Builtin.firstCells,loadCells,loadCellsFrom]
   ·have hr:=run_append_nil (P:=P) w tt ty e i z ht hi hz a m c news hl hnews (by omega) (by omega) (by have hb:=hbytes;simp only [yNz] at hb;omega);have hgr:=grown 0 (by omega);simp only [yNz,List.nil_append,Array.empty_append] at hgr ⊢;exact⟨_,_,_,hr,hgr.1,hgr.2⟩
  ·by_cases hroom:n+m≤cap
   ·have hfit:off+n*i.size+0+news.length≤cur.size:=by
     rw [hl];have:=Nat.mul_le_mul_right i.size hroom;rw [Nat.add_mul] at this;omega
    have hst:=run_storeCells_at P b (off+n*i.size) e news 0 cur w ho.heap hfit h1;have hf:=run_firstCells_some (P:=P) w i.size m a m c news hl hnews;simp only [Nat.add_zero] at hst hfit;refine⟨.slice (some ⟨b,off,none⟩) (n+m) cap,w.setRow b (cur.toList.take (off+n*i.size)++news++cur.toList.drop (off+n*i.size+news.length)).toArray,tag,?_,⟨hlen,.inr ⟨b,off,cap,_,rfl,⟨setRow_heap w b cur _ e _ ho.heap,ho.htag,ho.base⟩,hroom,g2,?_,?_⟩⟩,⟨rfl,rfl,rfl,by simp,fun _ _=>rfl,fun b' _ hne=>setRow_other w b b' _ ?_,fun b' o hb' hc=>(setRow_other w b b' _ ?_).trans hb'⟩⟩
    ·simp [Builtin.append_,run_underlying ht,sizeOf,typeInfo,hi,Builtin.lenOf,hroom,hf,Addr.add_lit,hst]
    ·simp only [List.size_toArray,yLa,yLt,List.length_drop,Array.length_toList];omega
    ·have hcl:(cur.toList.take (off+n*i.size)).drop off=cs:=by
      rw [List.drop_take,show off+n*i.size-off=n*i.size by omega,g4]
     rw [yAa,List.drop_append_of_le_length (by rw [yLt,Array.length_toList];omega),hcl,←yAa,←hlen];exact List.take_left
    ·rintro rfl;rcases hne with h2|h2
     ·exact absurd ho.base (Nat.not_le.2 h2)
     ·exact h2 ho.htag
    ·rintro rfl;rw [ho.heap] at hb';cases hb';cases hc
   ·have holds:∀j u,cs[j]? =some u→w.cell? ((⟨b,off,none⟩:Addr).add j)=some u:=by
     intro j u hu;have hj:=(yGs.1 hu).1;rw [Addr.add_lit,hrow.cellAt j (by have:=hrow.1;omega),hu]
    have hr:=run_append_grow (P:=P) w tt ty e i z ht hi hz ⟨b,off,none⟩ n cap cs hrow.1 holds a m c news hl hnews (by omega) (by omega) (growslice_fits (by omega) hbytes);have hgr:=grown cap (by omega);exact⟨_,_,_,hr,hgr.1,hgr.2⟩
theorem ybf{P:Program}{ops:Array Oper}{rest:List Oper}{o:Oper}{a:Act}{Q:Exit→Act→World→Prop}(hgd:o.guard=none)(s x:Operand)(tt:TypeId)
  (ho:o.op= .call { callee:= .builtin .append,args:= #[s,x],argTypes:= #[tt,tt] })
  (e:TypeId) (i:TypeInfo) (z:Value) (bytes:Nat) (ht:P.underlying tt=some (.slice e)) (hi:P.info? e=some i) (hz:i.zero=some z)
  (hsize:i.size=sz) (hby:i.bytes=bytes) (hzs:z.cells.size=sz) (hs:a.eval s=v) (hrow:Row w B tag k e sz v n cs)
  (ao:Option Addr) (m c:Nat) (news:List Value) (hx:a.eval x= .slice ao m c) (hl:news.length=m*sz) (hnone:ao=none→m=0∧c=0)
  (hnews:∀ad,ao=some ad→∀j u,news[j]? =some u→w.cell? (ad.add j)=some u) (h1:∀u∈news,u.oneCell'=true)
  (h63:n+m≤maxLen) (hbytes:(n+m)*bytes≤140737488355328) (hB:B≤w.heap.size)
  (h:∀v' w' tag',Row w' B tag' k e sz v' (n+m) (cs++news)→Turn B tag tag' k w w'→wpList P ops Q rest (a.put o.dst v') w'):wpList P ops Q (o::rest) a w:=by
 refine wpList_plain hgd fun K hK=>?_;obtain⟨v',w',tag',hr,h2,h3⟩:=y7x (P:=P) (w:=w) (ty:=o.type) tt e i z bytes ht hi hz hsize hby hzs hrow ao m c news hl hnone hnews h1 h63 hbytes hB;unfold Oper.wp execOp;simp only [ho,resolve,invoke,builtin,Sem.run_bind,Sem.run_pure,Result.andThen_ok,List.map_toArray,List.map_cons,List.map_nil,hs,hx,hr];exact hK _ _ (h v' w' tag' h2 h3)
end
end
section
open Go Go.RowKit
variable{d:Nat}{ops:Array Oper}{e:List (Nat×Value)}{j:Int}{y:Operand}{ty:TypeId}{pos:String}{af:Array Edge}{N:Nat}{tag':Nat→Nat}{cs:Array Value}{m:Nat}{fn:Func}{S:TypeId}{fs:Array Field}{α:Type}{U:TypeId}{k':IntKind}{D:Nat→Bool}{vs:List Value}{off:Nat}{us:List Value}{ps:List (Nat×Value)}{T':TypeId}{zs:List α}{cap by_:Nat}{β:Type}{tag:Nat→Nat}{J:Act→World→Prop}{pl:List (Nat×Nat)}{u:Unit}{es:List MapEntry}{clock:Nat}{kt:TypeId}{t1:Nat}{v1:Value}{t2:Nat}{v2:Value}{t3:Nat}{v3:Value}{t4:Nat}{v4:Value}{t5:Nat}{v5:Value}{t6:Nat}{v6:Value}{t7:Nat}{v7:Value}{μ:Nat→Nat}
inductive Iter {S O:Type} (f:S→Option (S⊕O)):S→O→Prop
 | next {s s':S} {o:O}:f s=some (.inl s')→Iter f s' o→Iter f s o
 | out {s:S} {o:O}:f s=some (.inr o)→Iter f s o
def iterF{S O:Type}(f:S→Option (S⊕O))(n:Nat):S→Option O:=
 Nat.rec (motive:=fun _=>S→Option O) (fun _=>none) (fun _ ih s=>match f s with
  | none=>none
  | some (.inl s')=>ih s'
  | some (.inr o)=>some o) n
def iter{S O:Type}(f:S→Option (S⊕O))(s:S):Option O:=iterF f 18446744073709551616 s
section
variable{S O:Type}{f:S→Option (S⊕O)}{s s':S}{o:O}
theorem yi(n:Nat)(s:S):iterF f (n+1) s=match f s with
  | none=>none
  | some (.inl s')=>iterF f n s'
  | some (.inr o)=>some o:=rfl
theorem yc6 :∀{n:Nat} {s:S},iterF f n s=some o→Iter f s o
 | 0,_,h=>by cases h
 | n+1,s,h=>by
  rw [yi] at h;split at h
  ·cases h
  ·rename_i h1;exact .next h1 (yc6 h)
  ·rename_i h1;cases h;exact .out h1
theorem ygw(h:iter f s=some o):Iter f s o:=yc6 h
theorem ybj(st:Nat→S):∀(n m k:Nat),(∀i,k≤i→i<k+n→f (st i)=some (.inl (st (i+1))))→iterF f (n+m) (st k)=iterF f m (st (k+n))
 | 0,m,k,_=>by rw [yNz];rfl
 | n+1,m,k,h=>by
  rw [show n+1+m=(n+m)+1 by omega,yi,h k (yNr _) (by omega)];dsimp only;rw [ybj st n m (k+1) (fun i h1 h2=>h i (by omega) (by omega))];congr 2;omega
theorem ydY(st:Nat→S)(n:Nat)(hn:n<18446744073709551616)(h:∀i,i<n→f (st i)=some (.inl (st (i+1))))(ho:f (st n)=some (.inr o)):iter f (st 0)=some o:=by
 unfold iter;obtain⟨m,hm⟩:∃m,18446744073709551616=n+(m+1):=⟨18446744073709551616-n-1,by omega⟩;rw [hm,ybj st n (m+1) 0 (fun i _ h2=>h i (by omega)),yNz,yi,ho]
end
abbrev Env :=List (Nat×Value)
def Env.get :List (Nat×Value)→Nat→Option Value
 | [],_=>none
 | (i,v)::e,d=>cond (Nat.beq i d) (some v) (Env.get e d)
def Env.ev(e:List (Nat×Value)):Operand→Option Value
 | .tmp t=>Env.get e t
 | .const v=>some v
 | .global g=>some (.pointer (some ⟨g,0,none⟩))
 | .func f=>some (.func (.func f) #[] #[])
def Env.evs(e:List (Nat×Value)):List Operand→Option (List Value)
 | []=>some []
 | x::xs=>match Env.ev e x,Env.evs e xs with
  | some v,some vs=>some (v::vs)
  | _,_=>none
def Env.evp(e:List (Nat×Value)):List (Nat×Operand)→Option (List (Nat×Value))
 | []=>some []
 | (i,x)::xs=>match Env.ev e x,Env.evp e xs with
  | some v,some vs=>some ((i,v)::vs)
  | _,_=>none
structure Fr where
 r:Option Nat
 ds:List Deferred
def Fr.f(Φ:Fr):Fence:={ fn:=fun _=>True,depth:=none,alive:=false,round:=Φ.r }
abbrev Fr.o :Fr:=⟨none,[]⟩
structure Fits (Φ:Fr) (n:Nat) (e:List (Nat×Value)) (a:Act):Prop where
 size:a.tmps.size=n
 defers:a.defers=Φ.ds
 has:∀d v,Env.get e d=some v→a.tmps[d]? =some v
section
variable{Φ:Fr}{n:Nat}{e e':List (Nat×Value)}{a:Act}
theorem Fits.ev(h:Fits Φ n e a){x:Operand}{v:Value}(hx:Env.ev e x=some v):a.eval x=v:=by
 cases x with
 | tmp t=>simp only [Env.ev] at hx;simp [Act.eval,h.has t v hx]
 | const u=>simp only [Env.ev,yIj] at hx;simp [Act.eval,hx]
 | global g=>simp only [Env.ev,yIj] at hx;simp [Act.eval,hx]
 | func f=>simp only [Env.ev,yIj] at hx;simp [Act.eval,hx]
theorem Fits.evs(h:Fits Φ n e a):∀{xs:List Operand} {vs:List Value},Env.evs e xs=some vs→xs.map a.eval=vs
 | [],vs,hx=>by simp only [Env.evs,yIj] at hx;simp [hx]
 | x::xs,vs,hx=>by
  simp only [Env.evs] at hx;split at hx
  ·rename_i v us h1 h2;simp only [yIj] at hx;subst hx;rw [List.map_cons,h.ev h1,h.evs h2]
  ·cases hx
theorem Fits.evp(h:Fits Φ n e a):∀{xs:List (Nat×Operand)} {vs:List (Nat×Value)},Env.evp e xs=some vs→xs.map (fun p=>(p.1,a.eval p.2))=vs
 | [],vs,hx=>by simp only [Env.evp,yIj] at hx;simp [hx]
 | (i,x)::xs,vs,hx=>by
  simp only [Env.evp] at hx;split at hx
  ·rename_i v us h1 h2;simp only [yIj] at hx;subst hx;rw [List.map_cons,h.ev h1,h.evp h2]
  ·cases hx
theorem Fits.put(h:Fits Φ n e a)(hd:Nat.blt d n=true)(v:Value):Fits Φ n ((d,v)::e) (a.put (some d) v):=by
 have hd':d<n:=by simpa using hd
 refine⟨by simp [Act.put,h.size],h.defers,fun d' v' hg=>?_⟩;simp only [Env.get] at hg;by_cases hb:Nat.beq d d'=true
 ·have:d=d':=yNb hb;subst this;rw [hb,cond_true,yIj] at hg;subst hg;simp [Act.put,h.size,hd']
 ·have hb':Nat.beq d d'=false:=by cases h0:Nat.beq d d' <;> simp_all
  rw [hb',cond_false] at hg;have hne:d≠d':=fun e=>by subst e;simp at hb
  simp only [Act.put];rw [Array.getElem?_setIfInBounds_ne hne];exact h.has d' v' hg
theorem Fits.none(h:Fits Φ n e a)(v:Value):Fits Φ n e (a.put none v):=h
def Sub(e' e:List (Nat×Value)):Prop:=∀d v,Env.get e' d=some v→Env.get e d=some v
theorem Fits.sub(h:Fits Φ n e a)(hs:Sub e' e):Fits Φ n e' a:=⟨h.size,h.defers,fun d v hg=>h.has d v (hs d v hg)⟩
end
def Wt(ops:Array Oper)(e:List (Nat×Value)):Option (Nat×Bool)→Prop
 | none=>True
 | some (j,b)=>∃s,(ops[j]?).bind (·.dst)=some s∧Env.get e s=some (.bool b)
theorem Wt.wanted{Φ:Fr}{o:Oper}{n:Nat}{a:Act}(hf:Fits Φ n e a)(h:Wt ops e o.guard):Region.wanted o (yielded ops a.tmps)=true:=by
 unfold Region.wanted;cases hg:o.guard with
 | none=>rfl
 | some p=>
  obtain⟨j,b⟩:=p;rw [hg] at h;obtain⟨s,h1,h2⟩:=h;simp [yielded,h1,hf.has s _ h2]
theorem Wt.unwanted{Φ:Fr}{o:Oper}{n:Nat}{a:Act}{j s:Nat}{b:Bool}(hf:Fits Φ n e a)(hg:o.guard=some (j,b))(h1:(ops[j]?).bind (·.dst)=some s)(h2:Env.get e s=some (.bool (!b))):Region.wanted o (yielded ops a.tmps)=false:=by
 unfold Region.wanted;rw [hg];simp [yielded,h1,hf.has s _ h2]
section
variable{Φ:Fr}{P:Program}{Q:Exit→Act→World→Prop}{n:Nat}{e:List (Nat×Value)}{w:World}{ops:Array Oper}{os:List Oper}
def E(Φ:Fr)(P:Program)(Q:Exit→Act→World→Prop)(n:Nat)(c:Code)(e:List (Nat×Value))(w:World):Prop:=∀a,Fits Φ n e a→c.wpIn Φ.f 2 P Q a w
def X(Φ:Fr)(Q:Exit→Act→World→Prop)(n:Nat)(x:Exit)(e:List (Nat×Value))(w:World):Prop:=∀a,Fits Φ n e a→Q x a w
def L(Φ:Fr)(P:Program)(Q:Exit→Act→World→Prop)(n:Nat)(ops:Array Oper)(os:List Oper)(e:List (Nat×Value))(w:World):Prop:=
 ∀is:List Nat,is.map (fun i=>ops[i]?)=os.map some→∀a,Fits Φ n e a→wpOpsIn Φ.f 2 P ops Q is a w
theorem E.seq{x y:Code}(h:E Φ P (Exit.then (y.wpIn Φ.f 2 P Q) Q) n x e w):E Φ P Q n (.seq x y) e w:=fun a ha=>wpIn_seq (h a ha)
theorem E.skip(h:X Φ Q n .normal e w):E Φ P Q n .skip e w:=fun a ha=>wpIn_skip (h a ha)
theorem E.block{id:Nat}{c:Code}(h:E Φ P (Exit.inBlock id Q) n c e w):E Φ P Q n (.block id c) e w:=fun a ha=>wpIn_block (h a ha)
theorem E.exit{id:Nat}(h:X Φ Q n (.exit id) e w):E Φ P Q n (.exit id) e w:=fun a ha=>wpIn_exit (h a ha)
theorem E.ret(h:X Φ Q n .ret e w):E Φ P Q n .ret e w:=fun a ha=>wpIn_ret (h a ha)
theorem E.cT{c:Operand}{x y:Code}{t:Bool}(hx:Env.ev e c=some (.bool t))(ht:t=true)(h:E Φ P Q n x e w):E Φ P Q n (.cond c x y) e w:=
 fun a ha=>wpIn_cond_true (by rw [ha.ev hx,ht]) (h a ha)
theorem E.cF{c:Operand}{x y:Code}{t:Bool}(hx:Env.ev e c=some (.bool t))(ht:t=false)(h:E Φ P Q n y e w):E Φ P Q n (.cond c x y) e w:=
 fun a ha=>wpIn_cond_false (by rw [ha.ev hx,ht]) (h a ha)
theorem E.reg{id:Nat}{l:List Oper}(h:L Φ P Q n l.toArray l e w):E Φ P Q n (.region id l.toArray false) e w:=fun a ha=>by
 refine wpIn_region (h _ ?_ a ha);apply List.ext_getElem?;intro i;simp only [List.getElem?_map,List.size_toArray,List.getElem?_toArray];by_cases hi:i<l.length
 ·rw [List.getElem?_range hi,yGe hi];simp [hi]
 ·rw [yGn (by simpa using hi),yGn (by omega)];rfl
theorem X.seqN{y:Code}(h:E Φ P Q n y e w):X Φ (Exit.then (y.wpIn Φ.f 2 P Q) Q) n .normal e w:=h
theorem X.blkE{id:Nat}(h:X Φ Q n .normal e w):X Φ (Exit.inBlock id Q) n (.exit id) e w:=fun a ha=>by
 show if id=id then _ else _
 rw [iP rfl];exact h a ha
theorem X.blkX{id id':Nat}(hne:Nat.beq id' id=false)(h:X Φ Q n (.exit id') e w):X Φ (Exit.inBlock id Q) n (.exit id') e w:=fun a ha=>by
 show if id'=id then _ else _
 rw [iN (fun e=>by subst e;simp at hne)];exact h a ha
def LW(Φ:Fr)(P:Program)(Q:Exit→Act→World→Prop)(c:Code)(a:Act)(w:World):Prop:=
 ∀(b:Frame) (k:List Item) (cs:List Frame),b.roundOf=Φ.f.round→Φ.f.fn b.fn→Φ.f.room (cs.length+1+2)→∃x a' w',Q x a' w'∧ArrivesIn (Machine.fenced P Φ.f) P (lone (b.atR a (.code c :: .inLoop c::k)) cs w) b k cs x a' w'
def H(Φ:Fr)(P:Program)(Q:Exit→Act→World→Prop)(n:Nat)(c:Code)(e:List (Nat×Value))(w:World):Prop:=∀a,Fits Φ n e a→LW Φ P Q c a w
theorem E.loop{c:Code}(h:H Φ P Q n c e w):E Φ P Q n (.loop c) e w:=fun a ha b k cs hro hb hr=>
 let ⟨x,a',w',hq,harr⟩:=h a ha b k cs hro hb hr
 ⟨x,a',w',hq,.of_steps (.one (fenced_calm hb hr rfl) stepR_loop) harr⟩
theorem H.sub{c:Code}{e':List (Nat×Value)}(hs:Sub e' e)(h:H Φ P Q n c e' w):H Φ P Q n c e w:=fun a ha=>h a (ha.sub hs)
theorem H.round{c:Code}(h:E Φ P (Exit.then (LW Φ P Q c) Q) n c e w):H Φ P Q n c e w:=by
 intro a ha b k cs hro hb hr;obtain⟨x,a₁,w₁,hq,harr⟩:=h a ha b (.inLoop c::k) cs hro hb hr;cases x with
 | normal=>
  obtain⟨x₂,a₂,w₂,hq₂,harr₂⟩:=hq b k cs hro hb hr;exact⟨x₂,a₂,w₂,hq₂,.of_steps (StepsIn.trans harr (.one (fenced_calm hb hr rfl) stepR_inLoop)) harr₂⟩
 | exit id=>exact⟨_,a₁,w₁,hq,.pass (x:= .inLoop c) rfl (fun _ _=> .inl (by simp)) harr⟩
 | goto l=>exact⟨_,a₁,w₁,hq,.pass (x:= .inLoop c) rfl (fun _ _=> .inl (by simp)) harr⟩
 | ret=>exact⟨_,a₁,w₁,hq,.pass (x:= .inLoop c) rfl (fun _ _=> .inl (by simp)) harr⟩
 | panic ch=>exact⟨_,a₁,w₁,hq,.pass (x:= .inLoop c) rfl (fun _ _=> .inl (by simp)) harr⟩
 | outgrown=>exact⟨_,a₁,w₁,hq,.pass (x:= .inLoop c) rfl (fun _ _=> .inl (by simp)) harr⟩
theorem X.again{c:Code}(h:H Φ P Q n c e w):X Φ (Exit.then (LW Φ P Q c) Q) n .normal e w:=h
theorem L.nil(h:X Φ Q n .normal e w):L Φ P Q n ops [] e w:=fun is his a ha=>by
 have:is= []:=by simpa using his
 subst this;exact h a ha
theorem wp_in{o:Oper}{a:Act}{K:Act→World→Prop}(hnd:∀c,o.op≠ .defer c)(h:o.wp P a w K Q):o.wpIn Φ.f 2 P a w K Q:=by
 refine⟨fun _ _=>trivial,?_⟩;have hs:Oper.semAt Φ.f.round a.eval o=execOp a.eval o:=by
  cases hr:Φ.f.round with
  | none=>rfl
  | some l=>exact Oper.semAt_some _ _ _ hnd
 rw [hs];unfold Oper.wp at h;revert h;generalize (execOp a.eval o).run P w=R;intro h;unfold Oper.upon at h;unfold Oper.uponIn;split at h
 ·exact h
 ·exact h
 ·exact h
 ·exact ⟨fun e=>(by cases e),(callsIn_wide (n:=1)).2 h⟩
 ·refine ⟨fun e=>(by cases e),fun c cs _=>?_⟩;obtain⟨v,w',h1,h2⟩:=h c cs;exact⟨v,w',h1,(stepsIn_wide (P:=P)).2 h2⟩
 ·exact h
 ·exact h.elim
theorem L.op{o:Oper}(hw:Wt ops e o.guard)(h:∀a,Fits Φ n e a→∀K:Act→World→Prop,(∀e' a' w',Fits Φ n e' a'→L Φ P Q n ops os e' w'→K a' w')→o.wp P a w K Q)(hnd:∀c,o.op≠ .defer c:=by nofun):L Φ P Q n ops (o::os) e w:=fun is his a ha=>by
 cases is with
 | nil=>cases his
 | cons i rest=>
  simp only [List.map_cons,List.cons.injEq] at his;obtain⟨h1,h2⟩:=his;simp only [wpOpsIn,h1];rw [iP (Wt.wanted ha hw)];exact wp_in hnd (h a ha _ fun e' a' w' hf hl=>hl rest h2 a' hf)
theorem L.skip{op:Op}{j s:Nat}{b b':Bool}(h1:(ops[j]?).bind (·.dst)=some s)(h2:Env.get e s=some (.bool b'))(hb:b'=!b)(hd:Nat.blt d n=true)
  (h:L Φ P Q n ops os ((d,undef)::e) w):L Φ P Q n ops (⟨some d,op,ty,pos,af,some (j,b)⟩::os) e w:=fun is his a ha=>by
 cases is with
 | nil=>cases his
 | cons i rest=>
  simp only [List.map_cons,List.cons.injEq] at his;obtain⟨g1,g2⟩:=his;subst hb;simp only [wpOpsIn,g1];rw [iN (by rw [Wt.unwanted ha rfl h1 h2];simp)];exact⟨fun _ _=>trivial,h rest g2 _ (ha.put hd undef)⟩
theorem L.val{op:Op}{g:Option (Nat×Bool)}{v:Value}{w':World}(hw:Wt ops e g)(hd:Nat.blt d n=true)
  (hr:∀a,Fits Φ n e a→(execOp a.eval ⟨some d,op,ty,pos,af,g⟩).run P w= .ok (.value v) w') (h:L Φ P Q n ops os ((d,v)::e) w') (hnd:∀c,op≠ .defer c:=by nofun):L Φ P Q n ops (⟨some d,op,ty,pos,af,g⟩::os) e w:=
 L.op hw (fun a ha K hK=>by
  unfold Oper.wp;rw [hr a ha];exact hK _ _ _ (ha.put hd v) h) hnd
theorem L.unit{op:Op}{g:Option (Nat×Bool)}{w':World}(hw:Wt ops e g)
  (hr:∀a,Fits Φ n e a→(execOp a.eval ⟨none,op,ty,pos,af,g⟩).run P w= .ok .skip w') (h:L Φ P Q n ops os e w') (hnd:∀c,op≠ .defer c:=by nofun):L Φ P Q n ops (⟨none,op,ty,pos,af,g⟩::os) e w:=
 L.op hw (fun a ha K hK=>by
  unfold Oper.wp;rw [hr a ha];exact hK _ _ _ ha h) hnd
end
structure Sig where
 w:World
 tag:Nat→Nat
structure Mv (S:Nat→Prop) (s s':Sig):Prop where
 os:s'.w.os=s.w.os
 tape:s'.w.tape=s.w.tape
 output:s'.w.output=s.w.output
 size:s.w.heap.size≤s'.w.heap.size
 blk:∀b,b<s.w.heap.size→¬S (s.tag b)→s'.w.heap[b]? =s.w.heap[b]? ∧s'.tag b=s.tag b
structure Le (s s':Sig):Prop where
 size:s.w.heap.size≤s'.w.heap.size
 blk:∀b,b<s.w.heap.size→s.tag b=0→s'.w.heap[b]? =s.w.heap[b]? ∧s'.tag b=0
abbrev No :Nat→Prop:=fun _=>False
abbrev One(t:Nat):Nat→Prop:=fun x=>x=t
theorem no_No{t:Nat}:¬No t:=id
theorem nor{p q:Prop}(h:¬p)(h2:¬q):¬(p∨q):=fun e=>e.elim h h2
section
variable{S S':Nat→Prop}{s s' s'':Sig}
theorem Mv.refl(S:Nat→Prop)(s:Sig):Mv S s s:=⟨rfl,rfl,rfl,yNr _,fun _ _ _=>⟨rfl,rfl⟩⟩
theorem Mv.trans(h:Mv S s s')(h2:Mv S s' s''):Mv S s s'':=
 ⟨h2.os.trans h.os,h2.tape.trans h.tape,h2.output.trans h.output,Nat.le_trans h.size h2.size,fun b hb hn=>by
  obtain⟨g1,g2⟩:=h.blk b hb hn;obtain⟨g3,g4⟩:=h2.blk b (Nat.lt_of_lt_of_le hb h.size) (by rw [g2];exact hn);exact⟨g3.trans g1,g4.trans g2⟩⟩
theorem Mv.weak(h:Mv S s s')(hs:∀t,S t→S' t):Mv S' s s':=⟨h.os,h.tape,h.output,h.size,fun b hb hn=>h.blk b hb fun e=>hn (hs _ e)⟩
theorem Mv.no(h:Mv No s s'):Mv S s s':=h.weak fun _ e=>e.elim
theorem Mv.one{t:Nat}(h:Mv (One t) s s')(ht:S t):Mv S s s':=h.weak fun _ e=>e▸ht
theorem Mv.le(h:Mv S s s')(h0:¬S 0):Le s s':=⟨h.size,fun b hb ht=>by
 obtain⟨g1,g2⟩:=h.blk b hb (by rw [ht];exact h0);exact⟨g1,g2.trans ht⟩⟩
theorem Le.refl(s:Sig):Le s s:=⟨yNr _,fun _ _ h=>⟨rfl,h⟩⟩
theorem Le.trans(h:Le s s')(h2:Le s' s''):Le s s'':=⟨Nat.le_trans h.size h2.size,fun b hb ht=>by
 obtain⟨g1,g2⟩:=h.blk b hb ht;obtain⟨g3,g4⟩:=h2.blk b (Nat.lt_of_lt_of_le hb h.size) g2;exact⟨g3.trans g1,g4⟩⟩
def Sig.drop(N:Nat)(s:Sig):Sig:=⟨s.w,fun b=>if N≤s.tag b then 0 else s.tag b⟩
theorem Sig.drop_le(N:Nat)(s:Sig):Le s (s.drop N):=⟨yNr _,fun b _ ht=>⟨rfl,by simp [Sig.drop,ht]⟩⟩
theorem Mv.drop(h:Mv (fun t=>N≤t∨S t) s s')(hN:∀b,b<s.w.heap.size→s.tag b<N):Mv S s (s'.drop N):=
 ⟨h.os,h.tape,h.output,h.size,fun b hb hn=>by
  obtain⟨g1,g2⟩:=h.blk b hb (nor (Nat.not_le.2 (hN b hb)) hn);refine⟨g1,?_⟩;show(if N≤s'.tag b then 0 else s'.tag b)=_;rw [iN (by rw [g2];exact Nat.not_le.2 (hN b hb)),g2]⟩
theorem y9W(f:Nat→Nat):∀n,∃N,0<N∧∀b,b<n→f b<N
 | 0=>⟨1,by omega,fun b h=>by omega⟩
 | n+1=>by
  obtain⟨N,h0,h⟩:=y9W f n;refine⟨max N (f n+1),by omega,fun b hb=>?_⟩;by_cases e:b=n
  ·subst e;omega
  ·have:=h b (by omega);omega
theorem Sig.fresh(s:Sig):∃N,0<N∧∀b,b<s.w.heap.size→s.tag b<N:=y9W s.tag _
def Sig.fz(t:Nat)(s:Sig):Sig:=⟨s.w,fun b=>if s.tag b=t then 0 else s.tag b⟩
theorem Sig.fz_mv(t:Nat)(s:Sig):Mv (One t) s (s.fz t):=⟨rfl,rfl,rfl,yNr _,fun b _ hn=>⟨rfl,iN hn⟩⟩
theorem Below.mv{w':World}(h:Below s.w.heap.size s.w w')(ht:∀b,b<s.w.heap.size→tag' b=s.tag b):Mv S s ⟨w',tag'⟩:=⟨h.os,h.tape,h.output,h.size,fun b hb _=>⟨h.block b hb,ht b hb⟩⟩
theorem Turn.mv{t:Nat}{w':World}(h:Turn 0 s.tag tag' t s.w w'):Mv (One t) s ⟨w',tag'⟩:=
 ⟨h.os,h.tape,h.output,h.size,fun b hb hn=>⟨h.heap b hb (.inr hn),h.tags b hb⟩⟩
theorem Mv.below(h:Mv No s s'):Below s.w.heap.size s.w s'.w:=⟨h.os,h.tape,h.output,h.size,fun b hb=>(h.blk b hb id).1⟩
end
structure Bx (s:Sig) (t b:Nat) (cs:Array Value) (T:TypeId):Prop where
 heap:s.w.heap[b]? =some (.cells cs T (0,0))
 htag:s.tag b=t
structure Mem (s:Sig) (t b off:Nat) (c:List Value):Prop where
 htag:0<c.length→s.tag b=t
 cell:∀j (h:j<c.length),s.w.cell? ⟨b,off+j,none⟩=some c[j]
section
variable{S:Nat→Prop}{s s':Sig}{t b off:Nat}{cs:Array Value}{T:TypeId}{c:List Value}
theorem Bx.lt(h:Bx s t b cs T):b<s.w.heap.size:=(yAs.1 h.heap).1
theorem Bx.mv(h:Bx s t b cs T)(m:Mv S s s')(hn:¬S t):Bx s' t b cs T:=by
 obtain⟨g1,g2⟩:=m.blk b h.lt (by rw [h.htag];exact hn);exact⟨g1.trans h.heap,g2.trans h.htag⟩
theorem Bx.mem(h:Bx s t b cs T):Mem s t b 0 cs.toList:=⟨fun _=>h.htag,fun j hj=>by
 have:j<cs.size:=by simpa using hj
 simp [World.cell?,h.heap,this]⟩
theorem Mem.le(h:Mem s 0 b off c)(m:Le s s'):Mem s' 0 b off c:=by
 by_cases h0:0<c.length
 ·have hb:b<s.w.heap.size:=World.block_lt_of_cell? _ _ (h.cell 0 h0);obtain⟨g1,g2⟩:=m.blk b hb (h.htag h0);refine⟨fun _=>g2,fun j hj=>?_⟩;rw [←h.cell j hj];exact World.cell?_of_block (w:=s.w) (a:=⟨b,off+j,none⟩) g1
 ·exact ⟨fun h=>absurd h h0,fun j hj=>by omega⟩
end
structure Rep (α:Type) where
 sz:Nat
 rd:Sig→List Value→α→Prop
 len:∀{s cs x},rd s cs x→cs.length=sz
 mono:∀{s s' cs x},Le s s'→rd s cs x→rd s' cs x
 one:∀{s cs x},rd s cs x→∀u∈cs,u.oneCell'=true
def rK(k:IntKind):Rep Int:=⟨1,fun _ cs x=>cs= [.int k x],fun h=>by rw [h];rfl,fun _ h=>h,fun h u hu=>by rw [h] at hu;rw [yMs.1 hu];rfl⟩
def rB :Rep Bool:=⟨1,fun _ cs x=>cs= [.bool x],fun h=>by rw [h];rfl,fun _ h=>h,fun h u hu=>by rw [h] at hu;rw [yMs.1 hu];rfl⟩
def rP{α β:Type}(r:Rep α)(q:Rep β):Rep (α×β) where
 sz:=r.sz+q.sz
 rd s cs x:=∃c d,cs=c++d∧r.rd s c x.1∧q.rd s d x.2
 len:=by rintro s cs x ⟨c,d,rfl,h1,h2⟩;rw [yLa,r.len h1,q.len h2]
 mono:=by rintro s s' cs x hl ⟨c,d,rfl,h1,h2⟩;exact⟨c,d,rfl,r.mono hl h1,q.mono hl h2⟩
 one:=by
  rintro s cs x ⟨c,d,rfl,h1,h2⟩ u hu;rcases yMa.1 hu with h|h
  ·exact r.one h1 u h
  ·exact q.one h2 u h
def Cells{α:Type}(r:Rep α)(s:Sig):List Value→List α→Prop
 | cs,[]=>cs= []
 | cs,x::xs=>∃c d,cs=c++d∧r.rd s c x∧Cells r s d xs
section
variable{α:Type}{r:Rep α}{s s':Sig}
theorem Cells.mono(hl:Le s s'):∀{cs:List Value} {xs:List α},Cells r s cs xs→Cells r s' cs xs
 | _,[],h=>h
 | _,_::_,⟨c,d,e,h1,h2⟩=>⟨c,d,e,r.mono hl h1,Cells.mono hl h2⟩
theorem Cells.len :∀{cs:List Value} {xs:List α},Cells r s cs xs→cs.length=xs.length*r.sz
 | _,[],h=>by rw [h];simp
 | _,_::xs,⟨c,d,e,h1,h2⟩=>by rw [e,yLa,r.len h1,Cells.len h2,yLc,Nat.succ_mul];omega
theorem Cells.one :∀{cs:List Value} {xs:List α},Cells r s cs xs→∀u∈cs,u.oneCell'=true
 | _,[],h,u,hu=>by rw [h] at hu;cases hu
 | _,_::xs,⟨c,d,e,h1,h2⟩,u,hu=>by
  rw [e] at hu;rcases yMa.1 hu with h|h
  ·exact r.one h1 u h
  ·exact Cells.one h2 u h
theorem Cells.append :∀{cs ds:List Value} {xs ys:List α},Cells r s cs xs→Cells r s ds ys→Cells r s (cs++ds) (xs++ys)
 | _,_,[],_,h,h2=>by rw [h];exact h2
 | _,_,_::_,_,⟨c,d,e,h1,h2⟩,h3=>⟨c,d++_,by rw [e,yAa],h1,Cells.append h2 h3⟩
theorem Cells.split :∀{cs:List Value} {xs ys:List α},Cells r s cs (xs++ys)→Cells r s (cs.take (xs.length*r.sz)) xs∧Cells r s (cs.drop (xs.length*r.sz)) ys
 | cs,[],ys,h=>by simpa [Cells] using h
 | _,x::xs,ys,⟨c,d,e,h1,h2⟩=>by
  obtain⟨g1,g2⟩:=Cells.split h2;subst e;have hl:=r.len h1;have e1:(x::xs).length*r.sz=c.length+xs.length*r.sz:=by rw [yLc,Nat.succ_mul,hl];omega
  rw [e1];refine⟨⟨c,d.take (xs.length*r.sz),?_,h1,g1⟩,?_⟩
  ·rw [List.take_append,List.take_of_length_le (by omega),show c.length+xs.length*r.sz-c.length=xs.length*r.sz by omega]
  ·rw [List.drop_append,List.drop_of_length_le (by omega),show c.length+xs.length*r.sz-c.length=xs.length*r.sz by omega,List.nil_append];exact g2
theorem Cells.at{cs:List Value}{xs:List α}(h:Cells r s cs xs)(i:Nat)(hi:i<xs.length):r.rd s ((cs.drop (i*r.sz)).take r.sz) xs[i]:=by
 have e:xs=xs.take i++xs.drop i:=(List.take_append_drop i xs).symm;rw [e] at h;obtain⟨_,h2⟩:=h.split;rw [yLt,Nat.min_eq_left (by omega),yDc hi] at h2;obtain⟨c,d,e2,h3,_⟩:=h2;rw [e2,List.take_append,List.take_of_length_le (by rw [r.len h3];omega),r.len h3,Nat.sub_self,List.take_zero,List.append_nil];exact h3
theorem Cells.set :∀{cs:List Value} {xs:List α} (_:Cells r s cs xs) (i:Nat) {c:List Value} {x:α} (_:r.rd s c x) (_:i<xs.length),Cells r s (cs.take (i*r.sz)++c++cs.drop (i*r.sz+c.length)) (xs.set i x)
 | _,[],_,i,_,_,_,hi=>by simp at hi
 | _,y::ys,⟨c0,d,e,h1,h2⟩,0,c,x,hx,_=>by
  subst e;refine⟨c,d,?_,hx,h2⟩;have:=r.len h1;have:=r.len hx;rw [Nat.zero_mul,List.take_zero,List.nil_append,yNz,List.drop_append,List.drop_of_length_le (by omega),List.nil_append,show c.length-c0.length=0 by omega,List.drop_zero]
 | _,y::ys,⟨c0,d,e,h1,h2⟩,i+1,c,x,hx,hi=>by
  subst e;have hl:=r.len h1;have:=Cells.set h2 i hx (by simpa using hi);refine⟨c0,_,?_,h1,this⟩;rw [Nat.succ_mul,List.take_append,List.take_of_length_le (by omega),List.drop_append,List.drop_of_length_le (by omega),List.nil_append,
   show i*r.sz+r.sz-c0.length=i*r.sz by omega,show i*r.sz+r.sz+c.length-c0.length=i*r.sz+c.length by omega]
  simp only [yAa]
def RdL(r:Rep α)(s:Sig)(a:Option Addr)(cap:Nat)(xs:List α):Prop:=
 ∃cs,RdS s.w r.sz a xs.length cap cs∧(∀ad,a=some ad→0<cs.length→s.tag ad.block=0)∧Cells r s cs xs
variable{a:Option Addr}{cap:Nat}{xs ys:List α}
theorem RdL.mono(h:RdL r s a cap xs)(hl:Le s s'):RdL r s' a cap xs:=by
 obtain⟨cs,h1,h2,h3⟩:=h;refine⟨cs,⟨h1.hlen,h1.hcap,h1.hmax,h1.hnil,h1.spot,fun ad e j hj=>?_⟩,fun ad e hj=>?_,h3.mono hl⟩
 ·have hc:=h1.cell ad e j hj;rw [←hc];exact World.cell?_of_block (w:=s.w) (a:=⟨ad.block,ad.off+j,none⟩) (hl.blk _ (World.block_lt_of_cell? _ _ hc) (h2 ad e (by omega))).1
 ·exact (hl.blk _ (World.block_lt_of_cell? _ _ (h1.cell ad e 0 hj)) (h2 ad e hj)).2
theorem RdL.nil :RdL r s none 0 []:=⟨[],⟨by simp,yNr _,by simp [maxLen],fun _=>rfl,fun _ e=>(by cases e),fun _ e=>(by cases e)⟩,fun _ e=>(by cases e),rfl⟩
theorem RdL.at(h:RdL r s a cap xs)(i:Nat)(hi:i<xs.length):∃b off c,a=some ⟨b,off,none⟩∧Mem s 0 b (off+i*r.sz) c∧r.rd s c xs[i]:=by
 obtain⟨cs,h1,h2,h3⟩:=h;obtain⟨b,off,rfl,hc⟩:=h1.at_elem i hi;have hx:=h3.at i hi;have hl:=h1.hlen;have hm:=Nat.mul_le_mul_right r.sz (show i+1≤xs.length from hi);rw [Nat.succ_mul] at hm;refine⟨b,off,_,rfl,⟨fun h0=>?_,fun j hj=>?_⟩,hx⟩
 ·exact h2 _ rfl (by rw [yLt,List.length_drop] at h0;omega)
 ·have hj':j<r.sz:=by rw [r.len hx] at hj;exact hj
  rw [Nat.add_assoc,hc (i*r.sz+j) (by omega)];simp
end
def rL{α:Type}(r:Rep α):Rep (List α) where
 sz:=1
 rd s cs xs:=∃a cap,cs= [.slice a xs.length cap]∧RdL r s a cap xs
 len:=by rintro s cs x ⟨a,cap,rfl,_⟩;rfl
 mono:=by rintro s s' cs x hl ⟨a,cap,rfl,h⟩;exact⟨a,cap,rfl,h.mono hl⟩
 one:=by rintro s cs x ⟨a,cap,rfl,_⟩ u hu;rw [yMs.1 hu];rfl
def RowT{α:Type}(r:Rep α)(s:Sig)(t:Nat)(T:TypeId)(a:Option Addr)(cap:Nat)(xs:List α):Prop:=
 ∃cs,Row s.w 0 s.tag t T r.sz (.slice a xs.length cap) xs.length cs∧Cells r s cs xs
section
variable{α:Type}{r:Rep α}{s s':Sig}{t:Nat}{T:TypeId}{a:Option Addr}{cap:Nat}{xs ys:List α}{S:Nat→Prop}
theorem Own.mv'{w':World}{b:Nat}(h:Own s.w 0 s.tag t b cs T)(m:Mv S s ⟨w',tag'⟩)(hn:¬S t):Own w' 0 tag' t b cs T:=by
 obtain⟨g1,g2⟩:=m.blk b h.lt (by rw [h.htag];exact hn);exact⟨g1.trans h.heap,g2.trans h.htag,h.base⟩
theorem RowT.mv(h:RowT r s t T a cap xs)(m:Mv S s s')(hn:¬S t)(h0:¬S 0):RowT r s' t T a cap xs:=by
 obtain⟨cs,h1,h2⟩:=h;exact⟨cs,⟨h1.1,h1.2.imp id fun⟨b,off,cap,cur,g1,g2,g3⟩=>⟨b,off,cap,cur,g1,Own.mv' g2 m hn,g3⟩⟩,h2.mono (m.le h0)⟩
theorem RowT.nil :RowT r s t T none 0 []:=⟨[],Row.nil _ _ _ _ _ _,rfl⟩
theorem RowT.rd(h:RowT r s t T a cap xs)(hl:Le s s')(hw:s'.w=s.w)(ht:∀b,s.tag b=t→s'.tag b=0):RdL r s' a cap xs:=by
 obtain⟨cs,h1,h2⟩:=h;obtain⟨a',cap',e,h3⟩:=h1.rd;cases e;refine⟨cs,by rw [hw];exact h3,fun ad e h0=>?_,h2.mono hl⟩;subst e;have hx:0<xs.length:=by
  rcases Nat.eq_zero_or_pos xs.length with h|h
  ·have:=h1.1;rw [h] at this;omega
  ·exact h
 obtain⟨b,off,cap',e,_,_,g⟩:=h1.addr hx;cases e;exact ht _ g
theorem RowT.drop(h:RowT r s t T a cap xs)(hN:N≤t):RdL r (s.drop N) a cap xs:=h.rd (Sig.drop_le N s) rfl fun b e=>by simp [Sig.drop,e,hN]
theorem Bx.rdL{b:Nat}(h:Bx s 0 b cs T)(hc:Cells r s cs.toList xs)(hm:xs.length≤maxLen):RdL r s (some ⟨b,0,none⟩) xs.length xs:=
 ⟨cs.toList,⟨hc.len,yNr _,hm,fun e=>(by cases e),fun _ e=>(by cases e;rfl),fun _ e j hj=>by cases e;exact h.mem.cell j hj⟩,fun _ e _=>by cases e;exact h.htag,hc⟩
theorem Bx.row{b:Nat}(h:Bx s t b cs T)(hc:Cells r s cs.toList xs)(hm:xs.length≤maxLen):RowT r s t T (some ⟨b,0,none⟩) xs.length xs:=by
 have hl:=hc.len;refine⟨cs.toList,⟨hl,.inr ⟨b,0,xs.length,cs,rfl,⟨h.heap,h.htag,yZl _⟩,yNr _,hm,?_,?_⟩⟩,hc⟩
 ·rw [Array.length_toList] at hl;omega
 ·rw [List.drop_zero,←hl,List.take_length]
end
structure NAg (P:Program) (T:TypeId):Prop where
 agg:∀w,(isAgg T).run P w= .ok false w
 sz:∀w,(sizeOf T).run P w= .ok 1 w
structure Ag (P:Program) (T:TypeId) (m:Nat):Prop where
 agg:∀w,(isAgg T).run P w= .ok true w
 sz:∀w,(sizeOf T).run P w= .ok m w
theorem NAg.mk'{P:Program}{T:TypeId}{d:TypeDesc}(h:P.underlying T=some d)(hd:(match d with | .struct _ | .array _ _=>true|_=>false)=false)(hs:(P.info? T).map (·.size)=some 1):NAg P T:=by
 constructor
 ·intro w;simp only [isAgg,Sem.run_bind,run_underlying h,Result.andThen_ok];cases d <;> first | rfl|(simp at hd)
 ·intro w;cases hi:P.info? T with
  | none=>simp [hi] at hs
  | some i=>simp [hi] at hs;simp [sizeOf,typeInfo,hi,hs]
theorem Ag.mk'{P:Program}{T:TypeId}{d:TypeDesc}(h:P.underlying T=some d)(hd:(match d with | .struct _ | .array _ _=>true|_=>false)=true)(hs:(P.info? T).map (·.size)=some m):Ag P T m:=by
 constructor
 ·intro w;simp only [isAgg,Sem.run_bind,run_underlying h,Result.andThen_ok];cases d <;> first | rfl|(simp at hd)
 ·intro w;cases hi:P.info? T with
  | none=>simp [hi] at hs
  | some i=>simp [hi] at hs;simp [sizeOf,typeInfo,hi,hs]
def Cf(P:Program)(f:FuncId):Prop:=∀args w,(callFunc f args).run P w= .ok (.enter f args) w
theorem Cf.mk {P:Program}{f:FuncId}(h : P.funcs[f]? = some fn)(hn : (fn.name == "runtime.NumGoroutine") = false)(hb : fn.body.isNone = false) : Cf P f := fun args w => by
 simp only [callFunc,Sem.run_bind,run_program,Result.andThen_ok,h,hn,hb];rfl
def FA(P:Program)(S:TypeId)(f o:Nat):Prop:=∀w b off,(Instr.fieldAt S (.pointer (some ⟨b,off,none⟩)) f).run P w= .ok (.pointer (some ⟨b,off+o,none⟩)) w
theorem FA.mk{P:Program}{f o:Nat}{fd:Field}(h:P.underlying S=some (.struct fs))(hf:fs[f]? =some fd)(ho:fd.offset=o)(hs:∃m,0<m∧(P.info? fd.type).map (·.size)=some m):FA P S f o:=fun w b off=>by
 obtain⟨m,hm,hs⟩:=hs;cases hi:P.info? fd.type with
 | none=>simp [hi] at hs
 | some i=>
  simp [hi] at hs;subst ho;have hsz:(sizeOf fd.type).run P w= .ok m w:=by simp [sizeOf,typeInfo,hi,hs]
  have hne:¬m=0:=by omega
  simp only [Instr.fieldAt,Sem.run_bind,run_underlying h,Result.andThen_ok,hf,Instr.sureAddr,Sem.run_pure,fieldPlace,hsz,iN hne];unfold Addr.add;split <;> simp_all
structure Sl (P:Program) (T E:TypeId) (m:Nat):Prop where
 und:P.underlying T=some (.slice E)
 sz:∀w,(sizeOf E).run P w= .ok m w
theorem Sl.mk'{P:Program}{T E:TypeId}(h:P.underlying T=some (.slice E))(hs:(P.info? E).map (·.size)=some m):Sl P T E m:=⟨h,fun w=>by
 cases hi:P.info? E with
 | none=>simp [hi] at hs
 | some i=>simp [hi] at hs;simp [sizeOf,typeInfo,hi,hs]⟩
def idx{α:Type}(xs:List α)(i:Int):Option α:=if 0≤i then xs[i.toNat]? else none
theorem y5H{xs:List α}{i:Int}{x:α}(h:idx xs i=some x):0≤i∧∃hk:i.toNat<xs.length,xs[i.toNat]=x:=by
 unfold idx at h;split at h
 ·rename_i h0;obtain⟨hk,e⟩:=yGs.1 h;exact⟨h0,hk,e⟩
 ·cases h
theorem yjj{xs:List α}{k:Nat}:idx xs (k:Int)=xs[k]? :=by simp [idx]
def y8v :BinOp→IntKind→Int→Int→Option Value
 | .add,k,a,b=>some (.int k (k.wrap (a+b)))
 | .sub,k,a,b=>some (.int k (k.wrap (a-b)))
 | .mul,k,a,b=>some (.int k (k.wrap (a*b)))
 | .eql,_,a,b=>some (.bool (a==b))
 | .neq,_,a,b=>some (.bool (a != b))
 | .lss,_,a,b=>some (.bool (decide (a<b)))
 | .leq,_,a,b=>some (.bool (decide (a≤b)))
 | .gtr,_,a,b=>some (.bool (decide (a>b)))
 | .geq,_,a,b=>some (.bool (decide (a≥b)))
 | .and,k,a,b=>some (.int k (k.wrap ((BitVec.ofInt k.bits a &&& BitVec.ofInt k.bits b).toNat:Int)))
 | .or,k,a,b=>some (.int k (k.wrap ((BitVec.ofInt k.bits a ||| BitVec.ofInt k.bits b).toNat:Int)))
 | _,_,_,_=>none
section
variable{Φ:Fr}{P:Program}{Q:Exit→Act→World→Prop}{n:Nat}{e:List (Nat×Value)}{w:World}{s:Sig}{ops:Array Oper}{os:List Oper}{d:Nat}{ty:TypeId}{pos:String}{af:Array Edge}{g:Option (Nat×Bool)}
theorem L.mv{x:Operand}{v:Value}(hw:Wt ops e g)(hx:Env.ev e x=some v)(hd:Nat.blt d n=true)(h:L Φ P Q n ops os ((d,v)::e) w):L Φ P Q n ops (⟨some d,.move x,ty,pos,af,g⟩::os) e w:=
 L.val hw hd (fun a ha=>by simp [execOp,ha.ev hx]) h
theorem L.as{x:Operand}{v:Value}(hw:Wt ops e g)(hx:Env.ev e x=some v)(hd:Nat.blt d n=true)(h:L Φ P Q n ops os ((d,v)::e) w):L Φ P Q n ops (⟨some d,.assign x,ty,pos,af,g⟩::os) e w:=
 L.val hw hd (fun a ha=>by simp [execOp,ha.ev hx]) h
theorem L.pkT{x z:Operand}{t:Bool}{v:Value}(hw:Wt ops e g)(hx:Env.ev e x=some (.bool t))(ht:t=true)(hy:Env.ev e y=some v)(hd:Nat.blt d n=true)(h:L Φ P Q n ops os ((d,v)::e) w):L Φ P Q n ops (⟨some d,.pick x y z,ty,pos,af,g⟩::os) e w:=
 L.val hw hd (fun a ha=>by subst ht;simp [execOp,ha.ev hx,ha.ev hy,asBool]) h
theorem L.pkF{x z:Operand}{t:Bool}{v:Value}(hw:Wt ops e g)(hx:Env.ev e x=some (.bool t))(ht:t=false)(hy:Env.ev e z=some v)(hd:Nat.blt d n=true)(h:L Φ P Q n ops os ((d,v)::e) w):L Φ P Q n ops (⟨some d,.pick x y z,ty,pos,af,g⟩::os) e w:=
 L.val hw hd (fun a ha=>by subst ht;simp [execOp,ha.ev hx,ha.ev hy,asBool]) h
theorem L.bi{op:BinOp}{T:TypeId}{x:Operand}{k:IntKind}{i:Int}{v:Value}(hw:Wt ops e g)(hx:Env.ev e x=some (.int k i))(hy:Env.ev e y=some (.int k j))(hv:y8v op k i j=some v)(hd:Nat.blt d n=true)
  (h:L Φ P Q n ops os ((d,v)::e) w):L Φ P Q n ops (⟨some d,.binOp op T x y U,ty,pos,af,g⟩::os) e w:=
 L.val hw hd (fun a ha=>by
  simp only [execOp,ha.ev hx,ha.ev hy];cases op <;> simp only [y8v,yIj,reduceCtorEq] at hv <;> subst hv <;> simp [eqGuard,binOp,Op.intArith,Op.intCmp,Op.intBits]) h
theorem L.rem{T:TypeId}{x:Operand}{k:IntKind}{i:Int}(hw:Wt ops e g)(hx:Env.ev e x=some (.int k i))(hy:Env.ev e y=some (.int k j))(hj:j≠0)(hd:Nat.blt d n=true)
  (h:L Φ P Q n ops os ((d,.int k (i.tmod j))::e) w):L Φ P Q n ops (⟨some d,.binOp .rem T x y U,ty,pos,af,g⟩::os) e w:=
 L.val hw hd (fun a ha=>by simp [execOp,ha.ev hx,ha.ev hy,eqGuard,binOp,Op.intDiv,hj]) h
theorem L.shr{T:TypeId}{x:Operand}{k:IntKind}{i:Int}(hw:Wt ops e g)(hx:Env.ev e x=some (.int k i))(hy:Env.ev e y=some (.int k' j))(hj:¬j<0)(hd:Nat.blt d n=true)
  (h:L Φ P Q n ops os ((d,.int k (i.fdiv (2 ^ (min j.toNat k.bits))))::e) w):L Φ P Q n ops (⟨some d,.binOp .shr T x y U,ty,pos,af,g⟩::os) e w:=
 L.val hw hd (fun a ha=>by simp [execOp,ha.ev hx,ha.ev hy,eqGuard,binOp,Op.shift,hj]) h
theorem L.beq{T:TypeId}{x:Operand}{i j:Bool}(hT:P.underlying T=some .bool)(hw:Wt ops e g)(hx:Env.ev e x=some (.bool i))(hy:Env.ev e y=some (.bool j))(hd:Nat.blt d n=true)
  (h:L Φ P Q n ops os ((d,.bool (i==j))::e) w):L Φ P Q n ops (⟨some d,.binOp .eql T x y U,ty,pos,af,g⟩::os) e w:=
 L.val hw hd (fun a ha=>by
  have hb:=run_eql_bool (P:=P) w T i j hT;simp [execOp,ha.ev hx,ha.ev hy,eqGuard,hb,bne]) h
theorem L.bne{T:TypeId}{x:Operand}{i j:Bool}(hT:P.underlying T=some .bool)(hw:Wt ops e g)(hx:Env.ev e x=some (.bool i))(hy:Env.ev e y=some (.bool j))(hd:Nat.blt d n=true)
  (h:L Φ P Q n ops os ((d,.bool (i != j))::e) w):L Φ P Q n ops (⟨some d,.binOp .neq T x y U,ty,pos,af,g⟩::os) e w:=
 L.val hw hd (fun a ha=>by
  have hb:=run_neq_bool (P:=P) w T i j hT;simp [execOp,ha.ev hx,ha.ev hy,eqGuard,hb];cases i <;> cases j <;> rfl) h
theorem L.not{T:TypeId}{x:Operand}{i:Bool}(hw:Wt ops e g)(hx:Env.ev e x=some (.bool i))(hd:Nat.blt d n=true)
  (h:L Φ P Q n ops os ((d,.bool (!i))::e) w):L Φ P Q n ops (⟨some d,.unOp .not T x,ty,pos,af,g⟩::os) e w:=
 L.val hw hd (fun a ha=>by simp [execOp,ha.ev hx,Op.unary]) h
theorem L.cv{T:TypeId}{D:TypeDesc}{x:Operand}{k:IntKind}{i:Int}(hT:P.underlying T=some D)(hU:P.underlying U=some (.int k'))(hw:Wt ops e g)(hx:Env.ev e x=some (.int k i))(hd:Nat.blt d n=true)
  (h:L Φ P Q n ops os ((d,.int k' (k'.wrap i))::e) w):L Φ P Q n ops (⟨some d,.convert T U x,ty,pos,af,g⟩::os) e w:=
 L.val hw hd (fun a ha=>by simp [execOp,ha.ev hx,convert,run_underlying hT,run_underlying hU,Conv.intToInt]) h
theorem L.ex{x:Operand}{vs:Array Value}{i:Nat}{v:Value}(hw:Wt ops e g)(hx:Env.ev e x=some (.tuple vs))(hi:vs[i]? =some v)(hd:Nat.blt d n=true)
  (h:L Φ P Q n ops os ((d,v)::e) w):L Φ P Q n ops (⟨some d,.extract x i,ty,pos,af,g⟩::os) e w:=
 L.val hw hd (fun a ha=>by simp [execOp,ha.ev hx,Instr.extract,hi]) h
theorem L.len{x:Operand}{T E:TypeId}{a:Option Addr}{k c:Nat}(hT:Sl P T E m)(hw:Wt ops e g)(hx:Env.ev e x=some (.slice a k c))(hd:Nat.blt d n=true)
  (h:L Φ P Q n ops os ((d,.int .i64 (k:Int))::e) w):L Φ P Q n ops (⟨some d,.call { callee:= .builtin .len,args:= #[x],argTypes:= #[T] },ty,pos,af,g⟩::os) e w:=
 L.val hw hd (fun ac ha=>by simp [execOp,resolve,invoke,builtin,Builtin.len_,ha.ev hx,run_underlying hT.und,goInt]) h
theorem L.max{x:Operand}{T:TypeId}{k:IntKind}{i:Int}(hw:Wt ops e g)(hx:Env.ev e x=some (.int k i))(hy:Env.ev e y=some (.int k j))(hd:Nat.blt d n=true)
  (h:L Φ P Q n ops os ((d,.int k (if i<j then j else i))::e) w):L Φ P Q n ops (⟨some d,.call { callee:= .builtin .max,args:= #[x,y],argTypes:= #[T,U] },ty,pos,af,g⟩::os) e w:=
 L.val hw hd (fun ac ha=>by simp [execOp,resolve,invoke,builtin,Builtin.max_,Builtin.max2,ha.ev hx,ha.ev hy]) h
theorem L.fa{x:Operand}{f o b:Nat}(hF:FA P S f o)(hw:Wt ops e g)(hx:Env.ev e x=some (.pointer (some ⟨b,off,none⟩)))(hd:Nat.blt d n=true)
  (h:L Φ P Q n ops os ((d,.pointer (some ⟨b,off+o,none⟩))::e) w):L Φ P Q n ops (⟨some d,.fieldAddr S x f,ty,pos,af,g⟩::os) e w:=
 L.val hw hd (fun ac ha=>by simp [execOp,ha.ev hx,hF w b off]) h
theorem L.mf{f:Fn}{xs ys:List Operand}(hw:Wt ops e g)(hx:Env.evs e xs=some us)(hy:Env.evs e ys=some vs)(hd:Nat.blt d n=true)
  (h:L Φ P Q n ops os ((d,.func f us.toArray vs.toArray)::e) w):L Φ P Q n ops (⟨some d,.makeFunc f xs.toArray ys.toArray,ty,pos,af,g⟩::os) e w:=
 L.val hw hd (fun ac ha=>by simp [execOp,Instr.makeFunc,List.map_toArray,ha.evs hx,ha.evs hy]) h
theorem L.bd{T:TypeId}{xs:List (Nat×Operand)}(hw:Wt ops e g)(hx:Env.evp e xs=some ps)(hb:P.built T ps=some cs)(hd:Nat.blt d n=true)
  (h:L Φ P Q n ops os ((d,.agg cs)::e) w):L Φ P Q n ops (⟨some d,.build T xs.toArray,ty,pos,af,g⟩::os) e w:=
 L.val hw hd (fun ac ha=>by
  have h2:(xs.toArray.map fun(i,x)=>(i,ac.eval x))=ps.toArray:=by rw [List.map_toArray,←ha.evp hx]
  simp only [execOp];rw [h2];simp [run_build (P:=P) w T ps.toArray cs (by simpa using hb)]) h
theorem L.ld{T:TypeId}{x:Operand}{t b j o:Nat}{c:List Value}{v:Value}(hm:Mem s t b off c)(hT:NAg P T)(hw:Wt ops e g)(hx:Env.ev e x=some (.pointer (some ⟨b,o,none⟩)))(ho:o=off+j)(hc:c[j]? =some v)(hd:Nat.blt d n=true)
  (h:L Φ P Q n ops os ((d,v)::e) s.w):L Φ P Q n ops (⟨some d,.load T x,ty,pos,af,g⟩::os) e s.w:=
 L.val hw hd (fun ac ha=>by
  subst ho;obtain⟨hj,e⟩:=yGs.1 hc;have h1:=hm.cell j hj;rw [e] at h1;simp [execOp,Instr.loadAt,Instr.sureAddr,loadVar,ha.ev hx,hT.agg,load,Sem.run,h1]) h
theorem L.lg{T:TypeId}{x:Operand}{t b j o:Nat}{c cs:List Value}(hm:Mem s t b off c)(hT:Ag P T m)(hw:Wt ops e g)(hx:Env.ev e x=some (.pointer (some ⟨b,o,none⟩)))(ho:o=off+j)(hc:(c.drop j).take m=cs)(hl:cs.length=m)(hd:Nat.blt d n=true)
  (h:L Φ P Q n ops os ((d,.agg cs.toArray)::e) s.w):L Φ P Q n ops (⟨some d,.load T x,ty,pos,af,g⟩::os) e s.w:=
 L.val hw hd (fun ac ha=>by
  subst ho;subst hc;have h1:(loadCells ⟨b,off+j,none⟩ ((c.drop j).take m).length).run P s.w= .ok ((c.drop j).take m).toArray s.w:=by
   refine run_loadCells_list (P:=P) s.w ⟨b,off+j,none⟩ _ fun i v hv=>?_;rw [Addr.add_lit];rw [List.getElem?_take] at hv;split at hv
   ·rw [List.getElem?_drop] at hv;obtain⟨hj,e⟩:=yGs.1 hv;have h2:=hm.cell (j+i) hj;rw [e] at h2;rw [←h2];show s.w.cell? ⟨b,off+j+i,none⟩=s.w.cell? ⟨b,off+(j+i),none⟩;rw [Nat.add_assoc]
   ·cases hv
  rw [hl] at h1;simp [execOp,Instr.loadAt,Instr.sureAddr,loadVar,ha.ev hx,hT.agg,hT.sz,h1]) h
theorem L.box{T:TypeId}{x:Operand}{v:Value}(t:Nat)(hw:Wt ops e g)(hx:Env.ev e x=some v)(hc:v.cells=cs)(hd:Nat.blt d n=true)
  (h:∀b s',Mv No s s'→Bx s' t b cs T→L Φ P Q n ops os ((d,.pointer (some ⟨b,0,none⟩))::e) s'.w):L Φ P Q n ops (⟨some d,.box T x,ty,pos,af,g⟩::os) e s.w:=by
 subst hc;refine L.val hw hd (v:= .pointer (some ⟨s.w.heap.size,0,none⟩)) (w':=s.w.alloc (.cells v.cells T)) (fun ac ha=>by simp [execOp,Instr.box,newVar,newRow,ha.ev hx]) ?_;refine h s.w.heap.size ⟨s.w.alloc (.cells v.cells T),tagUp s.tag s.w.heap.size t⟩ ?_ ⟨heap_alloc_new s.w _,y4R _ _ _⟩;exact⟨rfl,rfl,rfl,by simp,fun b hb _=>⟨heap_alloc_old s.w _ hb,y5f hb⟩⟩
theorem L.al{T:TypeId}{z:Value}(t:Nat)(hz:(P.info? T).bind (·.zero)=some z)(hc:z.cells=cs)(hw:Wt ops e g)(hd:Nat.blt d n=true)
  (h:∀b s',Mv No s s'→Bx s' t b cs T→L Φ P Q n ops os ((d,.pointer (some ⟨b,0,none⟩))::e) s'.w):L Φ P Q n ops (⟨some d,.alloc T,ty,pos,af,g⟩::os) e s.w:=by
 subst hc;have hz':∀w,(zeroValue T).run P w= .ok z w:=fun w=>by
  cases hi:P.info? T with
  | none=>simp [hi] at hz
  | some i=>simp [hi] at hz;simp [zeroValue,typeInfo,hi,hz]
 refine L.val hw hd (v:= .pointer (some ⟨s.w.heap.size,0,none⟩)) (w':=s.w.alloc (.cells z.cells T)) (fun ac ha=>by simp [execOp,Instr.alloc,hz',newVar,newRow]) ?_;refine h s.w.heap.size ⟨s.w.alloc (.cells z.cells T),tagUp s.tag s.w.heap.size t⟩ ?_ ⟨heap_alloc_new s.w _,y4R _ _ _⟩;exact⟨rfl,rfl,rfl,by simp,fun b hb _=>⟨heap_alloc_old s.w _ hb,y5f hb⟩⟩
theorem L.bs{T E:TypeId}{k:Nat}{xs:List (Nat×Operand)}{ie:TypeInfo}{z:Value}(t:Nat)(hu:P.underlying T=some (.slice E))(hie:P.info? E=some ie)(hz:ie.zero=some z)(hs:¬k*ie.size>2 ^ 24)(h0:¬k*ie.size=0)
  (hw:Wt ops e g) (hx:Env.evp e xs=some ps) (hb:Instr.fill (fun i=>some (i*ie.size,ie.size)) ((Array.range (k*ie.size)).map (z.cells[· % z.cells.size]!)) ps=some cs) (hd:Nat.blt d n=true)
  (h:∀b s',Mv No s s'→Bx s' t b cs E→L Φ P Q n ops os ((d,.slice (some ⟨b,0,none⟩) k k)::e) s'.w):L Φ P Q n ops (⟨some d,.buildSlice T k xs.toArray,ty,pos,af,g⟩::os) e s.w:=by
 refine L.val hw hd (v:= .slice (some ⟨s.w.heap.size,0,none⟩) k k) (w':=s.w.alloc (.cells cs E)) (fun ac ha=>?_) ?_
 ·have h2:(xs.toArray.map fun(i,x)=>(i,ac.eval x))=ps.toArray:=by rw [List.map_toArray,←ha.evp hx]
  simp only [execOp];rw [h2];simp [run_buildSlice (P:=P) s.w T E k ps.toArray cs ie z hu hie hz hs h0 (by simpa using hb)]
 ·refine h s.w.heap.size ⟨s.w.alloc (.cells cs E),tagUp s.tag s.w.heap.size t⟩ ?_ ⟨heap_alloc_new s.w _,y4R _ _ _⟩;exact⟨rfl,rfl,rfl,by simp,fun b hb _=>⟨heap_alloc_old s.w _ hb,y5f hb⟩⟩
theorem L.st{T:TypeId}{x:Operand}{t b o:Nat}{cs':Array Value}{v:Value}{c:List Value}(hbx:Bx s t b cs T')(hT:∀w,(sizeOf T).run P w= .ok m w)(hw:Wt ops e g)(hx:Env.ev e x=some (.pointer (some ⟨b,o,none⟩)))(hy:Env.ev e y=some v)
  (hc:v.cells.toList=c) (hm:c.length=m) (h1':c.all Value.oneCell'=true) (hf:o+c.length≤cs.size) (hcs:(cs.toList.take o++c++cs.toList.drop (o+c.length)).toArray=cs')
  (h:∀s',Mv (One t) s s'→Bx s' t b cs' T'→L Φ P Q n ops os e s'.w):L Φ P Q n ops (⟨none,.store T x y,ty,pos,af,g⟩::os) e s.w:=by
 have h1:∀u∈c,u.oneCell'=true:=yAt.1 h1';subst hcs;subst hc;have hst:=run_storeCells_at P b o T' v.cells.toList 0 cs s.w hbx.heap (by simpa using hf) h1;simp only [Nat.add_zero] at hst;refine L.unit hw (w':=s.w.setRow b (cs.toList.take o++v.cells.toList++cs.toList.drop (o+v.cells.toList.length)).toArray) (fun ac ha=>?_) ?_
 ·have hsz:v.cells.size=m:=by simpa using hm
  simp [execOp,Instr.storeAt,Instr.sureAddr,storeVar,ha.ev hx,ha.ev hy,hT,hsz];have hst':=hst;simp only [Array.length_toList,hsz] at hst';rw [hst'];simp
 ·refine h ⟨s.w.setRow b _,s.tag⟩ ⟨rfl,rfl,rfl,by simp,fun b' hb hn=>⟨setRow_other _ _ _ _ ?_,rfl⟩⟩ ⟨setRow_heap _ _ _ _ _ _ hbx.heap,hbx.htag⟩;rintro rfl;exact hn hbx.htag
end
def app{α:Type}(xs ys:List α):Option (List α):=if xs.length+ys.length≤4294967296 then some (xs++ys) else none
theorem yi0{xs ys:List α}(h:app xs ys=some zs):xs.length+ys.length≤4294967296∧zs=xs++ys:=by
 unfold app at h;split at h
 ·exact ⟨by assumption,by cases h;rfl⟩
 ·cases h
theorem y5S{xs ys:List α}(h:xs.length+ys.length≤4294967296):app xs ys=some (xs++ys):=iP h
def mkL{α:Type}(n:Int)(z:α):Option (List α):=if 0≤n∧n≤4294967296 then some (List.replicate n.toNat z) else none
theorem ybx{n:Int}{z:α}(h:mkL n z=some zs):0≤n∧n≤4294967296∧zs=List.replicate n.toNat z:=by
 unfold mkL at h;split at h
 ·rename_i g;exact⟨g.1,g.2,by cases h;rfl⟩
 ·cases h
theorem ygx{n:Int}{z:α}(h0:0≤n)(h1:n≤4294967296):mkL n z=some (List.replicate n.toNat z):=iP ⟨h0,h1⟩
def slc{α:Type}(xs:List α)(lo hi:Int):Option (List α):=if 0≤lo∧lo≤hi∧hi≤xs.length then some ((xs.take hi.toNat).drop lo.toNat) else none
theorem y9X{xs:List α}{lo hi:Int}(h:slc xs lo hi=some zs):0≤lo∧lo≤hi∧hi≤xs.length∧zs=(xs.take hi.toNat).drop lo.toNat:=by
 unfold slc at h;split at h
 ·rename_i g;exact⟨g.1,g.2.1,g.2.2,by cases h;rfl⟩
 ·cases h
def upd{α:Type}(xs:List α)(i:Int)(y:α):Option (List α):=if 0≤i∧i<xs.length then some (xs.set i.toNat y) else none
theorem y9Y{xs:List α}{i:Int}{y:α}(h:upd xs i y=some zs):0≤i∧i.toNat<xs.length∧zs=xs.set i.toNat y:=by
 unfold upd at h;split at h
 ·rename_i g;exact⟨g.1,by omega,by cases h;rfl⟩
 ·cases h
def RdW{α:Type}(r:Rep α)(s:Sig)(a:Option Addr)(cap:Nat)(xs:List α):Prop:=∃cs,RdS s.w r.sz a xs.length cap cs∧Cells r s cs xs
theorem RdL.wk{r:Rep α}{s:Sig}{a:Option Addr}{xs:List α}(h:RdL r s a cap xs):RdW r s a cap xs:=by
 obtain⟨cs,h1,_,h3⟩:=h;exact⟨cs,h1,h3⟩
theorem RowT.wk{r:Rep α}{s:Sig}{t:Nat}{T:TypeId}{a:Option Addr}{xs:List α}(h:RowT r s t T a cap xs):RdW r s a cap xs:=by
 obtain⟨cs,h1,h2⟩:=h;obtain⟨a',cap',e,h3⟩:=h1.rd;cases e;exact⟨cs,h3,h2⟩
structure Spot (a:Option Addr) (sz k b off:Nat):Prop where
 is:∃o,a=some ⟨b,o,none⟩∧off=o+k*sz
structure Zr (P:Program) {α:Type} (r:Rep α) (E:TypeId) (by_:Nat) (z:α):Prop where
 is:∃i v,P.info? E=some i∧i.size=r.sz∧i.bytes=by_∧i.zero=some v∧∀s,r.rd s v.cells.toList z
structure El (P:Program) (E:TypeId) (m by_:Nat):Prop where
 is:∃i v,P.info? E=some i∧i.size=m∧i.bytes=by_∧i.zero=some v∧v.cells.size=m
def RetS(S:Nat→Prop)(s:Sig)(Post:Value→Sig→Prop):Ending→World→Prop:=fun en w'=>∃v s',w'=s'.w∧en= .returned v∧Mv S s s'∧Post v s'
def Env.ofArgs :Nat→List Value→List (Nat×Value)
 | _,[]=> []
 | i,v::vs=>(i,v)::Env.ofArgs (i+1) vs
theorem Env.get_ofArgs :∀{vs:List Value} {i d:Nat} {v:Value},Env.get (Env.ofArgs i vs) d=some v→i≤d∧vs[d-i]? =some v
 | [],i,d,v,h=>by cases h
 | u::vs,i,d,v,h=>by
  simp only [Env.ofArgs,Env.get] at h;by_cases hb:Nat.beq i d=true
  ·have e:i=d:=yNb hb;subst e;rw [hb,cond_true,yIj] at h;subst h;exact⟨yNr _,by simp⟩
  ·have hb':Nat.beq i d=false:=by cases h0:Nat.beq i d <;> simp_all
   rw [hb',cond_false] at h;obtain⟨h1,h2⟩:=Env.get_ofArgs h;refine⟨by omega,?_⟩;rw [←h2,show d-i=(d-(i+1))+1 by omega,List.getElem?_cons_succ]
theorem E.entry{P:Program}{f:FuncId}{c:Code}{w:World}{R:Ending→World→Prop}{n:Nat}(hf:P.funcs[f]? =some fn)(hb:fn.body=some c)(hn:fn.ntmps=n)(hv:Nat.ble vs.length n=true)(he:Env.ofArgs 0 vs=e)
  (h:E Fr.o P (bodyPost P fn R) n c e w):Calls P f vs.toArray w R:=by
 subst hn;subst he;have hv':vs.length≤fn.ntmps:=yNl hv;refine calls_of_wp hf hb ((wpIn_wide (n:=2)).1 (h _ ⟨by simp;omega,rfl,fun d v hg=>?_⟩));obtain⟨_,h2⟩:=Env.get_ofArgs hg;have hl:=(yGs.1 h2).1;rw [Nat.sub_zero] at h2 hl;rw [Array.getElem?_append_left (by simpa using hl)];simpa using h2
def Env.rv(a:Act):ResultVar→Sem Value
 | .tmp t=>pure (a.tmps.getD t undef)
 | .cell b t=>do loadVar t (←asAddr (a.tmps.getD b undef))
theorem Env.rv_run{Φ:Fr}{P:Program}{n:Nat}{a:Act}{w:World}(ha:Fits Φ n e a){t:Nat}{v:Value}(h:Env.get e t=some v):(Env.rv a (.tmp t)).run P w= .ok v w:=by
 simp [Env.rv,yAd,ha.has t v h]
section
variable{Φ:Fr}{P:Program}{Q:Exit→Act→World→Prop}{n:Nat}{e:List (Nat×Value)}{w:World}{s:Sig}{ops:Array Oper}{os:List Oper}{d:Nat}{ty:TypeId}{pos:String}{af:Array Edge}{g:Option (Nat×Bool)}
variable{α:Type}{r:Rep α}{t:Nat}{T T' U:TypeId}{a:Option Addr}{cap:Nat}{xs ys:List α}
theorem L.ca{f:FuncId}{xs:List Operand}{c:Call}{S:Nat→Prop}{Post:Value→Sig→Prop}(hcf:Cf P f)(hc:c.callee= .value (.func f))(hca:c.args=xs.toArray)(hw:Wt ops e g)(hx:Env.evs e xs=some vs)
  (hcall:Calls P f vs.toArray s.w (RetS S s Post)) (hd:Nat.blt d n=true) (h:∀v s',Mv S s s'→Post v s'→L Φ P Q n ops os ((d,v)::e) s'.w):L Φ P Q n ops (⟨some d,.call c,ty,pos,af,g⟩::os) e s.w:=
 L.op hw fun ac ha K hK=>by
  unfold Oper.wp;have h2:c.args.map ac.eval=vs.toArray:=by rw [hca,List.map_toArray,ha.evs hx]
  have hrun:(execOp ac.eval ⟨some d,.call c,ty,pos,af,g⟩).run P s.w= .ok (.enter f vs.toArray) s.w:=by
   simp [execOp,resolve,hc,h2,Deferred.ofValue,Act.eval,invoke,hcf _ _]
  rw [hrun,Oper.upon_enter];refine hcall.mono fun en w' hh=>?_;obtain⟨v,s',rfl,rfl,h3,h4⟩:=hh;exact hK _ _ _ (ha.put hd v) (h v s' h3 h4)
theorem L.ix{x i:Operand}{k:IntKind}{y:α}(hS:Sl P T U r.sz)(hR:RdL r s a cap xs)(hw:Wt ops e g)(hx:Env.ev e x=some (.slice a xs.length cap))(hi:Env.ev e i=some (.int k j))(hy:idx xs j=some y)(hd:Nat.blt d n=true)
  (h:∀b off c,Mem s 0 b off c→r.rd s c y→L Φ P Q n ops os ((d,.pointer (some ⟨b,off,none⟩))::e) s.w):L Φ P Q n ops (⟨some d,.indexAddr T x i,ty,pos,af,g⟩::os) e s.w:=by
 obtain⟨h0,hk,rfl⟩:=y5H hy;obtain⟨b,off,c,rfl,hm,hr⟩:=hR.at j.toNat hk;refine L.val hw hd (v:= .pointer (some ⟨b,off+j.toNat*r.sz,none⟩)) (fun ac ha=>?_) (h _ _ c hm hr);have hlt:j<xs.length:=by omega
 simp [execOp,Instr.indexAt,ha.ev hx,ha.ev hi,asIntOf,run_underlying hS.und,hS.sz,h0,hlt,Addr.add_lit]
theorem L.ir{x i:Operand}{k:IntKind}{y:α}(hS:Sl P T U r.sz)(hR:RowT r s t T' a cap xs)(hw:Wt ops e g)(hx:Env.ev e x=some (.slice a xs.length cap))(hi:Env.ev e i=some (.int k j))(hy:idx xs j=some y)(hd:Nat.blt d n=true)
  (h:∀b off c,Mem s t b off c→r.rd s c y→Spot a r.sz j.toNat b off→L Φ P Q n ops os ((d,.pointer (some ⟨b,off,none⟩))::e) s.w):L Φ P Q n ops (⟨some d,.indexAddr T x i,ty,pos,af,g⟩::os) e s.w:=by
 obtain⟨h0,hk,rfl⟩:=y5H hy;obtain⟨cs,h1,h2⟩:=hR;obtain⟨b,off,cap',e',hlt,_,htag⟩:=h1.addr (by omega);simp only [Value.slice.injEq,true_and] at e';obtain⟨rfl,rfl⟩:=e';have hx2:=h2.at j.toNat hk;have hl:=h1.1;have hm:=Nat.mul_le_mul_right r.sz (show j.toNat+1≤xs.length from hk);rw [Nat.succ_mul] at hm;refine L.val hw hd (v:= .pointer (some ⟨b,off+j.toNat*r.sz,none⟩)) (fun ac ha=>?_) (h _ _ _ ⟨fun _=>htag,fun j' hj=>?_⟩ hx2 ⟨off,rfl,rfl⟩)
 ·have hlt:j<xs.length:=by omega
  simp [execOp,Instr.indexAt,ha.ev hx,ha.ev hi,asIntOf,run_underlying hS.und,hS.sz,h0,hlt,Addr.add_lit]
 ·have hj':j'<r.sz:=by rw [r.len hx2] at hj;exact hj
  rw [Nat.add_assoc,h1.cellAt (j.toNat*r.sz+j') (by omega),List.getElem_take,List.getElem_drop,yGe]
theorem RdS.srcs{w:World}{sz:Nat}{a:Option Addr}{len cap:Nat}{cs:List Value}(h:RdS w sz a len cap cs):(a=none→len=0∧cap=0)∧∀ad,a=some ad→∀j u,cs[j]? =some u→w.cell? (ad.add j)=some u:=by
 refine⟨fun e=>?_,fun ad e j u hu=>?_⟩
 ·have:=h.hnil e;have:=h.hcap;omega
 ·obtain ⟨hj,rfl⟩:=yGs.1 hu;rw [←h.cell ad e j hj];have:=h.spot ad e;obtain⟨b,o,sp⟩:=ad;simp only at this;subst this;rw [Addr.add_lit]
theorem L.ap{x:Operand}{a2:Option Addr}{cap2:Nat}{zs:List α}(hU:P.underlying T=some (.slice U))(hE:El P U r.sz by_)(hby:Nat.ble by_ 32768=true)(ht:Nat.blt 0 t=true)(hR:RowT r s t U a cap xs)(hY:RdW r s a2 cap2 ys)
  (hw:Wt ops e g) (hx:Env.ev e x=some (.slice a xs.length cap)) (hy:Env.ev e y=some (.slice a2 ys.length cap2)) (hl:app xs ys=some zs) (hd:Nat.blt d n=true)
  (h:∀a' cap' s',Mv (One t) s s'→RowT r s' t U a' cap' zs→L Φ P Q n ops os ((d,.slice a' zs.length cap')::e) s'.w):
  L Φ P Q n ops (⟨some d,.call { callee:= .builtin .append,args:= #[x,y],argTypes:= #[T,T] },ty,pos,af,g⟩::os) e s.w:=by
 obtain⟨hl1,rfl⟩:=yi0 hl;clear hl;have hl:=hl1;obtain⟨cs,h1,h2⟩:=hR;obtain⟨ds,g1,g3⟩:=hY;obtain⟨i,z,k1,k2,k3,k4,k5⟩:=hE.is;have hby':by_≤32768:=yNl hby;have ht':0<t:=by simpa using ht
 have hbytes:(xs.length+ys.length)*by_≤140737488355328:=Nat.le_trans (Nat.mul_le_mul hl hby') (by decide);obtain⟨v',w',tag',hrun,hrow,hturn⟩:=y7x (P:=P) ty T U i z by_ hU k1 k4 k2 k3 k5 h1 a2 ys.length cap2 ds (by rw [g1.hlen]) g1.srcs.1 g1.srcs.2 g3.one (by unfold maxLen;omega) hbytes (yZl _);obtain⟨a',cap',rfl⟩:=hrow.val;have hm:Mv (One t) s ⟨w',tag'⟩:=hturn.mv;have hle:Le s ⟨w',tag'⟩:=hm.le (by show ¬0=t;omega);refine L.val hw hd (v:= .slice a' (xs.length+ys.length) cap') (w':=w') (fun ac ha=>?_) ?_
 ·simp [execOp,resolve,invoke,builtin,ha.ev hx,ha.ev hy,hrun]
 ·have:=h a' cap' ⟨w',tag'⟩ hm ⟨cs++ds,by rw [yLa];exact hrow,Cells.append (h2.mono hle) (g3.mono hle)⟩;rwa [yLa] at this
theorem Cells.rep{z:α}{c:List Value}(hz:r.rd s c z):∀k,Cells r s (List.replicate k c).flatten (List.replicate k z)
 | 0=>rfl
 | k+1=>⟨c,_,by rw [List.replicate_succ,List.flatten_cons],hz,Cells.rep hz k⟩
theorem yd8{c:Array Value}:∀(k:Nat),(madeCells c (k*c.size)).toList=(List.replicate k c.toList).flatten:=by
 intro k;apply List.ext_getElem?;intro i;by_cases hc:c.size=0
 ·have:c= #[]:=Array.eq_empty_of_size_eq_zero hc;subst this;simp [madeCells]
 have hf:(List.replicate k c.toList).flatten=(List.replicate k ()).flatMap (fun _=>c.toList):=by simp [List.flatMap,List.map_replicate]
 rw [hf];by_cases hi:i<k*c.size
 ·have e1:i=(i/c.size)*c.size+i % c.size:=by rw [Nat.mul_comm];exact(Nat.div_add_mod i c.size).symm
  have hm:i % c.size<c.size:=Nat.mod_lt _ (by omega);have hq:i/c.size<k:=(Nat.div_lt_iff_lt_mul (by omega)).2 hi;have h2:=y8n (fun _:Unit=>c.toList) c.size (fun _=>by simp) (List.replicate k ()) (i/c.size) (i % c.size) (by simpa using hq) hm;rw [←e1] at h2;rw [h2];simp [madeCells,hi,hm]
 ·rw [yGn (by simp [madeCells];omega),yGn (by rw [y9k _ c.size (fun _=>by simp)];simp;omega)]
theorem L.mk{x:Operand}{k:IntKind}{z:α}{zs:List α}(t:Nat)(hU:P.underlying T=some (.slice U))(hZ:Zr P r U by_ z)(hby:Nat.ble by_ 32768=true)
  (hw:Wt ops e g) (hx:Env.ev e x=some (.int k j)) (hy:Env.ev e y=some (.int k' j)) (hl:mkL j z=some zs) (hd:Nat.blt d n=true)
  (h:∀b s',Mv No s s'→RowT r s' t U (some ⟨b,0,none⟩) zs.length zs→L Φ P Q n ops os ((d,.slice (some ⟨b,0,none⟩) zs.length zs.length)::e) s'.w):
  L Φ P Q n ops (⟨some d,.makeSlice T x y,ty,pos,af,g⟩::os) e s.w:=by
 obtain⟨h0,h1,rfl⟩:=ybx hl;obtain⟨i,v,k1,k2,k3,k4,k5⟩:=hZ.is;have hby':by_≤32768:=yNl hby;obtain⟨m,rfl⟩:∃m:Nat,j=m:=⟨j.toNat,by omega⟩;have hm32:m≤4294967296:=by omega
 simp only [yTn] at h ⊢;have hbytes:i.bytes*m≤281474976710656:=by
  rw [k3];exact Nat.le_trans (Nat.mul_le_mul hby' hm32) (by decide)
 have hr:=run_make (P:=P) s.w T U i v hU k1 k4 k k' m m (by omega) (Int.le_refl _) (by rw [←Int.natCast_mul];omega) (by omega);simp only [yTn] at hr;have hvs:v.cells.size=r.sz:=by have:=r.len (k5 s);simpa using this
 refine L.val hw hd (v:= .slice (some ⟨s.w.heap.size,0,none⟩) m m) (w':=s.w.alloc (.cells (madeCells v.cells (m*i.size)) U)) (fun ac ha=>?_) ?_
 ·simp [execOp,ha.ev hx,ha.ev hy,hr]
 ·have hmv:Mv No s ⟨s.w.alloc (.cells (madeCells v.cells (m*i.size)) U),tagUp s.tag s.w.heap.size t⟩:=⟨rfl,rfl,rfl,by simp,fun b hb _=>⟨heap_alloc_old s.w _ hb,y5f hb⟩⟩;have hrow:=Bx.row (r:=r) (s:=⟨s.w.alloc (.cells (madeCells v.cells (m*i.size)) U),tagUp s.tag s.w.heap.size t⟩) (t:=t) (T:=U) (xs:=List.replicate m z) ⟨heap_alloc_new s.w _,y4R _ _ _⟩ (by
   rw [k2,←hvs,yd8];exact Cells.rep (k5 _) m) (by simp [maxLen];omega)
  have:=h _ _ hmv hrow;simpa using this
theorem y7o{l c:List β}{i:Nat}(h:i+c.length≤l.length)(j:Nat):(l.take i++c++l.drop (i+c.length))[j]? =if i≤j∧j<i+c.length then c[j-i]? else l[j]? :=by
 have hi:(l.take i).length=i:=by rw [yLt];omega
 by_cases h1:j<i
 ·rw [iN (by omega),yAa,yAl (by omega),List.getElem?_take,iP h1]
 ·by_cases h2:j<i+c.length
  ·rw [iP ⟨by omega,h2⟩,yAl (by rw [yLa];omega),yAr (by omega),hi]
  ·rw [iN (by omega),yAr (by rw [yLa];omega),yLa,hi,List.getElem?_drop];congr 1;omega
theorem yg3{l c:List β}{i:Nat}(h:i+c.length≤l.length):(l.take i++c++l.drop (i+c.length)).length=l.length:=by
 simp only [yLa,yLt,List.length_drop];omega
theorem L.sr{x:Operand}{b o fo k:Nat}{v:Value}{c:List Value}{z:α}(hR:RowT r s t T' a cap xs)(hsp:Spot a r.sz k b o)(hk:k<xs.length)(ht:Nat.blt 0 t=true)(hT:∀w,(sizeOf T).run P w= .ok m w)
  (hw:Wt ops e g) (hx:Env.ev e x=some (.pointer (some ⟨b,o+fo,none⟩))) (hy:Env.ev e y=some v) (hc:v.cells.toList=c) (hm:c.length=m) (hfo:Nat.ble (fo+m) r.sz=true) (h1:∀u∈c,u.oneCell'=true)
  (hz:∀c0,r.rd s c0 xs[k]→r.rd s (c0.take fo++c++c0.drop (fo+c.length)) z)
  (h:∀s',Mv (One t) s s'→RowT r s' t T' a cap (xs.set k z)→L Φ P Q n ops os e s'.w):L Φ P Q n ops (⟨none,.store T x y,ty,pos,af,g⟩::os) e s.w:=by
 subst hc;obtain⟨cs,h2,h3⟩:=hR;obtain⟨o',rfl,rfl⟩:=hsp.is;have ht':0<t:=by simpa using ht
 have hfo':fo+m≤r.sz:=yNl hfo;rcases h2.2 with ⟨e',_⟩|⟨b',off',cap',cur,e',ho,q1,q2,q3,q4⟩
 ·simp at e'
 simp only [Value.slice.injEq,yIj,Addr.mk.injEq,and_true,true_and] at e';obtain⟨⟨rfl,rfl⟩,rfl⟩:=e';have hkm:=Nat.mul_le_mul_right r.sz (show k+1≤xs.length from hk);rw [Nat.succ_mul] at hkm;have hcm:=Nat.mul_le_mul_right r.sz q1;have hst:=run_storeCells_at P b (o'+k*r.sz+fo) T' v.cells.toList 0 cur s.w ho.heap (by omega) h1;simp only [Nat.add_zero] at hst;refine L.unit hw (w':=s.w.setRow b (cur.toList.take (o'+k*r.sz+fo)++v.cells.toList++cur.toList.drop (o'+k*r.sz+fo+v.cells.toList.length)).toArray) (fun ac ha=>?_) ?_
 ·have hsz:v.cells.size=m:=by simpa using hm
  simp [execOp,Instr.storeAt,Instr.sureAddr,storeVar,ha.ev hx,ha.ev hy,hT,hsz];have hst':=hst;simp only [Array.length_toList,hsz] at hst';rw [hst'];simp
 ·have hmv:Mv (One t) s ⟨s.w.setRow b (cur.toList.take (o'+k*r.sz+fo)++v.cells.toList++cur.toList.drop (o'+k*r.sz+fo+v.cells.toList.length)).toArray,s.tag⟩:=
   ⟨rfl,rfl,rfl,by simp,fun b' hb hn=>⟨setRow_other _ _ _ _ (by rintro rfl;exact hn ho.htag),rfl⟩⟩
  refine h _ hmv ?_;have hle:=hmv.le (show ¬One t 0 from fun e=>by rw [←e] at ht';exact absurd ht' (Nat.lt_irrefl _));have hset:=Cells.set h3 k (hz _ (h3.at k hk)) hk;refine⟨_,⟨?_,.inr ⟨b,o',cap,_,rfl,⟨setRow_heap _ _ _ _ _ _ ho.heap,ho.htag,ho.base⟩,by simpa using q1,q2,?_,?_⟩⟩,hset.mono hle⟩
  ·rw [hset.len,List.length_set]
  ·simp only [List.size_toArray,yLa,yLt,List.length_drop,Array.length_toList] at hm ⊢;omega
  ·have hcs:cs.length=xs.length*r.sz:=h2.1;have hc0:((cs.drop (k*r.sz)).take r.sz).length=r.sz:=by rw [yLt,List.length_drop];omega
   have hmid:=yg3 (l:=(cs.drop (k*r.sz)).take r.sz) (c:=v.cells.toList) (i:=fo) (by omega);have hcl:cur.toList.length=cur.size:=Array.length_toList;apply List.ext_getElem?;intro j;rw [y7o (by rw [hmid,hc0];omega)];simp only [List.getElem?_take,List.getElem?_drop];rw [y7o (by omega)];have hcur:∀i,i<xs.length*r.sz→cs[i]? =cur.toList[o'+i]? :=fun i hi=>by rw [←q4,List.getElem?_take,iP hi,List.getElem?_drop]
   rw [List.length_set];by_cases hj:j<xs.length*r.sz
   ·rw [iP hj];by_cases hj2:k*r.sz≤j∧j<k*r.sz+r.sz
    ·rw [hmid,hc0,iP hj2,y7o (by omega)];by_cases hj3:fo≤j-k*r.sz∧j-k*r.sz<fo+v.cells.toList.length
     ·rw [iP (by omega),iP hj3];congr 1;omega
     ·rw [iN (by omega),iN hj3,List.getElem?_take,iP (by omega),List.getElem?_drop,hcur _ (by omega)];congr 1;omega
    ·rw [hmid,hc0,iN hj2,iN (by omega),hcur _ hj]
   ·rw [iN hj,hmid,hc0,iN (by omega),yGn (by omega)]
end
def puts :Act→List Nat→List Value→Act
 | a,d::ds,u::us=>puts (a.put (some d) u) ds us
 | a,_,_=>a
theorem yd9(a:Act):∀ds:List Nat,puts a ds (ds.map fun d=>a.tmps.getD d undef)=a
 | []=>rfl
 | d::ds=>by
  rw [List.map_cons,puts];have:a.put (some d) (a.tmps.getD d undef)=a:=by
   unfold Act.put;dsimp only;rcases Nat.lt_or_ge d a.tmps.size with h|h
   ·have:a.tmps.setIfInBounds d (a.tmps.getD d undef)=a.tmps:=by
     rw [yAd,Array.getElem?_eq_getElem h];simp [Array.setIfInBounds,h]
    rw [this]
   ·have:a.tmps.setIfInBounds d (a.tmps.getD d undef)=a.tmps:=by
     simp [Array.setIfInBounds,Nat.not_lt.2 h]
    rw [this]
  rw [this];exact yd9 a ds
def ydZ(ops:Array Oper):Bool:=(List.range ops.size).all fun j=>((ops[j]?).map fun o=>o.after.all fun e=>decide (e.on<j)).getD true
theorem y8w :∀{l:List Bool} {i:Nat},i<l.length→l.getD i true=false→(l.set i true).count false+1=l.count false
 | [],_,h,_=>by simp at h
 | a::l,0,_,h=>by simp at h;subst h;simp
 | a::l,i+1,h,h2=>by
  rw [List.set_cons_succ,List.count_cons,List.count_cons];have:=y8w (l:=l) (i:=i) (by simpa using h) (by simpa using h2);omega
section
variable{P:Program}{ops:Array Oper}{Q:Exit→Act→World→Prop}{md:Region.Mode}
theorem yaE(hB:ydZ ops=true){listed:Array Bool}(hr:Region.ready md ops listed= []):∀j,j<ops.size→listed.getD j true=true:=by
 intro j
 induction j using Nat.strongRecOn with
 | _ j ih=>
  intro hj;by_cases h:listed.getD j true=true
  ·exact h
  ·exfalso;have hf:listed.getD j true=false:=by simpa using h
   have:j∈Region.ready md ops listed:=by
    refine mem_ready.2 ⟨hf,ops[j],Array.getElem?_eq_getElem hj,fun e he _=>?_⟩;have h1:=yAt.1 hB j (List.mem_range.2 hj);rw [Array.getElem?_eq_getElem hj] at h1;simp only [Option.map_some,Option.getD_some] at h1;have h2:=Array.all_eq_true_iff_forall_mem.1 h1 e he;simp only [decide_eq_true_eq] at h2;have h3:=ih e.on h2 (by omega);have hlt:e.on<listed.size:=by
     have hjs:j<listed.size:=by
      rcases Nat.lt_or_ge j listed.size with h'|h'
      ·exact h'
      ·rw [yAd,Array.getElem?_eq_none h'] at hf;cases hf
     omega
    rw [yAd,Array.getElem?_eq_getElem hlt] at h3 ⊢;exact h3
   rw [hr] at this;cases this
theorem ygy{I:Array Bool→Act→World→Prop}(hB:ydZ ops=true)
  (hstep:∀i listed a w,I listed a w→i∈Region.ready md ops listed→wpOp P ops Q i (I (listed.setIfInBounds i true)) a w)
  (hend:∀listed a w,I listed a w→(∀j,j<ops.size→listed.getD j true=true)→Q .normal a w):
  ∀(fuel:Nat) (listed:Array Bool) (a:Act) (w:World),listed.toList.count false≤fuel→I listed a w→wpAny P md ops Q fuel listed a w:=by
 intro fuel
 induction fuel with
 | zero=>
  intro listed a w hc hI;have hr:Region.ready md ops listed= []:=by
   rw [List.eq_nil_iff_forall_not_mem];intro i hi;have h1:=(mem_ready.1 hi).1;have h2:false∈listed.toList:=by
    rcases Nat.lt_or_ge i listed.size with h'|h'
    ·rw [yAd,Array.getElem?_eq_getElem h'] at h1;simp only [Option.getD_some] at h1;rw [←h1,←Array.getElem_toList];exact yGm _
    ·rw [yAd,Array.getElem?_eq_none h'] at h1;cases h1
   have:=List.count_pos_iff.2 h2;omega
  exact⟨hr,hend _ _ _ hI (yaE hB hr)⟩
 | succ fuel ih=>
  intro listed a w hc hI;refine⟨fun hr=>hend _ _ _ hI (yaE hB hr),fun i hi=>wpOp_mono (fun a' w' h=>ih _ a' w' ?_ h) (hstep i listed a w hI hi)⟩;have h1:=(mem_ready.1 hi).1;have hlt:i<listed.toList.length:=by
   rcases Nat.lt_or_ge i listed.size with h'|h'
   ·simpa using h'
   ·rw [yAd,Array.getElem?_eq_none h'] at h1;cases h1
  have h2:=y8w hlt (by rw [yGd,Array.getElem?_toList,←yAd];exact h1);rw [Array.toList_setIfInBounds];omega
structure StepG (P:Program) (ops:Array Oper) (Q:Exit→Act→World→Prop) (o:Oper) (a:Act) (w:World) (K':Act→World→Prop):Prop where
 out:if Region.wanted o (yielded ops a.tmps)=true then Oper.wp P o a w K' Q else K' (a.put o.dst undef) w
def Steps(P:Program)(ops:Array Oper)(Q:Exit→Act→World→Prop)(md:Region.Mode)(I:Array Bool→List Value→World→Prop)(a:Act)(ds:List Nat)(k:Nat):Prop:=
 ∀i,k≤i→i<ops.size→∀(listed:Array Bool) (us:List Value) (w:World),listed.size=ops.size→I listed us w→i∈Region.ready md ops listed→
  wpOp P ops Q i (fun a' w'=>∃us',puts a ds us'=a'∧I (listed.setIfInBounds i true) us' w') (puts a ds us) w
theorem Steps.nil{I:Array Bool→List Value→World→Prop}{a:Act}{ds:List Nat}{k:Nat}(h:ops.size≤k):Steps P ops Q md I a ds k:=fun i h1 h2=>by omega
theorem Steps.cons{I:Array Bool→List Value→World→Prop}{a:Act}{ds:List Nat}{k:Nat}{o:Oper}(ho:ops[k]? =some o)
  (h:∀(listed:Array Bool) (us:List Value) (w:World),(∀j,j<ops.size→(listed.setIfInBounds k true).getD j false=(j==k||listed.getD j false))→I listed us w→(o.after.all fun e=>!Region.binds md e||listed.getD e.on false)=true→
   listed.getD k false=false→∀K':Act→World→Prop,(∀us' a' w',puts a ds us'=a'→I (listed.setIfInBounds k true) us' w'→K' a' w')→
   StepG P ops Q o (puts a ds us) w K')
  (hs:Steps P ops Q md I a ds (k+1)):Steps P ops Q md I a ds k:=fun i hki hi listed us w hsz hI hr=>by
 by_cases e:i=k
 ·subst e;refine wpOp_step ho fun K' hK=>(h listed us w (fun j hj=>?_) hI ?_ ?_ K' (fun us' a' w' e h=>hK a' w' ⟨us',e,h⟩)).out
  ·rw [yAd,yAd,Array.getElem?_setIfInBounds];by_cases hij:i=j
   ·subst hij;simp [hsz,hi]
   ·have:(j==i)=false:=by simp;omega
    rw [iN hij,this,Bool.false_or]
  ·obtain ⟨h1,o',h2,h3⟩:=mem_ready.1 hr;rw [ho] at h2;cases h2;rw [Array.all_eq_true_iff_forall_mem];intro e he;by_cases hb:Region.binds md e=true
   ·rw [h3 e he hb];simp
   ·simp [hb]
  ·have h1:=(mem_ready.1 hr).1;rw [yAd,Array.getElem?_eq_getElem (by omega)] at h1 ⊢;exact h1
 ·exact hs i (by omega) hi listed us w hsz hI hr
theorem ydT{id:Nat}{a:Act}{w:World}(I:Array Bool→List Value→World→Prop)(ds:List Nat)(hm:P.follows .mixedOrders=true)(hB:ydZ ops=true)
  (hI:I (Array.replicate ops.size false) (ds.map fun d=>a.tmps.getD d undef) w.drew)
  (hs:Steps P ops Q .any I a ds 0)
  (hend:∀listed us w,I listed us w→(∀j,j<ops.size→listed.getD j false=true)→Q .normal (puts a ds us) w):(Code.region id ops true).wp P Q a w:=by
 refine wp_region_any hm ?_;refine ygy (I:=fun listed a' w'=>listed.size=ops.size∧∃us,puts a ds us=a'∧I listed us w') hB ?_ ?_ _ _ _ _ (by simp) ⟨by simp,_,yd9 a ds,hI⟩
 ·rintro i listed a' w' ⟨hsz,us,rfl,hI⟩ hr;have hi:i<ops.size:=by
   obtain⟨_,o,ho,_⟩:=mem_ready.1 hr;exact(yAs.1 ho).1
  exact wpOp_mono (fun a w h=>⟨by simp [hsz],h⟩) (hs i (yZl _) hi listed us w' hsz hI hr)
 ·rintro listed a' w' ⟨hsz,us,rfl,hI⟩ hall;refine hend listed us w' hI (fun j hj=>?_);have:=hall j hj;rw [yAd,Array.getElem?_eq_getElem (by omega)] at this ⊢;exact this
end
theorem up_ne{l:Array Bool}{k n:Nat}(hl:∀j,j<n→(l.setIfInBounds k true).getD j false=(j==k||l.getD j false))(j:Nat)(hj:j<n)(hne:(j==k)=false):(l.setIfInBounds k true).getD j false=l.getD j false:=by
 rw [hl j hj,hne,Bool.false_or]
structure Box4 (w:World) (tag:Nat→Nat) (b:Nat) (c0 c1 c2 c3:Value):Prop where
 htag:tag b=0
 lt:b<w.heap.size
 x0:w.cell? ⟨b,0,none⟩=some c0
 x1:w.cell? ⟨b,1,none⟩=some c1
 x2:w.cell? ⟨b,2,none⟩=some c2
 x3:w.cell? ⟨b,3,none⟩=some c3
theorem Turn.cell{w w':World}{B:Nat}{tag tag':Nat→Nat}{k b:Nat}(ht:Turn B tag tag' k w w')(hb:b<w.heap.size)(hne:tag b≠k)(o:Nat):w'.cell? ⟨b,o,none⟩=w.cell? ⟨b,o,none⟩:=by
 simp only [World.cell?];rw [ht.heap b hb (.inr hne)]
theorem Box4.turn{w w':World}{B:Nat}{k b:Nat}{c0 c1 c2 c3:Value}(h:Box4 w tag b c0 c1 c2 c3)(ht:Turn B tag tag' k w w')(hk:0≠k):Box4 w' tag' b c0 c1 c2 c3:=
 have hne:tag b≠k:=by rw [h.htag];exact hk
 ⟨(ht.tags b h.lt).trans h.htag,Nat.lt_of_lt_of_le h.lt ht.size,(ht.cell h.lt hne _).trans h.x0,(ht.cell h.lt hne _).trans h.x1,(ht.cell h.lt hne _).trans h.x2,(ht.cell h.lt hne _).trans h.x3⟩
def y8o(tag:Nat→Nat)(s k:Nat):Nat→Nat:=fun b=>if b<s then tag b else k
theorem Turn.call{w w':World}{B:Nat}{k:Nat}(hb:Below w.heap.size w w'):Turn B tag (y8o tag w.heap.size k) k w w':=
 ⟨hb.os,hb.tape,hb.output,hb.size,fun _b h=>iP h,fun b h _=>hb.block b h,fun b _o ho _=>(hb.block b (yAs.1 ho).1).trans ho⟩
theorem Turn.alloc{w:World}{B:Nat}{k:Nat}(o:Obj):Turn B tag (tagUp tag w.heap.size k) k w (w.alloc o):=
 ⟨rfl,rfl,rfl,by simp,fun b h=>y5f h,fun b h _=>heap_alloc_old w o h,fun b o' ho _=>(heap_alloc_old w o (yAs.1 ho).1).trans ho⟩
theorem Row.of_call{w w':World}{B:Nat}{k:Nat}{t:TypeId}{sz:Nat}{v:Value}{n:Nat}{cs:List Value}(h:w'.ownsRow w.heap.size t sz v n cs)(hB:B≤w.heap.size):Row w' B (y8o tag w.heap.size k) k t sz v n cs:=
 Row.of_own h hB (fun b h1 _=>iN (by omega))
def yc7(ops:Array Oper):Bool:=(List.range ops.size).all fun j=>((ops[j]?).map fun o=>o.after.all fun e=>!Region.binds .any e||decide (e.on<j)).getD true
section
variable{P:Program}{ops:Array Oper}{Q:Exit→Act→World→Prop}
theorem yar(hB:yc7 ops=true){listed:Array Bool}(hr:Region.ready .any ops listed= []):∀j,j<ops.size→listed.getD j true=true:=by
 intro j
 induction j using Nat.strongRecOn with
 | _ j ih=>
  intro hj;by_cases h:listed.getD j true=true
  ·exact h
  ·exfalso;have hf:listed.getD j true=false:=by simpa using h
   have:j∈Region.ready .any ops listed:=by
    refine mem_ready.2 ⟨hf,ops[j],Array.getElem?_eq_getElem hj,fun e he hbd=>?_⟩;have h1:=yAt.1 hB j (List.mem_range.2 hj);rw [Array.getElem?_eq_getElem hj] at h1;simp only [Option.map_some,Option.getD_some] at h1;have h2:=Array.all_eq_true_iff_forall_mem.1 h1 e he;simp only [hbd,Bool.not_true,Bool.false_or,decide_eq_true_eq] at h2;have h3:=ih e.on h2 (by omega);have hlt:e.on<listed.size:=by
     have hjs:j<listed.size:=by
      rcases Nat.lt_or_ge j listed.size with h'|h'
      ·exact h'
      ·rw [yAd,Array.getElem?_eq_none h'] at hf;cases hf
     omega
    rw [yAd,Array.getElem?_eq_getElem hlt] at h3 ⊢;exact h3
   rw [hr] at this;cases this
end
theorem ifS{c:Bool}{x y:Option β}{r:β}(h:(if c=true then x else y)=some r):(c=true∧x=some r)∨(c=false∧y=some r):=by
 cases c
 ·exact .inr ⟨rfl,h⟩
 ·exact .inl ⟨rfl,h⟩
abbrev Up(N:Nat)(S:Nat→Prop):Nat→Prop:=fun t=>N≤t∨S t
theorem up{i:Nat}{S:Nat→Prop}:Up N S (N+i):= .inl (Nat.le_add_right _ _)
section
variable{Φ:Fr}{P:Program}{Q:Exit→Act→World→Prop}{n:Nat}{e e':List (Nat×Value)}{w:World}
theorem Iter.ind{S O:Type}{f:S→Option (S⊕O)}{o:O}{motive:S→Prop}
  (h:∀st res,f st=some res→(∀st',res= .inl st'→motive st')→(∀o',res= .inr o'→o'=o)→motive st):∀{st},Iter f st o→motive st:=by
 intro st hi
 induction hi with
 | next h1 _ ih=>exact h _ _ h1 (fun st' e=>by cases e;exact ih (fun st res a b c=>h st res a b c)) (fun o' e=>by cases e)
 | out h1=>exact h _ _ h1 (fun st' e=>by cases e) (fun o' e=>by cases e;rfl)
theorem E.iter{S O:Type}{f:S→Option (S⊕O)}{o:O}{st0:S}{c:Code}(I:S→List (Nat×Value)→World→Prop)(hi:iter f st0=some o)(h0:I st0 e' w)(hs:Sub e' e)
  (round:∀st res,f st=some res→(∀st',res= .inl st'→∀e w,I st' e w→X Φ (Exit.then (LW Φ P Q c) Q) n .normal e w)→(∀o',res= .inr o'→o'=o)→∀e w,I st e w→E Φ P (Exit.then (LW Φ P Q c) Q) n c e w):E Φ P Q n (.loop c) e w:=by
 refine E.loop (H.sub hs ?_);exact Iter.ind (motive:=fun st=>∀e w,I st e w→H Φ P Q n c e w) (fun st res h1 h2 h3 e w hI=>H.round (round st res h1 (fun st' e' e w hI=>X.again (h2 st' e' e w hI)) h3 e w hI)) (ygw hi) _ _ h0
end
inductive Rs (P:Program) (e:List (Nat×Value)) (s:Sig):List ResultVar→List Value→Prop
 | nil:Rs P e s [] []
 | tmp {t:Nat} {v:Value} {rs:List ResultVar} {vs:List Value}:Env.get e t=some v→Rs P e s rs vs→Rs P e s (.tmp t::rs) (v::vs)
 | cell {a b t m:Nat} {cs:Array Value} {T T':TypeId} {rs:List ResultVar} {vs:List Value}:Env.get e a=some (.pointer (some ⟨b,0,none⟩))→Bx s t b cs T'→Ag P T m→cs.size=m→Rs P e s rs vs→Rs P e s (.cell a T::rs) (.agg cs::vs)
 | one {a b t:Nat} {v:Value} {T T':TypeId} {rs:List ResultVar} {vs:List Value}:Env.get e a=some (.pointer (some ⟨b,0,none⟩))→Bx s t b #[v] T'→NAg P T→Rs P e s rs vs→Rs P e s (.cell a T::rs) (v::vs)
theorem Rs.run{Φ:Fr}{P:Program}{n:Nat}{s:Sig}{a:Act}(ha:Fits Φ n e a):∀{rs:List ResultVar} {vs:List Value},Rs P e s rs vs→(rs.mapM (Env.rv a)).run P s.w= .ok vs s.w:=by
 intro rs vs h
 induction h with
 | nil=>rfl
 | tmp h1 _ ih=>simp [List.mapM_cons,Env.rv_run ha h1,ih]
 | @cell a0 b t m cs T T' rs vs h1 h2 h3 h4 _ ih=>
  have hl:(loadCells ⟨b,0,none⟩ cs.toList.length).run P s.w= .ok cs.toList.toArray s.w:=by
   refine run_loadCells_list (P:=P) s.w ⟨b,0,none⟩ _ fun i v hv=>?_;rw [Addr.add_lit];have:=h2.mem.cell i (yGs.1 hv).1;rw [this,(yGs.1 hv).2]
  simp only [Array.length_toList,Array.toArray_toList,h4] at hl;have:(Env.rv a (.cell a0 T)).run P s.w= .ok (.agg cs) s.w:=by
   simp [Env.rv,yAd,ha.has _ _ h1,asAddr,loadVar,h3.agg,h3.sz,hl]
  simp [List.mapM_cons,this,ih]
 | @one a0 b t v T T' rs vs h1 h2 h3 _ ih=>
  have hl:=h2.mem.cell 0 (by simp);have:(Env.rv a (.cell a0 T)).run P s.w= .ok v s.w:=by
   simp [Env.rv,yAd,ha.has _ _ h1,asAddr,loadVar,h3.agg,load,Sem.run] at hl ⊢;simp [hl]
  simp [List.mapM_cons,this,ih]
theorem X.rt{P:Program}{R:Ending→World→Prop}{n:Nat}{s:Sig}{rs:List ResultVar}{v:Value}{x:Exit}(hx:x= .ret∨x= .normal)(hr:fn.results=rs.toArray)(hv:Rs P e s rs vs)
  (hv2:(if h:vs.toArray.size=1 then vs.toArray[0] else .tuple vs.toArray)=v) (h:R (.returned v) s.w):X Fr.o (bodyPost P fn R) n x e s.w:=fun a ha=>by
 have h1:(results fn a.tmps).run P s.w= .ok v s.w:=by
  have h2:=hv.run (P:=P) ha;have h3:results fn a.tmps=(do
   let vs ←rs.toArray.mapM (Env.rv a)
   pure (if h:vs.size=1 then vs[0] else .tuple vs)):=by
   unfold results;rw [hr];rfl
  rw [h3,List.mapM_toArray];simp [h2];exact hv2
 rcases hx with rfl|rfl
 ·exact ⟨ha.defers,v,h1,h⟩
 ·exact ⟨ha.defers,v,h1,h⟩
theorem orT{c t:Bool}(h:c=true):true=(c||t):=by subst h;rfl
theorem orF{c t:Bool}(h:c=false):t=(c||t):=by subst h;rfl
theorem andT{c t:Bool}(h:c=true):t=(c&&t):=by subst h;rfl
theorem andF{c t:Bool}(h:c=false):false=(c&&t):=by subst h;rfl
abbrev W(x:Int):Int:=IntKind.i64.wrap x
section
variable{Φ:Fr}{P:Program}{Q:Exit→Act→World→Prop}{n:Nat}{e:List (Nat×Value)}{w:World}{s:Sig}{ops:Array Oper}{os:List Oper}{d:Nat}{ty:TypeId}{pos:String}{af:Array Edge}{g:Option (Nat×Bool)}
variable{α:Type}{r:Rep α}{t:Nat}{T T' U:TypeId}{a:Option Addr}{cap:Nat}{xs ys:List α}
theorem L.skipU{d:Nat}{op:Op}{ty:TypeId}{pos:String}{af:Array Edge}{j s:Nat}{b:Bool}(h1:(ops[j]?).bind (·.dst)=some s)(h2:Env.get e s=some undef)(hd:Nat.blt d n=true)
  (h:L Φ P Q n ops os ((d,undef)::e) w):L Φ P Q n ops (⟨some d,op,ty,pos,af,some (j,b)⟩::os) e w:=fun is his a ha=>by
 cases is with
 | nil=>cases his
 | cons i rest=>
  simp only [List.map_cons,List.cons.injEq] at his;obtain⟨g1,g2⟩:=his;simp only [wpOpsIn,g1];rw [iN (by unfold Region.wanted;simp [yielded,h1,ha.has s _ h2,undef])];exact⟨fun _ _=>trivial,h rest g2 _ (ha.put hd undef)⟩
theorem Sl.elem(h:Sl P T U m):P.elem T=U:=by simp [Program.elem,h.und]
theorem RdL.part(h:RdL r s a cap xs){lo hi:Nat}(h1:lo≤hi)(h2:hi≤xs.length):RdL r s (if cap=lo then a else a.map (·.add (lo*r.sz))) (cap-lo) ((xs.take hi).drop lo):=by
 obtain⟨cs,g1,g2,g3⟩:=h;have hl:((xs.take hi).drop lo).length=hi-lo:=by rw [List.length_drop,yLt,Nat.min_eq_left h2]
 have e1:xs=xs.take hi++xs.drop hi:=(List.take_append_drop hi xs).symm;rw [e1] at g3;obtain⟨k1,_⟩:=g3.split;have e2:xs.take hi=(xs.take hi).take lo++(xs.take hi).drop lo:=(List.take_append_drop lo _).symm;rw [e2] at k1;obtain⟨_,k2⟩:=k1.split;rw [yLt,yLt,Nat.min_eq_left h2,Nat.min_eq_left h1] at k2;rw [←e2,yLt,Nat.min_eq_left h2] at k2;have hlen:=k2.len;have hcs:=g1.hlen;have m1:=Nat.mul_le_mul_right r.sz h1;have m2:=Nat.mul_le_mul_right r.sz h2;have hcap:=g1.hcap;refine⟨_,⟨hlen,by rw [hl];omega,Nat.le_trans (Nat.sub_le _ _) g1.hmax,fun e=>?_,fun ad e=>?_,fun ad e j hj=>?_⟩,fun ad e h0=>?_,k2⟩
 ·split at e
  ·omega
  ·cases a with
   | none=>have:=g1.hnil rfl;omega
   | some ad=>cases e
 ·split at e
  ·exact g1.spot ad e
  ·cases a with
   | none=>cases e
   | some ad0=> 
    simp only [Option.map_some,yIj] at e;obtain⟨b,o,sp⟩:=ad0;have:=g1.spot _ rfl;simp only at this;subst this;rw [Addr.add_lit] at e;subst e;rfl
 ·have hj':j<(hi-lo)*r.sz:=by rw [hlen,hl] at hj;exact hj
  have hne:¬cap=lo:=by
   intro hc;have:hi-lo=0:=by omega
   rw [this] at hj';omega
  rw [iN hne] at e;cases a with
  | none=>cases e
  | some ad0=>
   simp only [Option.map_some,yIj] at e;obtain⟨b,o,sp⟩:=ad0;have:=g1.spot _ rfl;simp only at this;subst this;rw [Addr.add_lit] at e;subst e;have hlt:lo*r.sz+j<cs.length:=by rw [Nat.sub_mul] at hj';omega
   have:=g1.cell _ rfl (lo*r.sz+j) hlt;simp only at this ⊢;rw [Nat.add_assoc,this];simp
 ·have hj':0<(hi-lo)*r.sz:=by rw [hlen,hl] at h0;exact h0
  have hne:¬cap=lo:=by
   intro hc;have:hi-lo=0:=by omega
   rw [this] at hj';omega
  rw [iN hne] at e;cases a with
  | none=>cases e
  | some ad0=>
   simp only [Option.map_some,yIj] at e;obtain⟨b,o,sp⟩:=ad0;have:=g1.spot _ rfl;simp only at this;subst this;rw [Addr.add_lit] at e;subst e;refine g2 ⟨b,o,none⟩ rfl ?_;rw [Nat.sub_mul] at hj';omega
theorem L.sf{x lo:Operand}{k:IntKind}{i:Int}{zs:List α}(hS:Sl P T U r.sz)(hR:RdL r s a cap xs)(hw:Wt ops e g)(hx:Env.ev e x=some (.slice a xs.length cap))(hi1:Env.ev e lo=some (.int k i))(hz:slc xs i xs.length=some zs)(hd:Nat.blt d n=true)
  (h:∀a' cap',RdL r s a' cap' zs→L Φ P Q n ops os ((d,.slice a' zs.length cap')::e) s.w):L Φ P Q n ops (⟨some d,.slice T x (some lo) none none,ty,pos,af,g⟩::os) e s.w:=by
 obtain⟨h0,h1,h2,rfl⟩:=y9X hz;have hl:((xs.take (xs.length:Int).toNat).drop i.toNat).length=xs.length-i.toNat:=by rw [List.length_drop,yLt];omega
 have hp:=hR.part (lo:=i.toNat) (hi:=(xs.length:Int).toNat) (by omega) (by omega);refine L.val hw hd (fun ac ha=>?_) (h _ _ hp);have hr:=run_slice_l (P:=P) s.w T a xs.length cap (by rw [hS.elem];exact hS.und) k i h0 (by omega);rw [hS.elem] at hr;simp only [execOp,ha.ev hx,ha.ev hi1,Option.map_some,Option.map_none,Sem.run_bind,run_sliceAt_slice (P:=P) s.w T _ _ _ _ (by rw [hS.elem];exact hS.und),hr,hS.sz,Result.andThen_ok,sliced,Sem.run_pure,hl]
end
def AllT(D:Nat→Bool):List Nat→Prop
 | []=>True
 | j::js=>D j=true∧AllT D js
def upD(D:Nat→Bool)(k:Nat):Nat→Bool:=fun j=>Nat.beq j k||D j
theorem yby{k j:Nat}(h:D j=true):upD D k j=true:=by simp [upD,h]
theorem AllT.mem:∀{l:List Nat},AllT D l→∀j,j∈l→D j=true
 | _::_,h,_,.head _=>h.1
 | _::_,h,j,.tail _ hj=>AllT.mem h.2 j hj
theorem AllT.of:∀{l:List Nat},(∀j,j∈l→D j=true)→AllT D l
 | [],_=>trivial
 | _::_,h=>⟨h _ (.head _),AllT.of fun j hj=>h j (.tail _ hj)⟩
def chkA(ops:Array Oper)(A:List (List Nat)):Bool:=
 (List.range ops.size).all fun k=>match ops[k]? with
  | none=>true
  | some o=>
   let dir:=(o.after.toList.filter (Region.binds .any ·)).map (·.on)
   (A.getD k []).all fun x=>dir.contains x||dir.any fun d=>(A.getD d []).contains x
structure DI (A:List (List Nat)) (m:Nat) (I:(Nat→Bool)→List (Nat×Value)→Sig→Prop) (D:Nat→Bool) (e:List (Nat×Value)) (s:Sig):Prop where
 clo:∀j,j<m→D j=true→AllT D (A.getD j [])
 i:I D e s
def DQ(Q:Exit→Act→World→Prop)(J:Act→World→Prop):Exit→Act→World→Prop
 | .normal,a,w=>J a w
 | x,a,w=>Q x a w
def DJ(Φ:Fr)(n:Nat)(I:(Nat→Bool)→List (Nat×Value)→Sig→Prop)(D:Nat→Bool):Act→World→Prop:=fun a w=>∃e s,Fits Φ n e a∧w=s.w∧I D e s
section
variable{Φ:Fr}{P:Program}{Q:Exit→Act→World→Prop}{n:Nat}{e:List (Nat×Value)}{s:Sig}{ops:Array Oper}
theorem ye0{I:Array Bool→Act→World→Prop}(hB:yc7 ops=true)
  (hstep:∀i listed a w,I listed a w→i∈Region.ready .any ops listed→wpOpIn Φ.f 2 P ops Q i (I (listed.setIfInBounds i true)) a w)
  (hend:∀listed a w,I listed a w→(∀j,j<ops.size→listed.getD j true=true)→Q .normal a w):
  ∀(fuel:Nat) (listed:Array Bool) (a:Act) (w:World),listed.toList.count false≤fuel→I listed a w→wpAnyIn Φ.f 2 P .any ops Q fuel listed a w:=by
 intro fuel
 induction fuel with
 | zero=>
  intro listed a w hc hI;have hr:Region.ready .any ops listed= []:=by
   rw [List.eq_nil_iff_forall_not_mem];intro i hi;have h1:=(mem_ready.1 hi).1;have h2:false∈listed.toList:=by
    rcases Nat.lt_or_ge i listed.size with h'|h'
    ·rw [yAd,Array.getElem?_eq_getElem h'] at h1;simp only [Option.getD_some] at h1;rw [←h1,←Array.getElem_toList];exact yGm _
    ·rw [yAd,Array.getElem?_eq_none h'] at h1;cases h1
   have:=List.count_pos_iff.2 h2;omega
  exact⟨hr,hend _ _ _ hI (yar hB hr)⟩
 | succ fuel ih=>
  intro listed a w hc hI;refine⟨fun hr=>hend _ _ _ hI (yar hB hr),fun i hi=>wpOpIn_mono (fun a' w' h=>ih _ a' w' ?_ h) (hstep i listed a w hI hi)⟩;have h1:=(mem_ready.1 hi).1;have hlt:i<listed.toList.length:=by
   rcases Nat.lt_or_ge i listed.size with h'|h'
   ·simpa using h'
   ·rw [yAd,Array.getElem?_eq_none h'] at h1;cases h1
  have h2:=y8w hlt (by rw [yGd,Array.getElem?_toList,←yAd];exact h1);rw [Array.toList_setIfInBounds];omega
theorem yg4{i:Nat}{a:Act}{w:World}(h:wpOpsIn Φ.f 2 P ops (DQ Q J) [i] a w):wpOpIn Φ.f 2 P ops Q i J a w:=by
 rw [wpOpsIn_cons] at h;unfold wpOpIn at h ⊢;cases ho:ops[i]? with
 | none=>rw [ho] at h;exact h
 | some o=>
  rw [ho] at h;dsimp only at h ⊢;by_cases hw:Region.wanted o (yielded ops a.tmps)=true
  ·rw [iP hw] at h ⊢;refine⟨h.1,?_⟩;have h:=h.2;generalize (o.semAt Φ.f.round a.eval).run P w=r at h ⊢;cases r with
   | ok nx w'=>
    cases nx with
    | enter f args=>
     refine⟨h.1,CallsIn.mono h.2 fun en w'' hh=>?_⟩;cases en with
     | returned v=>exact hh
     | panicked ch=>exact hh
     | outgrown=>exact hh
    | round l f tmps assign body=>
     refine⟨h.1,RoundIn.mono h.2 fun en w'' hh=>?_⟩;cases en with
     | returned v=>exact hh
     | panicked ch=>exact hh
     | outgrown=>exact hh
    | _=>exact h
   | halt st w'=>cases st <;> exact h
  ·rw [iN hw] at h ⊢;exact h
def DStep(Φ:Fr)(P:Program)(Q:Exit→Act→World→Prop)(n:Nat)(ops:Array Oper)(A:List (List Nat))(I:(Nat→Bool)→List (Nat×Value)→Sig→Prop)(k:Nat)(o:Oper):Prop:=
 ∀D e s,I D e s→D k=false→(∀j,j<ops.size→(A.getD j []).contains k=true→D j=false)→AllT D (A.getD k [])→L Φ P (DQ Q (DJ Φ n I (upD D k))) n ops [o] e s.w
def yaF(Φ:Fr)(P:Program)(Q:Exit→Act→World→Prop)(n:Nat)(ops:Array Oper)(A:List (List Nat))(I:(Nat→Bool)→List (Nat×Value)→Sig→Prop):Nat→List Oper→Prop
 | _,[]=>True
 | k,o::os=>DStep Φ P Q n ops A I k o∧yaF Φ P Q n ops A I (k+1) os
theorem yaF.at{A:List (List Nat)}{I:(Nat→Bool)→List (Nat×Value)→Sig→Prop}{l:List Oper}:∀{k:Nat},yaF Φ P Q n ops A I k l→∀j o,l[j]? =some o→DStep Φ P Q n ops A I (k+j) o:=by
 induction l with
 | nil=>intro k _ j o ho;cases ho
 | cons o os ih=>
  intro k h j o' ho;obtain⟨h1,h2⟩:=h;cases j with
  | zero=>
   rw [List.getElem?_cons_zero,yIj] at ho;subst ho;exact h1
  | succ j=>
   have:=ih h2 j o' (by simpa using ho);rwa [show k+1+j=k+(j+1) by omega] at this
theorem E.draw{id:Nat}{l:List Oper}(A:List (List Nat))(I:(Nat→Bool)→List (Nat×Value)→Sig→Prop)(hm:P.follows .mixedOrders=true)(hB:yc7 l.toArray=true)(hA:chkA l.toArray A=true)
  (h0:∀s0,Mv No s s0→I (fun _=>false) e s0) (hs:yaF Φ P Q n l.toArray A I 0 l)
  (hend:∀D e s1,(∀j,Nat.blt j l.length=true→D j=true)→I D e s1→X Φ Q n .normal e s1.w):E Φ P Q n (.region id l.toArray true) e s.w:=by
 intro a ha;refine wpIn_region_any hm ?_;have hmv:Mv No s ⟨{ s.w with drawn:=s.w.drawn+1 },s.tag⟩:=⟨rfl,rfl,rfl,yNr _,fun _ _ _=>⟨rfl,rfl⟩⟩;refine ye0 (I:=fun listed a' w'=>listed.size=l.length∧∃e s,Fits Φ n e a'∧w'=s.w∧DI A l.length I (fun j=>listed.getD j false) e s) hB ?_ ?_ _ _ _ _ (by simp) ?_
 ·rintro i listed a' w' ⟨hsz,e',s',hf,rfl,hI⟩ hr;obtain⟨h1,o,ho,hafter⟩:=mem_ready.1 hr;have hi:i<l.length:=by simpa using (yAs.1 ho).1
  have hk:listed.getD i false=false:=by
   rw [yAd,Array.getElem?_eq_getElem (by omega)] at h1 ⊢;exact h1
  have hall:AllT (fun j=>listed.getD j false) (A.getD i []):=by
   refine AllT.of fun x hx=>?_;have h2:=yAt.1 hA i (List.mem_range.2 (by simpa using hi));simp only [ho] at h2;have h3:=yAt.1 h2 x hx;have hdir:∀d,d∈(o.after.toList.filter (Region.binds .any ·)).map (·.on)→listed.getD d false=true:=by
    intro d hd;obtain⟨ed,he,rfl⟩:=yMp.1 hd;obtain⟨he1,he2⟩:=List.mem_filter.1 he;exact hafter ed (by simpa using he1) he2
   rcases Bool.or_eq_true_iff.1 h3 with h4|h4
   ·exact hdir x (by simpa using h4)
   ·obtain ⟨d,hd,hd2⟩:=List.any_eq_true.1 h4;have hdt:=hdir d hd;have hdl:d<l.length:=by
     rcases Nat.lt_or_ge d l.length with h|h
     ·exact h
     ·rw [yAd,Array.getElem?_eq_none (by omega)] at hdt;cases hdt
    exact(hI.clo d hdl hdt).mem x (by simpa using hd2)
  have hst:=hs.at i o (by simpa using ho);rw [yNz] at hst;have hup:(fun j=>(listed.setIfInBounds i true).getD j false)=upD (fun j=>listed.getD j false) i:=by
   funext j;rw [yAd,Array.getElem?_setIfInBounds];by_cases hij:i=j
   ·subst hij;simp [hsz,hi,upD]
   ·have:Nat.beq j i=false:=by cases hbb:Nat.beq j i with | false=>rfl|true=>exact absurd (yNb hbb).symm hij
    rw [iN hij,upD,this,Bool.false_or,yAd]
  have hfal:∀j,j<l.toArray.size→(A.getD j []).contains i=true→listed.getD j false=false:=by
   intro j hj hc;cases hd:listed.getD j false with
   | false=>rfl
   | true=>
    have:=(hI.clo j (by simpa using hj) hd).mem i (by simpa using hc);simp only [hk] at this;cases this
  have hl:=hst _ e' s' hI.i hk hfal hall [i] (by rw [List.map_cons,List.map_nil,ho];rfl) a' hf;have hw:=yg4 hl;refine wpOpIn_mono (fun a2 w2 hh=>?_) hw;obtain⟨e2,s2,hf2,rfl,hI2⟩:=hh;refine⟨by simp [hsz],e2,s2,hf2,rfl,?_⟩;rw [hup];refine⟨fun j hj hd=>AllT.of fun x hx=>?_,hI2⟩;by_cases hji:j=i
  ·subst hji;exact yby (hall.mem x hx)
  ·have:upD (fun j=>listed.getD j false) i j=listed.getD j false:=by
    have:Nat.beq j i=false:=by cases hbb:Nat.beq j i with | false=>rfl|true=>exact absurd (yNb hbb) hji
    rw [upD,this,Bool.false_or]
   rw [this] at hd;exact yby ((hI.clo j hj hd).mem x hx)
 ·rintro listed a' w' ⟨hsz,e',s',hf,rfl,hI⟩ hall;refine hend (fun j=>listed.getD j false) e' s' (fun j hj=>?_) hI.i a' hf;have hj':j<l.length:=by simpa using hj
  have:=hall j (by simpa using hj');rw [yAd,Array.getElem?_eq_getElem (by omega)] at this ⊢;exact this
 ·refine ⟨by simp,e,⟨{ s.w with drawn:=s.w.drawn+1 },s.tag⟩,ha,rfl,fun j hj hd=>?_,?_⟩
  ·rw [yAd,Array.getElem?_replicate] at hd;split at hd <;> cases hd
  ·have h1:=h0 _ hmv;have:(fun j=>(Array.replicate l.toArray.size false).getD j false)=fun _=>false:=by
    funext j;rw [yAd,Array.getElem?_replicate];split <;> rfl
   rw [this];exact h1
theorem Sub.trans{e1 e2 e3:List (Nat×Value)}(h:Sub e1 e2)(h2:Sub e2 e3):Sub e1 e3:=fun d v hg=>h2 d v (h d v hg)
def Kn(e:List (Nat×Value)):List (Nat×Value)→Prop
 | []=>True
 | p::ps=>Env.get e p.1=some p.2∧Kn e ps
end
theorem yjk{xs:List α}{i:Int}{y:α}(h:upd xs i y=some zs):zs.length=xs.length:=by
 obtain⟨_,_,rfl⟩:=y9Y h;exact List.length_set
section
variable{Φ:Fr}{P:Program}{Q:Exit→Act→World→Prop}{n:Nat}{e:List (Nat×Value)}{w:World}{s:Sig}{ops:Array Oper}{os:List Oper}{d:Nat}{ty:TypeId}{pos:String}{af:Array Edge}{g:Option (Nat×Bool)}
variable{α:Type}{r:Rep α}{t:Nat}{T T' U:TypeId}{a:Option Addr}{cap:Nat}{xs ys zs:List α}
theorem L.su{x:Operand}{b o fo:Nat}{v:Value}{c:List Value}{y0 z:α}(hR:RowT r s t T' a cap xs)(hsp:Spot a r.sz j.toNat b o)(hi:idx xs j=some y0)(hu:upd xs j z=some zs)(ht:Nat.blt 0 t=true)(hT:∀w,(sizeOf T).run P w= .ok m w)
  (hw:Wt ops e g) (hx:Env.ev e x=some (.pointer (some ⟨b,o+fo,none⟩))) (hy:Env.ev e y=some v) (hc:v.cells.toList=c) (hm:c.length=m) (hfo:Nat.ble (fo+m) r.sz=true) (h1':c.all Value.oneCell'=true)
  (hz:∀c0,r.rd s c0 y0→r.rd s (c0.take fo++c++c0.drop (fo+c.length)) z)
  (h:∀s',Mv (One t) s s'→RowT r s' t T' a cap zs→L Φ P Q n ops os e s'.w):L Φ P Q n ops (⟨none,.store T x y,ty,pos,af,g⟩::os) e s.w:=by
 obtain⟨_,hk,rfl⟩:=y9Y hu;obtain⟨_,hk2,e0⟩:=y5H hi;exact L.sr hR hsp hk ht hT hw hx hy hc hm hfo (yAt.1 h1') (fun c0 hc0=>hz c0 (e0▸hc0)) (fun s' m h'=>h s' m h')
end
def fillL(pl:List (Nat×Nat)):List Value→List (Nat×Value)→Option (List Value)
 | cs,[]=>some cs
 | cs,(i,v)::rest=>match pl[i]? with
  | none=>none
  | some (off,sz)=>if Nat.beq v.cells.toList.length sz&&Nat.ble (off+sz) cs.length then fillL pl (cs.take off++v.cells.toList++cs.drop (off+sz)) rest else none
theorem yda(off:Nat):∀(vs:List Value) (k:Nat) (cs:Array Value),off+k+vs.length≤cs.size→
  ((vs.zipIdx k).foldl (fun cs (p:Value×Nat)=>cs.setIfInBounds (off+p.2) p.1) cs).toList=cs.toList.take (off+k)++vs++cs.toList.drop (off+k+vs.length)
 | [],k,cs,h=>by simp
 | v::vs,k,cs,h=>by
  simp only [yLc] at h;rw [List.zipIdx_cons,List.foldl_cons,yda off vs (k+1) _ (by simp;omega)];have hl:cs.toList.length=cs.size:=Array.length_toList;rw [Array.toList_setIfInBounds];apply List.ext_getElem?;intro j;rw [y7o (by rw [List.length_set];omega),y7o (l:=cs.toList) (c:=v::vs) (i:=off+k) (by simp only [yLc];omega)];simp only [yLc];by_cases h1:j=off+k
  ·subst h1;rw [iN (by omega),iP (by omega),List.getElem?_set_self (by omega),Nat.sub_self];rfl
  ·rw [List.getElem?_set_ne (by omega)];by_cases h2:off+(k+1)≤j∧j<off+(k+1)+vs.length
   ·rw [iP h2,iP (by omega),show j-(off+k)=(j-(off+(k+1)))+1 by omega,List.getElem?_cons_succ]
   ·rw [iN h2,iN (by omega)]
theorem ycE{place:Nat→Option (Nat×Nat)}(hp:∀i p,pl[i]? =some p→place i=some p):∀{ps:List (Nat×Value)} {cs cs':List Value},fillL pl cs ps=some cs'→Instr.fill place cs.toArray ps=some cs'.toArray
 | [],cs,cs',h=>by simp only [fillL,yIj] at h;subst h;rfl
 | (i,v)::rest,cs,cs',h=>by
  simp only [fillL] at h;split at h
  ·cases h
  ·rename_i off sz hpl;split at h
   ·rename_i hc;obtain⟨h1,h2⟩:=Bool.and_eq_true_iff.1 hc;have h1:v.cells.toList.length=sz:=yNb h1;have h2:off+sz≤cs.length:=yNl h2;simp only [Instr.fill,hp i _ hpl];rw [Array.length_toList] at h1;rw [iN (by simp [h1];omega)];have hf:=yda off v.cells.toList 0 cs.toArray (by simp [h1];omega);have e:(v.cells.zipIdx.foldl (fun cs (x:Value×Nat)=>cs.setIfInBounds (off+x.2) x.1) cs.toArray)=(cs.take off++v.cells.toList++cs.drop (off+sz)).toArray:=by
     apply Array.toList_inj.1;rw [←Array.foldl_toList,Array.toList_zipIdx,hf];simp [h1]
    have:=ycE hp h;rw [←e] at this;exact this
   ·cases h
structure Pl (P:Program) (T:TypeId) (pl:List (Nat×Nat)) (z:List Value):Prop where
 is:∃place:Nat→Option (Nat×Nat),(∀ps,P.built T ps=Instr.fill place z.toArray ps)∧∀i p,pl[i]? =some p→place i=some p
theorem Pl.str{P:Program}{T:TypeId}{z:List Value}(hu:P.underlying T=some (.struct fs))(hz:(P.info? T).bind (fun i=>i.zero.map (·.cells))=some z.toArray)
  (hp:fs.toList.mapM (fun f=>(P.info? f.type).map fun i=>(f.offset,i.size))=some pl):Pl P T pl z:=⟨⟨(pl.toArray[·]?),fun ps=>by
 unfold Program.built;cases hi:P.info? T with
 | none=>simp [hi] at hz
 | some it=>
  simp only [hi,yOb] at hz;cases hzz:it.zero with
  | none=>simp [hzz] at hz
  | some v=>
   simp only [hzz,Option.map_some,yIj] at hz;simp only [hu,hzz,hp];rw [hz],fun i p h=>by simpa using h⟩⟩
def plK(m:Nat):Nat→Nat→List (Nat×Nat)
 | 0,_=> []
 | k+1,i=>(i*m,m)::plK m k (i+1)
theorem ycF(m:Nat):∀(k i j:Nat) (p:Nat×Nat),(plK m k i)[j]? =some p→p=((i+j)*m,m)
 | 0,_,_,_,h=>by cases h
 | k+1,i,0,p,h=>by simp only [plK,List.getElem?_cons_zero,yIj] at h;rw [←h];rfl
 | k+1,i,j+1,p,h=>by
  simp only [plK,List.getElem?_cons_succ] at h;rw [ycF m k (i+1) j p h,show i+1+j=i+(j+1) by omega]
theorem Pl.arr{P:Program}{T:TypeId}{k:Nat}{z:List Value}(hu:P.underlying T=some (.array k U))(hz:(P.info? T).bind (fun i=>i.zero.map (·.cells))=some z.toArray)(hs:(P.info? U).map (·.size)=some m):Pl P T (plK m k 0) z:=⟨⟨fun i=>some (i*m,m),fun ps=>by
 unfold Program.built;cases hi:P.info? T with
 | none=>simp [hi] at hz
 | some it=>
  simp only [hi,yOb] at hz;cases hzz:it.zero with
  | none=>simp [hzz] at hz
  | some v=>
   simp only [hzz,Option.map_some,yIj] at hz;cases hj:P.info? U with
   | none=>simp [hj] at hs
   | some ie=>
    simp only [hj,Option.map_some,yIj] at hs;simp only [hu,hzz,hj];rw [hz,hs],fun i p h=>by rw [ycF m k 0 i p h,yNz]⟩⟩
structure Bs (P:Program) (T E m:Nat) (z:List Value):Prop where
 und:P.underlying T=some (.slice E)
 is:∃ie v,P.info? E=some ie∧ie.size=m∧ie.zero=some v∧v.cells=z.toArray
 len:z.length=m
theorem Bs.mk'{P:Program}{T E:Nat}{z:List Value}(hu:P.underlying T=some (.slice E))(hz:(P.info? E).bind (fun i=>i.zero.map (·.cells))=some z.toArray)(hs:(P.info? E).map (·.size)=some m)(hl:z.length=m):Bs P T E m z:=by
 refine⟨hu,?_,hl⟩;cases hi:P.info? E with
 | none=>simp [hi] at hz
 | some it=>
  simp only [hi,yOb] at hz;simp only [hi,Option.map_some,yIj] at hs;cases hzz:it.zero with
  | none=>simp [hzz] at hz
  | some v=>
   simp only [hzz,Option.map_some,yIj] at hz;exact⟨it,v,rfl,hs,hzz,hz⟩
theorem El.mk'{P:Program}{E:Nat}{z:Value}(hs:(P.info? E).map (·.size)=some m)(hb:(P.info? E).map (·.bytes)=some by_)(hz:(P.info? E).bind (·.zero)=some z)(hc:z.cells.size=m):El P E m by_:=by
 constructor;cases hi:P.info? E with
 | none=>simp [hi] at hz
 | some it=>
  simp only [hi,yOb] at hz;simp only [hi,Option.map_some,yIj] at hs hb;exact⟨it,z,rfl,hs,hb,hz,hc⟩
theorem Zr.mk'{P:Program}{r:Rep α}{E:Nat}{y:α}{v:Value}(hs:(P.info? E).map (·.size)=some r.sz)(hb:(P.info? E).map (·.bytes)=some by_)(hz:(P.info? E).bind (·.zero)=some v)(hr:∀s,r.rd s v.cells.toList y):Zr P r E by_ y:=by
 constructor;cases hi:P.info? E with
 | none=>simp [hi] at hz
 | some it=>
  simp only [hi,yOb] at hz;simp only [hi,Option.map_some,yIj] at hs hb;exact⟨it,v,rfl,hs,hb,hz,hr⟩
def nz(j:Int):Option Unit:=if j=0 then none else some ()
theorem yjl(h:nz j=some u):j≠0:=by
 unfold nz at h;split at h
 ·cases h
 ·assumption
def ng(j:Int):Option Unit:=if j<0 then none else some ()
theorem yfk(h:ng j=some u):¬j<0:=by
 unfold ng at h;split at h
 ·cases h
 ·assumption
section
variable{Φ:Fr}{P:Program}{Q:Exit→Act→World→Prop}{n:Nat}{e:List (Nat×Value)}{w:World}{s:Sig}{ops:Array Oper}{os:List Oper}{d:Nat}{ty:TypeId}{pos:String}{af:Array Edge}{g:Option (Nat×Bool)}
variable{α:Type}{r:Rep α}{t:Nat}{T T' U:TypeId}{a:Option Addr}{cap:Nat}{xs ys:List α}
theorem L.bu{z cs:List Value}{xs:List (Nat×Operand)}(hP:Pl P T pl z)(hw:Wt ops e g)(hx:Env.evp e xs=some ps)(hf:fillL pl z ps=some cs)(hd:Nat.blt d n=true)
  (h:L Φ P Q n ops os ((d,.agg cs.toArray)::e) w):L Φ P Q n ops (⟨some d,.build T xs.toArray,ty,pos,af,g⟩::os) e w:=by
 obtain⟨place,h1,h2⟩:=hP.is;exact L.bd hw hx (by rw [h1];exact ycE h2 hf) hd h
theorem ygz{z:List Value}(hl:z.length=m):∀k,((Array.range (k*m)).map (z.toArray[· % z.toArray.size]!))=(List.replicate k z).flatten.toArray:=by
 intro k;have:=yd8 (c:=z.toArray) k;apply Array.toList_inj.1;simp only [List.size_toArray] at this ⊢;rw [←hl,←this];simp [madeCells]
theorem L.bsE{E k:Nat}{z cs:List Value}{xs:List (Nat×Operand)}(t:Nat)(hB:Bs P T E m z)(hk:k*m≤2 ^ 24)(hw:Wt ops e g)(hx:Env.evp e xs=some ps)(h0:Nat.blt 0 (k*m)=true)
  (hf:fillL (plK m k 0) (List.replicate k z).flatten ps=some cs) (hd:Nat.blt d n=true)
  (h:∀b s',Mv No s s'→Bx s' t b cs.toArray E→L Φ P Q n ops os ((d,.slice (some ⟨b,0,none⟩) k k)::e) s'.w):L Φ P Q n ops (⟨some d,.buildSlice T k xs.toArray,ty,pos,af,g⟩::os) e s.w:=by
 obtain⟨ie,v,h1,h2,h3,h4⟩:=hB.is;have h0':0<k*m:=by simpa using h0
 refine L.bs (ie:=ie) (z:=v) t hB.und h1 h3 (by rw [h2];omega) (by rw [h2];omega) hw hx ?_ hd h;rw [h4,h2,ygz hB.len];exact ycE (fun i p hp=>by rw [ycF m k 0 i p hp,yNz]) hf
theorem L.bs0{E:Nat}{z:List Value}(t:Nat)(hB:Bs P T E m z)(hm:m≤2 ^ 24)(hw:Wt ops e g)(hd:Nat.blt d n=true)
  (h:∀b s',Mv No s s'→Bx s' t b #[] E→L Φ P Q n ops os ((d,.slice (some ⟨b,0,none⟩) 0 0)::e) s'.w):L Φ P Q n ops (⟨some d,.buildSlice T 0 #[],ty,pos,af,g⟩::os) e s.w:=by
 obtain⟨ie,v,h1,h2,h3,h4⟩:=hB.is;refine L.val hw hd (v:= .slice (some ⟨s.w.heap.size,0,none⟩) 0 0) (w':=s.w.alloc (.cells #[] E)) (fun ac ha=>?_) ?_
 ·simp [execOp,Instr.buildSlice,run_underlying hB.und,sizeOf,typeInfo,h1,Instr.fill,newRow];have:(Array.range 0)= #[]:=by simp [Array.range]
  simp [this]
 ·refine h s.w.heap.size ⟨s.w.alloc (.cells #[] E),tagUp s.tag s.w.heap.size t⟩ ?_ ⟨heap_alloc_new s.w _,y4R _ _ _⟩;exact⟨rfl,rfl,rfl,by simp,fun b hb _=>⟨heap_alloc_old s.w _ hb,y5f hb⟩⟩
end
def FV1{α β:Type}(P:Program)(s:Sig)(v:Value)(arg:α→List Value)(res:β→Value)(m:α→Option β):Prop:=
 ∃f fst cap,v= .func (.func f) fst cap∧(∀args w,(callFunc f args).run P w= .ok (.enter f args) w)∧∀x r,m x=some r→∀s',Le s s'→Calls P f (fst++(arg x).toArray++cap) s'.w (RetS No s' fun v' _=>v'=res r)
def FV2{α β γ:Type}(P:Program)(s:Sig)(v:Value)(arg:α→β→List Value)(res:γ→Value)(m:α→β→Option γ):Prop:=
 ∃f fst cap,v= .func (.func f) fst cap∧(∀args w,(callFunc f args).run P w= .ok (.enter f args) w)∧∀x y r,m x y=some r→∀s',Le s s'→Calls P f (fst++(arg x y).toArray++cap) s'.w (RetS No s' fun v' _=>v'=res r)
theorem Bx.le{s s':Sig}{b:Nat}{T:TypeId}(h:Bx s 0 b cs T)(hl:Le s s'):Bx s' 0 b cs T:=by
 obtain⟨g1,g2⟩:=hl.blk b h.lt h.htag;exact⟨g1.trans h.heap,g2⟩
section
variable{Φ:Fr}{P:Program}{Q:Exit→Act→World→Prop}{n:Nat}{e:List (Nat×Value)}{s:Sig}{ops:Array Oper}{os:List Oper}{d:Nat}{ty:TypeId}{pos:String}{af:Array Edge}{g:Option (Nat×Bool)}{α β γ:Type}
theorem L.fvc{f:FuncId}{x:Operand}{fst cap:Array Value}{xs:List Operand}{c:Call}{S:Nat→Prop}{Post:Value→Sig→Prop}(hcf:∀args w,(callFunc f args).run P w= .ok (.enter f args) w)(hc:c.callee= .value x)(hca:c.args=xs.toArray)(hw:Wt ops e g)
  (hx:Env.ev e x=some (.func (.func f) fst cap)) (hxs:Env.evs e xs=some vs)
  (hcall:Calls P f (fst++vs.toArray++cap) s.w (RetS S s Post)) (hd:Nat.blt d n=true) (h:∀v s',Mv S s s'→Post v s'→L Φ P Q n ops os ((d,v)::e) s'.w):L Φ P Q n ops (⟨some d,.call c,ty,pos,af,g⟩::os) e s.w:=
 L.op hw fun ac ha K hK=>by
  unfold Oper.wp;have h2:c.args.map ac.eval=vs.toArray:=by rw [hca,List.map_toArray,ha.evs hxs]
  have hrun:(execOp ac.eval ⟨some d,.call c,ty,pos,af,g⟩).run P s.w= .ok (.enter f (fst++vs.toArray++cap)) s.w:=by
   simp [execOp,resolve,hc,h2,Deferred.ofValue,ha.ev hx,invoke,hcf _ _]
  rw [hrun,Oper.upon_enter];refine hcall.mono fun en w' hh=>?_;obtain⟨v,s',rfl,rfl,h3,h4⟩:=hh;exact hK _ _ _ (ha.put hd v) (h v s' h3 h4)
end
def slc3{α:Type}(xs:List α)(lo hi mx:Int):Option (List α):=if 0≤lo∧lo≤hi∧hi≤mx∧mx≤xs.length then some ((xs.take hi.toNat).drop lo.toNat) else none
theorem tpos{i:Nat}(h:0<N):0<N+i:=by omega
def Sig.ren(N:Nat)(f:Nat→Nat)(s:Sig):Sig:=⟨s.w,fun b=>if N≤s.tag b then f (s.tag b-N) else s.tag b⟩
section
variable{S:Nat→Prop}{s s':Sig}{N t k b cap:Nat}{f:Nat→Nat}{α:Type}{r:Rep α}{T:TypeId}{a:Option Addr}{xs:List α}{cs:Array Value}
theorem Sig.ren_le(hN:0<N):Le s (s.ren N f):=⟨yNr _,fun b _ ht=>⟨rfl,by simp [Sig.ren,ht];omega⟩⟩
theorem Mv.ren(h:Mv (fun t=>N≤t∨S t) s s')(hN:∀b,b<s.w.heap.size→s.tag b<N):Mv S s (s'.ren N f):=
 ⟨h.os,h.tape,h.output,h.size,fun b hb hn=>by
  obtain⟨g1,g2⟩:=h.blk b hb (nor (Nat.not_le.2 (hN b hb)) hn);refine⟨g1,?_⟩;show(if N≤s'.tag b then f (s'.tag b-N) else s'.tag b)=_;rw [iN (by rw [g2];exact Nat.not_le.2 (hN b hb)),g2]⟩
theorem RowT.as{t':Nat}(h:RowT r s t T a cap xs)(hl:Le s s')(hw:s'.w=s.w)(ht:∀b,s.tag b=t→s'.tag b=t'):RowT r s' t' T a cap xs:=by
 obtain⟨cs,h1,h2⟩:=h;refine⟨cs,⟨h1.1,h1.2.imp id fun⟨b,off,cap,cur,g1,g2,g3⟩=>⟨b,off,cap,cur,g1,⟨by rw [hw];exact g2.heap,ht b g2.htag,g2.base⟩,g3⟩⟩,h2.mono hl⟩
theorem Bx.drop(h:Bx s (N+k) b cs T):Bx (s.drop N) 0 b cs T:=⟨h.heap,by simp [Sig.drop,h.htag]⟩
end
theorem Calls.lendG{P:Program}{f:FuncId}{args:Array Value}{s s0:Sig}{Post:Value→Sig→Prop}{R:Value→Prop}(hw:s0.w=s.w)(hc:Calls P f args s0.w (RetS No s0 Post))(hr:∀v s',Post v s'→R v):
  Calls P f args s.w (RetS No s fun v _=>R v):=by
 rw [←hw];refine Calls.mono hc fun en w' hh=>?_;obtain⟨v,s',rfl,rfl,hm,hp⟩:=hh;refine⟨v,⟨s'.w,fun b=>if b<s.w.heap.size then s.tag b else s'.tag b⟩,rfl,rfl,⟨?_,?_,?_,?_,fun b hb _=>⟨?_,iP hb⟩⟩,hr v s' hp⟩
 ·rw [←hw];exact hm.os
 ·rw [←hw];exact hm.tape
 ·rw [←hw];exact hm.output
 ·rw [←hw];exact hm.size
 ·rw [←hw];exact(hm.blk b (by rw [hw];exact hb) id).1
def rStr :Rep ByteArray:=⟨1,fun _ cs x=>cs= [.string x],fun h=>by rw [h];rfl,fun _ h=>h,fun h u hu=>by rw [h] at hu;rw [yMs.1 hu];rfl⟩
def FO1{α β:Type}(P:Program)(s:Sig)(v:Value)(arg:α→List Value)(res:β→Value):Option (α→Option β)→Prop
 | none=>v= .nilFunc
 | some m=>FV1 P s v arg res m
def FO2{α β γ:Type}(P:Program)(s:Sig)(v:Value)(arg:α→β→List Value)(res:γ→Value):Option (α→β→Option γ)→Prop
 | none=>v= .nilFunc
 | some m=>FV2 P s v arg res m
section
variable{α β γ:Type}{Φ:Fr}{P:Program}{s s':Sig}{v:Value}{arg1:α→List Value}{arg2:α→β→List Value}{res1:β→Value}{res2:γ→Value}
theorem FO1.some{o:Option (α→Option β)}{m:α→Option β}(h:FO1 P s v arg1 res1 o)(e:o= .some m):FV1 P s v arg1 res1 m:=by subst e;exact h
theorem FO2.some{o:Option (α→β→Option γ)}{m:α→β→Option γ}(h:FO2 P s v arg2 res2 o)(e:o= .some m):FV2 P s v arg2 res2 m:=by subst e;exact h
end
def IA(P:Program)(T:TypeId)(k m:Nat):Prop:=∀w b off (i:Int) kd,0≤i→i<k→(Instr.indexAt T (.pointer (some ⟨b,off,none⟩)) (.int kd i)).run P w= .ok (.pointer (some ⟨b,off+i.toNat*m,none⟩)) w
theorem IA.mk{P:Program}{T:TypeId}{k:Nat}(hu:P.underlying T=some (.array k U))(hs:(P.info? U).map (·.size)=some m):IA P T k m:=fun w b off i kd h0 h1=>by
 have hsz:(sizeOf U).run P w= .ok m w:=by
  cases hi:P.info? U with
  | none=>simp [hi] at hs
  | some j=>simp [hi] at hs;simp [sizeOf,typeInfo,hi,hs]
 simp [Instr.indexAt,asIntOf,run_underlying hu,Instr.sureAddr,h0,h1,hsz,Addr.add_lit]
section
variable{Φ:Fr}{P:Program}{Q:Exit→Act→World→Prop}{n:Nat}{e:List (Nat×Value)}{w:World}{s:Sig}{ops:Array Oper}{os:List Oper}{d:Nat}{ty:TypeId}{pos:String}{af:Array Edge}{g:Option (Nat×Bool)}
variable{α β γ:Type}{v:Value}{arg1:α→List Value}{arg2:α→β→List Value}{res1:β→Value}{res2:γ→Value}
theorem L.ia{T:TypeId}{x i:Operand}{k b:Nat}{kd:IntKind}(hI:IA P T k m)(hw:Wt ops e g)(hx:Env.ev e x=some (.pointer (some ⟨b,off,none⟩)))(hi:Env.ev e i=some (.int kd j))(hj:(decide (0≤j)&&decide (j<k))=true)(hd:Nat.blt d n=true)
  (h:L Φ P Q n ops os ((d,.pointer (some ⟨b,off+j.toNat*m,none⟩))::e) w):L Φ P Q n ops (⟨some d,.indexAddr T x i,ty,pos,af,g⟩::os) e w:=by
 obtain⟨h1,h2⟩:=Bool.and_eq_true_iff.1 hj;exact L.val hw hd (fun ac ha=>by simp [execOp,ha.ev hx,ha.ev hi,hI w b off j kd (of_decide_eq_true h1) (of_decide_eq_true h2)]) h
end
theorem y5T {P:Program}{xs ys:Array Value}{f:Field}{fs:List Field}{w:World}{x y:Value}{b b':Bool}(hn : (f.name == "_") = false)(ha : ∀ w, (isAgg f.type).run P w = .ok false w)(hs : ∀ w, (sizeOf f.type).run P w = .ok 1 w)(hx : xs[f.offset]? = some x)(hy : ys[f.offset]? = some y)(he : (Op.equalIn d f.type x y).run P w = .ok b w)
  (h:(Op.eqFields d xs ys fs).run P w= .ok b' w):(Op.eqFields d xs ys (f::fs)).run P w= .ok (b&&b') w:=by
 have hn' : f.name ≠ "_" := by simpa using hn
 have px:(part f.type xs f.offset).run P w= .ok x w:=by
  obtain⟨hk,e⟩:=yAs.1 hx;simp [part,ha,hs,hk,e]
 have py:(part f.type ys f.offset).run P w= .ok y w:=by
  obtain⟨hk,e⟩:=yAs.1 hy;simp [part,ha,hs,hk,e]
 simp only [Op.eqFields,iP hn',Sem.run_bind,px,py,Result.andThen_ok,he];cases b
 ·simp
 ·simpa using h
def Eqs(P:Program)(T:TypeId)(xs ys:List Value)(b:Bool):Prop:=∀w,(binOp .eql T (.agg xs.toArray) (.agg ys.toArray)).run P w= .ok (.bool b) w∧(binOp .neq T (.agg xs.toArray) (.agg ys.toArray)).run P w= .ok (.bool (!b)) w
theorem Eqs.mk{P:Program}{T:TypeId}{xs ys:List Value}{b:Bool}(hu:P.underlying T=some (.struct fs))(hs:P.stoodInHeld T=false)(h:∀w,(Op.eqFields 9999 xs.toArray ys.toArray fs.toList).run P w= .ok b w):Eqs P T xs ys b:=fun w=>by
 have hf:P.fieldsOf T=fs:=by simp [Program.fieldsOf,hu]
 have h1:P.underlying T=some (.struct (P.fieldsOf T)):=by rw [hf];exact hu
 constructor
 ·rw [run_eql_struct,run_equalIn_agg _ 9999 T _ _ h1 hs,hf,h];rfl
 ·rw [run_neq_struct,run_equalIn_agg _ 9999 T _ _ h1 hs,hf,h];rfl
def rng(i:Int)(n:Nat):Option Unit:=if(decide (0≤i)&&decide (i<n))=true then some () else none
theorem yi1{i:Int}{n:Nat}(h:rng i n=some u):(decide (0≤i)&&decide (i<n))=true:=by
 unfold rng at h;split at h
 ·assumption
 ·cases h
section
variable{Φ:Fr}{P:Program}{Q:Exit→Act→World→Prop}{n:Nat}{e:List (Nat×Value)}{w:World}{s:Sig}{ops:Array Oper}{os:List Oper}{d:Nat}{ty:TypeId}{pos:String}{af:Array Edge}{g:Option (Nat×Bool)}
variable{α:Type}{r:Rep α}{t:Nat}{T U:TypeId}{a:Option Addr}{cap:Nat}{xs ys:List α}
theorem L.eqs{x:Operand}{b:Bool}(hE:Eqs P T us vs b)(hg:P.eqGuardType P.depth T=false)(hw:Wt ops e g)(hx:Env.ev e x=some (.agg us.toArray))(hy:Env.ev e y=some (.agg vs.toArray))(hd:Nat.blt d n=true)
  (h:L Φ P Q n ops os ((d,.bool b)::e) w):L Φ P Q n ops (⟨some d,.binOp .eql T x y U,ty,pos,af,g⟩::os) e w:=
 L.val hw hd (fun ac ha=>by simp [execOp,ha.ev hx,ha.ev hy,run_eqGuard_agg,hg,(hE _).1]) h
theorem L.nes{x:Operand}{b:Bool}(hE:Eqs P T us vs b)(hg:P.eqGuardType P.depth T=false)(hw:Wt ops e g)(hx:Env.ev e x=some (.agg us.toArray))(hy:Env.ev e y=some (.agg vs.toArray))(hd:Nat.blt d n=true)
  (h:L Φ P Q n ops os ((d,.bool (!b))::e) w):L Φ P Q n ops (⟨some d,.binOp .neq T x y U,ty,pos,af,g⟩::os) e w:=
 L.val hw hd (fun ac ha=>by simp [execOp,ha.ev hx,ha.ev hy,run_eqGuard_agg,hg,(hE _).2]) h
theorem reqs(hu:P.underlying T=some (.slice U))(d k c:Nat)(w:World):(Op.equalIn (d+1) T (.slice a k c) (.slice none 0 0)).run P w= .ok a.isNone w:=by
 unfold Op.equalIn;cases a <;> simp [run_underlying hu]
theorem L.nil?{x:Operand}{k c:Nat}(hu:P.underlying T=some (.slice U))(hw:Wt ops e g)(hx:Env.ev e x=some (.slice a k c))(hy:Env.ev e y=some (.slice none 0 0))(hd:Nat.blt d n=true)
  (h:L Φ P Q n ops os ((d,.bool a.isNone)::e) w):L Φ P Q n ops (⟨some d,.binOp .eql T x y T',ty,pos,af,g⟩::os) e w:=
 L.val hw hd (fun ac ha=>by
  have:(binOp .eql T (.slice a k c) (.slice none 0 0)).run P w= .ok (.bool a.isNone) w:=by
   simp only [binOp];simp [Op.equal,Op.maxDepth,reqs hu 9999]
  simp [execOp,ha.ev hx,ha.ev hy,eqGuard,this]) h
theorem L.sho{x hi:Operand}{zs:List α}(hS:Sl P T U r.sz)(hR:RowT r s t T' a cap xs)(hw:Wt ops e g)(hx:Env.ev e x=some (.slice a xs.length cap))(hj:Env.ev e hi=some (.int k' j))(hz:slc xs 0 j=some zs)(hd:Nat.blt d n=true)
  (h:∀a' cap',RowT r s t T' a' cap' zs→L Φ P Q n ops os ((d,.slice a' zs.length cap')::e) s.w):L Φ P Q n ops (⟨some d,.slice T x none (some hi) none,ty,pos,af,g⟩::os) e s.w:=by
 obtain⟨h0,h1,h2,rfl⟩:=y9X hz;have hl:((xs.take j.toNat).drop (0:Int).toNat).length=j.toNat-0:=by rw [List.length_drop,yLt];simp;omega
 obtain⟨cs,g1,g2⟩:=hR;have hlen:=g1.1;have hjm:=Nat.mul_le_mul_right r.sz (show j.toNat≤xs.length by omega);have hcap:xs.length≤cap:=by
  rcases g1.2 with ⟨e1,_⟩|⟨b,off,cap',cur,e1,_,_,_,h3,_⟩
  ·simp only [Value.slice.injEq] at e1;omega
  ·simp only [Value.slice.injEq] at e1;omega
 have hr:=run_slice_h (P:=P) s.w T a xs.length cap (by rw [hS.elem];exact hS.und) k' j h1 (by omega);rw [hS.elem] at hr;have hsame:(if cap=0 then a else a.map (·.add (0*r.sz)))=a:=by
  rcases g1.2 with ⟨e1,_⟩|⟨b,off,cap',cur,e1,_,_,_,h3,_⟩
  ·simp only [Value.slice.injEq] at e1;rw [e1.1];simp
  ·simp only [Value.slice.injEq] at e1;rw [e1.1];simp [Addr.add_lit]
 have hsp:(((xs.take j.toNat)++xs.drop j.toNat))=xs:=List.take_append_drop _ _;rw [←hsp] at g2;have hc:=g2.split.1;rw [yLt,Nat.min_eq_left (by omega)] at hc;refine L.val hw hd (fun ac ha=>?_) (h a cap ⟨cs.take (j.toNat*r.sz),⟨?_,?_⟩,by simpa using hc⟩)
 ·simp only [execOp,ha.ev hx,ha.ev hj,Option.map_some,Option.map_none,Sem.run_bind,run_sliceAt_slice (P:=P) s.w T _ _ _ _ (by rw [hS.elem];exact hS.und),hr,hS.sz,Result.andThen_ok,sliced,Sem.run_pure,hl,hsame,Nat.sub_zero]
 ·rw [yLt,hl,Nat.sub_zero];omega
 ·rw [hl,Nat.sub_zero];rcases g1.2 with ⟨e1,e2⟩|⟨b,off,cap',cur,e1,ho,q1,q2,q3,q4⟩
  ·simp only [Value.slice.injEq] at e1;have e0:j.toNat=0:=by omega
   exact .inl ⟨by rw [e1.1,e0,e1.2.2],by rw [e0]⟩
  ·simp only [Value.slice.injEq] at e1;refine .inr ⟨b,off,cap',cur,by rw [e1.1,e1.2.2],ho,by omega,q2,q3,?_⟩;rw [←q4,List.take_take,Nat.min_eq_left (by omega)]
theorem L.slo{x lo:Operand}{zs:List α}(hS:Sl P T U r.sz)(hR:RowT r s t T' a cap xs)(hw:Wt ops e g)(hx:Env.ev e x=some (.slice a xs.length cap))(hj:Env.ev e lo=some (.int k' j))(hz:slc xs j xs.length=some zs)(hd:Nat.blt d n=true)
  (h:L Φ P Q n ops os ((d,.slice (if cap=j.toNat then a else a.map (·.add (j.toNat*r.sz))) (xs.length-j.toNat) (cap-j.toNat))::e) s.w):L Φ P Q n ops (⟨some d,.slice T x (some lo) none none,ty,pos,af,g⟩::os) e s.w:=by
 obtain⟨h0,h1,h2,rfl⟩:=y9X hz;refine L.val hw hd (fun ac ha=>?_) h;have hr:=run_slice_l (P:=P) s.w T a xs.length cap (by rw [hS.elem];exact hS.und) k' j h0 h1;rw [hS.elem] at hr;simp only [execOp,ha.ev hx,ha.ev hj,Option.map_some,Option.map_none,Sem.run_bind,run_sliceAt_slice (P:=P) s.w T _ _ _ _ (by rw [hS.elem];exact hS.und),hr,hS.sz,Result.andThen_ok,sliced,Sem.run_pure]
theorem L.valN{op:Op}{v:Value}{w w':World}(hw:Wt ops e g)
  (hr:∀a,Fits Φ n e a→(execOp a.eval ⟨none,op,ty,pos,af,g⟩).run P w= .ok (.value v) w') (h:L Φ P Q n ops os e w') (hnd:∀c,op≠ .defer c:=by nofun):L Φ P Q n ops (⟨none,op,ty,pos,af,g⟩::os) e w:=
 L.op hw (fun a ha K hK=>by
  unfold Oper.wp;rw [hr a ha];exact hK _ _ _ (ha.none v) h) hnd
end
section
variable{β:Type}
def mix :List (Int×β)→Int→Nat
 | [],_=>0
 | p::m,k=>if p.1==k then 0 else mix m k+1
end
def Keys :List MapEntry→LI→Prop
 | [],[]=>True
 | e::es,k::ks=>e.key= .int .i64 k∧Keys es ks
 | _,_=>False
theorem Keys.find{kd:IntKind}(k:Int):∀{es:List MapEntry} {m:List (Int×β)} (i0:Nat),Keys es (m.map (·.1))→
  Instr.findNow (.int kd) (.int .i64 k) es i0=some ((es[mix m k]?).map fun e=>(i0+mix m k,e.val))
 | [],[],i0,_=>rfl
 | e::es,p::m,i0,h=>by
  obtain⟨h1,h2⟩:=h;simp only [Instr.findNow,h1,Instr.sameNow,if_true];by_cases hp:(p.1==k)=true
  ·have:(k==p.1)=true:=by rw [beq_iff_eq] at hp ⊢;exact hp.symm
   rw [this];simp only [mix,hp,if_true,List.getElem?_cons_zero,Option.map_some,Nat.add_zero]
  ·have:(k==p.1)=false:=by
    cases hb:(k==p.1) with
    | false=>rfl
    | true=>exact absurd (by rw [beq_iff_eq] at hb ⊢;exact hb.symm) hp
   rw [this];dsimp only;rw [Keys.find k (i0+1) h2];simp only [mix,iN hp,List.getElem?_cons_succ];cases es[mix m k]? with
   | none=>rfl
   | some e=>simp only [Option.map_some];rw [show i0+1+mix m k=i0+(mix m k+1) by omega]
 | [],_::_,_,h=>h.elim
 | _::_,[],_,h=>h.elim
def pF(N:Nat)(ks:List Nat)(t:Nat):Bool:=ks.any (fun k=>Nat.beq t (N+k))||Nat.ble (N+1000) t
section
variable{Φ:Fr}{P:Program}{Q:Exit→Act→World→Prop}{n:Nat}{e:List (Nat×Value)}{s:Sig}{ops:Array Oper}{os:List Oper}{d:Nat}{ty:TypeId}{pos:String}{af:Array Edge}{g:Option (Nat×Bool)}
variable{α:Type}{r:Rep α}{N q t b:Nat}{T U kt et:TypeId}{kd:IntKind}{m:List (Int×List α)}{k:Int}{zs:List α}{a:Option Addr}{cap:Nat}
structure Mp (P:Program) (T kt et:TypeId) (kd:IntKind) (z:Value):Prop where
 und:P.underlying T=some (.map kt et)
 key:P.underlying kt=some (.int kd)
 zero:∀w,(zeroValue et).run P w= .ok z w
theorem Mp.find{z:Value}(h:Mp P T kt et kd z){m:List (Int×β)}(hk:Keys es (m.map (·.1)))(k:Int)(w:World):
  (Instr.findKey kt (.int .i64 k) es).run P w= .ok ((es[mix m k]?).map fun e=>(mix m k,e.val)) w:=by
 have:=Keys.find (kd:=kd) k 0 hk;simp only [yNz] at this;simp [Instr.findKey,run_underlying h.key,this]
theorem gobj{w:World}{b:Nat}(h1:w.heap[b]? =some (.map es.toArray clock)):(getObj b).run P w= .ok (.map es.toArray clock) w:=by simp [getObj,Sem.run,h1]
theorem y9d{es':List MapEntry}{clock':Nat}(h1:s.w.heap[b]? =some (.map es.toArray clock))(ht:s.tag b=t):
  Mv (One t) s ⟨{ s.w with heap:=s.w.heap.setIfInBounds b (.map es'.toArray clock') },s.tag⟩∧({ s.w with heap:=s.w.heap.setIfInBounds b (.map es'.toArray clock') }:World).heap[b]? =some (.map es'.toArray clock'):=by
 have hb:b<s.w.heap.size:=(yAs.1 h1).1;refine⟨⟨rfl,rfl,rfl,by simp,fun b' hb' hn=>⟨?_,rfl⟩⟩,by simp [hb]⟩;have:b≠b':=fun e=>hn (by show s.tag b'=t;rw [←e,ht]);simp [Array.getElem?_setIfInBounds,this]
theorem sobj{w:World}{b:Nat}(o:Obj)(h1:w.heap[b]? =some (.map es.toArray clock)):(setObj b o).run P w= .ok () { w with heap:=w.heap.setIfInBounds b o }:=by simp [setObj,Sem.run,h1]
theorem lmod{i:Nat}{e:MapEntry}(f:MapEntry→MapEntry)(h:es[i]? =some e):es.modify i f=es.set i (f e):=by
 obtain⟨hi,rfl⟩:=yGs.1 h;apply List.ext_getElem?;intro j;by_cases hj:i=j
 ·subst hj;simp [List.getElem?_modify,hi]
 ·rw [List.getElem?_set_ne hj,List.getElem?_modify];simp [hj]
end
section
variable{κ β:Type}[BEq κ]
def kidx(ks:List κ)(k:κ):Nat:=ks.findIdx (fun p=>k==p)
def kget(m:List (κ×β))(k:κ):Option β:=(m.find? fun p=>k==p.1).map (·.2)
def kput(m:List (κ×β))(k:κ)(v:β):List (κ×β):=if kidx (m.map (·.1)) k<m.length then m.set (kidx (m.map (·.1)) k) (k,v) else m++[(k,v)]
theorem y7L(p:κ)(ks:List κ)(k:κ):kidx (p::ks) k=if(k==p)=true then 0 else kidx ks k+1:=by
 unfold kidx;rw [List.findIdx_cons];cases k==p <;> rfl
theorem y8p :∀(m:List (κ×β)) (k:κ),kget m k=(m[kidx (m.map (·.1)) k]?).map (·.2)
 | [],k=>rfl
 | p::m,k=>by
  rw [List.map_cons,y7L,kget];cases h:k==p.1 with
  | true=>rw [List.find?_cons_of_pos (by simp [h]),iP rfl];rfl
  | false=>
   rw [List.find?_cons_of_neg (by simp [h]),iN (by simp),List.getElem?_cons_succ];exact y8p m k
end
def KeysG{κ:Type}(kv:κ→Value):List MapEntry→List κ→Prop
 | [],[]=>True
 | e::es,k::ks=>e.key=kv k∧KeysG kv es ks
 | _,_=>False
section
variable{κ:Type}{kv:κ→Value}
theorem KeysG.len :∀{es:List MapEntry} {ks:List κ},KeysG kv es ks→es.length=ks.length
 | [],[],_=>rfl
 | _::_,_::_,h=>by rw [yLc,yLc,KeysG.len h.2]
 | [],_::_,h=>h.elim
 | _::_,[],h=>h.elim
theorem KeysG.set :∀{es:List MapEntry} {ks:List κ} {i:Nat} {e:MapEntry} {k:κ},KeysG kv es ks→e.key=kv k→KeysG kv (es.set i e) (ks.set i k)
 | [],[],_,_,_,h,_=>h
 | _::_,_::_,0,_,_,h,he=>⟨he,h.2⟩
 | _::_,_::_,i+1,_,_,h,he=>⟨h.1,KeysG.set h.2 he⟩
 | [],_::_,_,_,_,h,_=>h.elim
 | _::_,[],_,_,_,h,_=>h.elim
theorem KeysG.push :∀{es:List MapEntry} {ks:List κ} {e:MapEntry} {k:κ},KeysG kv es ks→e.key=kv k→KeysG kv (es++[e]) (ks++[k])
 | [],[],_,_,_,he=>⟨he,trivial⟩
 | _::_,_::_,_,_,h,he=>⟨h.1,KeysG.push h.2 he⟩
 | [],_::_,_,_,h,_=>h.elim
 | _::_,[],_,_,h,_=>h.elim
theorem KeysG.at :∀{es:List MapEntry} {ks:List κ} (_:KeysG kv es ks) (i:Nat) (h:i<es.length) (h':i<ks.length),es[i].key=kv ks[i]
 | [],_,_,i,h,_=>by simp at h
 | _::_,[],hk,_,_,_=>hk.elim
 | _::_,_::_,hk,0,_,_=>hk.1
 | _::_,_::_,hk,i+1,h,h'=>KeysG.at hk.2 i (by simpa using h) (by simpa using h')
structure KE (P:Program) (kt:TypeId) (kv:κ→Value) [BEq κ]:Prop where
 check:∀em k w,(Instr.checkKey em 10000 kt (kv k)).run P w= .ok () w
 find:∀(es:List MapEntry) (ks:List κ),KeysG kv es ks→∀k w,(Instr.findKey kt (kv k) es).run P w= .ok ((es[kidx ks k]?).map fun e=>(kidx ks k,e.val)) w
 stays:∀k k' w,(k==k')=true→(Instr.keyThatStays (kv k') (kv k)).run P w= .ok (kv k) w
end
theorem eqS{k k':ByteArray}(h:(k==k')=true):k=k':=by
 rw [beq_toListBytes,beq_iff_eq,ByteArray.toList_eq,ByteArray.toList_eq] at h;exact ByteArray.ext (Array.toList_inj.1 h)
def kvS(x:ByteArray):Value:= .string x
theorem KeysG.findS :∀{es:List MapEntry} {ks:List ByteArray} (i0:Nat),KeysG kvS es ks→∀k,Instr.findNow .string (kvS k) es i0=some ((es[kidx ks k]?).map fun e=>(i0+kidx ks k,e.val))
 | [],[],_,_,_=>rfl
 | e::es,p::ks,i0,h,k=>by
  rw [y7L];simp only [Instr.findNow,h.1,kvS,Instr.sameNow];cases hp:k==p with
  | true=>rfl
  | false=>
   dsimp only;rw [show Value.string k=kvS k from rfl,KeysG.findS (i0+1) h.2 k,iN (by simp),List.getElem?_cons_succ];cases es[kidx ks k]? with
   | none=>rfl
   | some f=>simp only [Option.map_some];rw [show i0+1+kidx ks k=i0+(kidx ks k+1) by omega]
 | [],_::_,_,h,_=>h.elim
 | _::_,[],_,h,_=>h.elim
theorem KE.string{P:Program}(hu:P.underlying kt=some .string):KE P kt kvS:=by
 refine⟨fun em k w=>?_,fun es ks h k w=>?_,fun k k' w h=>?_⟩
 ·unfold Instr.checkKey;simp only [Sem.run_bind,run_underlying hu,Result.andThen];rfl
 ·have:=KeysG.findS 0 h k;simp only [yNz] at this;simp [Instr.findKey,run_underlying hu,this]
 ·have h1:k=k':=eqS h;subst h1;simp [Instr.keyThatStays,Instr.sameBits,kvS,h]
def kvP(x:Int×Int):Value:= .agg #[.int .i64 x.1,.int .i64 x.2]
theorem yfl{P:Program}{e:TypeId}{i:TypeInfo}(hu:P.underlying kt=some (.array 2 e))(hi:P.info? e=some i)(he:P.underlying e=some (.int .i64))(hc:P.cellsOf e=1)(hg:(Go.isAgg e).run P=fun w=> .ok false w)(x y:Int×Int)(w:World):
  (Op.equal kt (kvP x) (kvP y)).run P w= .ok (x==y) w:=by
 show(Op.equalIn (9999+1) kt (.agg #[.int .i64 x.1,.int .i64 x.2]) (.agg #[.int .i64 y.1,.int .i64 y.2])).run P w=_;rw [run_equalIn_array w 9999 _ _ hu hi,hc];have hp:∀(cs:Array Value) (j:Nat) (v:Value) (w:World),cs[j]? =some v→(part e cs (j*1)).run P w= .ok v w:=fun cs j v w hv=>by
  have hgw:(Go.isAgg e).run P w= .ok false w:=congrFun hg w;simp [part,hgw,hv]
 have hq:∀(a b:Int) (w:World),(Op.equalIn 9999 e (.int .i64 a) (.int .i64 b)).run P w= .ok (a==b) w:=fun a b w=>run_equalIn_int w 9998 e .i64 .i64 a b he;simp only [List.range_succ,List.range_zero,List.nil_append,List.cons_append,Op.eqItems,Sem.run_bind];rw [hp _ 0 (.int .i64 x.1) w rfl,Result.andThen_ok,hp _ 0 (.int .i64 y.1) w rfl,Result.andThen_ok,hq,Result.andThen_ok];obtain⟨x1,x2⟩:=x;obtain⟨y1,y2⟩:=y;have hbeq:(((x1,x2):Int×Int)==(y1,y2))=((x1==y1)&&(x2==y2)):=rfl;rw [hbeq];dsimp only;cases h1:x1==y1 with
 | false=>simp
 | true=>
  simp only [Bool.not_true,Bool.false_eq_true,if_false,Bool.true_and];simp only [Sem.run_bind];rw [hp _ 1 (.int .i64 x2) w rfl,Result.andThen_ok,hp _ 1 (.int .i64 y2) w rfl,Result.andThen_ok,hq,Result.andThen_ok];cases h2:x2==y2 <;> simp
theorem KE.pair{P:Program}{e:TypeId}{i:TypeInfo}(hu:P.underlying kt=some (.array 2 e))(hi:P.info? e=some i)(he:P.underlying e=some (.int .i64))(hc:P.cellsOf e=1)(hg:(Go.isAgg e).run P=fun w=> .ok false w):KE P kt kvP:=by
 have hp:∀(cs:Array Value) (j:Nat) (v:Value) (w:World),cs[j]? =some v→(part e cs (j*1)).run P w= .ok v w:=fun cs j v w hv=>by
  have hgw:(Go.isAgg e).run P w= .ok false w:=congrFun hg w;simp [part,hgw,hv]
 have hck:∀(em:Bool) (a:Int) (w:World),(Instr.checkKey em 9999 e (.int .i64 a)).run P w= .ok () w:=fun em a w=>by
  unfold Instr.checkKey;simp only [Sem.run_bind,run_underlying he,Result.andThen];rfl
 refine⟨fun em k w=>?_,fun es ks h k w=>?_,fun k k' w h=>?_⟩
 ·unfold Instr.checkKey;simp only [Sem.run_bind,run_underlying hu,Result.andThen_ok,kvP];simp only [Std.Legacy.Range.forIn_eq_forIn_range',Std.Legacy.Range.size,Nat.sub_zero,Nat.add_one_sub_one,Nat.div_one,List.range',List.forIn_cons,List.forIn_nil,Sem.run_bind,run_sizeOf w hi,hc];have hs:∀w,(sizeOf e).run P w= .ok 1 w:=fun w=>by rw [run_sizeOf w hi,hc]
  have hp0:(part e #[Value.int .i64 k.1,Value.int .i64 k.2] 0).run P w= .ok (.int .i64 k.1) w:=hp #[Value.int .i64 k.1,Value.int .i64 k.2] 0 (.int .i64 k.1) w rfl;have hp1:(part e #[Value.int .i64 k.1,Value.int .i64 k.2] 1).run P w= .ok (.int .i64 k.2) w:=hp #[Value.int .i64 k.1,Value.int .i64 k.2] 1 (.int .i64 k.2) w rfl;simp [hs,hp0,hp1,hck]
 ·have hf:∀{es:List MapEntry} {ks:List (Int×Int)} (i0:Nat),KeysG kvP es ks→(Instr.findAsking kt (kvP k) es i0).run P w= .ok ((es[kidx ks k]?).map fun e=>(i0+kidx ks k,e.val)) w:=by
   intro es
   induction es with
   | nil=>
    intro ks i0 h;cases ks with
    | nil=>simp [Instr.findAsking]
    | cons _ _=>exact h.elim
   | cons f es ih=>
    intro ks i0 h;cases ks with
    | nil=>exact h.elim
    | cons p ks=>
     rw [y7L];simp only [Instr.findAsking,h.1,Sem.run_bind,yfl hu hi he hc hg,Result.andThen_ok];cases hp:k==p with
     | true=>simp
     | false=>
      simp only [Bool.false_eq_true,if_false];rw [ih (i0+1) h.2,List.getElem?_cons_succ];cases es[kidx ks k]? with
      | none=>rfl
      | some f=>simp only [Option.map_some];rw [show i0+1+kidx ks k=i0+(kidx ks k+1) by omega]
  rw [run_findKey_eq w (by rw [hu])];have:=hf 0 h;simpa using this
 ·have h1:k=k':=by simpa using h
  subst h1;simp [Instr.keyThatStays,Instr.sameBits,kvP]
section
variable{κ β:Type}
structure MapO (kv:κ→Value) (r:Rep β) (s:Sig) (t:Nat) (T:TypeId) (a:Option Nat) (cap:Nat) (m:List (κ×β)):Prop where
 cap0:cap=0
 is:∃(b:Nat) (es:List MapEntry) (clock:Nat),a=some b∧s.w.heap[b]? =some (.map es.toArray clock)∧s.tag b=t∧KeysG kv es (m.map (·.1))∧∀(i:Nat) (e:MapEntry) (p:κ×β),es[i]? =some e→m[i]? =some p→r.rd s [e.val] p.2
def MapD(kv:κ→Value)(r:Rep β)(s:Sig)(a:Option Nat)(cap:Nat)(m:List (κ×β)):Prop:=(a=none∧cap=0∧m= [])∨MapO kv r s 0 0 a cap m
variable{kv:κ→Value}{r:Rep β}{s s':Sig}{t cap:Nat}{T:TypeId}{a:Option Nat}{m:List (κ×β)}{S:Nat→Prop}
theorem MapO.mv(h:MapO kv r s t T a cap m)(mv:Mv S s s')(hn:¬S t)(h0:¬S 0):MapO kv r s' t T a cap m:=by
 obtain⟨b,es,clock,h1,h2,h3,h4,h5⟩:=h.is;obtain⟨g1,g2⟩:=mv.blk b (yAs.1 h2).1 (by rw [h3];exact hn);exact⟨h.cap0,b,es,clock,h1,g1.trans h2,g2.trans h3,h4,fun i e p he hp=>r.mono (mv.le h0) (h5 i e p he hp)⟩
theorem MapO.as{t':Nat}(h:MapO kv r s t T a cap m)(hl:Le s s')(hw:s'.w=s.w)(ht:∀b,s.tag b=t→s'.tag b=t'):MapO kv r s' t' T' a cap m:=by
 obtain⟨b,es,clock,h1,h2,h3,h4,h5⟩:=h.is;exact⟨h.cap0,b,es,clock,h1,by rw [hw];exact h2,ht b h3,h4,fun i e p he hp=>r.mono hl (h5 i e p he hp)⟩
theorem MapD.mono(h:MapD kv r s a cap m)(hl:Le s s'):MapD kv r s' a cap m:=by
 rcases h with h|h
 ·exact .inl h
 ·obtain ⟨b,es,clock,h1,h2,h3,h4,h5⟩:=h.is;obtain⟨g1,g2⟩:=hl.blk b (yAs.1 h2).1 h3;exact .inr ⟨h.cap0,b,es,clock,h1,g1.trans h2,g2,h4,fun i e p he hp=>r.mono hl (h5 i e p he hp)⟩
theorem MapO.p(h:MapO kv r s 0 T a cap m):MapD kv r s a cap m:= .inr (h.as (Le.refl _) rfl fun _ e=>e)
theorem MapO.drop(h:MapO kv r s t T a cap m)(hN:N≤t):MapD kv r (s.drop N) a cap m:= .inr (h.as (Sig.drop_le N s) rfl fun b e=>by simp [Sig.drop,e,hN])
def MapA(kv:κ→Value)(r:Rep β)(s:Sig)(a:Option Nat)(m:List (κ×β)):Prop:=(a=none∧m= [])∨∃t T cap,MapO kv r s t T a cap m
theorem MapO.any(h:MapO kv r s t T a cap m):MapA kv r s a m:= .inr ⟨_,_,_,h⟩
theorem MapD.any(h:MapD kv r s a cap m):MapA kv r s a m:=h.elim (fun h=> .inl ⟨h.1,h.2.2⟩) (fun h=>h.any)
def rM(kv:κ→Value)(r:Rep β):Rep (List (κ×β)) where
 sz:=1
 rd s cs m:=∃a cap,cs= [Value.map a]∧MapD kv r s a cap m
 len:=by rintro s cs x ⟨a,cap,rfl,_⟩;rfl
 mono:=by rintro s s' cs x hl ⟨a,cap,rfl,h⟩;exact⟨a,cap,rfl,h.mono hl⟩
 one:=by rintro s cs x ⟨a,cap,rfl,_⟩ u hu;rw [yMs.1 hu];rfl
end
section
variable{Φ:Fr}{P:Program}{Q:Exit→Act→World→Prop}{n:Nat}{e:List (Nat×Value)}{s:Sig}{ops:Array Oper}{os:List Oper}{d:Nat}{ty:TypeId}{pos:String}{af:Array Edge}{g:Option (Nat×Bool)}
variable{κ β:Type}{kv:κ→Value}{r:Rep β}{t cap:Nat}{T kt et:TypeId}{a:Option Nat}{m:List (κ×β)}{k:κ}{v:β}{z:β}{zv:Value}
theorem L.mk2(t:Nat)(hd:Nat.blt d n=true)(hw:Wt ops e g)
  (h:∀a cap s',Mv No s s'→MapO kv r s' t T a cap []→L Φ P Q n ops os ((d,Value.map a)::e) s'.w):L Φ P Q n ops (⟨some d,.makeMap T none,ty,pos,af,g⟩::os) e s.w:=by
 refine L.val hw hd (v:= .map (some s.w.heap.size)) (w':=s.w.alloc (.map #[] 0)) (fun ac ha=>by simp [execOp,run_makeMap]) ?_;refine h (some s.w.heap.size) 0 ⟨s.w.alloc (.map #[] 0),tagUp s.tag s.w.heap.size t⟩ ?_ ⟨rfl,s.w.heap.size,[],0,rfl,heap_alloc_new s.w _,y4R _ _ _,trivial,fun i e p he=>by simp at he⟩;exact⟨rfl,rfl,rfl,by simp,fun b hb _=>⟨heap_alloc_old s.w _ hb,y5f hb⟩⟩
end
section
variable{Φ:Fr}{P:Program}{Q:Exit→Act→World→Prop}{n:Nat}{e:List (Nat×Value)}{s:Sig}{ops:Array Oper}{os:List Oper}{d:Nat}{ty:TypeId}{pos:String}{af:Array Edge}{g:Option (Nat×Bool)}
variable{κ β:Type}[BEq κ]{kv:κ→Value}{r:Rep β}{t cap:Nat}{T kt et:TypeId}{a:Option Nat}{m:List (κ×β)}{k:κ}{v:β}{z:β}{zv:Value}
structure Md (P:Program) (T kt et:TypeId) (kv:κ→Value) (r:Rep β) (z:β) (zv:Value):Prop where
 und:P.underlying T=some (.map kt et)
 key:KE P kt kv
 zero:∀w,(zeroValue et).run P w= .ok zv w
 zrd:∀s,r.rd s [zv] z
theorem Md.mk'(h1:P.underlying T=some (.map kt et))(h2:KE P kt kv)(h3:(P.info? et).bind (·.zero)=some zv)(h4:∀s,r.rd s [zv] z):Md P T kt et kv r z zv:=⟨h1,h2,fun w=>by
 cases hi:P.info? et with
 | none=>simp [hi] at h3
 | some i=>simp [hi] at h3;simp [zeroValue,typeInfo,hi,h3],h4⟩
theorem ye1(hT:Md P T kt et kv r z zv)(hM:MapA kv r s a m)(ck:Bool):∃u,r.rd s [u] ((kget m k).getD z)∧(Instr.lookup T (Value.map a) (kv k) ck).run P s.w= .ok (if ck=true then .tuple #[u,.bool (kget m k).isSome] else u) s.w:=by
 rcases hM with ⟨rfl,rfl⟩|⟨t,T0,cap,hM⟩
 ·refine ⟨zv,hT.zrd s,?_⟩;have hf:=hT.key.find [] [] trivial k s.w;simp only [List.getElem?_nil,Option.map_none] at hf;simp [Instr.lookup,run_underlying hT.und,hT.key.check,hf,hT.zero,kget]
 ·obtain ⟨b,es,clock,rfl,h2,h3,h4,h5⟩:=hM.is;have hf:=hT.key.find es _ h4 k s.w;have hlen:es.length=m.length:=by rw [h4.len,yLm]
  rw [y8p];cases hx:m[kidx (m.map (·.1)) k]? with
  | none=>
   have hge:m.length≤kidx (m.map (·.1)) k:=by simpa using hx
   rw [yGn (by omega),Option.map_none] at hf;refine⟨zv,hT.zrd s,?_⟩;simp [Instr.lookup,run_underlying hT.und,gobj h2,hT.key.check,hf,hT.zero]
  | some p=>
   obtain⟨hlt,-⟩:=yGs.1 hx;have hel:kidx (m.map (·.1)) k<es.length:=by omega
   rw [yGe hel,Option.map_some] at hf;refine⟨_,h5 _ _ p (yGe hel) hx,?_⟩;simp [Instr.lookup,run_underlying hT.und,gobj h2,hT.key.check,hf]
theorem L.ml2{x:Operand}{kd:IntKind}{r0:β→Int}(hT:Md P T kt et kv r z zv)(hM:MapA kv r s a m)(hr:∀s u v,r.rd s [u] v→u= .int kd (r0 v))(hw:Wt ops e g)(hx:Env.ev e x=some (Value.map a))(hy:Env.ev e y=some (kv k))(hd:Nat.blt d n=true)
  (h:L Φ P Q n ops os ((d,.tuple #[.int kd (r0 ((kget m k).getD z)),.bool (kget m k).isSome])::e) s.w):L Φ P Q n ops (⟨some d,.lookup T x y true,ty,pos,af,g⟩::os) e s.w:=by
 obtain⟨u,h1,h2⟩:=ye1 (k:=k) hT hM true;rw [hr _ _ _ h1] at h2;refine L.val hw hd (fun ac ha=>?_) h;simp only [execOp,ha.ev hx,ha.ev hy];simp [h2]
theorem L.mu{x q:Operand}{qv:Value}(hT:Md P T kt et kv r z zv)(hM:MapO kv r s t T' a cap m)(hv:r.rd s [qv] v)(ht0:0<t)(hkk:∀k k':κ,(k==k')=true→k=k')(hw:Wt ops e g)(hx:Env.ev e x=some (Value.map a))(hy:Env.ev e y=some (kv k))(hz:Env.ev e q=some qv)
  (h:∀s',Mv (One t) s s'→MapO kv r s' t T' a cap (kput m k v)→L Φ P Q n ops os e s'.w):L Φ P Q n ops (⟨none,.mapUpdate T x y q,ty,pos,af,g⟩::os) e s.w:=by
 obtain⟨b,es,clock,rfl,h2,h3,h4,h5⟩:=hM.is;have hf:=hT.key.find es _ h4 k s.w;have hlen:es.length=m.length:=by rw [h4.len,yLm]
 by_cases hlt:kidx (m.map (·.1)) k<m.length
 ·have hel:kidx (m.map (·.1)) k<es.length:=by omega
  have hkey:=h4.at _ hel (by simpa using hlt);have hbeq:(k==(m.map (·.1))[kidx (m.map (·.1)) k]'(by simpa using hlt))=true:=List.findIdx_getElem (p:=fun p=>k==p) (w:=by simpa [kidx] using hlt);have hst:=hT.key.stays k _ s.w hbeq;rw [←hkey] at hst;rw [yGe hel,Option.map_some] at hf;have hset:=y9d (s:=s) (t:=t) (es':=es.set (kidx (m.map (·.1)) k) { es[kidx (m.map (·.1)) k] with key:=kv k,val:=qv }) (clock':=clock) h2 h3;refine L.unit hw (w':={ s.w with heap:=s.w.heap.setIfInBounds b (.map (es.set (kidx (m.map (·.1)) k) { es[kidx (m.map (·.1)) k] with key:=kv k,val:=qv }).toArray clock) }) (fun ac ha=>?_) (h _ hset.1 ?_)
  ·simp [execOp,ha.ev hx,ha.ev hy,ha.ev hz,Instr.mapUpdate,run_underlying hT.und,gobj h2,hT.key.check,hf,hel,hst,sobj _ h2];rw [lmod _ (yGe hel)]
  ·have hk2:(m.map (·.1))[kidx (m.map (·.1)) k]'(by simpa using hlt)=k:=(hkk _ _ hbeq).symm;refine⟨hM.cap0,b,_,clock,rfl,hset.2,h3,?_,fun i f p hf' hp=>?_⟩
   ·rw [kput,iP hlt,List.map_set];exact h4.set rfl
   ·refine r.mono (hset.1.le (fun e0=>by have:0=t:=e0;omega)) ?_;rw [kput,iP hlt] at hp;by_cases hi:kidx (m.map (·.1)) k=i
    ·subst hi;rw [List.getElem?_set_self hel,yIj] at hf';rw [List.getElem?_set_self hlt,yIj] at hp;subst hf';subst hp;exact hv
    ·rw [List.getElem?_set_ne hi] at hf' hp;exact h5 i f p hf' hp
 ·rw [yGn (by omega),Option.map_none] at hf;have hset:=y9d (s:=s) (t:=t) (es':=es++[(⟨kv k,qv,clock⟩:MapEntry)]) (clock':=clock+1) h2 h3;refine L.unit hw (w':={ s.w with heap:=s.w.heap.setIfInBounds b (.map (es++[(⟨kv k,qv,clock⟩:MapEntry)]).toArray (clock+1)) }) (fun ac ha=>?_) (h _ hset.1 ?_)
  ·simp [execOp,ha.ev hx,ha.ev hy,ha.ev hz,Instr.mapUpdate,run_underlying hT.und,gobj h2,hT.key.check,hf,sobj _ h2]
  ·refine ⟨hM.cap0,b,_,clock+1,rfl,hset.2,h3,?_,fun i f p hf' hp=>?_⟩
   ·rw [kput,iN hlt,List.map_append];exact h4.push rfl
   ·refine r.mono (hset.1.le (fun e0=>by have:0=t:=e0;omega)) ?_;rw [kput,iN hlt] at hp;by_cases hi:i<es.length
    ·rw [yAl hi] at hf';rw [yAl (by omega)] at hp;exact h5 i f p hf' hp
    ·rw [yAr (by omega)] at hf';rw [yAr (by omega)] at hp;by_cases h0:i-es.length=0
     ·rw [h0] at hf';rw [show i-m.length=0 by omega] at hp;simp only [List.getElem?_cons_zero,yIj] at hf' hp;subst hf';subst hp;exact hv
     ·rw [yGn (by simp;omega)] at hf';cases hf'
theorem L.ins{x q:Operand}{qv:Value}(hT:Md P T kt et kv r z zv)(hM:MapO kv r s t T' a cap m)(hv:r.rd s [qv] v)(ht0:0<t)(hkk:∀k k':κ,(k==k')=true→k=k')(hw:Wt ops e g)(hx:Env.ev e x=some (Value.map a))(hy:Env.ev e y=some (kv k))(hz:Env.ev e q=some qv)
  (h:∀s',Mv (One t) s s'→MapO kv r s' t T' a cap (kput m k v)→L Φ P Q n ops os e s'.w):L Φ P Q n ops (⟨none,.insert T x y q,ty,pos,af,g⟩::os) e s.w:=by
 obtain⟨b,es,clock,rfl,h2,h3,h4,h5⟩:=hM.is;have hf:=hT.key.find es _ h4 k s.w;have hlen:es.length=m.length:=by rw [h4.len,yLm]
 by_cases hlt:kidx (m.map (·.1)) k<m.length
 ·have hel:kidx (m.map (·.1)) k<es.length:=by omega
  have hkey:=h4.at _ hel (by simpa using hlt);have hbeq:(k==(m.map (·.1))[kidx (m.map (·.1)) k]'(by simpa using hlt))=true:=List.findIdx_getElem (p:=fun p=>k==p) (w:=by simpa [kidx] using hlt);have hst:=hT.key.stays k _ s.w hbeq;rw [←hkey] at hst;rw [yGe hel,Option.map_some] at hf;have hset:=y9d (s:=s) (t:=t) (es':=es.set (kidx (m.map (·.1)) k) { es[kidx (m.map (·.1)) k] with key:=kv k,val:=qv }) (clock':=clock) h2 h3;refine L.unit hw (w':={ s.w with heap:=s.w.heap.setIfInBounds b (.map (es.set (kidx (m.map (·.1)) k) { es[kidx (m.map (·.1)) k] with key:=kv k,val:=qv }).toArray clock) }) (fun ac ha=>?_) (h _ hset.1 ?_)
  ·simp [execOp,ha.ev hx,ha.ev hy,ha.ev hz,Instr.mapUpdate,run_underlying hT.und,gobj h2,hT.key.check,hf,hel,hst,sobj _ h2];rw [lmod _ (yGe hel)]
  ·have hk2:(m.map (·.1))[kidx (m.map (·.1)) k]'(by simpa using hlt)=k:=(hkk _ _ hbeq).symm;refine⟨hM.cap0,b,_,clock,rfl,hset.2,h3,?_,fun i f p hf' hp=>?_⟩
   ·rw [kput,iP hlt,List.map_set];exact h4.set rfl
   ·refine r.mono (hset.1.le (fun e0=>by have:0=t:=e0;omega)) ?_;rw [kput,iP hlt] at hp;by_cases hi:kidx (m.map (·.1)) k=i
    ·subst hi;rw [List.getElem?_set_self hel,yIj] at hf';rw [List.getElem?_set_self hlt,yIj] at hp;subst hf';subst hp;exact hv
    ·rw [List.getElem?_set_ne hi] at hf' hp;exact h5 i f p hf' hp
 ·rw [yGn (by omega),Option.map_none] at hf;have hset:=y9d (s:=s) (t:=t) (es':=es++[(⟨kv k,qv,clock⟩:MapEntry)]) (clock':=clock+1) h2 h3;refine L.unit hw (w':={ s.w with heap:=s.w.heap.setIfInBounds b (.map (es++[(⟨kv k,qv,clock⟩:MapEntry)]).toArray (clock+1)) }) (fun ac ha=>?_) (h _ hset.1 ?_)
  ·simp [execOp,ha.ev hx,ha.ev hy,ha.ev hz,Instr.mapUpdate,run_underlying hT.und,gobj h2,hT.key.check,hf,sobj _ h2]
  ·refine ⟨hM.cap0,b,_,clock+1,rfl,hset.2,h3,?_,fun i f p hf' hp=>?_⟩
   ·rw [kput,iN hlt,List.map_append];exact h4.push rfl
   ·refine r.mono (hset.1.le (fun e0=>by have:0=t:=e0;omega)) ?_;rw [kput,iN hlt] at hp;by_cases hi:i<es.length
    ·rw [yAl hi] at hf';rw [yAl (by omega)] at hp;exact h5 i f p hf' hp
    ·rw [yAr (by omega)] at hf';rw [yAr (by omega)] at hp;by_cases h0:i-es.length=0
     ·rw [h0] at hf';rw [show i-m.length=0 by omega] at hp;simp only [List.getElem?_cons_zero,yIj] at hf' hp;subst hf';subst hp;exact hv
     ·rw [yGn (by simp;omega)] at hf';cases hf'
theorem L.mi2{x:Operand}{kd:IntKind}{m:List (κ×Int)}{zi:Int}(hT:Md P T kt et kv (rK kd) zi zv)(hM:MapA kv (rK kd) s a m)(hw:Wt ops e g)(hx:Env.ev e x=some (Value.map a))(hy:Env.ev e y=some (kv k))(hd:Nat.blt d n=true)
  (h:L Φ P Q n ops os ((d,.tuple #[.int kd ((kget m k).getD zi),.bool (kget m k).isSome])::e) s.w):L Φ P Q n ops (⟨some d,.lookup T x y true,ty,pos,af,g⟩::os) e s.w:=
 L.ml2 (r0:=fun v=>v) hT hM (fun _ u v hu=>(List.cons.inj hu).1) hw hx hy hd h
theorem eqP{k k':Int×Int}(h:(k==k')=true):k=k':=by simpa using h
theorem KE.pair'{P:Program}{kt e:TypeId}(hu:P.underlying kt=some (.array 2 e))(hi:(P.info? e).isSome=true)(he:P.underlying e=some (.int .i64))(hc:P.cellsOf e=1)(hg:∀w,(Go.isAgg e).run P w= .ok false w):KE P kt kvP:=by
 obtain⟨i,hi⟩:=Option.isSome_iff_exists.1 hi;exact KE.pair hu hi he hc (funext hg)
end
theorem K6(h1:Env.get e t1=some v1)(h2:Env.get e t2=some v2)(h3:Env.get e t3=some v3)(h4:Env.get e t4=some v4)(h5:Env.get e t5=some v5)(h6:Env.get e t6=some v6):Kn e [(t1,v1),(t2,v2),(t3,v3),(t4,v4),(t5,v5),(t6,v6)]:=⟨h1,h2,h3,h4,h5,h6,trivial⟩
theorem K7(h1:Env.get e t1=some v1)(h2:Env.get e t2=some v2)(h3:Env.get e t3=some v3)(h4:Env.get e t4=some v4)(h5:Env.get e t5=some v5)(h6:Env.get e t6=some v6)(h7:Env.get e t7=some v7):Kn e [(t1,v1),(t2,v2),(t3,v3),(t4,v4),(t5,v5),(t6,v6),(t7,v7)]:=⟨h1,h2,h3,h4,h5,h6,h7,trivial⟩
theorem K8{t8:Nat}{v8:Value}(h1:Env.get e t1=some v1)(h2:Env.get e t2=some v2)(h3:Env.get e t3=some v3)(h4:Env.get e t4=some v4)(h5:Env.get e t5=some v5)(h6:Env.get e t6=some v6)(h7:Env.get e t7=some v7)(h8:Env.get e t8=some v8):Kn e [(t1,v1),(t2,v2),(t3,v3),(t4,v4),(t5,v5),(t6,v6),(t7,v7),(t8,v8)]:=⟨h1,h2,h3,h4,h5,h6,h7,h8,trivial⟩
theorem K9{t8:Nat}{v8:Value}{t9:Nat}{v9:Value}(h1:Env.get e t1=some v1)(h2:Env.get e t2=some v2)(h3:Env.get e t3=some v3)(h4:Env.get e t4=some v4)(h5:Env.get e t5=some v5)(h6:Env.get e t6=some v6)(h7:Env.get e t7=some v7)(h8:Env.get e t8=some v8)(h9:Env.get e t9=some v9):Kn e [(t1,v1),(t2,v2),(t3,v3),(t4,v4),(t5,v5),(t6,v6),(t7,v7),(t8,v8),(t9,v9)]:=⟨h1,h2,h3,h4,h5,h6,h7,h8,h9,trivial⟩
abbrev G(D:Nat→Bool)(e:List (Nat×Value))(k t:Nat)(v:Value):Prop:=D k=true→Env.get e t=some v
/-! Short names (press5.py). -/
theorem Y:Wt ops e none:=trivial
theorem R{α:Sort _}{a:α}:a=a:=rfl
theorem oi{a b:α}(h:some a=some b):a=b:=ySi h
theorem Mv.z{s s':Sig}(m:Mv No s s'):Le s s':=m.le no_No
theorem nb{i j:Nat}(h:Nat.ble i j=true):i≤j:=yNl h
abbrev qI :=rK .i64
abbrev qT :=rP qI (rP qI qI)
structure RowAt {α:Type} (r:Rep α) (s:Sig) (t:Nat) (T:TypeId) (b off cap:Nat) (cur:Array Value) (vs:List Value) (xs:List α):Prop where
 heap:s.w.heap[b]? =some (.cells cur T (0,0))
 tag:s.tag b=t
 cap:xs.length≤cap∧cap≤maxLen∧off+cap≤cur.size
 len:vs.length=xs.length
 cell:∀j (h:j<vs.length),cur[off+j]? =some vs[j]
 rd:∀j (h:j<vs.length) (h2:j<xs.length),r.rd s [vs[j]] xs[j]
section
variable{α β:Type}{r:Rep α}{s:Sig}{t:Nat}{T:TypeId}{a:Option Addr}{cap:Nat}{xs ys:List α}
theorem RowT.seen(h:RowT r s t T a cap xs)(h1:r.sz=1):(a=none∧cap=0∧xs= [])∨∃b off cur vs,a=some ⟨b,off,none⟩∧RowAt r s t T b off cap cur vs xs:=by
 obtain⟨cs,⟨hl,hrow⟩,hc⟩:=h;rw [h1,Nat.mul_one] at hl;rcases hrow with ⟨e,hn⟩|⟨b,off,cap',cur,e,ho,k1,k2,k3,k4⟩
 ·simp only [Value.slice.injEq] at e;exact .inl ⟨e.1,e.2.2,yLz hn⟩
 ·simp only [Value.slice.injEq,true_and] at e;obtain⟨rfl,rfl⟩:=e;rw [h1,Nat.mul_one] at k3 k4;refine .inr ⟨b,off,cur,cs,rfl,ho.heap,ho.htag,⟨k1,k2,k3⟩,hl,fun j hj=>?_,fun j hj hj2=>?_⟩
  ·have e2:cs[j]? =cur.toList[off+j]? :=by rw [←k4,List.getElem?_take,iP (by omega),List.getElem?_drop]
   rw [yGe hj] at e2;rw [←Array.getElem?_toList];exact e2.symm
  ·have:=hc.at j hj2;rw [h1,Nat.mul_one,yDc hj] at this;exact this
theorem Cells.of{s:Sig}(h1:r.sz=1):∀{cs:List Value} {xs:List α},cs.length=xs.length→(∀j (h:j<cs.length) (h2:j<xs.length),r.rd s [cs[j]] xs[j])→Cells r s cs xs
 | [],[],_,_=>rfl
 | [],_::_,h,_=>by cases h
 | _::_,[],h,_=>by cases h
 | c::cs,x::xs,h,hr=>⟨[c],cs,rfl,hr 0 (by simp) (by simp),Cells.of h1 (by simpa using h) fun j hj hj2=>hr (j+1) (by simpa using hj) (by simpa using hj2)⟩
end
section
variable{α:Type}{r:Rep α}{T:TypeId}{s s':Sig}{v:Value}{x:Option α}{y:α}
def PtO(r:Rep α)(T:TypeId)(s:Sig)(v:Value)(x:Option α):Prop:=match x with
 | none=>v= .pointer none
 | some y=>∃b ds,v= .pointer (some ⟨b,0,none⟩)∧Bx s 0 b ds.toArray T∧r.rd s ds y
theorem PtO.some(h:PtO r T s v x)(e:x=some y):∃b ds,v= .pointer (some ⟨b,0,none⟩)∧Bx s 0 b ds.toArray T∧r.rd s ds y:=by
 subst e;exact h
end
def kvI(x:Int):Value:= .int .i64 x
section
variable{Φ:Fr}{P:Program}{Q:Exit→Act→World→Prop}{n:Nat}{e:List (Nat×Value)}{s:Sig}{ops:Array Oper}{os:List Oper}{d:Nat}{ty:TypeId}{pos:String}{af:Array Edge}{g:Option (Nat×Bool)}
variable{κ:Type}[BEq κ]{kv:κ→Value}{T kt et:TypeId}{a:Option Nat}{m:List (κ×Bool)}{k:κ}{zv:Value}{zi:Bool}
theorem L.mb{x:Operand}(hT:Md P T kt et kv rB zi zv)(hM:MapA kv rB s a m)(hw:Wt ops e g)(hx:Env.ev e x=some (Value.map a))(hy:Env.ev e y=some (kv k))(hd:Nat.blt d n=true)
  (h:L Φ P Q n ops os ((d,.bool ((kget m k).getD zi))::e) s.w):L Φ P Q n ops (⟨some d,.lookup T x y false,ty,pos,af,g⟩::os) e s.w:=by
 obtain⟨u,h1,h2⟩:=ye1 (k:=k) hT hM false;have h1:u= .bool ((kget m k).getD zi):=(List.cons.inj h1).1;rw [h1] at h2;refine L.val hw hd (fun ac ha=>?_) h;simp only [execOp,ha.ev hx,ha.ev hy];simp [h2]
end
structure LV where
 p:(Nat→Value)→Sig→Value→Prop
 refs:List Nat
 hd:Option Nat
 pt:Option (Nat×Nat)
 mono:∀{β β' s s' v},(∀i,i∈refs→β' i=β i)→Le s s'→p β s v→p β' s' v
 hdp:∀{i β s v},hd=some i→p β s v→v=β i
 ptp:∀{i o β s v},pt=some (i,o)→p β s v→∃b,β i= .pointer (some ⟨b,0,none⟩)∧v= .pointer (some ⟨b,o,none⟩)
 one:∀{β s v},p β s v→v.oneCell'=true
def All2(β:Nat→Value)(s:Sig):List LV→List Value→Prop
 | [],vs=>vs= []
 | x::xs,vs=>∃v us,x.p β s v∧All2 β s xs us∧vs=v::us
def refsL :List LV→List Nat
 | []=> []
 | x::xs=>x.refs++refsL xs
section
variable{β β':Nat→Value}{s s':Sig}
theorem All2.mono(hl:Le s s'):∀{l:List LV} {vs:List Value},(∀i,i∈refsL l→β' i=β i)→All2 β s l vs→All2 β' s' l vs
 | [],_,_,h=>h
 | _::_,_,hb,⟨v,us,h1,h2,e⟩=>⟨v,us,LV.mono _ (fun i hi=>hb i (yMl _ hi)) hl h1,All2.mono hl (fun i hi=>hb i (yMr _ hi)) h2,e⟩
theorem All2.len :∀{l:List LV} {vs:List Value},All2 β s l vs→vs.length=l.length
 | [],_,h=>by rw [show _= [] from h];rfl
 | _::_,_,⟨v,us,_,h2,e⟩=>by rw [e,yLc,h2.len,yLc]
theorem All2.one :∀{l:List LV} {vs:List Value},All2 β s l vs→vs.all Value.oneCell'=true
 | [],_,h=>by rw [show _= [] from h];rfl
 | x::_,_,⟨v,us,h1,h2,e⟩=>by rw [e,List.all_cons,x.one h1,h2.one];rfl
theorem All2.get :∀{l:List LV} {vs:List Value},All2 β s l vs→∀{i:Nat} {x:LV},l[i]? =some x→∃v,vs[i]? =some v∧x.p β s v
 | [],_,_,_,_,h=>by cases h
 | _::_,_,⟨v,us,h1,h2,e⟩,0,x,h=>by cases h;exact⟨v,by rw [e];rfl,h1⟩
 | _::_,_,⟨v,us,h1,h2,e⟩,i+1,x,h=>by
  obtain⟨u,g1,g2⟩:=h2.get (i:=i) (by simpa using h);exact⟨u,by rw [e];simpa using g1,g2⟩
theorem All2.append :∀{l l':List LV} {vs us:List Value},All2 β s l vs→All2 β s l' us→All2 β s (l++l') (vs++us)
 | [],_,_,_,h,h2=>by rw [show _= [] from h];exact h2
 | _::_,_,_,_,⟨v,us,h1,h2,e⟩,h3=>⟨v,_,h1,h2.append h3,by rw [e];rfl⟩
theorem All2.drop :∀(k:Nat) {l:List LV} {vs:List Value},All2 β s l vs→All2 β s (l.drop k) (vs.drop k)
 | 0,_,_,h=>h
 | _+1,[],_,h=>by rw [show _= [] from h];rfl
 | k+1,_::_,_,⟨v,us,h1,h2,e⟩=>by rw [e];exact h2.drop k
theorem All2.take :∀(k:Nat) {l:List LV} {vs:List Value},All2 β s l vs→All2 β s (l.take k) (vs.take k)
 | 0,_,_,_=>rfl
 | _+1,[],_,h=>by rw [show _= [] from h];rfl
 | k+1,_::_,_,⟨v,us,h1,h2,e⟩=>by rw [e];exact⟨v,_,h1,h2.take k,rfl⟩
theorem All2.split :∀{l l':List LV} {vs:List Value},All2 β s (l++l') vs→∃us ws,vs=us++ws∧All2 β s l us∧All2 β s l' ws
 | [],_,vs,h=>⟨[],vs,rfl,rfl,h⟩
 | _::_,_,_,⟨v,us,h1,h2,e⟩=>by
  obtain⟨a,b,g1,g2,g3⟩:=h2.split;exact⟨v::a,b,by rw [e,g1];rfl,⟨v,a,h1,g2,rfl⟩,g3⟩
end
def lV(u:Value):LV:=⟨fun _ _ v=>v=u∧u.oneCell'=true,[],none,none,fun _ _ h=>h,nofun,nofun,fun h=>h.1▸h.2⟩
abbrev lI(n:Int):LV:=lV (.int .i64 n)
abbrev lB(b:Bool):LV:=lV (.bool b)
def lU :LV:=⟨fun _ _ v=>v.oneCell'=true,[],none,none,fun _ _ h=>h,nofun,nofun,id⟩
def lF{α:Type}(r:Rep α)(xs:List α):LV:=⟨fun _ s v=>∃a c,v= .slice a xs.length c∧RdL r s a c xs,[],none,none,fun _ hl ⟨a,c,e,h⟩=>⟨a,c,e,h.mono hl⟩,nofun,nofun,fun⟨_,_,e,_⟩=>by rw [e];rfl⟩
def lH(i:Nat):LV:=⟨fun β _ v=>v=β i∧v.oneCell'=true,[i],some i,none,fun hb _ h=>⟨h.1.trans (hb _ (.head _)).symm,h.2⟩,fun e h=>by cases e;exact h.1,nofun,fun h=>h.2⟩
def lP(i off:Nat):LV:=⟨fun β _ v=>∃b,β i= .pointer (some ⟨b,0,none⟩)∧v= .pointer (some ⟨b,off,none⟩),[i],none,some (i,off),fun hb _ ⟨b,e,h⟩=>⟨b,(hb _ (.head _)).trans e,h⟩,nofun,fun e h=>by cases e;exact h,fun⟨_,_,e⟩=>by rw [e];rfl⟩
def lE{α:Type}(r:Rep α)(x:α)(off:Nat):LV:=⟨fun _ s v=>∃b o cs,Mem s 0 b o cs∧r.rd s cs x∧v= .pointer (some ⟨b,o+off,none⟩),[],none,none,fun _ hl ⟨b,o,cs,h1,h2,e⟩=>⟨b,o,cs,h1.le hl,r.mono hl h2,e⟩,nofun,nofun,fun⟨_,_,_,_,_,e⟩=>by rw [e];rfl⟩
def lR(i sz j off:Nat):LV:=⟨fun β _ v=>∃b o a n c,β i= .slice a n c∧Spot a sz j b o∧v= .pointer (some ⟨b,o+off,none⟩),[i],none,none,fun hb _ ⟨b,o,a,n,c,e,h1,h⟩=>⟨b,o,a,n,c,(hb _ (.head _)).trans e,h1,h⟩,nofun,nofun,fun⟨_,_,_,_,_,_,_,e⟩=>by rw [e];rfl⟩
def lQ(T:TypeId)(l:List LV)(off:Nat):LV:=⟨fun β s v=>∃(b:Nat) (vs:List Value),Bx s 0 b vs.toArray T∧All2 β s l vs∧v= .pointer (some ⟨b,off,none⟩),refsL l,none,none,fun hb hl ⟨b,vs,h1,h2,e⟩=>⟨b,vs,h1.le hl,h2.mono hl hb,e⟩,nofun,nofun,fun⟨_,_,_,_,e⟩=>by rw [e];rfl⟩
structure TV where
 g:Bool
 l:List LV
def TV.p(β:Nat→Value)(s:Sig)(v:Value):TV→Prop
 | ⟨false,[x]⟩=>x.p β s v
 | ⟨false,_⟩=>False
 | ⟨true,l⟩=>∃vs,All2 β s l vs∧v= .agg vs.toArray
inductive SV
 | v (x:TV)
 | tp (l:List TV)
 | u
def All3(β:Nat→Value)(s:Sig):List TV→List Value→Prop
 | [],vs=>vs= []
 | x::xs,vs=>∃v us,x.p β s v∧All3 β s xs us∧vs=v::us
def SV.p(β:Nat→Value)(s:Sig)(v:Value):SV→Prop
 | .v x=>x.p β s v
 | .tp l=>∃vs,All3 β s l vs∧v= .tuple vs.toArray
 | .u=>True
def refsT :List TV→List Nat
 | []=> []
 | x::xs=>refsL x.l++refsT xs
def SV.refs :SV→List Nat
 | .v x=>refsL x.l
 | .tp l=>refsT l
 | .u=> []
section
variable{β β':Nat→Value}{s s':Sig}{v:Value}
theorem TV.mono(hl:Le s s'):∀{x:TV},(∀i,i∈refsL x.l→β' i=β i)→x.p β s v→x.p β' s' v
 | ⟨false,[x]⟩,hb,h=>x.mono (fun i hi=>hb i (yMl _ hi)) hl h
 | ⟨false,[]⟩,_,h=>h
 | ⟨false,_::_::_⟩,_,h=>h
 | ⟨true,_⟩,hb,⟨vs,h,e⟩=>⟨vs,h.mono hl hb,e⟩
theorem All3.mono(hl:Le s s'):∀{l:List TV} {vs:List Value},(∀i,i∈refsT l→β' i=β i)→All3 β s l vs→All3 β' s' l vs
 | [],_,_,h=>h
 | _::_,_,hb,⟨v,us,h1,h2,e⟩=>⟨v,us,TV.mono hl (fun i hi=>hb i (yMl _ hi)) h1,All3.mono hl (fun i hi=>hb i (yMr _ hi)) h2,e⟩
theorem SV.mono(hl:Le s s'):∀{x:SV},(∀i,i∈x.refs→β' i=β i)→x.p β s v→x.p β' s' v
 | .v _,hb,h=>TV.mono hl hb h
 | .tp _,hb,⟨vs,h,e⟩=>⟨vs,h.mono hl hb,e⟩
 | .u,_,_=>trivial
theorem TV.cells :∀{x:TV},x.p β s v→All2 β s x.l v.cells.toList
 | ⟨false,[x]⟩,h=>⟨v,[],h,rfl,by
   have:=x.one h;cases v <;> first | rfl|(simp [Value.oneCell'] at this)⟩
 | ⟨false,[]⟩,h=>h.elim
 | ⟨false,_::_::_⟩,h=>h.elim
 | ⟨true,_⟩,⟨vs,h,e⟩=>by rw [e];simpa [Value.cells] using h
end
@[reducible] def sL(x:LV):SV:= .v ⟨false,[x]⟩
@[reducible] def AG(l:List LV):SV:= .v ⟨true,l⟩
@[reducible] def VL(u:Value):SV:=sL (lV u)
structure HO where
 p:Sig→Nat→Value→Prop
 fz:LV
 mv:∀{s s' t h S},Mv S s s'→¬S t→¬S 0→p s t h→p s' t h
 mvt:∀{s s' t t' h},Le s s'→s'.w=s.w→(∀b,s.tag b=t→s'.tag b=t')→p s t h→p s' t' h
 fzp:∀{s h},p s 0 h→∀β,fz.p β s h
inductive Ob
 | hp (o:HO)
 | bx (T:TypeId) (l:List LV)
 | u
def Ob.p(β:Nat→Value)(s:Sig)(t:Nat)(h:Value):Ob→Prop
 | .hp o=>o.p s t h
 | .bx T l=>∃(b:Nat) (vs:List Value),h= .pointer (some ⟨b,0,none⟩)∧Bx s t b vs.toArray T∧All2 β s l vs
 | .u=>True
def Ob.refs :Ob→List Nat
 | .hp _=> []
 | .bx _ l=>refsL l
 | .u=> []
section
variable{β β':Nat→Value}{s s':Sig}{t t':Nat}{h:Value}{S:Nat→Prop}
theorem Ob.mv(m:Mv S s s')(ht:¬S t)(h0:¬S 0):∀{o:Ob},(∀i,i∈o.refs→β' i=β i)→o.p β s t h→o.p β' s' t h
 | .hp o,_,g=>o.mv m ht h0 g
 | .bx _ _,hb,⟨b,vs,e,h1,h2⟩=>⟨b,vs,e,h1.mv m ht,h2.mono (m.le h0) hb⟩
 | .u,_,_=>trivial
theorem Ob.as(hl:Le s s')(hw:s'.w=s.w)(ht:∀b,s.tag b=t→s'.tag b=t'):∀{o:Ob},(∀i,i∈o.refs→β' i=β i)→o.p β s t h→o.p β' s' t' h
 | .hp o,_,g=>o.mvt hl hw ht g
 | .bx _ _,hb,⟨b,vs,e,h1,h2⟩=>⟨b,vs,e,⟨by rw [hw];exact h1.heap,ht _ h1.htag⟩,h2.mono hl hb⟩
 | .u,_,_=>trivial
end
theorem RowT.rd0{r:Rep α}{s:Sig}{T:TypeId}{a:Option Addr}{xs:List α}(h:RowT r s 0 T a cap xs):RdL r s a cap xs:=h.rd (Le.refl _) rfl fun _ e=>e
def ROW{α:Type}(r:Rep α)(T:TypeId)(xs:List α):Ob:= .hp ⟨fun s t h=>∃a c,h= .slice a xs.length c∧RowT r s t T a c xs,lF r xs,
 fun m ht h0 ⟨a,c,e,h⟩=>⟨a,c,e,h.mv m ht h0⟩,fun hl hw ht ⟨a,c,e,h⟩=>⟨a,c,e,h.as hl hw ht⟩,fun⟨a,c,e,h⟩ _=>⟨a,c,e,h.rd0⟩⟩
structure Sx where
 sl:List (Nat×SV)
 ob:List (Nat×Ob)
 n:Nat
def aget{α:Type}:List (Nat×α)→Nat→Option α
 | [],_=>none
 | (i,v)::e,d=>cond (Nat.beq i d) (some v) (aget e d)
theorem yf{l:List (Nat×α)}{i:Nat}{v x:α}(h:aget ((i,v)::l) d=some x):(i=d∧v=x)∨(i≠d∧aget l d=some x):=by
 simp only [aget] at h;by_cases hb:Nat.beq i d=true
 ·rw [hb,cond_true,yIj] at h;exact .inl ⟨yNb hb,h⟩
 ·have hb':Nat.beq i d=false:=by cases h0:Nat.beq i d <;> simp_all
  rw [hb',cond_false] at h;exact .inr ⟨fun e=>hb (by rw [e,Nat.beq_refl]),h⟩
structure Kx where
 m:Nat
 S:List Nat
structure Cx where
 s0:Sig
 N:Nat
 ts:List Nat
 b0:Nat→Value
def Cx.tg(C:Cx)(i:Nat):Nat:=C.ts.getD i (C.N+i)
def Cx.Up(C:Cx)(K:Kx):Nat→Prop:=fun t=>C.N≤t∨∃i,i∈K.S∧C.ts[i]? =some t
structure Cx.Ok (C:Cx) (K:Kx):Prop where
 len:C.ts.length=K.m
 N0:0<C.N
 old:∀b,b<C.s0.w.heap.size→C.s0.tag b<C.N
 pos:∀t,t∈C.ts→0<t
 lt:∀t,t∈C.ts→t<C.N
 nd:C.ts.Nodup
section
variable{C:Cx}{K:Kx}
theorem Cx.tg_lt{i:Nat}(h:i<C.ts.length):C.tg i=C.ts[i]:=by simp [Cx.tg,yGd,h]
theorem Cx.tg_ge{i:Nat}(h:C.ts.length≤i):C.tg i=C.N+i:=by simp [Cx.tg,yGd,yGn h]
theorem Cx.Ok.inj(k:C.Ok K){i j:Nat}(e:C.tg i=C.tg j):i=j:=by
 rcases Nat.lt_or_ge i C.ts.length with hi|hi <;> rcases Nat.lt_or_ge j C.ts.length with hj|hj
 ·rw [Cx.tg_lt hi,Cx.tg_lt hj] at e;exact(List.getElem_inj k.nd).1 e
 ·rw [Cx.tg_lt hi,Cx.tg_ge hj] at e;have:=k.lt _ (yGm hi);omega
 ·rw [Cx.tg_ge hi,Cx.tg_lt hj] at e;have:=k.lt _ (yGm hj);omega
 ·rw [Cx.tg_ge hi,Cx.tg_ge hj] at e;omega
theorem Cx.Ok.tpos(k:C.Ok K)(i:Nat):0<C.tg i:=by
 rcases Nat.lt_or_ge i C.ts.length with hi|hi
 ·rw [Cx.tg_lt hi];exact k.pos _ (yGm hi)
 ·rw [Cx.tg_ge hi];have:=k.N0;omega
def Kx.may(K:Kx)(i:Nat):Bool:=Nat.ble K.m i||K.S.contains i
theorem Cx.Ok.up(k:C.Ok K){i:Nat}(h:K.may i=true):C.Up K (C.tg i):=by
 rcases Nat.lt_or_ge i C.ts.length with hi|hi
 ·rcases Bool.or_eq_true_iff.1 h with h|h
  ·have:=yNl h;have:=k.len;omega
  ·refine .inr ⟨i,List.contains_iff_mem.1 h,?_⟩;rw [Cx.tg_lt hi,yGe hi]
 ·rw [Cx.tg_ge hi];exact .inl (Nat.le_add_right _ _)
end
structure Den (K:Kx) (C:Cx) (σ:Sx) (β:Nat→Value) (s:Sig) (e:List (Nat×Value)):Prop where
 ok:C.Ok K
 mv:Mv (C.Up K) C.s0 s
 b0:∀i,i<K.m→β i=C.b0 i
 m:K.m≤σ.n
 sl:∀d x,aget σ.sl d=some x→∃v,Env.get e d=some v∧x.p β s v
 ob:∀i o,aget σ.ob i=some o→o.p β s (C.tg i) (β i)
 fs:∀d x,aget σ.sl d=some x→∀i,i∈x.refs→i<σ.n
 fo:∀i o,aget σ.ob i=some o→i<σ.n∧∀j,j∈o.refs→j<σ.n
structure Eff where
 dst:Option (Nat×SV)
 ob:List (Nat×Ob)
 nx:Option Nat
def Eff.n(f:Eff)(n:Nat):Nat:=match f.nx with
 | none=>n
 | some k=>k
def Sx.eff(σ:Sx)(f:Eff):Sx:=⟨match f.dst with | none=>σ.sl|some p=>p::σ.sl,f.ob++σ.ob,f.n σ.n⟩
theorem y9y{x:Ob}:∀{f l:List (Nat×Ob)},aget (f++l) d=some x→(d,x)∈f∨((∀o,(d,o)∉f)∧aget l d=some x)
 | [],l,h=> .inr ⟨fun _=>List.not_mem_nil,h⟩
 | (i,o)::f,l,h=>by
  rcases yf (show aget ((i,o)::(f++l)) d=some x from h) with ⟨rfl,rfl⟩|⟨hne,h2⟩
  ·exact .inl (.head _)
  ·rcases y9y h2 with g|⟨g1,g2⟩
   ·exact .inl (.tail _ g)
   ·refine .inr ⟨fun o' hm=>?_,g2⟩;rcases yMo.1 hm with e|hm
    ·cases e;exact hne rfl
    ·exact g1 _ hm
def Eff.T(f:Eff)(C:Cx):Nat→Prop:=fun t=>∃i o,(i,o)∈f.ob∧t=C.tg i
def ltA(n:Nat)(l:List Nat):Bool:=l.all fun i=>Nat.blt i n
theorem y4s{n:Nat}{l:List Nat}(h:ltA n l=true){i:Nat}(hi:i∈l):i<n:=by
 have:=yAt.1 h i hi;simpa using this
def Eff.ok(f:Eff)(K:Kx)(n:Nat):Bool:=Nat.ble n (f.n n)&&(f.ob.all fun p=>K.may p.1&&(Nat.blt p.1 (f.n n)&&ltA (f.n n) p.2.refs))&&match f.dst with
 | none=>true
 | some (_,x)=>ltA (f.n n) x.refs
structure Aft (C:Cx) (f:Eff) (n:Nat) (β β':Nat→Value) (s s':Sig) (e e':List (Nat×Value)):Prop where
 hd:∀i,i<n→β' i=β i
 hn:∀i,(∀o,(i,o)∉f.ob)→β' i=β i
 mv:Mv (f.T C) s s'
 sl:∀d,(∀x,f.dst≠some (d,x))→Env.get e' d=Env.get e d
 dst:∀d x,f.dst=some (d,x)→∃v,Env.get e' d=some v∧x.p β' s' v
 ob:∀i o,(i,o)∈f.ob→o.p β' s' (C.tg i) (β' i)
section
variable{K:Kx}{C:Cx}{σ:Sx}{β β':Nat→Value}{s s':Sig}{e e':List (Nat×Value)}{f:Eff}
theorem Eff.T0(k:C.Ok K):¬f.T C 0:=fun⟨i,_,_,e⟩=>by have:=k.tpos i;omega
theorem Eff.Tn(k:C.Ok K){i:Nat}(h:∀o,(i,o)∉f.ob):¬f.T C (C.tg i):=fun⟨j,o,hm,e⟩=>by
 have:=k.inj e;subst this;exact h o hm
theorem Den.eff(h:Den K C σ β s e)(a:Aft C f σ.n β β' s s' e e')(hk:f.ok K σ.n=true):Den K C (σ.eff f) β' s' e':=by
 have hl:Le s s':=a.mv.le (Eff.T0 h.ok);simp only [Eff.ok,yAe] at hk;obtain⟨⟨hk0,hk1⟩,hk2⟩:=hk;have hn:σ.n≤f.n σ.n:=yNl hk0;have hm:=h.m;have hob:∀i o,(i,o)∈f.ob→K.may i=true∧i<f.n σ.n∧∀j,j∈o.refs→j<f.n σ.n:=fun i o hm=>by
  have:=yAt.1 hk1 _ hm;simp only [yAe] at this;exact⟨this.1,by simpa using this.2.1,fun j hj=>y4s this.2.2 hj⟩
 have hsl:∀d x,aget (σ.eff f).sl d=some x→(f.dst=some (d,x))∨((∀y,f.dst≠some (d,y))∧aget σ.sl d=some x):=fun d x hx=>by
  cases hd:f.dst with
  | none=>simp only [Sx.eff,hd] at hx;exact .inr ⟨fun y e=>(by cases e),hx⟩
  | some p=>
   obtain⟨d',y⟩:=p;simp only [Sx.eff,hd] at hx;rcases yf hx with ⟨rfl,rfl⟩|⟨hne,hx⟩
   ·exact .inl rfl
   ·exact .inr ⟨fun y' e=>(by cases e;exact hne rfl),hx⟩
 refine⟨h.ok,h.mv.trans (a.mv.weak fun t ⟨i,o,hm,e⟩=>e▸h.ok.up (hob i o hm).1),fun i hi=>(a.hd i (by omega)).trans (h.b0 i hi),Nat.le_trans hm hn,fun d x hx=>?_,fun i o ho=>?_,fun d x hx i hi=>?_,fun i o ho=>?_⟩
 ·rcases hsl d x hx with g|⟨g1,g2⟩
  ·exact a.dst d x g
  ·rw [a.sl d g1];obtain⟨v,g3,g4⟩:=h.sl d x g2;exact⟨v,g3,SV.mono hl (fun i hi=>a.hd i (h.fs d x g2 i hi)) g4⟩
 ·rcases y9y ho with g|⟨g1,g2⟩
  ·exact a.ob i o g
  ·rw [a.hn i g1];exact Ob.mv a.mv (Eff.Tn h.ok g1) (Eff.T0 h.ok) (fun j hj=>a.hd j ((h.fo i o g2).2 j hj)) (h.ob i o g2)
 ·rcases hsl d x hx with g|⟨_,g2⟩
  ·rw [g] at hk2;exact y4s hk2 hi
  ·exact Nat.lt_of_lt_of_le (h.fs d x g2 i hi) hn
 ·rcases y9y ho with g|⟨_,g2⟩
  ·exact (hob i o g).2
  ·obtain ⟨g3,g4⟩:=h.fo i o g2;exact⟨Nat.lt_of_lt_of_le g3 hn,fun j hj=>Nat.lt_of_lt_of_le (g4 j hj) hn⟩
def agets{α:Type}(l:List (Nat×α)):List (Nat×α)→List (Option α)
 | []=> []
 | p::ps=>aget l p.1::agets l ps
def asays{α:Type}:List (Nat×α)→List (Option α)
 | []=> []
 | p::ps=>some p.2::asays ps
theorem ye2{l:List (Nat×α)}:∀{l':List (Nat×α)},agets l l'=asays l'→∀d x,aget l' d=some x→aget l d=some x
 | [],_,_,_,h=>by cases h
 | (i,v)::l',h,d,x,hx=>by
  obtain⟨h1,h2⟩:=List.cons.inj h;rcases yf hx with ⟨rfl,rfl⟩|⟨_,hx⟩
  ·exact h1
  ·exact ye2 h2 d x hx
end
/-! A state seen by other numbers of objects. -/
def LV.ren(μ:Nat→Nat)(x:LV):LV:=match x.refs with
 | []=>x
 | _=>⟨fun β s v=>x.p (fun i=>β (μ i)) s v,x.refs.map μ,x.hd.map μ,x.pt.map fun p=>(μ p.1,p.2),fun hb hl h=>x.mono (fun i hi=>hb (μ i) (List.mem_map_of_mem hi)) hl h,
  fun e h=>by
   obtain⟨j,hh,rfl⟩:=Option.map_eq_some_iff.1 e;have q:=x.hdp hh h;exact q,
  fun e h=>by
   obtain⟨⟨j,o⟩,hh,hh2⟩:=Option.map_eq_some_iff.1 e;cases hh2;have q:=x.ptp hh h;exact q,fun h=>x.one h⟩
theorem LV.ren_p{x:LV}{β:Nat→Value}{s:Sig}{v:Value}(h:(x.ren μ).p β s v):x.p (fun i=>β (μ i)) s v:=by
 unfold LV.ren at h;split at h
 ·rename_i hr;exact x.mono (fun i hi=>by rw [hr] at hi;cases hi) (Le.refl _) h
 ·exact h
def TV.ren(μ:Nat→Nat)(x:TV):TV:=⟨x.g,x.l.map (LV.ren μ)⟩
def SV.ren(μ:Nat→Nat):SV→SV
 | .v x=> .v (x.ren μ)
 | .tp l=> .tp (l.map (TV.ren μ))
 | .u=> .u
def Ob.ren(μ:Nat→Nat):Ob→Ob
 | .hp o=> .hp o
 | .bx T l=> .bx T (l.map (LV.ren μ))
 | .u=> .u
section
variable{μ:Nat→Nat}{β:Nat→Value}{s:Sig}{v:Value}
theorem All2.ren :∀{l:List LV} {vs:List Value},All2 β s (l.map (LV.ren μ)) vs→All2 (fun i=>β (μ i)) s l vs
 | [],_,h=>h
 | _::_,_,⟨v,us,h1,h2,e⟩=>⟨v,us,LV.ren_p h1,h2.ren,e⟩
theorem TV.ren_p :∀{x:TV},(x.ren μ).p β s v→x.p (fun i=>β (μ i)) s v
 | ⟨false,[x]⟩,h=>LV.ren_p (x:=x) h
 | ⟨false,[]⟩,h=>h.elim
 | ⟨false,_::_::_⟩,h=>h.elim
 | ⟨true,_⟩,⟨vs,h,e⟩=>⟨vs,h.ren,e⟩
theorem All3.ren :∀{l:List TV} {vs:List Value},All3 β s (l.map (TV.ren μ)) vs→All3 (fun i=>β (μ i)) s l vs
 | [],_,h=>h
 | _::_,_,⟨v,us,h1,h2,e⟩=>⟨v,us,TV.ren_p h1,h2.ren,e⟩
theorem SV.ren_p :∀{x:SV},(x.ren μ).p β s v→x.p (fun i=>β (μ i)) s v
 | .v _,h=>TV.ren_p h
 | .tp _,⟨vs,h,e⟩=>⟨vs,h.ren,e⟩
 | .u,_=>trivial
theorem Ob.ren_p{t:Nat}{h:Value}:∀{o:Ob},(o.ren μ).p β s t h→o.p (fun i=>β (μ i)) s t h
 | .hp _,h=>h
 | .bx _ _,⟨b,vs,e,h1,h2⟩=>⟨b,vs,e,h1,h2.ren⟩
 | .u,_=>trivial
end
def renS(μ:Nat→Nat):List (Nat×SV)→List (Nat×SV)
 | []=> []
 | (d,x)::l=>(d,x.ren μ)::renS μ l
def renO(μ:Nat→Nat):List (Nat×Ob)→List (Nat×Ob)
 | []=> []
 | (d,x)::l=>(μ d,x.ren μ)::renO μ l
theorem ye3{x:SV}:∀{l:List (Nat×SV)},aget l d=some x→aget (renS μ l) d=some (x.ren μ)
 | [],h=>by cases h
 | (i,y)::l,h=>by
  rcases yf h with ⟨rfl,rfl⟩|⟨hne,h2⟩
  ·simp [renS,aget]
  ·simp only [renS,aget];have:Nat.beq i d=false:=by cases h0:Nat.beq i d with | false=>rfl|true=>exact absurd (yNb h0) hne
   rw [this];exact ye3 h2
theorem ydb{l:List (Nat×Ob)}:∀{l':List (Nat×Ob)},agets l l'=asays l'→∀d x,(d,x)∈l'→aget l d=some x
 | [],_,_,_,h=>by cases h
 | (i,v)::l',h,d,x,hx=>by
  obtain⟨h1,h2⟩:=List.cons.inj h;rcases yMo.1 hx with e|hx
  ·cases e;exact h1
  ·exact ydb h2 d x hx
theorem ye4{x:Ob}:∀{l:List (Nat×Ob)},aget l d=some x→(μ d,x.ren μ)∈renO μ l
 | [],h=>by cases h
 | (i,y)::l,h=>by
  rcases yf h with ⟨rfl,rfl⟩|⟨_,h2⟩
  ·exact .head _
  ·exact .tail _ (ye4 h2)
def mapN :List (Nat×Nat)→Nat→Nat
 | [],i=>i
 | (a,b)::l,i=>cond (Nat.beq a i) b (mapN l i)
def Sx.le(τ σ:Sx)(l:List (Nat×Nat)):Prop:=(agets σ.sl (renS (mapN l) τ.sl),agets σ.ob (renO (mapN l) τ.ob))=(asays (renS (mapN l) τ.sl),asays (renO (mapN l) τ.ob))
def refsA :List (Nat×SV)→List Nat
 | []=> []
 | (_,x)::l=>x.refs++refsA l
def refsB :List (Nat×Ob)→List Nat
 | []=> []
 | (i,x)::l=>i::x.refs++refsB l
def yaG :List Nat→Bool
 | []=>true
 | x::l=>!l.contains x&&yaG l
theorem y7p :∀{l:List Nat},yaG l=true→l.Nodup
 | [],_=>List.nodup_nil
 | x::l,h=>by
  obtain⟨h1,h2⟩:=Bool.and_eq_true_iff.1 h;exact List.nodup_cons.2 ⟨by simpa using h1,y7p h2⟩
def keysO :List (Nat×Ob)→List Nat
 | []=> []
 | (i,_)::l=>i::keysO l
def Sx.fit(τ:Sx)(K:Kx)(l:List (Nat×Nat)):Bool:=(ltA τ.n (refsA τ.sl)&&(ltA τ.n (refsB τ.ob)&&Nat.ble K.m τ.n))&&(((List.range K.m).all fun i=>Nat.beq (mapN l i) i)&&(yaG ((keysO τ.ob).map (mapN l))&&(keysO τ.ob).all fun i=>Nat.beq (mapN l i) i||(Nat.ble K.m i&&Nat.ble K.m (mapN l i))))
theorem ydc{x:SV}:∀{l:List (Nat×SV)},aget l d=some x→∀i,i∈x.refs→i∈refsA l
 | [],h=>by cases h
 | (j,y)::l,h=>fun i hi=>by
  rcases yf h with ⟨rfl,rfl⟩|⟨_,h2⟩
  ·exact yMl _ hi
  ·exact yMr _ (ydc h2 i hi)
theorem ydd{x:Ob}:∀{l:List (Nat×Ob)},aget l d=some x→d∈refsB l∧∀i,i∈x.refs→i∈refsB l
 | [],h=>by cases h
 | (j,y)::l,h=>by
  rcases yf h with ⟨rfl,rfl⟩|⟨_,h2⟩
  ·exact ⟨.head _,fun i hi=> .tail _ (yMl _ hi)⟩
  ·obtain ⟨g1,g2⟩:=ydd h2;exact⟨.tail _ (yMr _ g1),fun i hi=> .tail _ (yMr _ (g2 i hi))⟩
theorem yde{x:Ob}:∀{l:List (Nat×Ob)},aget l d=some x→d∈keysO l
 | [],h=>by cases h
 | (j,y)::l,h=>by
  rcases yf h with ⟨rfl,rfl⟩|⟨_,h2⟩
  ·exact .head _
  ·exact .tail _ (yde h2)
def Sig.mapT(f:Nat→Nat)(s:Sig):Sig:=⟨s.w,fun b=>f (s.tag b)⟩
section
variable{K:Kx}{C:Cx}{σ τ:Sx}{β:Nat→Value}{s:Sig}{e:List (Nat×Value)}
theorem Den.sub{l:List (Nat×Nat)}(hs:τ.le σ l)(hf:τ.fit K l=true)(h:Den K C σ β s e):∃β' s',s'.w=s.w∧Den K C τ β' s' e:=by
 obtain⟨h1,h2⟩:=Prod.mk.inj hs;simp only [Sx.fit,yAe] at hf;obtain⟨⟨f1,f2,f3⟩,f4,f5,f6⟩:=hf;have hμ:∀i,i<K.m→mapN l i=i:=fun i hi=>yNb (yAt.1 f4 i (List.mem_range.2 hi));have hnd:=y7p f5;have inj:∀i j,i∈keysO τ.ob→j∈keysO τ.ob→mapN l i=mapN l j→i=j:=by
  have:∀(q:List Nat),(q.map (mapN l)).Nodup→∀i j,i∈q→j∈q→mapN l i=mapN l j→i=j:=by
   intro q
   induction q with
   | nil=>intro _ i j hi;cases hi
   | cons a q ih=>
    intro hn i j hi hj e;rw [List.map_cons,List.nodup_cons] at hn;rcases yMo.1 hi with e1|hi <;> rcases yMo.1 hj with e2|hj
    ·rw [e1,e2]
    ·exact absurd (yMp.2 ⟨j,hj,by rw [←e1,e]⟩) hn.1
    ·exact absurd (yMp.2 ⟨i,hi,by rw [←e2,e]⟩) hn.1
    ·exact ih hn.2 i j hi hj e
  exact this _ hnd
 -- the tags: those of objects that have another number now are theirs
 let F:Nat→Nat:=fun t=>match (keysO τ.ob).find? (fun i=>Nat.beq (C.tg (mapN l i)) t && !Nat.beq (mapN l i) i) with
  | some i=>C.tg i
  | none=>t
 have hF:∀i,i∈keysO τ.ob→mapN l i≠i→F (C.tg (mapN l i))=C.tg i:=fun i hi hne=>by
  show(match (keysO τ.ob).find? (fun j=>Nat.beq (C.tg (mapN l j)) (C.tg (mapN l i)) && !Nat.beq (mapN l j) j) with | some i=>C.tg i|none=>_)=_;cases hh:(keysO τ.ob).find? (fun j=>Nat.beq (C.tg (mapN l j)) (C.tg (mapN l i)) && !Nat.beq (mapN l j) j) with
  | none=>
   have:=List.find?_eq_none.1 hh i hi;exfalso;apply this;have hb:Nat.beq (mapN l i) i=false:=by cases h0:Nat.beq (mapN l i) i with | false=>rfl|true=>exact absurd (yNb h0) hne
   rw [Nat.beq_refl,hb];rfl
  | some j=>
   have hj:=List.find?_some hh;have hjm:=List.mem_of_find?_eq_some hh;obtain⟨hj1,_⟩:=Bool.and_eq_true_iff.1 hj;have:=h.ok.inj (yNb hj1);rw [inj j i hjm hi this]
 have hF0:∀t,(∀i,i∈keysO τ.ob→mapN l i≠i→t≠C.tg (mapN l i))→F t=t:=fun t ht=>by
  show(match (keysO τ.ob).find? (fun j=>Nat.beq (C.tg (mapN l j)) t && !Nat.beq (mapN l j) j) with | some i=>C.tg i|none=>_)=_;cases hh:(keysO τ.ob).find? (fun j=>Nat.beq (C.tg (mapN l j)) t && !Nat.beq (mapN l j) j) with
  | none=>rfl
  | some j=>
   have hj:=List.find?_some hh;have hjm:=List.mem_of_find?_eq_some hh;obtain⟨hj1,hj2⟩:=Bool.and_eq_true_iff.1 hj;exfalso;refine ht j hjm (fun e=>?_) (yNb hj1).symm;rw [e,Nat.beq_refl] at hj2;cases hj2
 have hFi:∀i,i∈keysO τ.ob→F (C.tg (mapN l i))=C.tg i:=fun i hi=>by
  by_cases hne:mapN l i=i
  ·rw [hne];refine hF0 _ fun j hj hjn e=>?_;have h5:=h.ok.inj e;have:i=j:=inj i j hi hj (by rw [hne,←h5]);subst this;exact hjn hne
  ·exact hF i hi hne
 have hup:∀i,i∈keysO τ.ob→mapN l i≠i→C.Up K (C.tg (mapN l i)):=fun i hi hne=>by
  have:=yAt.1 f6 i hi;rcases Bool.or_eq_true_iff.1 this with g|g
  ·exact absurd (yNb g) hne
  ·obtain ⟨_,g2⟩:=Bool.and_eq_true_iff.1 g;refine h.ok.up ?_;unfold Kx.may;rw [g2];rfl
 have hle:Le s (s.mapT F):=⟨yNr _,fun b _ hb=>⟨rfl,by
  show F (s.tag b)=0;rw [hb];exact hF0 0 fun i hi hne e=>by have:=h.ok.tpos (mapN l i);omega⟩⟩
 have hmv:Mv (C.Up K) s (s.mapT F):=⟨rfl,rfl,rfl,yNr _,fun b _ hb=>⟨rfl,hF0 _ fun i hi hne e=>hb (e▸hup i hi hne)⟩⟩;refine⟨fun i=>β (mapN l i),s.mapT F,rfl,h.ok,h.mv.trans hmv,fun i hi=>by show β (mapN l i)=_;rw [hμ i hi];exact h.b0 i hi,yNl f3,fun d x hx=>?_,fun i o ho=>?_,fun d x hx i hi=>y4s f1 (ydc hx i hi),fun i o ho=>?_⟩
 ·obtain ⟨v,g1,g2⟩:=h.sl d _ (ye2 h1 d _ (ye3 hx));exact⟨v,g1,SV.mono hle (fun _ _=>rfl) (SV.ren_p g2)⟩
 ·have g:=h.ob _ _ (ydb h2 _ _ (ye4 ho));refine Ob.as hle rfl (fun b hb=>?_) (fun _ _=>rfl) (Ob.ren_p g);show F (s.tag b)=_;rw [hb];exact hFi i (yde ho)
 ·obtain ⟨g1,g2⟩:=ydd ho;exact⟨y4s f2 g1,fun j hj=>y4s f2 (g2 j hj)⟩
end
/-! Judgements: code, a way out, the operations of a region that are still to come, from what is known. -/
def WE(K:Kx)(C:Cx)(Φ:Fr)(P:Program)(Q:Exit→Act→World→Prop)(n:Nat)(c:Code)(σ:Sx):Prop:=∀β s e,Den K C σ β s e→E Φ P Q n c e s.w
def WX(K:Kx)(C:Cx)(Φ:Fr)(Q:Exit→Act→World→Prop)(n:Nat)(x:Exit)(σ:Sx):Prop:=∀β s e,Den K C σ β s e→X Φ Q n x e s.w
def V(K:Kx)(C:Cx)(Φ:Fr)(P:Program)(Q:Exit→Act→World→Prop)(n:Nat)(ops:Array Oper)(os:List Oper)(σ:Sx):Prop:=∀β s e,Den K C σ β s e→L Φ P Q n ops os e s.w
def Ox(K:Kx)(C:Cx)(P:Program)(n:Nat)(ops:Array Oper)(o:Oper)(σ:Sx)(f:Eff):Prop:=
 ∀Φ Q os β s e,Den K C σ β s e→(∀β' s' e',Aft C f σ.n β β' s s' e e'→L Φ P Q n ops os e' s'.w)→L Φ P Q n ops (o::os) e s.w
section
variable{K:Kx}{C:Cx}{Φ:Fr}{P:Program}{Q:Exit→Act→World→Prop}{n:Nat}{ops:Array Oper}{os:List Oper}{o:Oper}{σ:Sx}{f:Eff}
theorem V.op(h:Ox K C P n ops o σ f)(hk:f.ok K σ.n=true)(h2:V K C Φ P Q n ops os (σ.eff f)):V K C Φ P Q n ops (o::os) σ:=
 fun β s e hd=>h Φ Q os β s e hd fun β' s' e' a=>h2 β' s' e' (hd.eff a hk)
theorem V.nil(h:WX K C Φ Q n .normal σ):V K C Φ P Q n ops [] σ:=fun β s e hd=>L.nil (h β s e hd)
def Sx.is(τ:Sx)(K:Kx)(σ:Sx)(l:List (Nat×Nat)):Prop:=((agets σ.sl (renS (mapN l) τ.sl),agets σ.ob (renO (mapN l) τ.ob)),τ.fit K l)=((asays (renS (mapN l) τ.sl),asays (renO (mapN l) τ.ob)),true)
theorem V.sub{τ:Sx}(h:V K C Φ P Q n ops os τ)(l:List (Nat×Nat))(hs:τ.is K σ l):V K C Φ P Q n ops os σ:=fun β s e hd=>by
 obtain⟨β',s',hw,hd'⟩:=hd.sub (Prod.mk.inj hs).1 (Prod.mk.inj hs).2;exact hw▸h β' s' e hd'
theorem WX.sub{x:Exit}{τ:Sx}(h:WX K C Φ Q n x τ)(l:List (Nat×Nat))(hs:τ.is K σ l):WX K C Φ Q n x σ:=fun β s e hd=>by
 obtain⟨β',s',hw,hd'⟩:=hd.sub (Prod.mk.inj hs).1 (Prod.mk.inj hs).2;exact hw▸h β' s' e hd'
theorem WE.sub{c:Code}{τ:Sx}(h:WE K C Φ P Q n c τ)(l:List (Nat×Nat))(hs:τ.is K σ l):WE K C Φ P Q n c σ:=fun β s e hd=>by
 obtain⟨β',s',hw,hd'⟩:=hd.sub (Prod.mk.inj hs).1 (Prod.mk.inj hs).2;exact hw▸h β' s' e hd'
theorem WE.seq{x y:Code}(h:WE K C Φ P (Exit.then (y.wpIn Φ.f 2 P Q) Q) n x σ):WE K C Φ P Q n (.seq x y) σ:=fun β s e hd=>E.seq (h β s e hd)
theorem WE.skip(h:WX K C Φ Q n .normal σ):WE K C Φ P Q n .skip σ:=fun β s e hd=>E.skip (h β s e hd)
theorem WE.block{id:Nat}{c:Code}(h:WE K C Φ P (Exit.inBlock id Q) n c σ):WE K C Φ P Q n (.block id c) σ:=fun β s e hd=>E.block (h β s e hd)
theorem WE.exit{id:Nat}(h:WX K C Φ Q n (.exit id) σ):WE K C Φ P Q n (.exit id) σ:=fun β s e hd=>E.exit (h β s e hd)
theorem WE.ret(h:WX K C Φ Q n .ret σ):WE K C Φ P Q n .ret σ:=fun β s e hd=>E.ret (h β s e hd)
theorem WE.reg{id:Nat}{l:List Oper}(h:V K C Φ P Q n l.toArray l σ):WE K C Φ P Q n (.region id l.toArray false) σ:=fun β s e hd=>E.reg (h β s e hd)
theorem WX.seqN{y:Code}(h:WE K C Φ P Q n y σ):WX K C Φ (Exit.then (y.wpIn Φ.f 2 P Q) Q) n .normal σ:=fun β s e hd=>X.seqN (h β s e hd)
theorem WX.seqX{id:Nat}(h:WX K C Φ Q n (.exit id) σ):WX K C Φ (Exit.then J Q) n (.exit id) σ:=h
theorem WX.seqR(h:WX K C Φ Q n .ret σ):WX K C Φ (Exit.then J Q) n .ret σ:=h
theorem WX.blkN{id:Nat}(h:WX K C Φ Q n .normal σ):WX K C Φ (Exit.inBlock id Q) n .normal σ:=h
theorem WX.blkR{id:Nat}(h:WX K C Φ Q n .ret σ):WX K C Φ (Exit.inBlock id Q) n .ret σ:=h
theorem WX.blkE{id:Nat}(h:WX K C Φ Q n .normal σ):WX K C Φ (Exit.inBlock id Q) n (.exit id) σ:=fun β s e hd=>X.blkE (h β s e hd)
theorem WX.blkX{id id':Nat}(hne:Nat.beq id' id=false)(h:WX K C Φ Q n (.exit id') σ):WX K C Φ (Exit.inBlock id Q) n (.exit id') σ:=fun β s e hd=>X.blkX hne (h β s e hd)
end
def Sx.ev(σ:Sx):Operand→Option SV
 | .tmp t=>aget σ.sl t
 | .const v=>match v with
  | .agg cs=>cond (cs.toList.all Value.oneCell') (some (AG (cs.toList.map lV))) none
  | v=>cond v.oneCell' (some (VL v)) none
 | .global g=>some (VL (.pointer (some ⟨g,0,none⟩)))
 | .func f=>some (VL (.func (.func f) #[] #[]))
def Sx.evs(σ:Sx):List Operand→Option (List TV)
 | []=>some []
 | x::xs=>match σ.ev x,σ.evs xs with
  | some (.v v),some vs=>some (v::vs)
  | _,_=>none
section
variable{K:Kx}{C:Cx}{σ:Sx}{β:Nat→Value}{s:Sig}{e:List (Nat×Value)}
theorem y9z :∀{cs:List Value},cs.all Value.oneCell'=true→All2 β s (cs.map lV) cs
 | [],_=>rfl
 | c::cs,h=>by
  rw [List.all_cons,yAe] at h;exact⟨c,cs,⟨rfl,h.1⟩,y9z h.2,rfl⟩
theorem yi2{v:Value}{y:SV}(hx:σ.ev (.const v)=some y):y.p β s v:=by
 have key:∀v:Value,cond v.oneCell' (some (VL v)) none=some y→y.p β s v:=by
  intro v hx;cases h:v.oneCell' with
  | true=>rw [h] at hx;cases hx;exact⟨rfl,h⟩
  | false=>rw [h] at hx;cases hx
 cases v with
 | agg cs=>
  simp only [Sx.ev] at hx;cases h:cs.toList.all Value.oneCell' with
  | true=>rw [h] at hx;cases hx;exact⟨cs.toList,y9z h,by simp⟩
  | false=>rw [h] at hx;cases hx
 | _=>exact key _ hx
theorem Den.ev(h:Den K C σ β s e){x:Operand}{y:SV}(hx:σ.ev x=some y):∃v,Env.ev e x=some v∧y.p β s v:=by
 cases x with
 | tmp t=>exact h.sl t y hx
 | const v=>exact⟨v,rfl,yi2 hx⟩
 | global g=>simp only [Sx.ev,yIj] at hx;subst hx;exact⟨_,rfl,rfl,rfl⟩
 | func f=>simp only [Sx.ev,yIj] at hx;subst hx;exact⟨_,rfl,rfl,rfl⟩
theorem Den.evl(h:Den K C σ β s e){x:Operand}{v:Value}(hx:σ.ev x=some (VL v)):Env.ev e x=some v:=by
 obtain⟨u,h1,h2⟩:=h.ev hx;rw [h1];exact congrArg some h2.1
theorem Den.evs(h:Den K C σ β s e):∀{xs:List Operand} {ys:List TV},σ.evs xs=some ys→∃vs,Env.evs e xs=some vs∧All3 β s ys vs
 | [],ys,hx=>by simp only [Sx.evs,yIj] at hx;subst hx;exact⟨[],rfl,rfl⟩
 | x::xs,ys,hx=>by
  simp only [Sx.evs] at hx;split at hx
  ·rename_i y zs h1 h2;simp only [yIj] at hx;subst hx;obtain⟨v,g1,g2⟩:=h.ev h1;obtain⟨vs,g3,g4⟩:=h.evs h2;exact⟨v::vs,by simp [Env.evs,g1,g3],v,vs,g2,g4,rfl⟩
  ·cases hx
end
def Gu(ops:Array Oper)(σ:Sx):Option (Nat×Bool)→Prop
 | none=>True
 | some (j,b)=>∃s,(ops[j]?).bind (·.dst)=some s∧aget σ.sl s=some (VL (.bool b))
theorem Gu.no{σ:Sx}:Gu ops σ none:=trivial
theorem Gu.mk{σ:Sx}{j s:Nat}{b:Bool}(h:(ops[j]?).bind (·.dst)=some s)(h2:aget σ.sl s=some (VL (.bool b))):Gu ops σ (some (j,b)):=⟨s,h,h2⟩
theorem Den.gd{K:Kx}{C:Cx}{σ:Sx}{β:Nat→Value}{s:Sig}(h:Den K C σ β s e):∀{g:Option (Nat×Bool)},Gu ops σ g→Wt ops e g
 | none,_=>trivial
 | some (_,_),⟨s,h1,h2⟩=>⟨s,h1,h.evl (x:= .tmp s) h2⟩
section
variable{K:Kx}{C:Cx}{P:Program}{n:Nat}{ops:Array Oper}{σ:Sx}{d:Nat}{ty:TypeId}{pos:String}{af:Array Edge}{g:Option (Nat×Bool)}
abbrev F1(d:Nat)(x:SV):Eff:=⟨some (d,x),[],none⟩
theorem Aft.one{β:Nat→Value}{k:Nat}{s s':Sig}{e:List (Nat×Value)}{d:Nat}{x:SV}{v:Value}(m:Mv No s s')(h:x.p β s' v):Aft C (F1 d x) k β β s s' e ((d,v)::e):=
 ⟨fun _ _=>rfl,fun _ _=>rfl,m.no,fun d' hn=>by
  simp only [Env.get];have:Nat.beq d d'=false:=by cases h0:Nat.beq d d' with | false=>rfl|true=>exact absurd (by rw [yNb h0]) (hn x)
  rw [this];rfl,fun d' x' e=>by cases e;exact⟨v,by simp [Env.get],h⟩,fun _ _ h=>by cases h⟩
theorem Ox.pure{op:Op}{x:SV}(h:∀Φ Q os β s e,Den K C σ β s e→(∀v,x.p β s v→L Φ P Q n ops os ((d,v)::e) s.w)→L Φ P Q n ops (⟨some d,op,ty,pos,af,g⟩::os) e s.w):
  Ox K C P n ops ⟨some d,op,ty,pos,af,g⟩ σ (F1 d x):=fun Φ Q os β s e hd k=>h Φ Q os β s e hd fun v hv=>k β s _ (Aft.one (Mv.refl _ _) hv)
end
def Lv{α:Type}(r:Rep α)(y:α)(l:List LV):Prop:=∀β s cs,r.rd s cs y→All2 β s l cs
def Rv{α:Type}(r:Rep α)(l:List LV)(z:α):Prop:=∀β s cs,All2 β s l cs→r.rd s cs z
theorem Lv.k{k:IntKind}{x:Int}:Lv (rK k) x [lV (.int k x)]:=fun _ _ _ h=>⟨_,[],⟨rfl,rfl⟩,rfl,h⟩
theorem Lv.b{x:Bool}:Lv rB x [lV (.bool x)]:=fun _ _ _ h=>⟨_,[],⟨rfl,rfl⟩,rfl,h⟩
theorem Lv.l{r:Rep α}{xs:List α}:Lv (rL r) xs [lF r xs]:=fun _ _ _ ⟨a,c,e,h⟩=>⟨_,[],⟨a,c,rfl,h⟩,rfl,e⟩
theorem Lv.p{γ:Type}{r:Rep α}{q:Rep γ}{x:α×γ}{l:List LV}(h:Lv r x.1 (l.take r.sz))(h2:Lv q x.2 (l.drop r.sz)):Lv (rP r q) x l:=fun β s _ ⟨_,_,e,g1,g2⟩=>by
 have:=(h β s _ g1).append (h2 β s _ g2);rw [List.take_append_drop] at this;exact e▸this
theorem Rv.k{k:IntKind}{x:Int}:Rv (rK k) [lV (.int k x)] x:=fun _ _ _ ⟨_,_,h,h2,e⟩=>by rw [e,h.1,show _= [] from h2];rfl
theorem Rv.b{x:Bool}:Rv rB [lV (.bool x)] x:=fun _ _ _ ⟨_,_,h,h2,e⟩=>by rw [e,h.1,show _= [] from h2];rfl
theorem Rv.l{r:Rep α}{xs:List α}:Rv (rL r) [lF r xs] xs:=fun _ _ _ ⟨_,_,⟨a,c,e',h⟩,h2,e⟩=>⟨a,c,by rw [e,e',show _= [] from h2],h⟩
theorem Rv.p{γ:Type}{r:Rep α}{q:Rep γ}{x:α}{y:γ}{l:List LV}(h:Rv r (l.take r.sz) x)(h2:Rv q (l.drop r.sz) y):Rv (rP r q) l (x,y):=fun β s _ g=>by
 rw [←List.take_append_drop r.sz l] at g;obtain⟨us,ws,e,g1,g2⟩:=g.split;exact⟨us,ws,e,h β s _ g1,h2 β s _ g2⟩
def Cv{α:Type}(r:Rep α)(l:List LV)(xs:List α):Prop:=∀β s cs,All2 β s l cs→Cells r s cs xs
theorem Cv.n{r:Rep α}:Cv r [] []:=fun _ _ _ h=>h
theorem Cv.c{r:Rep α}{l:List LV}{x:α}{xs:List α}(h:Rv r (l.take r.sz) x)(h2:Cv r (l.drop r.sz) xs):Cv r l (x::xs):=fun β s _ g=>by
 rw [←List.take_append_drop r.sz l] at g;obtain⟨us,ws,e,g1,g2⟩:=g.split;exact⟨us,ws,e,h β s _ g1,h2 β s _ g2⟩
theorem yg5{op:BinOp}{k:IntKind}{i:Int}{v:Value}(h:y8v op k i j=some v):v.oneCell'=true:=by
 cases op <;> simp only [y8v,yIj,reduceCtorEq] at h <;> subst h <;> rfl
section
variable{K:Kx}{C:Cx}{P:Program}{n:Nat}{ops:Array Oper}{σ:Sx}{d:Nat}{ty:TypeId}{pos:String}{af:Array Edge}{g:Option (Nat×Bool)}{β:Nat→Value}{s s':Sig}{e:List (Nat×Value)}
theorem Den.evv(h:Den K C σ β s e){x:Operand}{y:LV}(hx:σ.ev x=some (sL y)):∃v,Env.ev e x=some v∧y.p β s v:=h.ev hx
theorem O.mv{x:Operand}{y:SV}(hg:Gu ops σ g)(hx:σ.ev x=some y)(hb:Nat.blt d n=true):Ox K C P n ops ⟨some d,.move x,ty,pos,af,g⟩ σ (F1 d y):=
 Ox.pure fun _ _ _ _ _ _ hd k=>by obtain⟨v,h1,h2⟩:=hd.ev hx;exact L.mv (hd.gd hg) h1 hb (k v h2)
theorem O.as{x:Operand}{y:SV}(hg:Gu ops σ g)(hx:σ.ev x=some y)(hb:Nat.blt d n=true):Ox K C P n ops ⟨some d,.assign x,ty,pos,af,g⟩ σ (F1 d y):=
 Ox.pure fun _ _ _ _ _ _ hd k=>by obtain⟨v,h1,h2⟩:=hd.ev hx;exact L.as (hd.gd hg) h1 hb (k v h2)
theorem O.pkT{x z:Operand}{t:Bool}{v:SV}(hg:Gu ops σ g)(hx:σ.ev x=some (VL (.bool t)))(ht:t=true)(hy:σ.ev y=some v)(hb:Nat.blt d n=true):Ox K C P n ops ⟨some d,.pick x y z,ty,pos,af,g⟩ σ (F1 d v):=
 Ox.pure fun _ _ _ _ _ _ hd k=>by obtain⟨u,h1,h2⟩:=hd.ev hy;exact L.pkT (hd.gd hg) (hd.evl hx) ht h1 hb (k u h2)
theorem O.pkF{x z:Operand}{t:Bool}{v:SV}(hg:Gu ops σ g)(hx:σ.ev x=some (VL (.bool t)))(ht:t=false)(hy:σ.ev z=some v)(hb:Nat.blt d n=true):Ox K C P n ops ⟨some d,.pick x y z,ty,pos,af,g⟩ σ (F1 d v):=
 Ox.pure fun _ _ _ _ _ _ hd k=>by obtain⟨u,h1,h2⟩:=hd.ev hy;exact L.pkF (hd.gd hg) (hd.evl hx) ht h1 hb (k u h2)
theorem O.bi{op:BinOp}{T:TypeId}{x:Operand}{k:IntKind}{i:Int}{v:Value}(hg:Gu ops σ g)(hx:σ.ev x=some (VL (.int k i)))(hy:σ.ev y=some (VL (.int k j)))(hv:y8v op k i j=some v)(hb:Nat.blt d n=true):Ox K C P n ops ⟨some d,.binOp op T x y U,ty,pos,af,g⟩ σ (F1 d (VL v)):=
 Ox.pure fun _ _ _ _ _ _ hd k=>L.bi (hd.gd hg) (hd.evl hx) (hd.evl hy) hv hb (k v ⟨rfl,yg5 hv⟩)
theorem O.rem{T:TypeId}{x:Operand}{k:IntKind}{i:Int}(hg:Gu ops σ g)(hx:σ.ev x=some (VL (.int k i)))(hy:σ.ev y=some (VL (.int k j)))(hj:j≠0)(hb:Nat.blt d n=true):Ox K C P n ops ⟨some d,.binOp .rem T x y U,ty,pos,af,g⟩ σ (F1 d (VL (.int k (i.tmod j)))):=
 Ox.pure fun _ _ _ _ _ _ hd k=>L.rem (hd.gd hg) (hd.evl hx) (hd.evl hy) hj hb (k _ ⟨rfl,rfl⟩)
theorem O.shr{T:TypeId}{x:Operand}{k:IntKind}{i:Int}(hg:Gu ops σ g)(hx:σ.ev x=some (VL (.int k i)))(hy:σ.ev y=some (VL (.int k' j)))(hj:¬j<0)(hb:Nat.blt d n=true):Ox K C P n ops ⟨some d,.binOp .shr T x y U,ty,pos,af,g⟩ σ (F1 d (VL (.int k (i.fdiv (2 ^ (min j.toNat k.bits)))))):=
 Ox.pure fun _ _ _ _ _ _ hd k=>L.shr (hd.gd hg) (hd.evl hx) (hd.evl hy) hj hb (k _ ⟨rfl,rfl⟩)
theorem O.beq{T:TypeId}{x:Operand}{i j:Bool}(hT:P.underlying T=some .bool)(hg:Gu ops σ g)(hx:σ.ev x=some (VL (.bool i)))(hy:σ.ev y=some (VL (.bool j)))(hb:Nat.blt d n=true):Ox K C P n ops ⟨some d,.binOp .eql T x y U,ty,pos,af,g⟩ σ (F1 d (VL (.bool (i==j)))):=
 Ox.pure fun _ _ _ _ _ _ hd k=>L.beq hT (hd.gd hg) (hd.evl hx) (hd.evl hy) hb (k _ ⟨rfl,rfl⟩)
theorem O.bne{T:TypeId}{x:Operand}{i j:Bool}(hT:P.underlying T=some .bool)(hg:Gu ops σ g)(hx:σ.ev x=some (VL (.bool i)))(hy:σ.ev y=some (VL (.bool j)))(hb:Nat.blt d n=true):Ox K C P n ops ⟨some d,.binOp .neq T x y U,ty,pos,af,g⟩ σ (F1 d (VL (.bool (i != j)))):=
 Ox.pure fun _ _ _ _ _ _ hd k=>L.bne hT (hd.gd hg) (hd.evl hx) (hd.evl hy) hb (k _ ⟨rfl,rfl⟩)
theorem O.not{T:TypeId}{x:Operand}{i:Bool}(hg:Gu ops σ g)(hx:σ.ev x=some (VL (.bool i)))(hb:Nat.blt d n=true):Ox K C P n ops ⟨some d,.unOp .not T x,ty,pos,af,g⟩ σ (F1 d (VL (.bool (!i)))):=
 Ox.pure fun _ _ _ _ _ _ hd k=>L.not (hd.gd hg) (hd.evl hx) hb (k _ ⟨rfl,rfl⟩)
theorem O.cv{T:TypeId}{D:TypeDesc}{x:Operand}{k:IntKind}{i:Int}(hT:P.underlying T=some D)(hU:P.underlying U=some (.int k'))(hg:Gu ops σ g)(hx:σ.ev x=some (VL (.int k i)))(hb:Nat.blt d n=true):Ox K C P n ops ⟨some d,.convert T U x,ty,pos,af,g⟩ σ (F1 d (VL (.int k' (k'.wrap i)))):=
 Ox.pure fun _ _ _ _ _ _ hd k=>L.cv hT hU (hd.gd hg) (hd.evl hx) hb (k _ ⟨rfl,rfl⟩)
theorem All3.get :∀{l:List TV} {vs:List Value},All3 β s l vs→∀{i:Nat} {x:TV},l[i]? =some x→∃v,vs[i]? =some v∧x.p β s v
 | [],_,_,_,_,h=>by cases h
 | _::_,_,⟨v,us,h1,h2,e⟩,0,x,h=>by cases h;exact⟨v,by rw [e];rfl,h1⟩
 | _::_,_,⟨v,us,h1,h2,e⟩,i+1,x,h=>by
  obtain⟨u,g1,g2⟩:=h2.get (i:=i) (by simpa using h);exact⟨u,by rw [e];simpa using g1,g2⟩
theorem O.ex{x:Operand}{l:List TV}{i:Nat}{y:TV}(hg:Gu ops σ g)(hx:σ.ev x=some (.tp l))(hi:l[i]? =some y)(hb:Nat.blt d n=true):Ox K C P n ops ⟨some d,.extract x i,ty,pos,af,g⟩ σ (F1 d (.v y)):=
 Ox.pure fun _ _ _ _ _ _ hd k=>by
  obtain⟨v,h1,vs,h2,rfl⟩:=hd.ev hx;obtain⟨u,h3,h4⟩:=h2.get hi;exact L.ex (hd.gd hg) h1 (by simpa using h3) hb (k u h4)
theorem O.len{r:Rep α}{xs:List α}{x:Operand}{T E:TypeId}(hT:Sl P T E m)(hg:Gu ops σ g)(hx:σ.ev x=some (sL (lF r xs)))(hb:Nat.blt d n=true):Ox K C P n ops ⟨some d,.call { callee:= .builtin .len,args:= #[x],argTypes:= #[T] },ty,pos,af,g⟩ σ (F1 d (VL (.int .i64 (xs.length:Int)))):=
 Ox.pure fun _ _ _ _ _ _ hd k=>by
  obtain⟨v,h1,a,c,rfl,_⟩:=hd.evv hx;exact L.len hT (hd.gd hg) h1 hb (k _ ⟨rfl,rfl⟩)
theorem Den.row{r:Rep α}{xs:List α}{x:Operand}{i:Nat}(hd:Den K C σ β s e)(hx:σ.ev x=some (sL (lH i)))(ho:aget σ.ob i=some (ROW r U xs)):∃a c,β i= .slice a xs.length c∧Env.ev e x=some (.slice a xs.length c)∧RowT r s (C.tg i) U a c xs:=by
 obtain⟨v,h1,h2,_⟩:=hd.evv hx;obtain⟨a,c,h3,h4⟩:=hd.ob i _ ho;exact⟨a,c,h3,by rw [h1,h2,h3],h4⟩
theorem O.lenH{r:Rep α}{xs:List α}{x:Operand}{T E:TypeId}{i:Nat}(hT:Sl P T E m)(hg:Gu ops σ g)(hx:σ.ev x=some (sL (lH i)))(ho:aget σ.ob i=some (ROW r U xs))(hb:Nat.blt d n=true):Ox K C P n ops ⟨some d,.call { callee:= .builtin .len,args:= #[x],argTypes:= #[T] },ty,pos,af,g⟩ σ (F1 d (VL (.int .i64 (xs.length:Int)))):=
 Ox.pure fun _ _ _ _ _ _ hd k=>by
  obtain⟨a,c,_,h1,_⟩:=hd.row hx ho;exact L.len hT (hd.gd hg) h1 hb (k _ ⟨rfl,rfl⟩)
theorem O.max{x:Operand}{T:TypeId}{k:IntKind}{i:Int}(hg:Gu ops σ g)(hx:σ.ev x=some (VL (.int k i)))(hy:σ.ev y=some (VL (.int k j)))(hb:Nat.blt d n=true):Ox K C P n ops ⟨some d,.call { callee:= .builtin .max,args:= #[x,y],argTypes:= #[T,U] },ty,pos,af,g⟩ σ (F1 d (VL (.int k (if i<j then j else i)))):=
 Ox.pure fun _ _ _ _ _ _ hd k=>L.max (hd.gd hg) (hd.evl hx) (hd.evl hy) hb (k _ ⟨rfl,rfl⟩)
/-! Places. -/
theorem O.ix{r:Rep α}{xs:List α}{x i:Operand}{T:TypeId}{k:IntKind}{y:α}(hS:Sl P T U r.sz)(hg:Gu ops σ g)(hx:σ.ev x=some (sL (lF r xs)))(hi:σ.ev i=some (VL (.int k j)))(hy:idx xs j=some y)(hb:Nat.blt d n=true):Ox K C P n ops ⟨some d,.indexAddr T x i,ty,pos,af,g⟩ σ (F1 d (sL (lE r y 0))):=
 Ox.pure fun _ _ _ _ _ _ hd k=>by
  obtain⟨v,h1,a,c,rfl,h2⟩:=hd.evv hx;exact L.ix hS h2 (hd.gd hg) h1 (hd.evl hi) hy hb fun b o cs h3 h4=>k _ ⟨b,o,cs,h3,h4,rfl⟩
theorem O.ir{r:Rep α}{xs:List α}{x i:Operand}{T:TypeId}{k:IntKind}{q:Nat}{y:α}(hS:Sl P T U r.sz)(hg:Gu ops σ g)(hx:σ.ev x=some (sL (lH q)))(ho:aget σ.ob q=some (ROW r T' xs))(hi:σ.ev i=some (VL (.int k j)))(hy:idx xs j=some y)(hb:Nat.blt d n=true):Ox K C P n ops ⟨some d,.indexAddr T x i,ty,pos,af,g⟩ σ (F1 d (sL (lR q r.sz j.toNat 0))):=
 Ox.pure fun _ _ _ _ _ _ hd k=>by
  obtain⟨a,c,h0,h1,h2⟩:=hd.row hx ho;exact L.ir hS h2 (hd.gd hg) h1 (hd.evl hi) hy hb fun b o cs h3 h4 h5=>k _ ⟨b,o,a,_,c,h0,h5,rfl⟩
theorem O.faE{r:Rep α}{y:α}{x:Operand}{f o:Nat}(hF:FA P S f o)(hg:Gu ops σ g)(hx:σ.ev x=some (sL (lE r y off)))(hb:Nat.blt d n=true):Ox K C P n ops ⟨some d,.fieldAddr S x f,ty,pos,af,g⟩ σ (F1 d (sL (lE r y (off+o)))):=
 Ox.pure fun _ _ _ _ _ _ hd k=>by
  obtain⟨v,h1,b,q,cs,h2,h3,rfl⟩:=hd.evv hx;exact L.fa hF (hd.gd hg) h1 hb (k _ ⟨b,q,cs,h2,h3,by rw [Nat.add_assoc]⟩)
theorem O.faP{x:Operand}{f o i:Nat}(hF:FA P S f o)(hg:Gu ops σ g)(hx:σ.ev x=some (sL (lP i off)))(hb:Nat.blt d n=true):Ox K C P n ops ⟨some d,.fieldAddr S x f,ty,pos,af,g⟩ σ (F1 d (sL (lP i (off+o)))):=
 Ox.pure fun _ _ _ _ _ _ hd k=>by
  obtain⟨v,h1,b,h2,rfl⟩:=hd.evv hx;exact L.fa hF (hd.gd hg) h1 hb (k _ ⟨b,h2,rfl⟩)
theorem O.faQ{T:TypeId}{x:Operand}{f o:Nat}{l:List LV}(hF:FA P S f o)(hg:Gu ops σ g)(hx:σ.ev x=some (sL (lQ T l off)))(hb:Nat.blt d n=true):Ox K C P n ops ⟨some d,.fieldAddr S x f,ty,pos,af,g⟩ σ (F1 d (sL (lQ T l (off+o)))):=
 Ox.pure fun _ _ _ _ _ _ hd k=>by
  obtain⟨v,h1,b,vs,h2,h3,rfl⟩:=hd.evv hx;exact L.fa hF (hd.gd hg) h1 hb (k _ ⟨b,vs,h2,h3,rfl⟩)
def At(K:Kx)(C:Cx)(σ:Sx)(x:LV)(l:List LV)(off:Nat):Prop:=∀β s e,Den K C σ β s e→∀v,x.p β s v→∃t b o cs,Mem s t b o cs∧All2 β s l cs∧v= .pointer (some ⟨b,o+off,none⟩)
theorem At.E{r:Rep α}{y:α}{l:List LV}(h:Lv r y l):At K C σ (lE r y off) l off:=fun β s _ _ _ ⟨b,o,cs,h1,h2,e⟩=>⟨0,b,o,cs,h1,h β s cs h2,e⟩
theorem At.B{T:TypeId}{l:List LV}{i:Nat}(h:aget σ.ob i=some (.bx T l)):At K C σ (lP i off) l off:=fun _ _ _ hd v ⟨b,h1,e⟩=>by
 obtain⟨b',vs,h2,h3,h4⟩:=hd.ob i _ h;rw [h1] at h2;simp only [Value.pointer.injEq,yIj,Addr.mk.injEq,and_true] at h2;subst h2;exact⟨_,b,0,vs,by simpa using h3.mem,h4,by rw [yNz];exact e⟩
theorem At.Q{T:TypeId}{l:List LV}:At K C σ (lQ T l off) l off:=fun _ _ _ _ _ ⟨b,vs,h1,h2,e⟩=>⟨0,b,0,vs,by simpa using h1.mem,h2,by rw [yNz];exact e⟩
theorem At.R{r:Rep α}{xs:List α}{y:α}{T:TypeId}{l:List LV}{i:Nat}(h:aget σ.ob i=some (ROW r T xs))(hy:idx xs j=some y)(hl:Lv r y l):At K C σ (lR i r.sz j.toNat off) l off:=fun β s _ hd _ ⟨b,o,a,k,c,h1,h2,e⟩=>by
 obtain⟨h0,hk,rfl⟩:=y5H hy;obtain⟨a',c',h3,cs,h4,h5⟩:=hd.ob i _ h;rw [h1] at h3;simp only [Value.slice.injEq] at h3;obtain⟨rfl,_,rfl⟩:=h3;obtain⟨b',off',cap',e',hlt,_,htag⟩:=h4.addr (by omega);simp only [Value.slice.injEq,true_and] at e';obtain⟨rfl,rfl⟩:=e';obtain⟨o',e1,rfl⟩:=h2.is;cases e1;have hx2:=h5.at j.toNat hk;have hl2:=h4.1;have hm:=Nat.mul_le_mul_right r.sz (show j.toNat+1≤xs.length from hk);rw [Nat.succ_mul] at hm;refine⟨_,_,_,_,⟨fun _=>htag,fun j' hj=>?_⟩,hl β s _ hx2,e⟩;have hj':j'<r.sz:=by rw [r.len hx2] at hj;exact hj
 rw [Nat.add_assoc,h4.cellAt (j.toNat*r.sz+j') (by omega),List.getElem_take,List.getElem_drop,yGe]
theorem O.ld{T:TypeId}{x:Operand}{p y:LV}{l:List LV}(hT:NAg P T)(hg:Gu ops σ g)(hx:σ.ev x=some (sL p))(ha:At K C σ p l off)(hy:l[off]? =some y)(hb:Nat.blt d n=true):Ox K C P n ops ⟨some d,.load T x,ty,pos,af,g⟩ σ (F1 d (sL y)):=
 Ox.pure fun _ _ _ β s e hd k=>by
  obtain⟨v,h1,h2⟩:=hd.evv hx;obtain⟨t,b,o,cs,h3,h4,rfl⟩:=ha β s e hd v h2;obtain⟨u,h5,h6⟩:=h4.get hy;exact L.ld h3 hT (hd.gd hg) h1 rfl h5 hb (k u h6)
theorem O.lg{T:TypeId}{x:Operand}{p:LV}{l l':List LV}(hT:Ag P T m)(hg:Gu ops σ g)(hx:σ.ev x=some (sL p))(ha:At K C σ p l off)(hy:(l.drop off).take m=l')(hm:l'.length=m)(hb:Nat.blt d n=true):Ox K C P n ops ⟨some d,.load T x,ty,pos,af,g⟩ σ (F1 d (AG l')):=
 Ox.pure fun _ _ _ β s e hd k=>by
  obtain⟨v,h1,h2⟩:=hd.evv hx;obtain⟨t,b,o,cs,h3,h4,rfl⟩:=ha β s e hd v h2;have h5:=(h4.drop off).take m;rw [hy] at h5;exact L.lg h3 hT (hd.gd hg) h1 rfl rfl (h5.len.trans hm) hb (k _ ⟨_,h5,rfl⟩)
/-! Parts of slices that nobody writes. -/
theorem O.sf{r:Rep α}{xs:List α}{x lo:Operand}{T:TypeId}{k:IntKind}{i:Int}(hS:Sl P T U r.sz)(hg:Gu ops σ g)(hx:σ.ev x=some (sL (lF r xs)))(hi1:σ.ev lo=some (VL (.int k i)))(hz:slc xs i xs.length=some zs)(hb:Nat.blt d n=true):Ox K C P n ops ⟨some d,.slice T x (some lo) none none,ty,pos,af,g⟩ σ (F1 d (sL (lF r zs))):=
 Ox.pure fun _ _ _ _ _ _ hd k=>by
  obtain⟨v,h1,a,c,rfl,h2⟩:=hd.evv hx;exact L.sf hS h2 (hd.gd hg) h1 (hd.evl hi1) hz hb fun a c h=>k _ ⟨a,c,rfl,h⟩
end
end
end Go.Proofs.YtfdeiphkmjdifaaGreatDoor
