/- NonconflictMinimal returns true for all arguments, and leaves its arguments as they were. The condition: three tables of Go's library (math/bits, internal/strconv) hold what their source text lays, and the card ties this to the text. -/
import Derived.Deep.Slices
import Derived.ChangeSame
import Derived.ProofKit
import Derived.OpenShut
import Derived.Test.YtfdeiphkmjdifaaGreatDoorRows
import Derived.Test.YtfdeiphkmjdifaaGreatDoorTie
import Derived.Test.YtfdeiphkmjdifaaGreatDoorCards
import Derived.Test.YtfdeiphkmjdifaaGreatDoorProg
import Derived.Lay
import Derived.LaidMore
import Derived.LaidHandle
import Derived.SevenTiedAt
import Derived.Stop.Joined
import Derived.Test.YtfdeiphkmjdifaaGreatDoorKm6
set_option maxRecDepth 100000
namespace Go.Proofs.YtfdeiphkmjdifaaGreatDoor
section
open Go.Proofs.Tryz Go Go.RowKit
variable{i:Nat}{T:List LI}{a:AutT}{s:Int}{is:LI}{v:Int}{st:Int→Int→Option Int}{al:LI}{j:Nat}
structure RchP (l:List AutT) (P:LI→Prop) (M:Nat):Prop where
 st:∀t e u,P t→tup l t e=some u→P u
 i0:P (List.replicate l.length 0)
 hu:∀t,P t→t.length=l.length∧Hund t
 bd:∀T:List LI,T.Nodup→(∀t∈T,P t)→T.length≤M
 m:M≤4000
structure GI (l:List AutT) (P:LI→Prop) (ev:LI) (i j:Nat) (kn:Kno) (T:List LI) (E:List (Int×Int×Int)):Prop where
 nd:T.Nodup
 inP:∀t∈T,P t
 kn:∀t,P t→kget kn (keyK t)=if t∈T then some (T.idxOf t:Int) else none
 er:∀x∈E,0≤x.1∧x.1≤(i:Int)∧x.2.1∈ev
 es:∀x∈E,x.1=(i:Int)→x.2.1∈ev.take j
 so:E.Pairwise fun x y=>x.1<y.1∨(x.1=y.1∧x.2.1<y.2.1)
 el:E.length≤ev.length*i+j
 fnd:Fnd (tup l) ev i j T E
section
variable{l:List AutT}{P:LI→Prop}{M:Nat}{ev:LI}{i j:Nat}{kn:Kno}{T:List LI}{E:List (Int×Int×Int)}
theorem GI.skip(h:GI l P ev i j kn T E){t:LI}{e:Int}(ht:T[i]? =some t)(he:ev[j]? =some e)(hs:tup l t e=none):GI l P ev i (j+1) kn T E:=
 ⟨h.nd,h.inP,h.kn,h.er,fun x hx e=>(List.take_subset_take_left ev (Nat.le_succ j)) (h.es x hx e),h.so,by have:=h.el;omega,h.fnd.skip ht he hs⟩
theorem GI.next(h:GI l P ev i ev.length kn T E):GI l P ev (i+1) 0 kn T E:=
 ⟨h.nd,h.inP,h.kn,fun x hx=>by have:=h.er x hx;exact⟨this.1,by omega,this.2.2⟩,fun x hx e=>by have:=h.er x hx;omega,h.so,by have:=h.el;rw [Nat.mul_add,Nat.mul_one];omega,h.fnd.next (yNr _)⟩
theorem GI.push(h:GI l P ev i j kn T E)(he:Inc ev)(hj:j<ev.length)(q:Int):(∀x∈E++[((i:Int),ev[j],q)],0≤x.1∧x.1≤(i:Int)∧x.2.1∈ev)∧(∀x∈E++[((i:Int),ev[j],q)],x.1=(i:Int)→x.2.1∈ev.take (j+1))∧((E++[((i:Int),ev[j],q)]).Pairwise fun x y=>x.1<y.1∨(x.1=y.1∧x.2.1<y.2.1))∧(E++[((i:Int),ev[j],q)]).length≤ev.length*i+(j+1):=by
 refine⟨fun x hx=>?_,fun x hx e=>?_,?_,by have:=h.el;rw [yLa,List.length_singleton];omega⟩
 ·rcases yMa.1 hx with hx|hx
  ·exact h.er x hx
  ·rw [yMs.1 hx];exact⟨by dsimp only;omega,by dsimp only;omega,yGm _⟩
 ·rcases yMa.1 hx with hx|hx
  ·exact (List.take_subset_take_left ev (Nat.le_succ j)) (h.es x hx e)
  ·rw [yMs.1 hx,yTs hj];exact yMr _ (yMs.2 rfl)
 ·rw [List.pairwise_append];refine⟨h.so,List.pairwise_singleton _ _,fun a ha b hb=>?_⟩;rw [yMs.1 hb];have h2:=h.er a ha;by_cases e:a.1=(i:Int)
  ·exact .inr ⟨e,ygR he hj _ (h.es a ha e)⟩
  ·exact .inl (by dsimp only;omega)
theorem yh1{T:List LI}{q:LI}(h:q∈T):T[T.idxOf q]? =some q:=by
 have:=List.idxOf_lt_length_of_mem h;rw [yGe this,List.getElem_idxOf]
theorem key_P(hP:RchP l P M)(hl:l.length≤1000){t:LI}(ht:P t):y2O t=some (keyK t):=by
 obtain⟨h1,h2⟩:=hP.hu t ht;have hc:(t.all fun x=>decide (0≤x∧x<100))=true:=by
  rw [yAt];intro x hx;exact decide_eq_true (h2 x hx)
 rw [y2O,iP ⟨hc,by omega⟩];rfl
theorem GI.new(h:GI l P ev i j kn T E)(hP:RchP l P M)(he:Inc ev)(hi:i<T.length)(hj:j<ev.length){t r:LI}(ht:T[i]? =some t)(hs:tup l t ev[j]=some r)(hr:P r)(hn:r∉T):GI l P ev i (j+1) (kput kn (keyK r) (T.length:Int)) (T++[r]) (E++[((i:Int),ev[j],(T.length:Int))]):=by
 obtain⟨p1,p2,p3,p4⟩:=h.push he hj (T.length:Int);refine⟨?_,fun s hs=>?_,fun s hs=>?_,p1,p2,p3,p4,h.fnd.new hi ht (yGe hj) hs⟩
 ·unfold List.Nodup;rw [List.pairwise_append];exact⟨h.nd,List.pairwise_singleton _ _,fun x hx y hy e=>hn (by rw [←yMs.1 hy,←e];exact hx)⟩
 ·rcases yMa.1 hs with hs|hs
  ·exact h.inP s hs
  ·rw [yMs.1 hs];exact hr
 ·rw [y4G];by_cases e:keyK s=keyK r
  ·have e2:=yd3 (hP.hu s hs).2 (hP.hu r hr).2 e;subst e2;rw [iP rfl,iP (by simp),List.idxOf_append,iN hn];simp
  ·rw [iN e,h.kn s hs];have hne:s≠r:=fun e2=>e (by rw [e2]);by_cases hm:s∈T
   ·rw [iP hm,iP (by simp [hm]),List.idxOf_append,iP hm]
   ·rw [iN hm,iN (by simp [hm,hne])]
theorem GI.edge(h:GI l P ev i j kn T E)(he:Inc ev)(hj:j<ev.length){t r:LI}(ht:T[i]? =some t)(hs:tup l t ev[j]=some r)(hr:r∈T):GI l P ev i (j+1) kn T (E++[((i:Int),ev[j],(T.idxOf r:Int))]):=by
 obtain⟨p1,p2,p3,p4⟩:=h.push he hj (T.idxOf r:Int);exact⟨h.nd,h.inP,h.kn,p1,p2,p3,p4,h.fnd.edge ht (yGe hj) hs (yh1 hr)⟩
end
section
variable{l:List AutT}{P:LI→Prop}{M:Nat}(hP:RchP l P M)(hl:l.length≤12)(hr:∀a∈l,Rgt a){ev:LI}(hev:Alp ev){os:List (List ((Int×Int)×Int))}(ho:os.length=l.length)(hk:∀i (h:i<l.length) (h':i<os.length),∀q:Int×Int,kget os[i] q=st1 l[i] q.1 q.2)
include hP hl hr hev ho hk
theorem ygb{kn:Kno}{E:List (Int×Int×Int)}(z:Kno×List LI×LI×List (Int×Int×Int))(hS:GI l P ev i 0 kn T E)(hi:i<T.length):
  ∃kn' X E',iter (y1G (l,ev,os) ((i:Int),z)) (0,kn,T,E)=some (.inl (kn',T++X,E'))∧GI l P ev (i+1) 0 kn' (T++X) E':=by
 have hal:=hev.len;have hM:=hP.m;obtain⟨o,h1,kn',X,E',rfl,h3⟩:=ye (f:=y1G (l,ev,os) ((i:Int),z)) (fun j s=>s.1=(j:Int)∧∃X,s.2.2.1=T++X∧GI l P ev i j s.2.1 s.2.2.1 s.2.2.2) (fun o=>∃kn' X E',o= .inl (kn',T++X,E')∧GI l P ev (i+1) 0 kn' (T++X) E') ev.length 0 (by omega) (fun j s hj ⟨e1,X,e2,hS⟩=>by
   obtain⟨k,kn,T',E⟩:=s;dsimp only at e1 e2 hS;subst e1;have hTl:=hP.bd T' hS.nd hS.inP;have hi2:i<T'.length:=by rw [e2,yLa];omega
   have hj2:∀a b c,y1E ((j:Int),kn,T',E) a b c=some (.inl (((j+1:Nat):Int),a,b,c)):=fun a b c=>by
    rw [y1E];dsimp only;rw [nxt (by omega)]
   have hEl:E.length≤200000:=by
    have h1:=hS.el;have h2:ev.length*i≤32*4000:=Nat.mul_le_mul hal (by omega);omega
   have hj3:∀x b n c,y1F ((i:Int),z) ((j:Int),kn,T',E) x b n c=some (.inl (((j+1:Nat):Int),c,b,E++[((i:Int),x,n)])):=fun x b n c=>by
    rw [y1F];dsimp only;rw [y4P (by simp;omega),yOb,hj2]
   have htP:=hS.inP _ (yGm hi2);have hst:=yg7 (l:=l) (by omega) hr (ev:=ev) ho hk (hP.hu _ htP).1 ev[j];have htg:T'[i]? =some T'[i]:=yGe hi2;left;rw [y1G];dsimp only;rw [iP (ct_lt hj),yb hj,yOb,yb hi2,yOb,hst,yOb];cases hu:tup l T'[i] ev[j] with
   | none=>
    dsimp only;rw [iP (by simp),hj2];exact⟨_,rfl,rfl,X,e2,hS.skip htg (yGe hj) hu⟩
   | some r=>
    dsimp only;have hrP:=hP.st _ _ _ htP hu;rw [iN (by simp),key_P hP (by omega) hrP,yOb,hS.kn r hrP];by_cases hm:r∈T'
    ·rw [iP hm,iN (by simp),hj3];exact⟨_,rfl,rfl,X,e2,hS.edge hev.1 hj htg hu hm⟩
    ·rw [iN hm,iP (by simp),iN (by simp;omega),yOb,y4P (by simp;omega),yOb,hj3];exact⟨_,rfl,rfl,X++[r],by dsimp only;rw [e2,yAa],hS.new hP hev.1 hi2 hj htg hu hrP hm⟩)
  (fun s ⟨e1,X,e2,hS⟩=>by
   obtain⟨k,kn,T',E⟩:=s;dsimp only at e1 e2 hS;subst e1;refine⟨.inl (kn,T',E),?_,kn,X,E,by rw [e2],by rw [←e2];exact hS.next⟩;rw [y1G];dsimp only;rw [iN ct_ge]) (yZl _) (0,kn,T,E) ⟨rfl,[],by simp,hS⟩
 exact⟨kn',X,E',h1,h3⟩
end
structure PrG (l:List AutT) (p:AutT) (T:List LI) (n:Nat):Prop where
 right:Right p n
 tl:T.length=n
 ev:∀e,e∈p.1↔ ∃a∈l,e∈a.1
 disc:Disc (tup l) p.1 T p.2.2.2
 t0:n≠0→T[0]? =some (List.replicate l.length 0)
 live:n≠0↔liveB l=true
 mk':∀(k:Nat) (t:LI),T[k]? =some t→((k:Int)∈p.2.2.1↔tupM l t=true)
 el:p.2.2.2.length≤p.1.length*n
theorem yh2{l:List AutT}{P:LI→Prop}{M:Nat}(hP:RchP l P M)(hl:l.length≤12)(hr:∀a∈l,Rgt a):∃p T n,yE l=some (p,T,0)∧PrG l p T n∧n≤M:=by
 obtain⟨ev,os,h1,_,hev,hem,ho,hk⟩:=yga (l:=l) (by omega) hr;have hal:=hev.len;have hM:=hP.m;rw [yE,ydV hl hr,yOb,iN (by simp),h1,yOb,yg9 (by omega),yOb];cases hlv:liveB l with
 | false=>
  rw [show (if false=true then(List.replicate l.length (0:Int),true) else(([]:LI),false))=(([]:LI),false) from rfl,iP (by simp)];exact⟨(ev,0,[],[]),[],0,rfl,⟨⟨rfl,by omega,hev.1,hev.2,yPn,fun x hx=>(by cases hx),fun x hx=>(by cases hx),yPn,by dsimp only;omega,by simp,by simp⟩,rfl,hem,⟨yPn,yPn,fun x hx=>(by cases hx),fun a t e r ha=>(by simp at ha),fun k h0 h1=>(by simp at h1),fun n hn=>(by simp at hn),fun n hn=>(by simp at hn),hev.2⟩,fun h=>absurd rfl h,by simp [hlv],fun k t h=>(by simp at h),by simp⟩,yZl _⟩
 | true=>
  rw [iP rfl];dsimp only;have ht0:=hP.i0;rw [iN (by simp),key_P hP (by omega) ht0,yOb];generalize ht0e:List.replicate l.length (0:Int)=t0 at ht0 ⊢;have hS0:GI l P ev 0 0 (kput ([]:Kno) (keyK t0) 0) [t0] []:=by
   refine⟨by simp,fun t ht=>?_,fun t ht=>?_,fun x hx=>(by cases hx),fun x hx=>(by cases hx),yPn,by simp,Fnd.start (by simp)⟩
   ·rw [yMs.1 ht];exact ht0
   ·rw [y4G];by_cases e:keyK t=keyK t0
    ·have e2:=yd3 (hP.hu t ht).2 (hP.hu t0 ht0).2 e;subst e2;simp
    ·have hne:t≠t0:=fun e2=>e (by rw [e2]);rw [iN e,iN (by simp [hne])];rfl
  obtain⟨o,h2,T,Mk,E,rfl,kn,hS,hi1,hi2,hT0,hmk⟩:=ye (f:=y2C (l,ev,os)) (fun i s=>s.1=(i:Int)∧i≤s.2.2.1.length∧GI l P ev i 0 s.2.1 s.2.2.1 s.2.2.2.2∧Inc s.2.2.2.1∧(∀x∈s.2.2.2.1,0≤x∧x<(i:Int))∧s.2.2.1[0]? =some t0∧∀(a:Nat) (t:LI),a<i→s.2.2.1[a]? =some t→((a:Int)∈s.2.2.2.1↔tupM l t=true)) (fun o=>∃T Mk E,o= .inl (T,Mk,E)∧∃kn,GI l P ev T.length 0 kn T E∧Inc Mk∧(∀x∈Mk,0≤x∧x<(T.length:Int))∧T[0]? =some t0∧∀(a:Nat) (t:LI),T[a]? =some t→((a:Int)∈Mk↔tupM l t=true)) 4001 0 (by omega) (fun i s _ ⟨e1,hle,hS,hi1,hi2,ht,hmk⟩=>by
    obtain⟨k,kn,T,Mk,E⟩:=s;dsimp only at e1 hle hS hi1 hi2 ht hmk;subst e1;have hTl:=hP.bd T hS.nd hS.inP;by_cases hi:i<T.length
    ·left;obtain⟨kn',X,E',g1,g2⟩:=ygb hP hl hr hev ho hk (kn,T,Mk,E) hS hi;have hb:=yg8 (l:=l) (by omega) hr (ev:=ev) (os:=os) (hP.hu _ (hS.inP _ (yGm hi))).1;have hj:∀M',y1H (l,ev,os) ((i:Int),kn,T,Mk,E) M'=some (.inl (((i+1:Nat):Int),kn',T++X,M',E')):=fun M'=>by
      rw [y1H];dsimp only;rw [g1,yOb];dsimp only;rw [nxt (by omega)]
     have h0:(T++X)[0]? =some t0:=by rw [yAl (by omega)];exact ht
     have hold:∀(a:Nat) (t:LI),a<i→(T++X)[a]? =some t→((a:Int)∈Mk↔tupM l t=true):=fun a t ha h=>hmk a t ha (by rw [yAl (by omega)] at h;exact h);have hat:∀t,(T++X)[i]? =some t→t=T[i]:=fun t h=>by
      rw [yAl hi,yGe hi] at h;cases h;rfl
     have hno:∀a:Nat,i≤a→(a:Int)∉Mk:=fun a ha hm=>by have:=hi2 _ hm;omega
     rw [y2C];dsimp only;rw [iP (ct_lt hi),yb hi,yOb,hb,yOb];cases hbb:tupM l T[i] with
     | false=>
      rw [iN (by simp),hj];refine⟨_,rfl,rfl,by dsimp only;rw [yLa];omega,g2,hi1,fun x hx=>by have:=hi2 x hx;omega,h0,fun a t ha h=>?_⟩;by_cases e:a=i
      ·subst e;rw [hat t h,hbb];exact⟨fun hm=>absurd hm (hno a (yNr _)),fun h=>(by cases h)⟩
      ·exact hold a t (by omega) h
     | true=>
      have hMl:=y5E (n:=i) (lo:=0) hi1 hi2 (Int.le_refl _);rw [iP rfl,y4P (by simp;omega),yOb,hj];refine⟨_,rfl,rfl,by dsimp only;rw [yLa];omega,g2,?_,fun x hx=>?_,h0,fun a t ha h=>?_⟩
      ·dsimp only;unfold Inc at hi1 ⊢;rw [List.pairwise_append];exact⟨hi1,List.pairwise_singleton _ _,fun a ha b hb=>by rw [yMs.1 hb];exact(hi2 a ha).2⟩
      ·dsimp only at hx;rcases yMa.1 hx with hx|hx
       ·have:=hi2 x hx;omega
       ·rw [yMs.1 hx];omega
      ·dsimp only;rw [yMa,yMs];by_cases e:a=i
       ·subst e;rw [hat t h,hbb];exact⟨fun _=>rfl,fun _=> .inr rfl⟩
       ·rw [←hold a t (by omega) h];exact⟨fun hm=>hm.resolve_right (by omega),.inl⟩
    ·right;obtain rfl:i=T.length:=by omega
     refine⟨.inl (T,Mk,E),?_,T,Mk,E,rfl,kn,hS,hi1,hi2,ht,fun a t h=>hmk a t (yGs.1 h).1 h⟩;rw [y2C];dsimp only;rw [iN ct_ge]) (fun s ⟨e1,hle,hS,_⟩=>by
    have hTl:=hP.bd _ hS.nd hS.inP;omega) (yZl _) (0,kput ([]:Kno) (keyK t0) 0,[t0],[],[]) ⟨rfl,by simp,hS0,yPn,fun x hx=>(by cases hx),rfl,fun a t ha=>absurd ha (Nat.not_lt_zero _)⟩
  have hTl:=hP.bd T hS.nd hS.inP;have hpos:0<T.length:=(yGs.1 hT0).1;have hEl:E.length≤200000:=by
   have h1:=hS.el;have h2:ev.length*T.length≤32*4000:=Nat.mul_le_mul hal (by omega);omega
  have hD:Disc (tup l) ev T E:=hS.fnd.disc hS.nd hS.so (fun x hx=>(hS.er x hx).2.2) hev.2;have hMl:=y5E (n:=T.length) (lo:=0) hi1 hi2 (Int.le_refl _);refine⟨(ev,(T.length:Int),Mk,E),T,T.length,by rw [h2];rfl,⟨⟨rfl,by omega,hev.1,hev.2,hi1,hi2,fun x hx=>?_,hS.so,by dsimp only;omega,by dsimp only;omega,by dsimp only;omega⟩,rfl,hem,hD,fun _=>ht0e▸hT0,⟨fun _=>hlv,fun _=>by omega⟩,hmk,by have:=hS.el;dsimp only;omega⟩,hTl⟩;obtain⟨a,q,t,r,g1,g2,g3,g4,g5,_⟩:=hD.sn x hx;have:=(yGs.1 g3).1;have:=(yGs.1 g4).1;exact⟨by omega,by omega,by omega,by omega,g5⟩
theorem y9W{a:NdT}{S:LI}{t:Int}:Rc3 a.2.2.2.2 S t↔ ∃s∈S,Star (ltsN a).nxt1 s t:=by
 constructor
 ·intro h
  induction h with
  | ini h=>exact⟨_,h,.refl _⟩
  | edge hx _ ih=>
   obtain⟨s,hs,h⟩:=ih;exact⟨s,hs,h.tail ⟨_,hx⟩⟩
 ·rintro ⟨s,hs,h⟩
  induction h with
  | refl=>exact .ini hs
  | tail _ g ih=>
   obtain⟨e,g⟩:=g;exact .edge (x:=(_,e,_)) g ih
theorem yck{a:NdT}:goodB a s=true↔ ∃t,Star (ltsN a).nxt1 s t∧(ltsN a).fin t:=by
 unfold goodB;rw [@decide_eq_true_iff _ (Classical.propDecidable _)];constructor
 ·rintro ⟨t,h1,h2⟩;obtain⟨u,hu,h3⟩:=y9W.1 h2;rw [yMs.1 hu] at h3;exact⟨t,h3,h1⟩
 ·rintro ⟨t,h1,h2⟩;exact⟨t,h2,y9W.2 ⟨s,yMs.2 rfl,h1⟩⟩
theorem yhv{a:NdT}(ha:NdOk a){q:Nat→Bool}(hq:∀i:Nat,i<a.2.1.toNat→(q i=true↔Rc3 a.2.2.2.2 a.2.2.1 (i:Int))):((staL a.2.1.toNat q).filter fun s=>!goodB a s)= []↔(ltsN a).NB:=by
 rw [List.filter_eq_nil_iff];have hin:∀s,(ltsN a).rch s→0≤s∧s<a.2.1:=fun s ⟨i,hi,hp⟩=>by
  induction hp with
  | refl=>exact ha.inn.i i hi
  | tail _ g _=>obtain⟨e,g⟩:=g;exact(ha.inn.s _ _ _ g).2
 constructor
 ·intro h s hs;obtain⟨h0,h1⟩:=hin s hs;have hm:s∈staL a.2.1.toNat q:=y8q.2 ⟨s.toNat,by omega,by omega,(hq _ (by omega)).2 (by
   rw [show ((s.toNat:Nat):Int)=s by omega];obtain⟨i,hi,hp⟩:=hs;exact y9W.2 ⟨i,hi,hp⟩)⟩
  have:=h s hm;simp only [Bool.not_eq_true',Bool.not_eq_false] at this;exact yck.1 (by simpa using this)
 ·intro h s hs;obtain⟨i,rfl,hi,hqi⟩:=y8q.1 hs;obtain⟨u,hu,hp⟩:=y9W.1 ((hq i hi).1 hqi);have:=yck.2 (h (i:Int) ⟨u,hu,hp⟩);simp [this]
def fromN(a:AutT):NdT:=(a.1,a.2.1,if a.2.1>0 then [0] else [],a.2.2.1,a.2.2.2)
theorem ygc{n:Nat}(hr:Right a n)(hl:a.2.2.2.length≤65536):NdOk (fromN a):=by
 have hn:=hr.nn;have hnl:=hr.nl;have hini:∀x∈(fromN a).2.2.1,x=0∧0<a.2.1:=fun x hx=>by
  unfold fromN at hx;dsimp only at hx;split at hx
  ·exact ⟨yMs.1 hx,by assumption⟩
  ·cases hx
 refine⟨hr.ali,hr.alr,by show 0≤a.2.1;omega,by show a.2.1≤4096;omega,?_,fun x hx=>?_,hr.msi,fun x hx=>?_,hr.so.imp fun h=>?_,fun x hx=>?_,hr.l1,?_,hr.l2,hl⟩
 ·unfold fromN;dsimp only;split <;> simp
 ·have:=hini x hx;show 0≤x∧x<a.2.1;omega
 ·have:=hr.msr x hx;show 0≤x∧x<a.2.1;omega
 ·unfold ltE3;omega
 ·have:=hr.es x hx;show 0≤x.1∧x.1<a.2.1∧0≤x.2.2∧x.2.2<a.2.1∧(x.2.1= -1∨x.2.1∈a.1);exact⟨this.1,by omega,this.2.2.1,by omega,.inr this.2.2.2.2⟩
 ·unfold fromN;dsimp only;split <;> simp
def ltsA(a:AutT):Lts Int:=ltsN (fromN a)
theorem y6I:(ltsA a).ini s↔s=0∧0<a.2.1:=by
 show s∈(if a.2.1>0 then [0] else [])↔_;split
 ·simp_all
 ·simp_all
theorem yaY :∀{l:List AutT} {t:LI},(∀a∈l,Rgt a)→(Lts.tIni (l.map ltsA) t↔liveB l=true∧t=List.replicate l.length 0)
 | [],[],_=>⟨fun _=>⟨rfl,rfl⟩,fun _=>trivial⟩
 | [],_::_,_=>⟨fun h=>h.elim,fun h=>by cases h.2⟩
 | _::_,[],_=>⟨fun h=>h.elim,fun h=>by cases h.2⟩
 | a::l,x::t,hr=>by
  have ih:=yaY (l:=l) (t:=t) fun b hb=>hr b (.tail _ hb);obtain⟨n,hn⟩:=hr a (.head _);have hnn:=hn.nn;show(ltsA a).ini x∧Lts.tIni (l.map ltsA) t↔_;rw [y6I,ih];unfold liveB;rw [List.all_cons,yLc,List.replicate_succ,yAe];constructor
  ·rintro ⟨⟨rfl,h1⟩,h2,rfl⟩;exact⟨⟨by simp;omega,h2⟩,rfl⟩
  ·rintro ⟨⟨h1,h2⟩,h3⟩;obtain⟨rfl,rfl⟩:=List.cons.inj h3;refine⟨⟨rfl,?_⟩,h2,rfl⟩;simp at h1;omega
theorem ydW :∀{l:List AutT} {t:LI},Lts.tMk (l.map ltsA) t↔tupM l t=true
 | [],[]=>⟨fun _=>rfl,fun _=>trivial⟩
 | [],_::_=>⟨fun h=>h.elim,fun h=>by cases h⟩
 | _::_,[]=>⟨fun h=>h.elim,fun h=>by cases h⟩
 | a::l,x::t=>by
  have ih:=ydW (l:=l) (t:=t);show(x∈a.2.2.1)∧Lts.tMk (l.map ltsA) t↔(hasB a.2.2.1 x&&tupM l t)=true;rw [ih,yAe,yh]
theorem ybQ{e:Int}:∀{l:List AutT} {t u:LI},(∀a∈l,Rgt a)→(Lts.tSt e (l.map ltsA) t u↔tup l t e=some u)
 | [],[],[],_=>⟨fun _=>rfl,fun _=>trivial⟩
 | [],[],_::_,_=>⟨fun h=>h.elim,fun h=>by cases h⟩
 | [],_::_,_,_=>⟨fun h=>h.elim,fun h=>by cases h⟩
 | _::_,[],_,_=>⟨fun h=>h.elim,fun h=>by cases h⟩
 | a::l,x::t,[],_=>by
  refine⟨fun h=>h.elim,fun h=>?_⟩;have:=(yar h).2;simp at this
 | a::l,x::t,y::u,hr=>by
  have ih:=ybQ (e:=e) (l:=l) (t:=t) (u:=u) fun b hb=>hr b (.tail _ hb);obtain⟨n,hn⟩:=hr a (.head _);show((e∈a.1∧(x,e,y)∈a.2.2.2)∨(¬e∈a.1∧y=x))∧Lts.tSt e (l.map ltsA) t u↔((cst a x e).bind fun y=>(tup l t e).map (y :: ·))=some (y::u);have hc:((e∈a.1∧(x,e,y)∈a.2.2.2)∨(¬e∈a.1∧y=x))↔cst a x e=some y:=by
   unfold cst;by_cases h:e∈a.1
   ·rw [iP (yh.2 h),yaW hn];simp [h]
   ·rw [iN (by rw [yh];exact h)];simp [h,eq_comm]
  rw [hc,ih];cases h1:cst a x e with
  | none=>simp
  | some z=>
   rw [yOb];cases h2:tup l t e with
   | none=>simp
   | some v=>simp
theorem PrG.lab{l:List AutT}{p:AutT}{n:Nat}(h:PrG l p T n)(hr:∀a∈l,Rgt a):Lts.Lab (ltsA p) (Lts.TL (l.map ltsA)) fun i t=>0≤i∧T[i.toNat]? =some t:=by
 have hpn:=h.right.nn;have htl:=h.tl;have hevl:∀e,(∃b∈l.map ltsA,b.ev e)↔ ∃a∈l,e∈a.1:=fun e=>by
  constructor
  ·rintro ⟨b,hb,g⟩;obtain⟨a,ha,rfl⟩:=yMp.1 hb;exact⟨a,ha,g⟩
  ·rintro ⟨a,ha,g⟩;exact⟨_,yMp.2 ⟨a,ha,rfl⟩,g⟩
 exact
  {
   i1:=fun s hs=>by
    obtain⟨rfl,h0⟩:=y6I.1 hs;have hn0:n≠0:=by omega
    exact⟨_,(yaY hr).2 ⟨h.live.1 hn0,rfl⟩,by omega,h.t0 hn0⟩,
   i2:=fun t ht=>by
    obtain⟨h1,rfl⟩:=(yaY hr).1 ht;have hn0:=h.live.2 h1;exact⟨0,y6I.2 ⟨rfl,by omega⟩,by omega,h.t0 hn0⟩,
   s1:=fun e s t s' ⟨h0,ht⟩ hst=>by
    obtain⟨a,q,t',r,g1,g2,g3,g4,g5,g6⟩:=h.disc.sn _ hst;dsimp only at g1 g2 g5 g6;subst g1;subst g2;rw [yTn,g3] at ht;cases ht;exact⟨r,⟨(hevl e).2 ((h.ev e).1 g5),(ybQ hr).2 g6⟩,by omega,by rw [yTn];exact g4⟩,
   s2:=fun e s t u ⟨h0,ht⟩ ⟨h1,h2⟩=>by
    obtain⟨q,g1,g2⟩:=h.disc.ed s.toNat t e u ht ((h.ev e).2 ((hevl e).1 h1)) ((ybQ hr).1 h2);rw [show ((s.toNat:Nat):Int)=s by omega] at g1;exact⟨(q:Int),g1,by omega,by rw [yTn];exact g2⟩,
   m:=fun s t ⟨h0,ht⟩=>by
    have:=h.mk' s.toNat t ht;rw [show ((s.toNat:Nat):Int)=s by omega] at this;exact this.trans ydW.symm,
   ev:=fun e=>(h.ev e).trans (hevl e).symm }
theorem PrG.nb{l:List AutT}{p:AutT}{n:Nat}(h:PrG l p T n)(hr:∀a∈l,Rgt a):(ltsA p).NB↔(Lts.TL (l.map ltsA)).NB:=(h.lab hr).same.nb
theorem ydm{c:NdT}(hc:NdOk c):∃l:LI,y5V c=some (l,0)∧y1y c=some l∧y1A c=some l∧l.length≤4294967296∧(l= []↔(ltsN c).NB):=by
 obtain⟨q,h1,h2⟩:=yg4 hc;have h3:=yej hc h1;have:=hc.n1;refine⟨_,?_,h3,h2,?_,yhv hc h1⟩
 ·rw [y5V,yei hc,yOb,iN (by simp),h3,yOb]
 ·exact Nat.le_trans (List.length_filter_le _ _) (Nat.le_trans (y8p _ _) (by omega))
theorem y9X{p:AutT}{tg:LI}:∀(k:Nat) (s:Int),y1a (edsOf p) tg k s→∃t∈tg,Star (ltsA p).nxt1 s t
 | 0,s,h=>⟨s,h,.refl _⟩
 | k+1,s,⟨x,hx,e,h⟩=>by
  obtain⟨y,hy,rfl⟩:=yMp.1 hx;obtain⟨t,ht,g⟩:=y9X k _ h;have e:y.1=s:=e;subst e;exact⟨t,ht,g.head ⟨y.2.1,hy⟩⟩
theorem ybn{p:AutT}{tg:LI}{t:Int}(ht:t∈tg)(h:Star (ltsA p).nxt1 s t):∃k,y1a (edsOf p) tg k s:=by
 suffices g:∀{s u:Int},Star (ltsA p).nxt1 s u→∀k,y1a (edsOf p) tg k u→∃k,y1a (edsOf p) tg k s from g h 0 ht
 intro s u h
 induction h with
 | refl=>exact fun k hk=>⟨k,hk⟩
 | tail _ g ih=>
  intro k hk;obtain⟨e,g⟩:=g;exact ih (k+1) ⟨toEd (_,e,_),yMp.2 ⟨_,g,rfl⟩,rfl,hk⟩
theorem ydn{l:List AutT}{p:AutT}{n:Nat}(hs:yE l=some (p,T,0))(hR:Right p n):∃w b,y2k l=some (w,b,0)∧w.length≤4096∧(b=true↔(ltsA p).NB):=by
 have hn:=hR.nl;have hnn:=hR.nn;have hbk:=yhs hR hR.msr;rw [y2k,hs,yOb,iN (by simp)];dsimp only;rw [sprd hR hR.l2 hR.msr,yOb,yee (by rw [hbk];omega),hbk,yOb];have hneg:∀s:Int,s∈negL (y2c n (edsOf p) p.2.2.1) n↔(0≤s∧s<(n:Int))∧¬ ∃t,Star (ltsA p).nxt1 s t∧(ltsA p).fin t:=fun s=>by
  have hd:=fun(i:Nat) (hi:i<n)=>ycq (es:=edsOf p) (tg:=p.2.2.1) (n:=n) (by omega) hR.ein hR.msr i hi;unfold negL;rw [yMp];constructor
  ·rintro ⟨i,hi,rfl⟩;obtain⟨h1,h2⟩:=List.mem_filter.1 hi;have h1:=List.mem_range.1 h1;have h2:=of_decide_eq_true h2;refine⟨⟨by omega,by omega⟩,?_⟩;rintro⟨t,g,hm⟩;obtain⟨k,hk⟩:=ybn (p:=p) hm g;rcases hd i h1 with ⟨_,h3⟩|⟨m,h3,_⟩
   ·exact h3 k hk
   ·omega
  ·rintro ⟨⟨h0,h1⟩,hno⟩;refine⟨s.toNat,List.mem_filter.2 ⟨List.mem_range.2 (by omega),?_⟩,by omega⟩;rcases hd s.toNat (by omega) with ⟨h3,_⟩|⟨m,h3,h4,_⟩
   ·rw [h3];rfl
   ·rw [show ((s.toNat:Nat):Int)=s by omega] at h4;obtain⟨t,ht,g⟩:=y9X m s h4;exact absurd ⟨t,g,ht⟩ hno
 by_cases h0:n=0
 ·subst h0;refine⟨[],true,?_,by simp,fun _=>fun s ⟨i,hi,_⟩=>?_,fun _=>rfl⟩
  ·rw [y4h,iP (by simp;omega),yOb];rfl
  ·have:=(y6I.1 hi).2;omega
 ·obtain ⟨r,h1,hS⟩:=ygT hR (x:=0) (Int.le_refl _) (by omega) (yfW n _) (ygU n fun i=>decide ((y2c n (edsOf p) p.2.2.1).getD i 0<0)) (by have:=ycW (y2c n (edsOf p) p.2.2.1) n;unfold negL at this;omega);have h1:y3o p 0 (negL (y2c n (edsOf p) p.2.2.1) n) (allL n)=some r:=h1;have hS:PathSays (edsOf p) (negL (y2c n (edsOf p) p.2.2.1) n) 0 r:=hS;rw [yfX hR (by omega) h1,yOb];refine⟨_,_,rfl,?_,?_⟩
  ·dsimp only;cases hb:r.2.1 with
   | false=>rw [(hS.no hb).1];simp
   | true=>
    obtain⟨g1,g2⟩:=hS.yes hb;have hd:=yaB (es:=edsOf p) (tg:=negL (y2c n (edsOf p) p.2.2.1) n) (n:=n) (by omega) hR.ein (fun s hs=>((hneg s).1 hs).1) 0 (by omega);have:y9q (edsOf p) (negL (y2c n (edsOf p) p.2.2.1) n) ((0:Nat):Int) (r.1.length:Int):= .inr ⟨_,rfl,g1,g2⟩;have:=this.unique hd.1;omega
  ·dsimp only;rw [Bool.not_eq_true'];constructor
   ·intro hb s hs;obtain⟨i,hi,hp⟩:=hs;obtain⟨rfl,_⟩:=y6I.1 hi;refine Classical.byContradiction fun hno=>?_;have hin:0≤s∧s<(n:Int):=by
     cases hp with
     | refl=>omega
     | tail _ g=>obtain⟨e,g⟩:=g;have:=hR.es _ g;dsimp only at this;omega
    obtain⟨k,hk⟩:=ybn (p:=p) ((hneg s).2 ⟨hin,hno⟩) hp;exact(hS.no hb).2 k hk
   ·intro hN;cases hb:r.2.1 with
    | false=>rfl
    | true=>
     obtain⟨t,ht,g⟩:=y9X _ _ (hS.yes hb).1;exact absurd (hN t ⟨0,y6I.2 ⟨rfl,by omega⟩,g⟩) ((hneg t).1 ht).2
theorem yfi{xs:List E3}(h:xs.length≤4294967296):y2W xs=some xs:=by
 rw [y2W,y4P (by simpa using h)];rfl
theorem yh3{n:Nat}(hr:Right a n):yX a=some (fromN a,0):=by
 have h1:=hr.l1;have h2:=hr.l2;have h3:=hr.l3;rw [yX,hr.check,yOb,iN (by simp),y8m (by omega),yOb,y8m (by omega),yOb,yfi (by omega),yOb];unfold fromN;by_cases h:a.2.1>0
 ·rw [iP (decide_eq_true h),y1d,iP h]
 ·rw [iN (by simpa using h),y1d,iN h]
structure SmL (l:List AutT):Prop where
 len:l.length≤4
 right:∀a∈l,∃n:Nat,n≤3∧Right a n∧∀e∈a.1,e<5
theorem SmL.rgt{l:List AutT}(h:SmL l):∀a∈l,Rgt a:=fun a ha=>by
 obtain⟨n,_,hr,_⟩:=h.right a ha;exact⟨n,hr⟩
theorem yfj{B:Nat}{e:Int}:∀{l:List AutT} {t u:LI},(∀a∈l,∃n:Nat,n≤B∧Right a n)→(∀x∈t,0≤x∧x<(B:Int))→tup l t e=some u→∀x∈u,0≤x∧x<(B:Int)
 | [],[],u,_,_,h=>by cases h;intro x hx;cases hx
 | [],_::_,_,_,_,h=>by cases h
 | _::_,[],_,_,_,h=>by cases h
 | a::l,x::t,u,hr,ht,h=>by
  unfold tup at h;cases h1:cst a x e with
  | none=>rw [h1] at h;cases h
  | some y=>
   rw [h1,yOb] at h;cases h2:tup l t e with
   | none=>rw [h2] at h;cases h
   | some v=>
    rw [h2] at h;have h:some (y::v)=some u:=h;cases h;have ih:=yfj (fun b hb=>hr b (.tail _ hb)) (fun z hz=>ht z (.tail _ hz)) h2;intro z hz;rcases yMo.1 hz with rfl|hz
    ·obtain ⟨n,hn,hrn⟩:=hr a (.head _);unfold cst at h1;split at h1
     ·have:=ybL hrn h1;omega
     ·cases h1;exact ht _ (.head _)
    ·exact ih z hz
theorem yh4{l:List AutT}{B:Nat}(hr:∀a∈l,∃n:Nat,n≤B∧Right a n)(h1:1≤B)(h2:B≤99)(h3:B ^ l.length≤4000):RchP l (fun t=>t.length=l.length∧∀x∈t,0≤x∧x<(B:Int)) (B ^ l.length) where
 st t e u ht h:=⟨(yar h).2,yfj hr ht.2 h⟩
 i0:=⟨by simp,fun x hx=>by
  have:=(List.mem_replicate.1 hx).2;omega⟩
 hu t ht:=⟨ht.1,fun x hx=>by have:=ht.2 x hx;omega⟩
 bd T hn hT:=by
  have h:=y8N (B ^ l.length) (T.map (y5y B)) ?_ ?_
  ·rwa [yLm] at h
  ·rw [List.Nodup,List.pairwise_map];refine List.Pairwise.imp_of_mem (fun {a b} ha hb hab e=>hab ?_) hn;exact ybh ((hT a ha).1.trans (hT b hb).1.symm) (hT a ha).2 (hT b hb).2 e
  ·intro x hx;obtain⟨t,ht,rfl⟩:=yMp.1 hx;rw [←(hT t ht).1];exact ycd (hT t ht).2
 m:=h3
theorem SmL.prod{l:List AutT}(h:SmL l):∃p T n,yE l=some (p,T,0)∧PrG l p T n∧n≤81:=by
 have hlen:=h.len;have hp:3 ^ l.length≤3 ^ 4:=Nat.pow_le_pow_right (by omega) hlen;obtain⟨p,T,n,h1,h2,h3⟩:=yh2 (yh4 (B:=3) (fun a ha=>by
  obtain⟨n,hn,hr,_⟩:=h.right a ha;exact⟨n,hn,hr⟩) (by omega) (by omega) (by omega)) (by omega) h.rgt
 exact⟨p,T,n,h1,h2,by omega⟩
theorem inc5{xs:LI}(hi:Inc xs)(h:∀x∈xs,0≤x∧x<5):xs.length≤5:=by
 have:=y5E (n:=5) (lo:=0) hi h (Int.le_refl _);omega
theorem SmL.nb{l:List AutT}(h:SmL l):∃w b s,y2k l=some (w,b,0)∧w.length≤4096∧(b=true↔(Lts.TL (l.map ltsA)).NB)∧∃p T,yE l=some (p,T,0)∧yX p=some (fromN p,0)∧y1A (fromN p)=some s∧(s= []↔(Lts.TL (l.map ltsA)).NB):=by
 obtain⟨p,T,n,h1,hG,hn⟩:=h.prod;have hR:=hG.right;have hnb:=hG.nb h.rgt;obtain⟨w,b,k1,k2,k3⟩:=ydn h1 hR;have hal:p.1.length≤5:=inc5 hR.ali fun e he=>by
  obtain⟨a,ha,hae⟩:=(hG.ev e).1 he;obtain⟨_,_,_,h5⟩:=h.right a ha;exact⟨(hR.alr e he).1,h5 e hae⟩
 have hel:p.2.2.2.length≤65536:=by
  have h3:=hG.el;have h4:p.1.length*n≤5*81:=Nat.mul_le_mul hal hn;omega
 obtain⟨s,_,_,j3,_,j5⟩:=ydm (ygc hR hel);exact⟨w,b,s,k1,k2,k3.trans hnb,p,T,h1,yh3 hR,j3,j5.trans hnb⟩
theorem SmL.sub{l q:List AutT}(h:SmL l)(hq:q.length≤4)(hm:∀a∈q,a∈l):SmL q:=⟨hq,fun a ha=>h.right a (hm a ha)⟩
def pick(l:List AutT)(is:LI):List AutT:=is.filterMap fun i=>l[i.toNat]?
theorem ygd{l:List AutT}(h:a∈pick l is):a∈l:=by
 obtain⟨i,_,h⟩:=List.mem_filterMap.1 h;exact List.mem_of_getElem? h
theorem yfk{l:List AutT}{i:Int}(h:i.toNat<l.length):pick l (is++[i])=pick l is++[l[i.toNat]]:=by
 unfold pick;rw [List.filterMap_append];simp [yGe h]
theorem yd9(l:List AutT)(is:LI):(pick l is).length≤is.length:=List.length_filterMap_le _ _
theorem ycl{f:Int×List AutT→Option ((Int×List AutT)⊕List AutT)}{l:List AutT}(hi:∀i∈is,0≤i∧i<(l.length:Int))(hl:is.length≤1000)
  (step:∀j (hj:j<is.length) (o:List AutT),f ((j:Int),o)=(idx l is[j]).bind fun x=>(app o [x]).bind fun y=>some (.inl (W ((j:Int)+1),y))) (last:∀o,f ((is.length:Int),o)=some (.inr o)):iter f (0,[])=some (pick l is):=by
 obtain⟨o,ho,he⟩:=ye (f:=f) (fun j st=>st=((j:Int),pick l (is.take j))) (fun o=>o=pick l is) is.length 0 (by omega) (fun j st hj e1=>by
   subst e1;have h:=hi _ (yGm hj);have hp:=yd9 l (is.take j);rw [yLt,Nat.min_eq_left (by omega)] at hp;have hx:idx l is[j]=some (l[is[j].toNat]'(by omega)):=by
    unfold idx;rw [iP h.1,yGe (by omega)]
   refine .inl ⟨_,?_,rfl⟩;rw [step j hj,hx,yOb,y4P (by simp;omega),yOb,nxt (by omega),yTs hj,yfk (by omega)])
  (fun st e1=>by
   subst e1;exact⟨_,last _,by rw [List.take_length]⟩) (by omega) (0,[]) rfl
 rw [ho,he]
theorem yda(s:LI):((s.length:Int)==0)=decide (s= []):=by
 cases s with
 | nil=>rfl
 | cons x l=>
  have:((x::l).length:Int)≠0:=by rw [yLc];omega
  rw [beq_eq_false_iff_ne.2 this,decide_eq_false (by simp)]
theorem ydo{l:List AutT}(h:SmL l)(hi:∀i∈is,0≤i∧i<(l.length:Int))(hl:is.length≤4):∃b,y3m l is=some (!b,0)∧y2L l is=some b:=by
 have hq:=h.sub (q:=pick l is) (Nat.le_trans (yd9 l is) hl) fun a ha=>ygd ha;obtain⟨w,b,s,k1,_,k3,p,T,k4,k5,k6,k7⟩:=hq.nb;refine⟨b,?_,?_⟩
 ·rw [y3m,ycl (f:=y2x l is) hi (by omega) (fun j hj o=>by
   unfold y2x;simp only [ct_lt hj,if_true,yb hj,yOb]) (fun o=>by
   unfold y2x;simp),yOb,y3v,k1,yOb,iN (by simp),yOb]
 ·rw [y2L,ycl (f:=y2i l is) hi (by omega) (fun j hj o=>by
   unfold y2i;simp only [ct_lt hj,if_true,yb hj,yOb]) (fun o=>by
   unfold y2i;simp),yOb,k4,yOb,iN (by simp),k5,yOb,k6,yOb,yda]
  have:s= []↔b=true:=k7.trans k3.symm;congr 1;rw [Bool.eq_iff_iff,decide_eq_true_iff,this]
def hdl(S:AutT):Int→LI→Int×Nat
 | s,[]=>(s,0)
 | s,e::l=>if hasB S.1 e=true then(match st1 S s e with
   | none=>(s,0)
   | some u=>((hdl S u l).1,(hdl S u l).2+1)) else((hdl S s l).1,(hdl S s l).2+1)
structure SR (st:Int→Int→Option Int) (al:LI) (n i j:Nat) (T:LI) (kn:List (Int×Int)) (E:List (Int×Int×Int)):Prop where
 f:Fnd st al i j T E
 k1:∀s v,kget kn s=some v→∃q:Nat,v=(q:Int)∧T[q]? =some s
 k2:∀s∈T,(kget kn s).isSome=true
 nd:T.Nodup
 tr:∀s∈T,0≤s∧s<(n:Int)
 so:E.Pairwise fun x y=>x.1<y.1∨(x.1=y.1∧x.2.1<y.2.1)
 ei:∀x∈E,x.1<(i:Int)∨(x.1=(i:Int)∧∃b,∃hb:b<al.length,b<j∧al[b]=x.2.1)
 ea:∀x∈E,x.2.1∈al
 el:E.length≤32*i+j
namespace SR
variable{st:Int→Int→Option Int}{al:List Int}{n i j:Nat}{T:List Int}{kn:List (Int×Int)}{E:List (Int×Int×Int)}
theorem len(h:SR st al n i j T kn E):T.length≤n:=by
 have:=y8N n (T.map Int.toNat) (by
  unfold List.Nodup;rw [List.pairwise_map];refine h.nd.imp_of_mem fun {a b} ha hb hab=>?_;have h1:=h.tr a ha;have h2:=h.tr b hb;omega) (fun x hx=>by
  obtain⟨y,hy,rfl⟩:=List.mem_map.1 hx;have:=h.tr y hy;omega)
 simpa using this
theorem skip(h:SR st al n i j T kn E){e:Int}(ht:T[i]? =some s)(he:al[j]? =some e)(hs:st s e=none):SR st al n i (j+1) T kn E:=
 ⟨h.f.skip ht he hs,h.k1,h.k2,h.nd,h.tr,h.so,fun x hx=>by
  rcases h.ei x hx with h1|⟨h1,b,hb,h2,h3⟩
  ·exact .inl h1
  ·exact .inr ⟨h1,b,hb,by omega,h3⟩,h.ea,by have:=h.el;omega⟩
theorem next(h:SR st al n i j T kn E)(hj:al.length≤j)(hj2:j≤32):SR st al n (i+1) 0 T kn E:=
 ⟨h.f.next hj,h.k1,h.k2,h.nd,h.tr,h.so,fun x hx=>by
  rcases h.ei x hx with h1|⟨h1,_⟩
  ·exact .inl (by omega)
  ·exact .inl (by omega),h.ea,by have:=h.el;omega⟩
theorem pw(h:SR st al n i j T kn E)(ia:Inc al)(hj:j<al.length)(v:Int):(E++[((i:Int),al[j],v)]).Pairwise fun x y=>x.1<y.1∨(x.1=y.1∧x.2.1<y.2.1):=by
 rw [List.pairwise_append];refine⟨h.so,List.pairwise_singleton _ _,fun x hx y hy=>?_⟩;rw [yMs.1 hy];rcases h.ei x hx with h1|⟨h1,b,hb,h2,h3⟩
 ·exact .inl h1
 ·refine .inr ⟨h1,?_⟩;rw [←h3];exact List.pairwise_iff_getElem.1 ia b j hb hj h2
theorem ei'(h:SR st al n i j T kn E)(hj:j<al.length)(v:Int):∀x∈E++[((i:Int),al[j],v)],x.1<(i:Int)∨(x.1=(i:Int)∧∃b,∃hb:b<al.length,b<j+1∧al[b]=x.2.1):=fun x hx=>by
 rcases yMa.1 hx with hx|hx
 ·rcases h.ei x hx with h1|⟨h1,b,hb,h2,h3⟩
  ·exact .inl h1
  ·exact .inr ⟨h1,b,hb,by omega,h3⟩
 ·rw [yMs.1 hx];exact .inr ⟨rfl,j,hj,by omega,rfl⟩
theorem ea'(h:SR st al n i j T kn E)(hj:j<al.length)(v:Int):∀x∈E++[((i:Int),al[j],v)],x.2.1∈al:=fun x hx=>by
 rcases yMa.1 hx with hx|hx
 ·exact h.ea x hx
 ·rw [yMs.1 hx];exact yGm hj
theorem edge(h:SR st al n i j T kn E)(ia:Inc al)(hj:j<al.length){q:Nat}(ht:T[i]? =some s)(hs:st s al[j]=some v)(hq:T[q]? =some v):SR st al n i (j+1) T kn (E++[((i:Int),al[j],(q:Int))]):=
 ⟨h.f.edge ht (yGe hj) hs hq,h.k1,h.k2,h.nd,h.tr,h.pw ia hj _,h.ei' hj _,h.ea' hj _,by have:=h.el;simp;omega⟩
theorem new(h:SR st al n i j T kn E)(ia:Inc al)(hj:j<al.length)(ht:T[i]? =some s)(hs:st s al[j]=some v)(hk:kget kn v=none)(v0:0≤v)(v1:v<(n:Int)):SR st al n i (j+1) (T++[v]) (kput kn v (T.length:Int)) (E++[((i:Int),al[j],(T.length:Int))]):=by
 have hi:=(List.getElem?_eq_some_iff.1 ht).1;refine⟨h.f.new hi ht (yGe hj) hs,fun s' w hw=>?_,fun s' hs'=>?_,?_,fun s' hs'=>?_,h.pw ia hj _,h.ei' hj _,h.ea' hj _,by have:=h.el;simp;omega⟩
 ·rw [y4G] at hw;split at hw
  ·rename_i e;subst e;cases hw;exact⟨T.length,rfl,by rw [List.getElem?_append_right (Nat.le_refl _)];simp⟩
  ·obtain ⟨q,h1,h2⟩:=h.k1 s' w hw;exact⟨q,h1,by rw [List.getElem?_append_left (List.getElem?_eq_some_iff.1 h2).1,h2]⟩
 ·rw [y4G];split
  ·rfl
  ·rename_i e;rcases yMa.1 hs' with hs'|hs'
   ·exact h.k2 s' hs'
   ·exact absurd (yMs.1 hs') e
 ·unfold List.Nodup;rw [List.pairwise_append];refine⟨h.nd,List.pairwise_singleton _ _,fun a ha b hb e=>?_⟩;rw [yMs.1 hb] at e;subst e;have:=h.k2 a ha;rw [hk] at this;cases this
 ·rcases yMa.1 hs' with hs'|hs'
  ·exact h.tr s' hs'
  ·rw [yMs.1 hs'];exact⟨v0,v1⟩
end SR
structure CanOf (st:Int→Int→Option Int) (al ms:List Int) (r:AutT) (X:List Int):Prop where
 right:Right r X.length
 ale:r.1=al
 x0:0<X.length→X[0]? =some 0
 disc:Disc st al X r.2.2.2
 mkd:∀(i:Nat) (s:Int),X[i]? =some s→((i:Int)∈r.2.2.1↔s∈ms)
theorem y9Y{S R:Type}{f:S→Option (S⊕(Unit⊕R))}(mk:Int→S)(n:Nat)(hn:n≤4000000)(b:Nat→Bool)(r:Nat→R)(step:∀i,i<n→f (mk (i:Int))=if b i=true then some (.inr (.inr (r i))) else some (.inl (mk ((i+1:Nat):Int))))(last:f (mk (n:Int))=some (.inr (.inl ()))):
  ∃o,iter f (mk 0)=some o∧((o= .inl ()∧∀i,i<n→b i=false)∨∃i,i<n∧o= .inr (r i)∧b i=true∧∀j,j<i→b j=false):=by
 refine ye (f:=f) (fun i s=>s=mk (i:Int)∧∀j,j<i→b j=false) _ n 0 (by omega) (fun i s hi ⟨e1,g1⟩=>?_) (fun s ⟨e1,g1⟩=>?_) (yZl _) (mk 0) ⟨rfl,fun j hj=>absurd hj (by omega)⟩
 ·subst e1;rw [step i hi];cases hb:b i with
  | true=>exact .inr ⟨_,rfl,.inr ⟨i,hi,rfl,hb,g1⟩⟩
  | false=>
   refine .inl ⟨_,by rw [if_neg (by simp)],rfl,fun j hj=>?_⟩;by_cases e:j=i
   ·rw [e];exact hb
   ·exact g1 j (by omega)
 ·subst e1;exact⟨_,last,.inl ⟨rfl,g1⟩⟩
theorem yge(p:Int):∃ev,y2o p=some ev∧Inc ev∧(∀x∈ev,0≤x∧x<5)∧ev.length≤5:=by
 obtain⟨o,h1,h2⟩:=ye (f:=y1B p) (fun i s=>s.1=(i:Int)∧Inc s.2∧(∀x∈s.2,0≤x∧x<(i:Int))∧s.2.length≤i) (fun o=>Inc o∧(∀x∈o,0≤x∧x<5)∧o.length≤5) 5 0 (by omega) (fun i s hi ⟨e1,e2,e3,e4⟩=>by
   obtain⟨s1,s2⟩:=s;dsimp only at e1 e2 e3 e4;subst e1;have hj:∀l:List Int,yN ((i:Int),s2) l=some (.inl (((i+1:Nat):Int),l)):=fun l=>by
    rw [yN];dsimp only;rw [nxt (by omega)]
   left;rw [y1B];dsimp only;rw [if_pos (by simp;omega),show ng (i:Int)=some () from if_neg (by omega),yOb];split
   ·rw [y4t (by simp;omega),yOb,hj];refine⟨_,rfl,rfl,?_,fun x hx=>?_,by simp;omega⟩
    ·unfold Inc at e2 ⊢;rw [List.pairwise_append];exact⟨e2,List.pairwise_singleton ..,fun a ha b hb=>by rw [yMs.1 hb];exact(e3 a ha).2⟩
    ·dsimp only at hx;rcases yMa.1 hx with h|h
     ·have:=e3 x h;omega
     ·rw [yMs.1 h];omega
   ·rw [hj];exact⟨_,rfl,rfl,e2,fun x hx=>by have:=e3 x hx;omega,by dsimp only;omega⟩) (fun s ⟨e1,e2,e3,e4⟩=>by
   obtain⟨s1,s2⟩:=s;dsimp only at e1 e2 e3 e4;subst e1;refine⟨s2,?_,e2,e3,e4⟩;rw [y1B];dsimp only;rw [if_neg (by simp)]) (by omega) (0,[]) ⟨rfl,List.Pairwise.nil,fun x hx=>(by cases hx),by simp⟩
 exact⟨o,by rw [y2o,h1];rfl,h2⟩
theorem ycm{xs:List Int}(h:xs.length≤1000000):y1z xs=some (xs,0,[],[]):=by
 rw [y1z,y4t (by simp;omega)];rfl
theorem ydX{xs:List Int}{x:Int}(hl:xs.length≤1000000):y2X xs x=some (hasB xs x):=by
 obtain⟨o,h1,h2⟩:=y9Y (f:=y3l xs x) (fun i=>i) xs.length (by omega) (fun i=>xs[i]? == some x) (fun _=>()) (fun i hi=>by
  rw [y3l];rw [if_pos (ct_lt hi),yb hi,yOb,nxt (by omega),yGe hi];by_cases e:xs[i]=x
  ·rw [if_pos (by simpa using e),if_pos (by simpa using e)]
  ·rw [if_neg (by simpa using e),if_neg (by simpa using e)]) (by
  rw [y3l];rw [if_neg ct_ge])
 rw [y2X,h1,yOb];rcases h2 with ⟨rfl,h3⟩|⟨i,hi,rfl,h3,h4⟩
 ·have:hasB xs x=false:=by
   rw [←Bool.not_eq_true,yh];intro hm;obtain⟨k,hk,e⟩:=List.getElem_of_mem hm;have:=h3 k hk;rw [yGe hk,e] at this;simp at this
  rw [this]
 ·have:hasB xs x=true:=by
   rw [yh];rw [yGe hi] at h3;have h3:xs[i]=x:=by simpa using h3
   exact h3▸yGm hi
  rw [this]
theorem yfl{xs:List Int}{x:Int}(hl:xs.length≤1000000)(hm:x∈xs):∃k:Nat,y3x xs x=some (k:Int)∧xs[k]? =some x:=by
 obtain⟨o,h1,h2⟩:=y9Y (f:=y2K xs x) (fun i=>i) xs.length (by omega) (fun i=>xs[i]? == some x) (fun i=>(i:Int)) (fun i hi=>by
  rw [y2K];rw [if_pos (ct_lt hi),yb hi,yOb,nxt (by omega),yGe hi];by_cases e:xs[i]=x
  ·rw [if_pos (by simpa using e),if_pos (by simpa using e)]
  ·rw [if_neg (by simpa using e),if_neg (by simpa using e)]) (by
  rw [y2K];rw [if_neg ct_ge])
 rw [y3x,h1,yOb];rcases h2 with ⟨rfl,h3⟩|⟨i,hi,rfl,h3,h4⟩
 ·exfalso;obtain⟨k,hk,e⟩:=List.getElem_of_mem hm;have:=h3 k hk;rw [yGe hk,e] at this;simp at this
 ·exact ⟨i,rfl,by simpa using h3⟩
theorem ygf{e:Int}(h:∀x∈a.2.2.2,¬(x.1=s∧x.2.1=e)):st1 a s e=none:=by
 unfold st1;rw [Option.map_eq_none_iff,List.find?_eq_none];intro x hx;have:=h x hx;simpa using this
theorem ydb{n:Nat}(hr:Right a n)(s e:Int):y2I a s e=some ((st1 a s e).getD (-1)):=by
 have hl:=hr.l3;obtain⟨o,h1,h2⟩:=y9Y (f:=y2Q a s e) (fun i=>i) a.2.2.2.length (by omega) (fun i=>match a.2.2.2[i]? with | some x=>x.1==s&&x.2.1==e|none=>false) (fun i=>(a.2.2.2.getD i (0,0,0)).2.2) (fun i hi=>by
  rw [y2Q];rw [if_pos (ct_lt hi),yb hi,yOb,nxt (by omega),yGe hi,List.getD_eq_getElem?_getD,yGe hi];dsimp only [Option.getD_some];by_cases e1:a.2.2.2[i].1=s
  ·rw [if_pos (by simpa using e1),yOb,yOb,yOb];by_cases e2:a.2.2.2[i].2.1=e
   ·rw [if_pos (by simpa using e2),if_pos (by simp [e1,e2])]
   ·rw [if_neg (by simpa using e2),if_neg (by simp [e2])]
  ·rw [if_neg (by simpa using e1),yOb,if_neg (by simp),if_neg (by simp [e1])]) (by
  rw [y2Q];rw [if_neg ct_ge])
 rw [y2I,h1,yOb];rcases h2 with ⟨rfl,h3⟩|⟨i,hi,rfl,h3,h4⟩
 ·rw [ygf fun x hx hxx=>?_]
  ·rfl
  ·obtain ⟨k,hk,e'⟩:=List.getElem_of_mem hx;have:=h3 k hk;rw [yGe hk,e'] at this;simp [hxx.1,hxx.2] at this
 ·rw [yGe hi] at h3;have h3:a.2.2.2[i].1=s∧a.2.2.2[i].2.1=e:=by simpa using h3
  have:st1 a s e=some a.2.2.2[i].2.2:=by
   rw [yaW hr,←h3.1,←h3.2];exact yGm hi
  rw [this,List.getD_eq_getElem?_getD,yGe hi];rfl
section
variable{a:AutT}{n:Nat}
theorem ygg(hr:Right a n)(hal:a.1.length≤32){y:List Int}{X:List Int}{kn:List (Int×Int)}{E:List (Int×Int×Int)}(hS:SR (st1 a) a.1 n i 0 X kn E)(hi:i<X.length):
  ∃kn' X' E',iter (y1L a ((i:Int),y)) (0,X)=some X'∧SR (st1 a) a.1 n (i+1) 0 X' kn' E'∧∃U,X'=X++U:=by
 have hnl:=hr.nl;obtain⟨o,h1,kn',E',hS',hU⟩:=ye (f:=y1L a ((i:Int),y)) (fun j s=>s.1=(j:Int)∧∃kn E,SR (st1 a) a.1 n i j s.2 kn E∧∃U,s.2=X++U) (fun o=>∃kn E,SR (st1 a) a.1 n (i+1) 0 o kn E∧∃U,o=X++U) a.1.length 0 (by omega) (fun j s hj ⟨e1,kn1,E1,hS1,U,hU⟩=>by
   obtain⟨c,X1⟩:=s;dsimp only at e1 hS1 hU;subst e1;have hX1:=hS1.len;have hi1:i<X1.length:=by rw [hU,List.length_append];omega
   have hj2:∀l:List Int,y1K ((j:Int),X1) l=some (.inl (((j+1:Nat):Int),l)):=fun l=>by
    rw [y1K];dsimp only;rw [nxt (by omega)]
   left;rw [y1L];dsimp only;rw [if_pos (ct_lt hj),yb hi1,yOb,yb hj,yOb,ydb hr,yOb];cases hst:st1 a X1[i] a.1[j] with
   | none=>
    rw [Option.getD_none,if_neg (by simp),yOb,if_neg (by simp),hj2];exact⟨_,rfl,rfl,kn1,E1,hS1.skip (yGe hi1) (yGe hj) hst,U,hU⟩
   | some t=>
    have ht:=ybL hr hst;rw [Option.getD_some,if_pos (by simp;omega),ydX (by omega),yOb,yOb];by_cases hm:t∈X1
    ·obtain ⟨q,hq⟩:=List.getElem?_of_mem hm;rw [yh.2 hm,if_neg (by simp),hj2];exact⟨_,rfl,rfl,kn1,_,hS1.edge hr.ali hj (yGe hi1) hst hq,U,hU⟩
    ·have hb:hasB X1 t=false:=by rw [←Bool.not_eq_true,yh];exact hm
     rw [hb,if_pos (by simp),y4t (by simp;omega),yOb,hj2];have hk:kget kn1 t=none:=by
      cases hk:kget kn1 t with
      | none=>rfl
      | some v=>
       obtain⟨q,_,hq⟩:=hS1.k1 _ _ hk;exact absurd (List.mem_of_getElem? hq) hm
     exact⟨_,rfl,rfl,_,_,hS1.new hr.ali hj (yGe hi1) hst hk ht.2.2.1 ht.2.2.2.1,U++[t],by dsimp only;rw [hU,List.append_assoc]⟩) (fun s ⟨e1,kn1,E1,hS1,hU⟩=>by
   obtain⟨c,X1⟩:=s;dsimp only at e1 hS1 hU;subst e1;rw [y1L];dsimp only;rw [if_neg ct_ge];exact⟨_,rfl,kn1,E1,hS1.next (Nat.le_refl _) hal,hU⟩) (yZl _) (0,X) ⟨rfl,kn,E,hS,[],(List.append_nil _).symm⟩
 exact⟨kn',o,E',h1,hS',hU⟩
theorem ygh(hr:Right a n)(h0:0<n):∃X kn E,y3w a=some X∧SR (st1 a) a.1 n X.length 0 X kn E∧X[0]? =some 0:=by
 have hnl:=hr.nl;have hal:a.1.length≤32:=Alp.len ⟨hr.ali,hr.alr⟩;have hS0:SR (st1 a) a.1 n 0 0 [0] (kput [] 0 0) []:=by
  refine⟨Fnd.start (by simp),fun s v hv=>?_,fun s hs=>?_,by simp,fun s hs=>?_,List.Pairwise.nil,fun x hx=>(by cases hx),fun x hx=>(by cases hx),by simp⟩
  ·rw [y4G] at hv;split at hv
   ·rename_i e;subst e;cases hv;exact⟨0,rfl,rfl⟩
   ·cases hv
  ·rw [yMs.1 hs,y4G,if_pos rfl];rfl
  ·rw [yMs.1 hs];omega
 obtain⟨o,h1,kn,E,h2,h3⟩:=ye (f:=y1M a) (fun i s=>s.1=(i:Int)∧i≤s.2.length∧∃kn E,SR (st1 a) a.1 n i 0 s.2 kn E∧s.2[0]? =some 0) (fun o=>∃kn E,SR (st1 a) a.1 n o.length 0 o kn E∧o[0]? =some 0) n 0 (by omega) (fun i s hi ⟨e1,hle,kn,E,hS,x0⟩=>by
   obtain⟨c,X⟩:=s;dsimp only at e1 hle hS x0;subst e1;have hXl:=hS.len;rw [y1M];dsimp only;by_cases hix:i<X.length
   ·left;obtain⟨kn',X',E',w1,w2,U,hU⟩:=ygg hr hal (y:=X) hS hix;rw [if_pos (ct_lt hix),w1,yOb,nxt (by omega)];exact⟨_,rfl,rfl,by dsimp only;rw [hU,List.length_append];omega,kn',E',w2,by dsimp only;rw [hU,List.getElem?_append_left (by omega)];exact x0⟩
   ·right;obtain rfl:i=X.length:=by omega
    rw [if_neg ct_ge];exact⟨_,rfl,kn,E,hS,x0⟩) (fun s ⟨e1,hle,kn,E,hS,x0⟩=>by
   obtain⟨c,X⟩:=s;dsimp only at e1 hle hS x0;subst e1;have hXl:=hS.len;have hX:n=X.length:=by omega
   rw [y1M];dsimp only;rw [if_neg (by simp;omega)];exact⟨_,rfl,kn,E,by rw [←hX];exact hX▸hS,x0⟩) (yZl _) (0,[0]) ⟨rfl,by simp,kput [] 0 0,[],hS0,rfl⟩
 refine⟨o,kn,E,?_,h2,h3⟩;rw [y3w,if_pos (by rw [hr.nn];simp;omega),y4t (by simp),yOb,y2J,show iter (y1M a) (0,([]:List Int)++[0])=some o from h1];rfl
structure EL (st:Int→Int→Option Int) (al X:List Int) (i j:Nat) (E:List (Int×Int×Int)):Prop where
 so:E.Pairwise fun x y=>x.1<y.1∨(x.1=y.1∧x.2.1<y.2.1)
 ei:∀x∈E,x.1<(i:Int)∨(x.1=(i:Int)∧∃b,∃hb:b<al.length,b<j∧al[b]=x.2.1)
 sn:∀x∈E,∃(a q:Nat) (t r:Int),x.1=(a:Int)∧x.2.2=(q:Int)∧X[a]? =some t∧X[q]? =some r∧x.2.1∈al∧st t x.2.1=some r
 ed:∀(a b:Nat) (t e r:Int),(a<i∨(a=i∧b<j))→X[a]? =some t→al[b]? =some e→st t e=some r→∃q:Nat,((a:Int),e,(q:Int))∈E∧X[q]? =some r
 el:E.length≤32*i+j
theorem EL.skip{X:List Int}{E:List (Int×Int×Int)}(h:EL st al X i j E){e:Int}(ht:X[i]? =some s)(he:al[j]? =some e)(hs:st s e=none):EL st al X i (j+1) E:=by
 refine⟨h.so,fun x hx=>?_,h.sn,fun a b t' e' r hab ha hb hst=>?_,by have:=h.el;omega⟩
 ·rcases h.ei x hx with h1|⟨h1,b,hb,h2,h3⟩
  ·exact .inl h1
  ·exact .inr ⟨h1,b,hb,by omega,h3⟩
 ·by_cases hx:a=i∧b=j
  ·obtain ⟨rfl,rfl⟩:=hx;rw [ht] at ha;rw [he] at hb;cases ha;cases hb;rw [hs] at hst;cases hst
  ·exact h.ed a b t' e' r (by omega) ha hb hst
theorem EL.edge{X:List Int}{E:List (Int×Int×Int)}(h:EL st al X i j E)(ia:Inc al)(hj:j<al.length){q:Nat}(ht:X[i]? =some s)(hs:st s al[j]=some v)(hq:X[q]? =some v):EL st al X i (j+1) (E++[((i:Int),al[j],(q:Int))]):=by
 refine⟨?_,fun x hx=>?_,fun x hx=>?_,fun a b t' e' r hab ha hb hst=>?_,by have:=h.el;rw [List.length_append,List.length_singleton];omega⟩
 ·rw [List.pairwise_append];refine⟨h.so,List.pairwise_singleton _ _,fun x hx y hy=>?_⟩;rw [yMs.1 hy];rcases h.ei x hx with h1|⟨h1,b,hb,h2,h3⟩
  ·exact .inl h1
  ·refine .inr ⟨h1,?_⟩;rw [←h3];exact List.pairwise_iff_getElem.1 ia b j hb hj h2
 ·rcases yMa.1 hx with hx|hx
  ·rcases h.ei x hx with h1|⟨h1,b,hb,h2,h3⟩
   ·exact .inl h1
   ·exact .inr ⟨h1,b,hb,by omega,h3⟩
  ·rw [yMs.1 hx];exact .inr ⟨rfl,j,hj,by omega,rfl⟩
 ·rcases yMa.1 hx with hx|hx
  ·exact h.sn x hx
  ·rw [yMs.1 hx];exact⟨i,q,s,v,rfl,rfl,ht,hq,yGm hj,hs⟩
 ·by_cases hx:a=i∧b=j
  ·obtain ⟨rfl,rfl⟩:=hx;rw [ht] at ha;rw [yGe hj] at hb;cases ha;cases hb;rw [hs] at hst;cases hst;exact⟨q,List.mem_append_right _ (yMs.2 rfl),hq⟩
  ·obtain ⟨q',g1,g2⟩:=h.ed a b t' e' r (by omega) ha hb hst;exact⟨q',List.mem_append_left _ g1,g2⟩
theorem EL.next{X:List Int}{E:List (Int×Int×Int)}(h:EL st al X i j E)(hj:al.length≤j)(hj2:j≤32):EL st al X (i+1) 0 E:=
 ⟨h.so,fun x hx=>by
  rcases h.ei x hx with h1|⟨h1,_⟩
  ·exact .inl (by omega)
  ·exact .inl (by omega),h.sn,fun a b t e r hab ha hb hst=>h.ed a b t e r (by have:=(List.getElem?_eq_some_iff.1 hb).1;omega) ha hb hst,by have:=h.el;omega⟩
theorem yfm(hr:Right a n)(hal:a.1.length≤32){X:List Int}{kn:List (Int×Int)}{E0:List (Int×Int×Int)}(hS:SR (st1 a) a.1 n X.length 0 X kn E0)(hi:i<X.length){ms:List Int}{y E:List (Int×Int×Int)}(hE:EL (st1 a) a.1 X i 0 E):
  ∃E',iter (yU a X ((i:Int),ms,y)) (0,E)=some E'∧EL (st1 a) a.1 X (i+1) 0 E':=by
 have hnl:=hr.nl;have hXl:=hS.len;refine ye (f:=yU a X ((i:Int),ms,y)) (fun j s=>s.1=(j:Int)∧EL (st1 a) a.1 X i j s.2) (fun o=>EL (st1 a) a.1 X (i+1) 0 o) a.1.length 0 (by omega) (fun j s hj ⟨e1,hE1⟩=>?_) (fun s ⟨e1,hE1⟩=>?_) (yZl _) (0,E) ⟨rfl,hE⟩
 ·obtain ⟨c,E1⟩:=s;dsimp only at e1 hE1;subst e1;have hel:=hE1.el;have hj2:∀l:List (Int×Int×Int),yT ((j:Int),E1) l=some (.inl (((j+1:Nat):Int),l)):=fun l=>by
   rw [yT];dsimp only;rw [nxt (by omega)]
  left;rw [yU];dsimp only;rw [if_pos (ct_lt hj),yb hi,yOb,yb hj,yOb,ydb hr,yOb];cases hst:st1 a X[i] a.1[j] with
  | none=>
   rw [Option.getD_none,if_neg (by simp),hj2];exact⟨_,rfl,rfl,hE1.skip (yGe hi) (yGe hj) hst⟩
  | some t=>
   have ht:=ybL hr hst;obtain⟨q,_,hq⟩:=hS.f.ed i j X[i] a.1[j] t (.inl hi) (yGe hi) (yGe hj) hst;obtain⟨k,hk,hk2⟩:=yfl (xs:=X) (x:=t) (by omega) (List.mem_of_getElem? hq);rw [Option.getD_some,if_pos (by simp;omega),yOb,hk,yOb,y4t (by simp;omega),yOb,hj2];exact⟨_,rfl,rfl,hE1.edge hr.ali hj (yGe hi) hst hk2⟩
 ·obtain ⟨c,E1⟩:=s;dsimp only at e1 hE1;subst e1;rw [yU];dsimp only;rw [if_neg ct_ge];exact⟨_,rfl,hE1.next (Nat.le_refl _) hal⟩
theorem yfn(hr:Right a n)(h0:0<n):∃r X,y2v a=some r∧CanOf (st1 a) a.1 a.2.2.1 r X∧0<X.length∧X.length≤n:=by
 have hnl:=hr.nl;have hl1:=hr.l1;have hl2:=hr.l2;have hal:a.1.length≤32:=Alp.len ⟨hr.ali,hr.alr⟩;obtain⟨X,kn,E0,hf,hS,x0⟩:=ygh hr h0;have hXl:=hS.len;have hX0:0<X.length:=(List.getElem?_eq_some_iff.1 x0).1;obtain⟨o,h1,hE,m1,m2,mk⟩:=ye (f:=y1T a X) (fun i s=>s.1=(i:Int)∧i≤X.length∧EL (st1 a) a.1 X i 0 s.2.2∧Inc s.2.1∧(∀x∈s.2.1,0≤x∧x<(i:Int))∧∀(c:Nat) (x:Int),c<i→X[c]? =some x→((c:Int)∈s.2.1↔x∈a.2.2.1))
   (fun o=>EL (st1 a) a.1 X X.length 0 o.2∧Inc o.1∧(∀x∈o.1,0≤x∧x<(X.length:Int))∧∀(c:Nat) (x:Int),X[c]? =some x→((c:Int)∈o.1↔x∈a.2.2.1)) X.length 0 (by omega) (fun i s hi ⟨e1,_,hE,m1,m2,mk⟩=>by
   obtain⟨c,M,E⟩:=s;dsimp only at e1 hE m1 m2 mk;subst e1;have hMl:=y5E (n:=i) (lo:=0) m1 m2 (Int.le_refl _);have hj1:∀M':List Int,Inc M'→(∀x∈M',0≤x∧x<((i+1:Nat):Int))→(∀x:Int,x≠(i:Int)→(x∈M'↔x∈M))→((i:Int)∈M'↔X[i]∈a.2.2.1)→
     ∃s',yV a X ((i:Int),M,E) M'=some (.inl s')∧s'.1=((i+1:Nat):Int)∧i+1≤X.length∧EL (st1 a) a.1 X (i+1) 0 s'.2.2∧Inc s'.2.1∧(∀x∈s'.2.1,0≤x∧x<((i+1:Nat):Int))∧∀(c:Nat) (x:Int),c<i+1→X[c]? =some x→((c:Int)∈s'.2.1↔x∈a.2.2.1):=fun M' q1 q2 q3 q4=>by
    obtain⟨E',w1,w2⟩:=yfm hr hal hS hi (ms:=M) (y:=E) hE;rw [yV];dsimp only;rw [w1,yOb,nxt (by omega)];refine⟨_,rfl,rfl,hi,w2,q1,q2,fun c x hc hx=>?_⟩;dsimp only;by_cases e:c=i
    ·subst e;rw [yGe hi] at hx;cases hx;exact q4
    ·rw [q3 _ (by omega)];exact mk c x (by omega) hx
   left;rw [y1T];dsimp only;rw [if_pos (ct_lt hi),yb hi,yOb,ydX (by omega),yOb];cases hm:hasB a.2.2.1 X[i] with
   | true=>
    rw [if_pos rfl,y4t (by simp;omega),yOb];refine hj1 _ ?_ (fun x hx=>?_) (fun x hx=>?_) ⟨fun _=>yh.1 hm,fun _=>List.mem_append_right _ (yMs.2 rfl)⟩
    ·unfold Inc at m1 ⊢;rw [List.pairwise_append];exact⟨m1,List.pairwise_singleton _ _,fun c hc b hb=>by rw [yMs.1 hb];exact(m2 c hc).2⟩
    ·rcases yMa.1 hx with hx|hx
     ·have:=m2 x hx;omega
     ·rw [yMs.1 hx];omega
    ·rw [yMa,yMs];exact⟨fun h=>h.resolve_right hx,.inl⟩
   | false=>
    rw [if_neg (by simp)];refine hj1 M m1 (fun x hx=>by have:=m2 x hx;omega) (fun x _=>Iff.rfl) ⟨fun hx=>by have:=m2 _ hx;omega,fun hx=>?_⟩;rw [yh.2 hx] at hm;cases hm) (fun s ⟨e1,_,hE,m1,m2,mk⟩=>by
   obtain⟨c,M,E⟩:=s;dsimp only at e1 hE m1 m2 mk;subst e1;rw [y1T];dsimp only;rw [if_neg ct_ge];exact⟨_,rfl,hE,m1,m2,fun c x hx=>mk c x (List.getElem?_eq_some_iff.1 hx).1 hx⟩) (yZl _) (0,[],[]) ⟨rfl,yZl _,⟨List.Pairwise.nil,fun x hx=>(by cases hx),fun x hx=>(by cases hx),fun a b t e r hab=>by omega,by simp⟩,List.Pairwise.nil,fun x hx=>(by cases hx),fun c x hc=>absurd hc (Nat.not_lt_zero _)⟩
 obtain⟨M,E⟩:=o;dsimp only at hE m1 m2 mk;have hMl:=y5E (n:=X.length) (lo:=0) m1 m2 (Int.le_refl _);have hD:=hS.f.disc hS.nd hS.so hS.ea hr.alr;have hEE:E=E0:=ybi (lt:=fun x y=>x.1<y.1∨(x.1=y.1∧x.2.1<y.2.1)) (fun a b h1 h2=>by omega) hE.so hD.so fun x=>by
  have same:∀{a q q':Nat} {t r r':Int},X[a]? =some t→X[q]? =some r→X[q']? =some r→q=q':=fun {a q q' t r r'} _ h1 h2=>by
   have e1:=(List.getElem?_eq_some_iff.1 h1).2;have e2:=(List.getElem?_eq_some_iff.1 h2).2;exact(List.getElem_inj hS.nd).1 (e1.trans e2.symm)
  constructor
  ·intro hx;obtain⟨c,q,t,r,g1,g2,g3,g4,g5,g6⟩:=hE.sn x hx;obtain⟨q',k1,k2⟩:=hD.ed c t x.2.1 r g3 g5 g6;have:=same (r':=r) g3 g4 k2;subst this;rw [←g1,←g2] at k1;exact k1
  ·intro hx;obtain⟨c,q,t,r,g1,g2,g3,g4,g5,g6⟩:=hD.sn x hx;obtain⟨b,hb,hbe⟩:=List.getElem_of_mem g5;obtain⟨q',k1,k2⟩:=hE.ed c b t x.2.1 r (.inl (List.getElem?_eq_some_iff.1 g3).1) g3 (by rw [yGe hb,hbe]) g6;have:=same (r':=r) g3 g4 k2;subst this;rw [←g1,←g2] at k1;exact k1
 subst hEE;have hEl:=hE.el;refine⟨(a.1,(X.length:Int),M,E),X,?_,⟨⟨rfl,by omega,hr.ali,hr.alr,m1,m2,fun x hx=>?_,hE.so,hl1,by dsimp only;omega,by dsimp only;omega⟩,rfl,fun _=>x0,hD,mk⟩,hX0,hXl⟩
 ·rw [y2v,hf,yOb,ycm (by omega),yOb,h1];rfl
 ·obtain ⟨c,q,t,r,g1,g2,g3,g4,g5,_⟩:=hE.sn x hx;have e3:=(List.getElem?_eq_some_iff.1 g3).1;have e4:=(List.getElem?_eq_some_iff.1 g4).1;exact⟨by omega,by omega,by omega,by omega,g5⟩
end
abbrev Row5 :=Int×Int×Int×Int×Int
def yas(g:Row5×Row5×Row5×Row5×Row5):List Int:=
 [g.1.1,g.1.2.1,g.1.2.2.1,g.1.2.2.2.1,g.1.2.2.2.2,g.2.1.1,g.2.1.2.1,g.2.1.2.2.1,g.2.1.2.2.2.1,g.2.1.2.2.2.2,g.2.2.1.1,g.2.2.1.2.1,g.2.2.1.2.2.1,g.2.2.1.2.2.2.1,g.2.2.1.2.2.2.2,g.2.2.2.1.1,g.2.2.2.1.2.1,g.2.2.2.1.2.2.1,g.2.2.2.1.2.2.2.1,g.2.2.2.1.2.2.2.2,g.2.2.2.2.1,g.2.2.2.2.2.1,g.2.2.2.2.2.2.1,g.2.2.2.2.2.2.2.1,g.2.2.2.2.2.2.2.2]
structure GrIn (g:yi):Prop where
 s:0≤g.1∧g.1<256
 c:∀y∈yas g.2.2,0≤y∧y<256
structure MG (ev:List Int) (n i j:Nat) (E:List (Int×Int×Int)):Prop where
 er:∀x∈E,0≤x.1∧x.1≤(i:Int)∧x.2.1∈ev∧0≤x.2.2∧x.2.2<(n:Int)
 es:∀x∈E,x.1=(i:Int)→∃b,∃hb:b<ev.length,b<j∧ev[b]=x.2.1
 so:E.Pairwise fun x y=>x.1<y.1∨(x.1=y.1∧x.2.1<y.2.1)
 el:E.length≤5*i+j
theorem MG.push{ev:List Int}{n:Nat}{E:List (Int×Int×Int)}{q:Int}(h:MG ev n i j E)(ie:Inc ev)(hj:j<ev.length)(h0:0≤q)(h1:q<(n:Int)):MG ev n i (j+1) (E++[((i:Int),ev[j],q)]):=by
 refine⟨fun x hx=>?_,fun x hx e=>?_,?_,by have:=h.el;rw [List.length_append,List.length_singleton];omega⟩
 ·rcases yMa.1 hx with hx|hx
  ·exact h.er x hx
  ·rw [yMs.1 hx];exact⟨by dsimp only;omega,by dsimp only;omega,yGm hj,h0,h1⟩
 ·rcases yMa.1 hx with hx|hx
  ·obtain ⟨b,hb,h2,h3⟩:=h.es x hx e;exact⟨b,hb,by omega,h3⟩
  ·rw [yMs.1 hx];exact⟨j,hj,by omega,rfl⟩
 ·rw [List.pairwise_append];refine⟨h.so,List.pairwise_singleton _ _,fun a ha b hb=>?_⟩;rw [yMs.1 hb];have h2:=h.er a ha;by_cases e:a.1=(i:Int)
  ·obtain ⟨b,hb,h3,h4⟩:=h.es a ha e;refine .inr ⟨e,?_⟩;rw [←h4];exact List.pairwise_iff_getElem.1 ie b j hb hj h3
  ·exact .inl (by dsimp only;omega)
theorem MG.skip{ev:List Int}{n:Nat}{E:List (Int×Int×Int)}(h:MG ev n i j E):MG ev n i (j+1) E:=⟨h.er,fun x hx e=>by
 obtain⟨b,hb,h2,h3⟩:=h.es x hx e;exact⟨b,hb,by omega,h3⟩,h.so,by have:=h.el;omega⟩
theorem MG.next{ev:List Int}{n:Nat}{E:List (Int×Int×Int)}(h:MG ev n i j E)(hj:j≤5):MG ev n (i+1) 0 E:=⟨fun x hx=>by
 have:=h.er x hx;exact⟨this.1,by omega,this.2.2⟩,fun x hx e=>by have:=h.er x hx;omega,h.so,by have:=h.el;omega⟩
theorem ygi{ev:List Int}(ie:Inc ev)(he:∀x∈ev,0≤x∧x<32)(hel:ev.length≤5){g:yi}(hg:GrIn g):∃r n,y3I ev g=some r∧Right r n∧n≤5∧r.1=ev∧(n:Int)≤1+g.1 % 5∧(250≤g.1→n=0):=by
 obtain⟨s,m,c⟩:=g;obtain⟨hs,hc⟩:=hg;dsimp only at hs hc;rw [y3I,ycm (by omega)];dsimp only;by_cases h250:s≥250
 ·rw [if_pos (by simpa using h250),yOb];exact⟨_,0,rfl,⟨rfl,by omega,ie,he,List.Pairwise.nil,fun x hx=>(by cases hx),fun x hx=>(by cases hx),List.Pairwise.nil,by dsimp only;omega,by simp,by simp⟩,by omega,rfl,by omega,fun _=>rfl⟩
 rw [if_neg (by simpa using h250),yOb];obtain⟨n,hn0,hn5,hns,hn⟩:∃n:Nat,0<n∧n≤5∧(n:Int)=1+s % 5∧W (1+W (s.tmod 5))=(n:Int):=by
  refine⟨(1+s % 5).toNat,by omega,by omega,by omega,?_⟩;rw [Int.tmod_eq_emod_of_nonneg hs.1,W_of (x:=s % 5) (by omega) (by omega),W_of (by omega) (by omega)];omega
 have hn2:W ((n:Int)+2)=((n+2:Nat):Int):=by rw [show (n:Int)+2=((n+2:Nat):Int) by omega,W_nat (by omega)]
 rw [hn];obtain⟨o,h1,m1,m2,hM⟩:=ye (f:=y2S ev (s,m,c)) (fun i t=>t.1=(i:Int)∧Inc t.2.1∧(∀x∈t.2.1,0≤x∧x<(i:Int))∧MG ev n i 0 t.2.2) (fun o=>Inc o.1∧(∀x∈o.1,0≤x∧x<(n:Int))∧MG ev n n 0 o.2) n 0 (by omega) (fun i t hi ⟨e1,m1,m2,hM⟩=>by
   obtain⟨t1,t2,t3⟩:=t;dsimp only at e1 m1 m2 hM;subst e1;have hMl:=y5E (n:=i) (lo:=0) m1 m2 (Int.le_refl _);have hj:∀l:List Int,Inc l→(∀x∈l,0≤x∧x<((i+1:Nat):Int))→∃s',y1Y ev (s,m,c) ((i:Int),t2,t3) l=some (.inl s')∧s'.1=((i+1:Nat):Int)∧Inc s'.2.1∧(∀x∈s'.2.1,0≤x∧x<((i+1:Nat):Int))∧MG ev n (i+1) 0 s'.2.2:=by
    intro l hl1 hl2;obtain⟨o,h1,h2⟩:=ye (f:=y2R ev (s,m,c) ((i:Int),t2,t3)) (fun k t=>t.1=(k:Int)∧MG ev n i k t.2) (fun o=>MG ev n i ev.length o) ev.length 0 (by omega) (fun k t hk ⟨g1,g2⟩=>by
      obtain⟨u1,u2⟩:=t;dsimp only at g1 g2;subst g1;have hel2:=g2.el;have hj2:∀l:List (Int×Int×Int),y1X ((k:Int),u2) l=some (.inl (((k+1:Nat):Int),l)):=fun l=>by
       rw [y1X];dsimp only;rw [nxt (by omega)]
      left;have hlt:i*5+k*1<(yas c).length:=by show _<25;omega
      obtain⟨v,hcell,hv⟩:∃v,(yas c)[i*5+k*1]? =some v∧0≤v∧v<256:=⟨_,yGe hlt,hc _ (yGm hlt)⟩;rw [yas] at hcell;rw [y2R];dsimp only;rw [if_pos (by simp;omega),show rng (i:Int) 5=some () from if_pos (by simp;omega),yOb,show rng (k:Int) 5=some () from if_pos (by simp;omega),yOb,Int.toNat_natCast,Int.toNat_natCast,hcell,yOb,hn,hn2,show nz ((n+2:Nat):Int)=some () from if_neg (by omega),yOb,W_of (x:=v) (by omega) (by omega),Int.tmod_eq_emod_of_nonneg hv.1];have hm0:=Int.emod_nonneg v (show ((n+2:Nat):Int)≠0 by omega);by_cases hlt2:v % ((n+2:Nat):Int)<(n:Int)
      ·rw [if_pos (decide_eq_true hlt2),yb hk,yOb,y4t (by rw [List.length_cons,List.length_nil];omega),yOb,hj2];exact⟨_,rfl,rfl,g2.push ie hk hm0 hlt2⟩
      ·rw [if_neg (by simpa using hlt2),hj2];exact⟨_,rfl,rfl,g2.skip⟩) (fun t ⟨g1,g2⟩=>by
      obtain⟨u1,u2⟩:=t;dsimp only at g1 g2;subst g1;rw [y2R];dsimp only;rw [if_neg (by simp)];exact⟨_,rfl,g2⟩) (yZl _) (0,t3) ⟨rfl,hM⟩
    rw [y1Y];dsimp only;rw [h1,yOb,nxt (by omega)];exact⟨_,rfl,rfl,hl1,hl2,h2.next hel⟩
   left;rw [y2S];dsimp only;rw [hn,if_pos (by simp;omega),show ng (i:Int)=some () from if_neg (by omega),yOb];split
   ·rw [y4t (by simp;omega),yOb];refine hj _ ?_ (fun x hx=>?_)
    ·unfold Inc at m1 ⊢;rw [List.pairwise_append];exact⟨m1,List.pairwise_singleton _ _,fun c hc b hb=>by rw [yMs.1 hb];exact(m2 c hc).2⟩
    ·rcases yMa.1 hx with hx|hx
     ·have:=m2 x hx;omega
     ·rw [yMs.1 hx];omega
   ·exact hj _ m1 (fun x hx=>by have:=m2 x hx;omega)) (fun t ⟨e1,m1,m2,hM⟩=>by
   obtain⟨t1,t2,t3⟩:=t;dsimp only at e1 m1 m2 hM;subst e1;rw [y2S];dsimp only;rw [hn,if_neg (by simp)];exact⟨_,rfl,m1,m2,hM⟩) (yZl _) (0,[],[]) ⟨rfl,List.Pairwise.nil,fun x hx=>(by cases hx),⟨fun x hx=>(by cases hx),fun x hx=>(by cases hx),List.Pairwise.nil,by simp⟩⟩
 obtain⟨M,E⟩:=o;dsimp only at m1 m2 hM;have hMl:=y5E (n:=n) (lo:=0) m1 m2 (Int.le_refl _);have hel2:=hM.el;have hR:Right (ev,(n:Int),M,E) n:=⟨rfl,by omega,ie,he,m1,m2,fun x hx=>by
  have h:=hM.er x hx;refine⟨h.1,?_,h.2.2.2.1,h.2.2.2.2,h.2.2.1⟩;by_cases e:x.1=(n:Int)
  ·obtain ⟨b,_,hb,_⟩:=hM.es x hx e;omega
  ·omega,hM.so,by dsimp only;omega,by dsimp only;omega,by dsimp only;omega⟩
 obtain⟨r,X,hc1,hc2,hc3,hc4⟩:=yfn hR hn0;rw [h1,yOb,hc1,yOb];exact⟨r,X.length,rfl,hc2.right,by omega,hc2.ale,by omega,fun h=>absurd h h250⟩
abbrev GrpT :=(Int×Int×Int×Int)×(yi×yi×yi×yi)×Int
structure GrpIn (p:GrpT):Prop where
 g0:GrIn p.2.1.1
 g1:GrIn p.2.1.2.1
 g2:GrIn p.2.1.2.2.1
 g3:GrIn p.2.1.2.2.2
 c:0≤p.2.2∧p.2.2<256
theorem ygj{p:GrpT}(hp:GrpIn p):∃l,y3J p=some l∧SmL l:=by
 obtain⟨n,hn,hc⟩:∃n:Nat,n≤4∧W (p.2.2.tmod 5)=(n:Int):=by
  have h0:=hp.c;refine⟨(p.2.2 % 5).toNat,by omega,?_⟩;rw [Int.tmod_eq_emod_of_nonneg h0.1,W_of (by omega) (by omega)];omega
 obtain⟨o,h1,h2⟩:=ye (f:=y2a p) (fun i s=>s.1=(i:Int)∧s.2.length=i∧∀a∈s.2,∃n:Nat,n≤3∧Right a n∧∀e∈a.1,e<5) (fun o=>SmL o) n 0 (by omega) (fun i s hi ⟨e1,e2,e3⟩=>by
   obtain⟨k,out⟩:=s;dsimp only at e1 e2 e3;subst e1;left;obtain⟨g,hg,hgi⟩:∃g,([p.2.1.1,p.2.1.2.1,p.2.1.2.2.1,p.2.1.2.2.2]:List yi)[i]? =some g∧GrIn g:=by
    have:i=0∨i=1∨i=2∨i=3:=by omega
    rcases this with rfl|rfl|rfl|rfl
    ·exact ⟨_,rfl,hp.g0⟩
    ·exact ⟨_,rfl,hp.g1⟩
    ·exact ⟨_,rfl,hp.g2⟩
    ·exact ⟨_,rfl,hp.g3⟩
   obtain⟨s,hs⟩:∃s,([p.1.1,p.1.2.1,p.1.2.2.1,p.1.2.2.2]:List Int)[i*1]? =some s:=⟨_,yGe (by rw [show ([p.1.1,p.1.2.1,p.1.2.2.1,p.1.2.2.2]:List Int).length=4 from rfl];omega)⟩;obtain⟨ev,he,hi1,hi2,hi3⟩:=yge s;have hj:∀m:Int,0≤m∧m<256→(m<250→m<3)→∃r,y1Z p ((i:Int),out) g m=some (.inl (((i+1:Nat):Int),out++[r]))∧∃n:Nat,n≤3∧Right r n∧∀e∈r.1,e<5:=fun m hm hm3=>by
    obtain⟨r,k,k1,k2,_,k4,k5,k6⟩:=ygi hi1 (fun x hx=>by have:=hi2 x hx;omega) hi3 (g:=(m,g.2)) ⟨hm,hgi.c⟩;refine⟨r,?_,k,?_,k2,fun e hee=>by rw [k4] at hee;exact(hi2 e hee).2⟩
    ·rw [y1Z];dsimp only;rw [show rng (i:Int) 4=some () from yfb (by omega),yOb,Int.toNat_natCast,hs,yOb,he,yOb,k1,yOb,y4P (by simp;omega),yOb,nxt (by omega)]
    ·dsimp only at k5 k6;by_cases h250:250≤m
     ·have:=k6 h250;omega
     ·have:=hm3 (by omega);omega
   have hgs:=hgi.s;have hmain:∃r,y2a p ((i:Int),out)=some (.inl (((i+1:Nat):Int),out++[r]))∧∃n:Nat,n≤3∧Right r n∧∀e∈r.1,e<5:=by
    rw [y2a];dsimp only;rw [hc,if_pos (ct_lt hi),show rng (i:Int) 4=some () from yfb (by omega),yOb,Int.toNat_natCast,hg,yOb];by_cases h250:g.1<250
    ·rw [if_pos (decide_eq_true h250),Int.tmod_eq_emod_of_nonneg hgs.1];exact hj _ (by omega) (fun _=>by omega)
    ·rw [if_neg (by simpa using h250)];exact hj _ hgs (fun h=>absurd h h250)
   obtain⟨r,k1,k2⟩:=hmain;refine⟨_,k1,rfl,by simp [e2],fun a ha=>?_⟩;rcases yMa.1 ha with ha|ha
   ·exact e3 a ha
   ·rw [yMs.1 ha];exact k2)
  (fun s ⟨e1,e2,e3⟩=>by
   obtain⟨k,out⟩:=s;dsimp only at e1 e2 e3;subst e1;refine⟨out,?_,by omega,e3⟩;rw [y2a];dsimp only;rw [hc,if_neg ct_ge]) (yZl _) (0,[]) ⟨rfl,rfl,fun a ha=>by cases ha⟩
 exact⟨o,by rw [y3J,h1];rfl,h2⟩
theorem ydc{l:List AutT}(h:SmL l):y2T l=some 0:=by
 have hl:=h.len;rw [y2T,ydV (by omega) h.rgt,yOb,if_neg (by simp),if_neg (by simp;omega)]
def setsK :Nat→List (List Int)
 | 1=> [[0]]
 | 2=> [[0],[1],[0,1]]
 | 3=> [[0],[1],[2],[0,1],[0,2],[1,2],[0,1,2]]
 | 4=> [[0],[1],[2],[3],[0,1],[0,2],[0,3],[1,2],[1,3],[2,3],[0,1,2],[0,1,3],[0,2,3],[1,2,3],[0,1,2,3]]
 | _=> []
noncomputable def libS(l:List AutT):Option (List (List Int)):=(iter (y5v l) (0,([]:List (List Int)))).bind fun o11=>yz y4c o11
noncomputable def lawS(l:List AutT):Option (List (List Int)):=(iter (y3g l) (1,([]:List (List Int)))).bind fun o25=>yz y1P o25
theorem libS0 :libS []=some (setsK 0):=by kernel_rfl
theorem libS1(a:AutT):libS [a]=some (setsK 1):=by kernel_rfl
theorem libS2(a b:AutT):libS [a,b]=some (setsK 2):=by kernel_rfl
theorem libS3(a b c:AutT):libS [a,b,c]=some (setsK 3):=by kernel_rfl
theorem libS4(a b c d:AutT):libS [a,b,c,d]=some (setsK 4):=by kernel_rfl
theorem lawS0 :lawS []=some (setsK 0):=by kernel_rfl
theorem lawS1(a:AutT):lawS [a]=some (setsK 1):=by kernel_rfl
theorem lawS2(a b:AutT):lawS [a,b]=some (setsK 2):=by kernel_rfl
theorem lawS3(a b c:AutT):lawS [a,b,c]=some (setsK 3):=by kernel_rfl
theorem lawS4(a b c d:AutT):lawS [a,b,c,d]=some (setsK 4):=by kernel_rfl
theorem yh5{l:List AutT}(h:l.length≤4):libS l=some (setsK l.length)∧lawS l=some (setsK l.length):=by
 match l,h with
 | [],_=>exact⟨libS0,lawS0⟩
 | [a],_=>exact⟨libS1 a,lawS1 a⟩
 | [a,b],_=>exact⟨libS2 a b,lawS2 a b⟩
 | [a,b,c],_=>exact⟨libS3 a b c,lawS3 a b c⟩
 | [a,b,c,d],_=>exact⟨libS4 a b c d,lawS4 a b c d⟩
theorem ygk{n:Nat}(h:n≤4):(setsK n).length≤15∧∀s∈setsK n,s.Pairwise (· < ·)∧s.length≤4∧∀i∈s,0≤i∧i<(n:Int):=by
 have:n=0∨n=1∨n=2∨n=3∨n=4:=by omega
 rcases this with rfl|rfl|rfl|rfl|rfl <;> decide
theorem yfo{xs:List (List Int)}{p:List Int→Option Bool}{g:List Int→Bool}(hl:xs.length≤1000000)(hp:∀x∈xs,p x=some (g x)):yo xs p=some (xs.any g):=by
 obtain⟨o,h1,h2⟩:=ye (f:=y1C xs p) (fun i s=>s=(i:Int)∧xs.any g=(xs.drop i).any g) (fun o=>(o= .inl ()∧xs.any g=false)∨∃i:Nat,o= .inr (i:Int)∧xs.any g=true) xs.length 0 (by omega) (fun i s hi ⟨e1,e2⟩=>by
  subst e1;rw [List.drop_eq_getElem_cons hi,List.any_cons] at e2;rw [y1C,if_pos (ct_lt hi),yb hi,yOb,hp _ (yGm hi),yOb];cases hg:g xs[i] with
  | true=>
   rw [hg] at e2;exact .inr ⟨_,by rw [if_pos rfl],.inr ⟨i,rfl,e2⟩⟩
  | false=>
   rw [hg] at e2;exact .inl ⟨_,by rw [if_neg (by simp),nxt (by omega)],rfl,e2⟩) (fun s ⟨e1,e2⟩=>by
  subst e1;rw [List.drop_length] at e2;exact⟨_,by rw [y1C,if_neg ct_ge],.inl ⟨rfl,e2⟩⟩) (yZl _) 0 ⟨rfl,rfl⟩
 rw [yo,y3B,h1,yOb];rcases h2 with ⟨rfl,e⟩|⟨i,rfl,e⟩
 ·rw [e];rfl
 ·rw [e];show some (decide ((i:Int)≥0))=some true;simp
theorem yh6{x s:List Int}(hx:Inc x)(hs:Inc s)(lx:x.length≤1000000)(ls:s.length≤1000000):yZ s x=some (x.all (hasB s)):=by
 have h:=y6G (fun a b=>a && !b) x s hx hs;rw [yZ,y5O,y3S,yd4 (kp:=fun a b=>a && !b) (f:=y5r) (fun _ _=>rfl) lx ls,yOb,yOb,yda,yOb];congr 1;rw [Bool.eq_iff_iff,decide_eq_true_iff,yAt];constructor
 ·intro h0 e he;refine Classical.byContradiction fun hn=>?_;have:e∈mg (fun a b=>a && !b) x s:=(h.2 e).2 ⟨.inl he,by rw [Bool.and_eq_true];exact⟨yh.2 he,by simpa using hn⟩⟩;rw [h0] at this;cases this
 ·intro h0;refine List.eq_nil_iff_forall_not_mem.2 fun e he=>?_;have h1:=((h.2 e).1 he).2;rw [Bool.and_eq_true,yh,Bool.not_eq_true'] at h1;rw [h0 e h1.1] at h1;exact absurd h1.2 (by simp)
theorem yh7{x s:List Int}(lx:x.length≤1000000)(ls:s.length≤1000000):ym s x=some (x.all (hasB s)):=by
 rw [ym,ydQ (g:=fun i=>!hasB s i) lx (fun i _=>by rw [yC,y6M (by omega)];rfl),yOb];congr 1;rw [List.not_any_eq_all_not];simp
theorem ygl{xs:List (List Int)}(h:xs.length≤1000000)(hx:∀x∈xs,x.length≤1000000):yR xs xs yI=some true:=by
 rw [yR,if_neg (by simp),yce (n:=xs.length) (by omega) (fun j hj=>by
  have:=hx _ (yGm hj);unfold y1t;rw [if_pos (ct_lt hj),yb hj,yOb,yOb,yI,yg1 (by omega),yOb,yOb,if_neg (by simp),nxt (by omega)]) (by
  unfold y1t;rw [if_neg ct_ge])]
 rfl
section
variable{l:List AutT}(h:SmL l)
include h
theorem ygm{S:List (List Int)}(hS:S.length≤15)(hm:∀s∈S,s.Pairwise (· < ·)∧s.length≤4∧∀i∈s,0≤i∧i<(l.length:Int)):
  ∃out,iter (yB l S) (0,([]:List (List Int)))=some (.inl out)∧iter (yf l S) (0,([]:List (List Int)))=some out∧out.length≤15∧∀x∈out,x∈S:=by
 have key:∀(d i:Nat) (o:List (List Int)),i+d=S.length→o.length≤i→(∀x∈o,x∈S)→∃o',iterF (yB l S) (d+1) ((i:Int),o)=some (.inl o')∧iterF (yf l S) (d+1) ((i:Int),o)=some o'∧o'.length≤15∧∀x∈o',x∈S:=by
  intro d
  induction d with
  | zero=>
   intro i o hi ho hx;refine⟨o,?_,?_,by omega,hx⟩
   ·rw [yu,yB];dsimp only;rw [if_neg (by simp;omega)]
   ·rw [yu,yf];dsimp only;rw [if_neg (by simp;omega)]
  | succ d ih=>
   intro i o hi ho hx;have hil:i<S.length:=by omega
   obtain⟨s1,s2,s3⟩:=hm _ (yGm hil);obtain⟨b,c1,c2⟩:=ydo h s3 s2;have f1:yo o (yZ S[i])=some (o.any fun x=>x.all (hasB S[i])):=yfo (by omega) fun x hxo=>by
    obtain⟨x1,x2,_⟩:=hm x (hx x hxo);exact yh6 x1 s1 (by omega) (by omega)
   have f2:yo o (ym S[i])=some (o.any fun x=>x.all (hasB S[i])):=yfo (by omega) fun x hxo=>by
    obtain⟨_,x2,_⟩:=hm x (hx x hxo);exact yh7 (by omega) (by omega)
   have hj1:∀u:List (List Int),yn ((i:Int),o) u=some (.inl (((i+1:Nat):Int),u)):=fun u=>by
    rw [yn];dsimp only;rw [nxt (by omega)]
   have hj2:∀u:List (List Int),yd ((i:Int),o) u=some (.inl (((i+1:Nat):Int),u)):=fun u=>by
    rw [yd];dsimp only;rw [nxt (by omega)]
   have hstep:∃o1,yB l S ((i:Int),o)=some (.inl (((i+1:Nat):Int),o1))∧yf l S ((i:Int),o)=some (.inl (((i+1:Nat):Int),o1))∧o1.length≤i+1∧∀x∈o1,x∈S:=by
    have hu1:yB l S ((i:Int),o)=(if (o.any fun x=>x.all (hasB S[i]))=true then yn ((i:Int),o) o else if(!b)=true then(app o [S[i]]).bind fun x37=>yn ((i:Int),o) x37 else yn ((i:Int),o) o):=by
     rw [yB];dsimp only;rw [if_pos (ct_lt hil),yb hil,yOb,f1,yOb,c1];cases (o.any fun x=>x.all (hasB S[i])) <;> cases b <;> rfl
    have hu2:yf l S ((i:Int),o)=(if (o.any fun x=>x.all (hasB S[i]))=true then yd ((i:Int),o) o else if(!b)=true then(app o [S[i]]).bind fun x37=>yd ((i:Int),o) x37 else yd ((i:Int),o) o):=by
     rw [yf];dsimp only;rw [if_pos (ct_lt hil),yb hil,yOb,f2,yOb,c2];cases (o.any fun x=>x.all (hasB S[i])) <;> cases b <;> rfl
    rw [hu1,hu2];cases (o.any fun x=>x.all (hasB S[i])) with
    | true=>
     simp only [if_true,hj1,hj2];exact⟨o,rfl,rfl,by omega,hx⟩
    | false=>
     cases b with
     | true=>
      simp only [Bool.false_eq_true,if_false,Bool.not_true,hj1,hj2];exact⟨o,rfl,rfl,by omega,hx⟩
     | false=>
      simp only [Bool.false_eq_true,if_false,Bool.not_false,if_true];rw [y4P (by simp;omega),yOb,yOb,hj1,hj2];refine⟨_,rfl,rfl,by simp;omega,fun x hxo=>?_⟩;rcases yMa.1 hxo with hxo|hxo
      ·exact hx x hxo
      ·rw [yMs.1 hxo];exact yGm hil
   obtain⟨o1,k1,k2,k3,k4⟩:=hstep;obtain⟨o2,k5,k6,k7,k8⟩:=ih (i+1) o1 (by omega) k3 k4;exact⟨o2,by rw [yu,k1];exact k5,by rw [yu,k2];exact k6,k7,k8⟩
 obtain⟨o,h1,h2,h3,h4⟩:=key S.length 0 [] (by omega) (by simp) (fun x hx=>by cases hx);exact⟨o,y6i (by omega) h1,y6i (by omega) h2,h3,h4⟩
end
theorem ydY{α β:Type}{x:Option α}{f:α→Option β}{y:β}(h:x.bind f=some y):∃a,x=some a∧f a=some y:=by
 cases x with
 | none=>cases h
 | some a=>exact⟨a,rfl,h⟩
theorem ydp{p:GrpT}(hp:GrpIn p):y2e p=some true:=by
 obtain⟨l,hm,h⟩:=ygj hp;have hl:=h.len;obtain⟨s1,s2⟩:=yh5 hl;obtain⟨o1,a1,a2⟩:=ydY s1;obtain⟨o2,b1,b2⟩:=ydY s2;obtain⟨z1,z2⟩:=ygk hl;obtain⟨out,k1,k2,k3,k4⟩:=ygm h z1 z2;rw [y2e,ygW,yOb,if_neg (by simp),hm,yOb,y4E,ydc h,yOb,if_neg (by simp),show ng (l.length:Int)=some () from if_neg (by omega),yOb,a1,yOb,a2,yOb,k1,yOb];dsimp only;rw [yOb,b1,yOb,b2,yOb,k2,yOb];dsimp only;rw [if_pos (by simp),ygl (by omega) (fun x hx=>by have:=(z2 x (k4 x hx)).2.1;omega)];rfl
end
section
open Go.Proofs.Tryz Go Go.RowKit Go.ChangeShapes Go.WideShapes Go.Deep
def Op(P:Program){α:Type}(r:Rep α)(Q:α→Prop)(t:TypeId):Prop:=
 ∀(H:Type) (enc:TypeId×Value→H) (w:World) (fuel:Nat) (cs:List Value) (x:DataW H×List MemPlace),DataW.trod enc P w 0 (fun _=>true) true fuel t cs=some x→∃y:α,r.rd ⟨w,fun _=>0⟩ cs y∧Q y
section
variable{P:Program}{α β:Type}{r:Rep α}{q:Rep β}{Q:α→Prop}{R:β→Prop}{t e:TypeId}
theorem yhw{w:World}{base:Nat}{v:Value}{fs:Array Field}{ts:List TypeId}(ht:P.underlying t=some (.struct fs))(hts:P.cellTypes P.depth t=some ts)(hsz:P.cellsOf t=ts.length)(hok:Value.okWide P w .any base t v):
  ∃cs,v= .agg cs∧cs.size=ts.length∧∀(i:Nat) (u:TypeId),ts[i]? =some u→∃c:Value,cs[i]? =some c∧Cell.okWide P w .any base u c:=by
 simp only [Value.okWide,ht] at hok;obtain⟨cs,rfl,h1,ts',h2,h3,h4⟩:=hok;rw [hts] at h2;cases h2;refine⟨cs,rfl,by omega,fun i u hu=>?_⟩;have hlt:i<ts.length:=(yGs.1 hu).1;obtain⟨u',g1,g2⟩:=h4 i cs[i] (Array.getElem?_eq_getElem (by omega));rw [Nat.mod_eq_of_lt hlt,hu] at g1;cases g1;exact⟨_,Array.getElem?_eq_getElem (by omega),g2⟩
end
end
section
open Go.Proofs.Tryz Go Go.ChangeShapes Go.WideShapes Go.ChangeAt Go.RowKit Go.Deep
theorem Fw.law{P:Program}{f:FuncId}{ts:List TV}(h:Fw P f ⟨0,[]⟩ ts [] (.b true) []){w:World}{vs:List Value}(ha:All3 (fun _=> .bool false) ⟨w,fun _=>0⟩ ts vs):Calls P f vs.toArray w fun e w'=>e= .returned (.bool true)∧Below w.heap.size w w':=
 Calls.mono (h.is [] (fun _=> .bool false) ⟨w,fun _=>0⟩ vs rfl (yNr _) List.nodup_nil (fun t ht=>by cases ht) ha (fun i o h=>by simp at h)) fun e W' ⟨v,s',hw,he,hm,β',_,hv,_⟩=>by
  obtain⟨hv,_⟩:=hv;subst hw;subst hv;exact⟨he,(hm.weak (S':=No) fun t ⟨i,hi,_⟩=>by cases hi).below⟩
theorem All3.c{β:Nat→Value}{s:Sig}{x:TV}{xs:List TV}{v:Value}{us:List Value}(h:x.p β s v)(h2:All3 β s xs us):All3 β s (x::xs) (v::us):=⟨v,us,h,h2,rfl⟩
theorem yh8{w:World}{r:Reach}{base:Nat}{v:Value}(h:Cell.okWide prog w r base 5 v):∃n:Int,v= .int .u8 n∧0≤n∧n<256:=by
 simp only [Cell.okWide,underlying5] at h;cases v <;> simp_all [Cell.ok];rename_i k n;obtain⟨rfl,h2⟩:=h;simp [IntKind.has,IntKind.min,IntKind.max,IntKind.signed,IntKind.bits] at h2;omega
theorem yek{α:Type}[Inhabited α]{n:Nat}{p:Nat→α→Prop}(h:∀i,i<n→∃x,p i x):∃f:Nat→α,∀i,i<n→p i (f i):=
 ⟨fun i=>if hi:i<n then Classical.choose (h i hi) else default,fun i hi=>by
  dsimp only;rw [dif_pos hi];exact Classical.choose_spec (h i hi)⟩
def gpT :List TypeId:=List.replicate 4 40++List.replicate 109 5
theorem ygn :prog.cellTypes prog.depth 48=some gpT:=by kernel_rfl
theorem ygo :prog.cellsOf 48=gpT.length:=by kernel_rfl
section
variable{H:Type}{enc:TypeId×Value→H}{w:World}{base:Nat}{v:Value}{d:DataW H}{ps:List MemPlace}
/-- A described group. -/
theorem yh9(hok:Value.okWide prog w .any base 48 v):∃x:GrpT,GrpIn x∧∀β s,(TV.a (lx48 x)).p β s v:=by
 obtain⟨cs,rfl,h1,h2⟩:=yhw underlying48 ygn ygo hok;have h1':cs.size=113:=h1;obtain⟨f,hf⟩:=yek (α:=Int) (n:=113) (p:=fun i n=>cs[i]? =some (.int .u8 n)∧0≤n∧n<256) (fun i hi=>by
  obtain⟨u,hu,hu2⟩:∃u,gpT[i]? =some u∧(u=40∨u=5):=by
   refine⟨gpT[i]'hi,yGe (l:=gpT) hi,?_⟩;have:=yGm (l:=gpT) hi;generalize gpT[i]'hi=u at this;simp only [gpT,yMa,List.mem_replicate] at this;rcases this with h|h
   ·exact .inl h.2
   ·exact .inr h.2
  obtain⟨c,g1,g2⟩:=h2 i u hu;have g2':Cell.okWide prog w .any base 5 c:=by
   rcases hu2 with rfl|rfl
   ·simp only [Cell.okWide,Cell.ok,underlying40,underlying5] at g2 ⊢;exact g2
   ·exact g2
  obtain⟨n,rfl,g3⟩:=yh8 g2';exact⟨n,g1,g3⟩)
 have hcs:cs=((List.range 113).map fun i=>Value.int .u8 (f i)).toArray:=by
  apply Array.ext_getElem?;intro i;by_cases hi:i<113
  ·rw [(hf i hi).1];simp [hi]
  ·rw [Array.getElem?_eq_none (by omega),Array.getElem?_eq_none (by simp;omega)]
 have gr:∀o,o+27≤113→GrIn (f o,f (o+1),((f (o+2),f (o+3),f (o+4),f (o+5),f (o+6)),(f (o+7),f (o+8),f (o+9),f (o+10),f (o+11)),(f (o+12),f (o+13),f (o+14),f (o+15),f (o+16)),(f (o+17),f (o+18),f (o+19),f (o+20),f (o+21)),(f (o+22),f (o+23),f (o+24),f (o+25),f (o+26)))):=fun o ho=>by
  refine⟨(hf o (by omega)).2,fun y hy=>?_⟩;have hy2:y∈(List.range 25).map fun i=>f (o+(i+2)):=hy;obtain⟨i,hi,rfl⟩:=yMp.1 hy2;have:=List.mem_range.1 hi;exact(hf (o+(i+2)) (by omega)).2
 refine⟨((f 0,f 1,f 2,f 3),((f 4,f 5,((f 6,f 7,f 8,f 9,f 10),(f 11,f 12,f 13,f 14,f 15),(f 16,f 17,f 18,f 19,f 20),(f 21,f 22,f 23,f 24,f 25),(f 26,f 27,f 28,f 29,f 30))),(f 31,f 32,((f 33,f 34,f 35,f 36,f 37),(f 38,f 39,f 40,f 41,f 42),(f 43,f 44,f 45,f 46,f 47),(f 48,f 49,f 50,f 51,f 52),(f 53,f 54,f 55,f 56,f 57))),(f 58,f 59,((f 60,f 61,f 62,f 63,f 64),(f 65,f 66,f 67,f 68,f 69),(f 70,f 71,f 72,f 73,f 74),(f 75,f 76,f 77,f 78,f 79),(f 80,f 81,f 82,f 83,f 84))),(f 85,f 86,((f 87,f 88,f 89,f 90,f 91),(f 92,f 93,f 94,f 95,f 96),(f 97,f 98,f 99,f 100,f 101),(f 102,f 103,f 104,f 105,f 106),(f 107,f 108,f 109,f 110,f 111)))),f 112),⟨gr 4 (by omega),gr 31 (by omega),gr 58 (by omega),gr 85 (by omega),(hf 112 (by omega)).2⟩,fun β s=>?_⟩;refine⟨((List.range 113).map fun i=>Value.int .u8 (f i)),?_,by rw [hcs]⟩;exact y9d (cs:=(List.range 113).map fun i=>Value.int .u8 (f i)) (yAt.2 fun x hx=>by
  obtain⟨i,_,rfl⟩:=yMp.1 hx;rfl)
end
theorem yOwn :ownKnob prog.godebug=none:=by kernel_rfl
theorem yLaid :laidOutB prog=true:=by kernel_rfl
section
variable{H:Type}{enc:TypeId×Value→H}
def ydd(P:Program)(ts:List TypeId):Bool:=ts.all fun t=>P.readableRec t&&decide (t<P.types.size)
theorem ya2{P:Program}(hl:laidOutB P=true){W W':World}(hb:Below W.heap.size W W'){sp:Nat→Bool}:∀{ts:List TypeId} {vs:List Value} {ds:List (DataW H)} {ps:List MemPlace},ydd P ts=true→
  DataW.TrodAll enc P W 0 (fun _=>true) true ts vs ds ps→(∀x∈ps,x.block<W.heap.size)→(∀x∈ps,sp x.block=true)→DataW.TrodAll enc P W' 0 sp true ts vs ds ps
 | [],[],[],_,_,h,_,_=>h
 | [],_::_,_,_,_,h,_,_=>h.elim
 | [],[],_::_,_,_,h,_,_=>h.elim
 | t::ts,[],_,_,_,h,_,_=>h.elim
 | t::ts,_::_,[],_,_,h,_,_=>h.elim
 | t::ts,v::vs,d::ds,ps,hc,⟨p,q,h1,h2,e⟩,hlt,hsp=>by
  subst e;unfold ydd at hc;rw [List.all_cons,yAe,yAe] at hc;exact⟨p,q,WideElems.Trod_stays hl hc.1.1 (of_decide_eq_true hc.1.2) h1 (fun x hx=>hb.same (hlt x (yMl _ hx))) (fun x hx=>hsp x (yMl _ hx)),
   ya2 hl hb hc.2 h2 (fun x hx=>hlt x (yMr _ hx)) (fun x hx=>hsp x (yMr _ hx)),rfl⟩
theorem ygp{P:Program}(hl:laidOutB P=true){f:Func}{s:ChangeSpec}{apart fresh handsOn again:Bool}{W W':World}{args:Array Value}{ds:List (DataW H)}{before:List MemPlace}{tb:TypeId}{b:Bool}
  (hW:DataW.Whole enc P f.params.toList s.vars apart W args.toList ds [] before) (hv:s.vars= []) (hc:ydd P f.params.toList=true) (hrt:f.resultTypes= #[tb]) (ht:P.underlying tb=some .bool)
  (hr:(s.fn H (ds++[])).results= [.lit (.bool b)]) (ha:(s.fn H (ds++[])).args=ds) (hvn:(s.fn H (ds++[])).vars= []) (hb:Below W.heap.size W W'):
  s.post enc P f apart fresh handsOn again W args (.bool b) W':=by
 have hlt:∀p∈before,p.block<W.heap.size:=fun p hp=>hW.lt p hp;have hWc:=hW;obtain⟨p,q,hA,hV,rfl,hz,hn⟩:=hWc;rw [hv] at hV;obtain⟨-,rfl⟩:=trodVars_none hV;rw [List.append_nil] at hlt hz hn;have hargs:∀sp:Nat→Bool,(∀x∈p,sp x.block=true)→DataW.TrodAll enc P W' 0 sp true f.params.toList args.toList (s.fn H (ds++[])).args p:=fun sp hsp=>by
  rw [ha];exact ya2 hl hb hc hA hlt hsp
 have hres:∀(b0:Nat) (sp:Nat→Bool) (hd:Bool),DataW.TrodAll enc P W' b0 sp hd f.resultTypes.toList ((Value.bool b).resultList f.resultTypes.size) (s.fn H (ds++[])).results []:=fun _ _ _=>by
  rw [hr,hrt];exact trodAll_mk1 (shut_bool ht b)
 have hvars:∀sp:Nat→Bool,DataW.TrodVars enc P W' sp s.vars (s.fn H (ds++[])).vars []:=fun sp=>by rw [hv,hvn];rfl
 have hold:∀x∈p,(fun b=>decide (b<W.heap.size)) x.block=true:=fun x hx=>by simpa using hlt x hx
 refine⟨ds,[],p++[],[],p,[],hW,hres _ _ _,hargs _ hold,hvars _,World.keptBut_mono (fun x hx=>?_) (hb.frame (· ∈p)),fun _=>?_⟩
 ·exact ⟨by rwa [List.append_nil],Or.inr (.inl hx)⟩
 ·have hok:=ok_one (f:=f) (W':=W') (by rw [hrt]) rfl (okWide_bool_mk (W':=W') ht b);refine⟨hok,_,_,([]++p)++[],⟨[]++p,[],trodAll_append (hargs _ (fun _ _=>rfl)) (hres _ _ _),hvars _,rfl,?_,?_⟩,?_⟩
  ·intro b0 off hp;have hin:MemPlace.cell b0 off∈p:=by simpa using hp
   rw [hb.frozen (hlt _ hin)];exact hz b0 off hin
  ·intro hap;simpa using hn hap
  ·intro x hx _;simpa using hx
end
def lay24 : List (String × DataW Unit) := [("math/bits.deBruijn32tab", Rows.laid_math_bits_deBruijn32tab), ("math/bits.deBruijn64tab", Rows.laid_math_bits_deBruijn64tab), ("internal/strconv.uint64pow10", Rows.laid_internal_strconv_uint64pow10)]
theorem yfp(os:Os)(args:Array Value):laidMetH prog lay24 ((World.laidAll prog os lay24).forCall (fun _ _=>0) ⟨#[],args,[]⟩).memory:=
 laidMetH_of_parts3 (fuel:=8) (laidMet_laidAll args (by kernel_rfl) (by kernel_rfl)) (by kernel_rfl) (by kernel_rfl)
theorem y7D(os:Os)(started:os.Started)(H:Type)(enc:TypeId×Value→H):
  ReturnsInHanded {} Tryz.checked os 8 .any (fun w args=>(Rows.nonconflictMinimalSpec.pre enc prog Tryz.f8 [] false w args∧laidMetH prog lay24 w)∧sizedMet enc prog Tryz.f8 (OpenSpec.ofChange Rows.nonconflictMinimalSpec) false w args) (Rows.nonconflictMinimalSpec.post enc prog Tryz.f8 false true false false):=by
 refine returnsInHanded_of_change_and (C:=Tryz.checked) (X:=fun w _=>laidMetH prog lay24 w) (fun _ _ _ hh h=>h.of_heap hh) yOwn started (by kernel_rfl) func8
  (ChangeSpec.witness_shaped (enc:=enc) (C:=Tryz.checked) (os:=os) (X:=fun w _=>laidMetH prog lay24 w) false (World.laidAll prog os lay24) #[.agg (Array.replicate 113 (.int .u8 0))] 8 (World.laidAll_os _ _ _) (World.shaped_of_ZipB (by kernel_rfl) (by kernel_rfl)) (by kernel_rfl) (by kernel_rfl) (by kernel_rfl) (yfp os _)) ?_
 intro W base args ds gs before hval0 hW _ _ _ _;have hval:∀(j:Nat) t v,Tryz.f8.params[j]? =some t→args[j]? =some v→Value.okWide prog W .any base t v:=hval0;have hW':=hW;obtain⟨p,q,hA0,hV,rfl,hfz,hnd⟩:=hW;have hA:DataW.TrodAll enc prog W 0 (fun _=>true) true Tryz.f8.params.toList args.toList ds p:=hA0;rw [Tryz.params8] at hA hval;obtain⟨v0,d0,rfl,rfl,h0⟩:=trodAll_one hA;obtain⟨x,g0,r0⟩:=yh9 (hval 0 48 v0 rfl rfl);obtain⟨rfl,rfl⟩:=trodVars_none hV;clear hA0 hval0;refine Calls.mono ((y5x (ydp g0)).law (All3.c (r0 _ _) rfl)) fun e W' ⟨he,hbl⟩=>?_;subst he;exact⟨_,rfl,ygp yLaid hW' rfl (by kernel_rfl) (by kernel_rfl) underlying4 rfl rfl rfl hbl⟩
end
section
open Go.Proofs.Tryz Go Go.RowKit
set_option maxRecDepth 100000
theorem yha :prog.stopsHeard=true:=by kernel_rfl
theorem yhb :prog.mayEnter=true:=by kernel_rfl
theorem yhc :(laidOutB prog&&mapsRowed prog)=true:=by kernel_rfl
theorem yhd :(prog.stops==[])=true:=by kernel_rfl
theorem ygq :(prog.stopKnobs==[])=true:=by kernel_rfl
theorem ygr :false=prog.looks []:=by kernel_rfl
end
section
open Go.Proofs.Tryz Go Go.ChangeShapes Go.WideShapes Go.ChangeAt Go.RowKit Go.Deep
theorem y9t :(Rows.nonconflictMinimalRow.inPlace==prog.inPlace 8)=true:=by kernel_rfl
theorem y9u :(Rows.nonconflictMinimalRow.unfollowed==prog.unfollowed 8)=true:=by kernel_rfl
theorem y9v :(Rows.nonconflictMinimalRow.recurses==prog.recurses 8)=true:=by kernel_rfl
theorem y9w :(Rows.nonconflictMinimalRow.named==prog.varsNamed 8)=true:=by kernel_rfl
theorem y9x :(Rows.nonconflictMinimalRow.lifted==prog.liftsFinal)=true:=by kernel_rfl
theorem y7E :joinedFacts prog 8 Tryz.f8 Rows.nonconflictMinimalSpec Rows.nonconflictMinimalRow=true:=by
 have h8:=yhc;rw [yAe] at h8;unfold joinedFacts;rw [h8.1,h8.2,y9t,y9u,y9v,y9w,y9x,yha,yhb,yhd,ygq];change (_:Bool)=true;kernel_rfl
theorem y8s :Rows.NonconflictMinimalSaid:=
 OpenClaim.holds_of_wide 8 Tryz.f8 rfl rfl rfl rfl rfl rfl rfl ⟨rfl,rfl,rfl,rfl,rfl⟩ rfl rfl rfl rfl rfl (by kernel_rfl) func8 y7E
  (of_decide_eq_true (by kernel_rfl)) (by unfold Func.isWrapper;first | (rw [iP (by decide +kernel)];kernel_rfl)|(rw [iN (by decide +kernel)];exact⟨rfl,rfl⟩))
  (fun os started H enc _=>y7D os started H enc)
theorem nonconflictMinimal_k12 :false=Rows.nonconflictMinimalRow.goesBy prog:=by kernel_rfl
theorem nonconflictMinimal_k13 : prog.funcNamed "overseer/overseerlaw33.NonconflictMinimal" = some 8 := by kernel_rfl
theorem nonconflictMinimal_k14 :(Tryz.f8.params.toList.all fun u=>!(prog.wantsStandIn u))=true:=by kernel_rfl
theorem nonconflictMinimal_k15 :Rows.nonconflictMinimalRow.wfByText (OpenSpec.ofChange Rows.nonconflictMinimalSpec)=true:=by kernel_rfl
theorem nonconflictMinimal_card_holds :Rows.NonconflictMinimalCardSaid:=
 Claim7.holds_tied_plain_at .later [] [.data,.data,.data] true _ false
  y8s (fun _ h=>by cases h) nonconflictMinimal_k15 (fun _ h=>by cases h) nonconflictMinimal_row_tie rfl ⟨rfl,rfl⟩ (by kernel_rfl) rfl
  (fun f fn hf hfn=>by
   obtain rfl:f=8:=ySi (nonconflictMinimal_k13.symm.trans hf) |>.symm;obtain rfl:fn=Tryz.f8:=(ySi (func8.symm.trans hfn)).symm;exact⟨ygr,fun j t ht=>by
    have hm:t∈Tryz.f8.params:=Array.mem_of_getElem? ht;exact(show prog.wantsStandIn t=false by simpa using yAt.1 nonconflictMinimal_k14 t (Array.mem_toList_iff.2 hm))⟩)
  nonconflictMinimal_k12
end
end Go.Proofs.YtfdeiphkmjdifaaGreatDoor
