/- NonconflictTests returns true for all arguments, and leaves its arguments as they were. The condition: three tables of Go's library (math/bits, internal/strconv) hold what their source text lays, and the card ties this to the text. -/
import Derived.Deep.Slices
import Derived.ChangeSame
import Derived.ProofKit
import Derived.OpenShut
import Derived.Test.YtfdeiphkmjdifaaGreatDoorRows
import Derived.Test.YtfdeiphkmjdifaaGreatDoorTie
import Derived.Test.YtfdeiphkmjdifaaGreatDoorCards
import Derived.Test.YtfdeiphkmjdifaaGreatDoorProg
import Derived.Lay
import Derived.LaidMore
import Derived.LaidHandle
import Derived.SevenTiedAt
import Derived.Stop.Joined
import Derived.Test.YtfdeiphkmjdifaaGreatDoorKt7
set_option maxRecDepth 100000
namespace Go.Proofs.YtfdeiphkmjdifaaGreatDoor
section
open Go.Proofs.Tryz Go Go.RowKit
theorem yaq{S R:Type}{f:S→Option (S⊕(Unit⊕R))}(mk:Int→S)(n:Nat)(hn:n≤4000000)(b:Nat→Bool)(r:Nat→R)(step:∀i,i<n→f (mk (i:Int))=if b i=true then some (.inr (.inr (r i))) else some (.inl (mk ((i+1:Nat):Int))))(last:f (mk (n:Int))=some (.inr (.inl ()))):
  ∃o,iter f (mk 0)=some o∧((o= .inl ()∧∀i,i<n→b i=false)∨∃i,i<n∧o= .inr (r i)∧b i=true∧∀j,j<i→b j=false):=by
 refine yb (f:=f) (fun i s=>s=mk (i:Int)∧∀j,j<i→b j=false) _ n 0 (by omega) (fun i s hi ⟨e1,g1⟩=>?_) (fun s ⟨e1,g1⟩=>?_) (yZl _) (mk 0) ⟨rfl,fun j hj=>absurd hj (by omega)⟩
 ·subst e1;rw [step i hi];cases hb:b i with
  | true=>exact .inr ⟨_,rfl,.inr ⟨i,hi,rfl,hb,g1⟩⟩
  | false=>
   refine .inl ⟨_,by rw [iN (by simp)],rfl,fun j hj=>?_⟩;by_cases e:j=i
   ·rw [e];exact hb
   ·exact g1 j (by omega)
 ·subst e1;exact⟨_,last,.inl ⟨rfl,g1⟩⟩
theorem yj7(p:Int):∃ev,y3h p=some ev∧Inc ev∧(∀x∈ev,0≤x∧x<5)∧ev.length≤5:=by
 obtain⟨o,h1,h2⟩:=yb (f:=y2c p) (fun i s=>s.1=(i:Int)∧Inc s.2∧(∀x∈s.2,0≤x∧x<(i:Int))∧s.2.length≤i) (fun o=>Inc o∧(∀x∈o,0≤x∧x<5)∧o.length≤5) 5 0 (by omega) (fun i s hi ⟨e1,e2,e3,e4⟩=>by
   obtain⟨s1,s2⟩:=s;dsimp only at e1 e2 e3 e4;subst e1;have hj:∀l:LI,y1c ((i:Int),s2) l=some (.inl (((i+1:Nat):Int),l)):=fun l=>by
    rw [y1c];dsimp only;rw [nxt (by omega)]
   left;rw [y2c];dsimp only;rw [iP (by simp;omega),show ng (i:Int)=some () from iN (by omega),yOb];split
   ·rw [y5S (by simp;omega),yOb,hj];refine⟨_,rfl,rfl,?_,fun x hx=>?_,by simp;omega⟩
    ·unfold Inc at e2 ⊢;rw [List.pairwise_append];exact⟨e2,List.pairwise_singleton ..,fun a ha b hb=>by rw [yMs.1 hb];exact(e3 a ha).2⟩
    ·dsimp only at hx;rcases yMa.1 hx with h|h
     ·have:=e3 x h;omega
     ·rw [yMs.1 h];omega
   ·rw [hj];exact⟨_,rfl,rfl,e2,fun x hx=>by have:=e3 x hx;omega,by dsimp only;omega⟩) (fun s ⟨e1,e2,e3,e4⟩=>by
   obtain⟨s1,s2⟩:=s;dsimp only at e1 e2 e3 e4;subst e1;refine⟨s2,?_,e2,e3,e4⟩;rw [y2c];dsimp only;rw [iN (by simp)]) (by omega) (0,[]) ⟨rfl,yPn,fun x hx=>(by cases hx),by simp⟩
 exact⟨o,by rw [y3h,h1];rfl,h2⟩
theorem ydS{xs:LI}(h:xs.length≤1000000):y2a xs=some (xs,0,[],[]):=by
 rw [y2a,y5S (by simp;omega)];rfl
theorem yg1{xs:LI}{x:Int}(hl:xs.length≤1000000):y4r xs x=some (hasB xs x):=by
 obtain⟨o,h1,h2⟩:=yaq (f:=y4F xs x) (fun i=>i) xs.length (by omega) (fun i=>xs[i]? == some x) (fun _=>()) (fun i hi=>by
  rw [y4F];rw [iP (ct_lt hi),ya hi,yOb,nxt (by omega),yGe hi];by_cases e:xs[i]=x
  ·rw [iP (by simpa using e),iP (by simpa using e)]
  ·rw [iN (by simpa using e),iN (by simpa using e)]) (by
  rw [y4F];rw [iN ct_ge])
 rw [y4r,h1,yOb];rcases h2 with ⟨rfl,h3⟩|⟨i,hi,rfl,h3,h4⟩
 ·have:hasB xs x=false:=by
   rw [←Bool.not_eq_true,yd];intro hm;obtain⟨k,hk,e⟩:=yGo hm;have:=h3 k hk;rw [yGe hk,e] at this;simp at this
  rw [this]
 ·have:hasB xs x=true:=by
   rw [yd];rw [yGe hi] at h3;have h3:xs[i]=x:=by simpa using h3
   exact h3▸yGm hi
  rw [this]
theorem yhR{xs:LI}{x:Int}(hl:xs.length≤1000000)(hm:x∈xs):∃k:Nat,y4Q xs x=some (k:Int)∧xs[k]? =some x:=by
 obtain⟨o,h1,h2⟩:=yaq (f:=y3Z xs x) (fun i=>i) xs.length (by omega) (fun i=>xs[i]? == some x) (fun i=>(i:Int)) (fun i hi=>by
  rw [y3Z];rw [iP (ct_lt hi),ya hi,yOb,nxt (by omega),yGe hi];by_cases e:xs[i]=x
  ·rw [iP (by simpa using e),iP (by simpa using e)]
  ·rw [iN (by simpa using e),iN (by simpa using e)]) (by
  rw [y3Z];rw [iN ct_ge])
 rw [y4Q,h1,yOb];rcases h2 with ⟨rfl,h3⟩|⟨i,hi,rfl,h3,h4⟩
 ·exfalso;obtain⟨k,hk,e⟩:=yGo hm;have:=h3 k hk;rw [yGe hk,e] at this;simp at this
 ·exact ⟨i,rfl,by simpa using h3⟩
theorem yj8{a:AutT}{s e:Int}(h:∀x∈a.2.2.2,¬(x.1=s∧x.2.1=e)):st1 a s e=none:=by
 unfold st1;rw [Option.map_eq_none_iff,List.find?_eq_none];intro x hx;have:=h x hx;simpa using this
theorem yf4{a:AutT}{n:Nat}(hr:Right a n)(s e:Int):y3X a s e=some ((st1 a s e).getD (-1)):=by
 have hl:=hr.l3;obtain⟨o,h1,h2⟩:=yaq (f:=y4k a s e) (fun i=>i) a.2.2.2.length (by omega) (fun i=>match a.2.2.2[i]? with | some x=>x.1==s&&x.2.1==e|none=>false) (fun i=>(a.2.2.2.getD i (0,0,0)).2.2) (fun i hi=>by
  rw [y4k];rw [iP (ct_lt hi),ya hi,yOb,nxt (by omega),yGe hi,yGd,yGe hi];dsimp only [Option.getD_some];by_cases e1:a.2.2.2[i].1=s
  ·rw [iP (by simpa using e1),yOb,yOb,yOb];by_cases e2:a.2.2.2[i].2.1=e
   ·rw [iP (by simpa using e2),iP (by simp [e1,e2])]
   ·rw [iN (by simpa using e2),iN (by simp [e2])]
  ·rw [iN (by simpa using e1),yOb,iN (by simp),iN (by simp [e1])]) (by
  rw [y4k];rw [iN ct_ge])
 rw [y3X,h1,yOb];rcases h2 with ⟨rfl,h3⟩|⟨i,hi,rfl,h3,h4⟩
 ·rw [yj8 fun x hx hxx=>?_]
  ·rfl
  ·obtain ⟨k,hk,e'⟩:=yGo hx;have:=h3 k hk;rw [yGe hk,e'] at this;simp [hxx.1,hxx.2] at this
 ·rw [yGe hi] at h3;have h3:a.2.2.2[i].1=s∧a.2.2.2[i].2.1=e:=by simpa using h3
  have:st1 a s e=some a.2.2.2[i].2.2:=by
   rw [ybO hr,←h3.1,←h3.2];exact yGm hi
  rw [this,yGd,yGe hi];rfl
section
variable{a:AutT}{n:Nat}
theorem yj9(hr:Right a n)(hal:a.1.length≤32){i:Nat}{y:LI}{X:LI}{kn:List (Int×Int)}{E:List (Int×Int×Int)}(hS:SR (st1 a) a.1 n i 0 X kn E)(hi:i<X.length):
  ∃kn' X' E',iter (y2s a ((i:Int),y)) (0,X)=some X'∧SR (st1 a) a.1 n (i+1) 0 X' kn' E'∧∃U,X'=X++U:=by
 have hnl:=hr.nl;obtain⟨o,h1,kn',E',hS',hU⟩:=yb (f:=y2s a ((i:Int),y)) (fun j s=>s.1=(j:Int)∧∃kn E,SR (st1 a) a.1 n i j s.2 kn E∧∃U,s.2=X++U) (fun o=>∃kn E,SR (st1 a) a.1 n (i+1) 0 o kn E∧∃U,o=X++U) a.1.length 0 (by omega) (fun j s hj ⟨e1,kn1,E1,hS1,U,hU⟩=>by
   obtain⟨c,X1⟩:=s;dsimp only at e1 hS1 hU;subst e1;have hX1:=hS1.len;have hi1:i<X1.length:=by rw [hU,yLa];omega
   have hj2:∀l:LI,y2r ((j:Int),X1) l=some (.inl (((j+1:Nat):Int),l)):=fun l=>by
    rw [y2r];dsimp only;rw [nxt (by omega)]
   left;rw [y2s];dsimp only;rw [iP (ct_lt hj),ya hi1,yOb,ya hj,yOb,yf4 hr,yOb];cases hst:st1 a X1[i] a.1[j] with
   | none=>
    rw [Option.getD_none,iN (by simp),yOb,iN (by simp),hj2];exact⟨_,rfl,rfl,kn1,E1,hS1.skip (yGe hi1) (yGe hj) hst,U,hU⟩
   | some t=>
    have ht:=yd0 hr hst;rw [Option.getD_some,iP (by simp;omega),yg1 (by omega),yOb,yOb];by_cases hm:t∈X1
    ·obtain ⟨q,hq⟩:=List.getElem?_of_mem hm;rw [yd.2 hm,iN (by simp),hj2];exact⟨_,rfl,rfl,kn1,_,hS1.edge hr.ali hj (yGe hi1) hst hq,U,hU⟩
    ·have hb:hasB X1 t=false:=by rw [←Bool.not_eq_true,yd];exact hm
     rw [hb,iP (by simp),y5S (by simp;omega),yOb,hj2];have hk:kget kn1 t=none:=by
      cases hk:kget kn1 t with
      | none=>rfl
      | some v=>
       obtain⟨q,_,hq⟩:=hS1.k1 _ _ hk;exact absurd (List.mem_of_getElem? hq) hm
     exact⟨_,rfl,rfl,_,_,hS1.new hr.ali hj (yGe hi1) hst hk ht.2.2.1 ht.2.2.2.1,U++[t],by dsimp only;rw [hU,yAa]⟩) (fun s ⟨e1,kn1,E1,hS1,hU⟩=>by
   obtain⟨c,X1⟩:=s;dsimp only at e1 hS1 hU;subst e1;rw [y2s];dsimp only;rw [iN ct_ge];exact⟨_,rfl,kn1,E1,hS1.next (yNr _) hal,hU⟩) (yZl _) (0,X) ⟨rfl,kn,E,hS,[],(List.append_nil _).symm⟩
 exact⟨kn',o,E',h1,hS',hU⟩
theorem yja(hr:Right a n)(h0:0<n):∃X kn E,y4P a=some X∧SR (st1 a) a.1 n X.length 0 X kn E∧X[0]? =some 0:=by
 have hnl:=hr.nl;have hal:a.1.length≤32:=Alp.len ⟨hr.ali,hr.alr⟩;have hS0:SR (st1 a) a.1 n 0 0 [0] (kput [] 0 0) []:=by
  refine⟨Fnd.start (by simp),fun s v hv=>?_,fun s hs=>?_,by simp,fun s hs=>?_,yPn,fun x hx=>(by cases hx),fun x hx=>(by cases hx),by simp⟩
  ·rw [y6b] at hv;split at hv
   ·rename_i e;subst e;cases hv;exact⟨0,rfl,rfl⟩
   ·cases hv
  ·rw [yMs.1 hs,y6b,iP rfl];rfl
  ·rw [yMs.1 hs];omega
 obtain⟨o,h1,kn,E,h2,h3⟩:=yb (f:=y2t a) (fun i s=>s.1=(i:Int)∧i≤s.2.length∧∃kn E,SR (st1 a) a.1 n i 0 s.2 kn E∧s.2[0]? =some 0) (fun o=>∃kn E,SR (st1 a) a.1 n o.length 0 o kn E∧o[0]? =some 0) n 0 (by omega) (fun i s hi ⟨e1,hle,kn,E,hS,x0⟩=>by
   obtain⟨c,X⟩:=s;dsimp only at e1 hle hS x0;subst e1;have hXl:=hS.len;rw [y2t];dsimp only;by_cases hix:i<X.length
   ·left;obtain⟨kn',X',E',w1,w2,U,hU⟩:=yj9 hr hal (y:=X) hS hix;rw [iP (ct_lt hix),w1,yOb,nxt (by omega)];exact⟨_,rfl,rfl,by dsimp only;rw [hU,yLa];omega,kn',E',w2,by dsimp only;rw [hU,yAl (by omega)];exact x0⟩
   ·right;obtain rfl:i=X.length:=by omega
    rw [iN ct_ge];exact⟨_,rfl,kn,E,hS,x0⟩) (fun s ⟨e1,hle,kn,E,hS,x0⟩=>by
   obtain⟨c,X⟩:=s;dsimp only at e1 hle hS x0;subst e1;have hXl:=hS.len;have hX:n=X.length:=by omega
   rw [y2t];dsimp only;rw [iN (by simp;omega)];exact⟨_,rfl,kn,E,by rw [←hX];exact hX▸hS,x0⟩) (yZl _) (0,[0]) ⟨rfl,by simp,kput [] 0 0,[],hS0,rfl⟩
 refine⟨o,kn,E,?_,h2,h3⟩;rw [y4P,iP (by rw [hr.nn];simp;omega),y5S (by simp),yOb,y3Y,show iter (y2t a) (0,([]:LI)++[0])=some o from h1];rfl
structure EL (st:Int→Int→Option Int) (al X:LI) (i j:Nat) (E:List (Int×Int×Int)):Prop where
 so:E.Pairwise fun x y=>x.1<y.1∨(x.1=y.1∧x.2.1<y.2.1)
 ei:∀x∈E,x.1<(i:Int)∨(x.1=(i:Int)∧∃b,∃hb:b<al.length,b<j∧al[b]=x.2.1)
 sn:∀x∈E,∃(a q:Nat) (t r:Int),x.1=(a:Int)∧x.2.2=(q:Int)∧X[a]? =some t∧X[q]? =some r∧x.2.1∈al∧st t x.2.1=some r
 ed:∀(a b:Nat) (t e r:Int),(a<i∨(a=i∧b<j))→X[a]? =some t→al[b]? =some e→st t e=some r→∃q:Nat,((a:Int),e,(q:Int))∈E∧X[q]? =some r
 el:E.length≤32*i+j
theorem EL.skip{st:Int→Int→Option Int}{al X:LI}{i j:Nat}{E:List (Int×Int×Int)}(h:EL st al X i j E){s e:Int}(ht:X[i]? =some s)(he:al[j]? =some e)(hs:st s e=none):EL st al X i (j+1) E:=by
 refine⟨h.so,fun x hx=>?_,h.sn,fun a b t' e' r hab ha hb hst=>?_,by have:=h.el;omega⟩
 ·rcases h.ei x hx with h1|⟨h1,b,hb,h2,h3⟩
  ·exact .inl h1
  ·exact .inr ⟨h1,b,hb,by omega,h3⟩
 ·by_cases hx:a=i∧b=j
  ·obtain ⟨rfl,rfl⟩:=hx;rw [ht] at ha;rw [he] at hb;cases ha;cases hb;rw [hs] at hst;cases hst
  ·exact h.ed a b t' e' r (by omega) ha hb hst
theorem EL.edge{st:Int→Int→Option Int}{al X:LI}{i j:Nat}{E:List (Int×Int×Int)}(h:EL st al X i j E)(ia:Inc al)(hj:j<al.length){s v:Int}{q:Nat}(ht:X[i]? =some s)(hs:st s al[j]=some v)(hq:X[q]? =some v):EL st al X i (j+1) (E++[((i:Int),al[j],(q:Int))]):=by
 refine⟨?_,fun x hx=>?_,fun x hx=>?_,fun a b t' e' r hab ha hb hst=>?_,by have:=h.el;rw [yLa,List.length_singleton];omega⟩
 ·rw [List.pairwise_append];refine⟨h.so,List.pairwise_singleton _ _,fun x hx y hy=>?_⟩;rw [yMs.1 hy];rcases h.ei x hx with h1|⟨h1,b,hb,h2,h3⟩
  ·exact .inl h1
  ·refine .inr ⟨h1,?_⟩;rw [←h3];exact yPg.1 ia b j hb hj h2
 ·rcases yMa.1 hx with hx|hx
  ·rcases h.ei x hx with h1|⟨h1,b,hb,h2,h3⟩
   ·exact .inl h1
   ·exact .inr ⟨h1,b,hb,by omega,h3⟩
  ·rw [yMs.1 hx];exact .inr ⟨rfl,j,hj,by omega,rfl⟩
 ·rcases yMa.1 hx with hx|hx
  ·exact h.sn x hx
  ·rw [yMs.1 hx];exact⟨i,q,s,v,rfl,rfl,ht,hq,yGm hj,hs⟩
 ·by_cases hx:a=i∧b=j
  ·obtain ⟨rfl,rfl⟩:=hx;rw [ht] at ha;rw [yGe hj] at hb;cases ha;cases hb;rw [hs] at hst;cases hst;exact⟨q,yMr _ (yMs.2 rfl),hq⟩
  ·obtain ⟨q',g1,g2⟩:=h.ed a b t' e' r (by omega) ha hb hst;exact⟨q',yMl _ g1,g2⟩
theorem EL.next{st:Int→Int→Option Int}{al X:LI}{i j:Nat}{E:List (Int×Int×Int)}(h:EL st al X i j E)(hj:al.length≤j)(hj2:j≤32):EL st al X (i+1) 0 E:=
 ⟨h.so,fun x hx=>by
  rcases h.ei x hx with h1|⟨h1,_⟩
  ·exact .inl (by omega)
  ·exact .inl (by omega),h.sn,fun a b t e r hab ha hb hst=>h.ed a b t e r (by have:=(yGs.1 hb).1;omega) ha hb hst,by have:=h.el;omega⟩
theorem yhS(hr:Right a n)(hal:a.1.length≤32){X:LI}{kn:List (Int×Int)}{E0:List (Int×Int×Int)}(hS:SR (st1 a) a.1 n X.length 0 X kn E0){i:Nat}(hi:i<X.length){ms:LI}{y E:List (Int×Int×Int)}(hE:EL (st1 a) a.1 X i 0 E):
  ∃E',iter (y1m a X ((i:Int),ms,y)) (0,E)=some E'∧EL (st1 a) a.1 X (i+1) 0 E':=by
 have hnl:=hr.nl;have hXl:=hS.len;refine yb (f:=y1m a X ((i:Int),ms,y)) (fun j s=>s.1=(j:Int)∧EL (st1 a) a.1 X i j s.2) (fun o=>EL (st1 a) a.1 X (i+1) 0 o) a.1.length 0 (by omega) (fun j s hj ⟨e1,hE1⟩=>?_) (fun s ⟨e1,hE1⟩=>?_) (yZl _) (0,E) ⟨rfl,hE⟩
 ·obtain ⟨c,E1⟩:=s;dsimp only at e1 hE1;subst e1;have hel:=hE1.el;have hj2:∀l:List (Int×Int×Int),y1l ((j:Int),E1) l=some (.inl (((j+1:Nat):Int),l)):=fun l=>by
   rw [y1l];dsimp only;rw [nxt (by omega)]
  left;rw [y1m];dsimp only;rw [iP (ct_lt hj),ya hi,yOb,ya hj,yOb,yf4 hr,yOb];cases hst:st1 a X[i] a.1[j] with
  | none=>
   rw [Option.getD_none,iN (by simp),hj2];exact⟨_,rfl,rfl,hE1.skip (yGe hi) (yGe hj) hst⟩
  | some t=>
   have ht:=yd0 hr hst;obtain⟨q,_,hq⟩:=hS.f.ed i j X[i] a.1[j] t (.inl hi) (yGe hi) (yGe hj) hst;obtain⟨k,hk,hk2⟩:=yhR (xs:=X) (x:=t) (by omega) (List.mem_of_getElem? hq);rw [Option.getD_some,iP (by simp;omega),yOb,hk,yOb,y5S (by simp;omega),yOb,hj2];exact⟨_,rfl,rfl,hE1.edge hr.ali hj (yGe hi) hst hk2⟩
 ·obtain ⟨c,E1⟩:=s;dsimp only at e1 hE1;subst e1;rw [y1m];dsimp only;rw [iN ct_ge];exact⟨_,rfl,hE1.next (yNr _) hal⟩
theorem yhT(hr:Right a n)(h0:0<n):∃r X,y3F a=some r∧CanOf (st1 a) a.1 a.2.2.1 r X∧0<X.length∧X.length≤n:=by
 have hnl:=hr.nl;have hl1:=hr.l1;have hl2:=hr.l2;have hal:a.1.length≤32:=Alp.len ⟨hr.ali,hr.alr⟩;obtain⟨X,kn,E0,hf,hS,x0⟩:=yja hr h0;have hXl:=hS.len;have hX0:0<X.length:=(yGs.1 x0).1;obtain⟨o,h1,hE,m1,m2,mk⟩:=yb (f:=y2E a X) (fun i s=>s.1=(i:Int)∧i≤X.length∧EL (st1 a) a.1 X i 0 s.2.2∧Inc s.2.1∧(∀x∈s.2.1,0≤x∧x<(i:Int))∧∀(c:Nat) (x:Int),c<i→X[c]? =some x→((c:Int)∈s.2.1↔x∈a.2.2.1))
   (fun o=>EL (st1 a) a.1 X X.length 0 o.2∧Inc o.1∧(∀x∈o.1,0≤x∧x<(X.length:Int))∧∀(c:Nat) (x:Int),X[c]? =some x→((c:Int)∈o.1↔x∈a.2.2.1)) X.length 0 (by omega) (fun i s hi ⟨e1,_,hE,m1,m2,mk⟩=>by
   obtain⟨c,M,E⟩:=s;dsimp only at e1 hE m1 m2 mk;subst e1;have hMl:=y5Z (n:=i) (lo:=0) m1 m2 (Int.le_refl _);have hj1:∀M':LI,Inc M'→(∀x∈M',0≤x∧x<((i+1:Nat):Int))→(∀x:Int,x≠(i:Int)→(x∈M'↔x∈M))→((i:Int)∈M'↔X[i]∈a.2.2.1)→
     ∃s',y1n a X ((i:Int),M,E) M'=some (.inl s')∧s'.1=((i+1:Nat):Int)∧i+1≤X.length∧EL (st1 a) a.1 X (i+1) 0 s'.2.2∧Inc s'.2.1∧(∀x∈s'.2.1,0≤x∧x<((i+1:Nat):Int))∧∀(c:Nat) (x:Int),c<i+1→X[c]? =some x→((c:Int)∈s'.2.1↔x∈a.2.2.1):=fun M' q1 q2 q3 q4=>by
    obtain⟨E',w1,w2⟩:=yhS hr hal hS hi (ms:=M) (y:=E) hE;rw [y1n];dsimp only;rw [w1,yOb,nxt (by omega)];refine⟨_,rfl,rfl,hi,w2,q1,q2,fun c x hc hx=>?_⟩;dsimp only;by_cases e:c=i
    ·subst e;rw [yGe hi] at hx;cases hx;exact q4
    ·rw [q3 _ (by omega)];exact mk c x (by omega) hx
   left;rw [y2E];dsimp only;rw [iP (ct_lt hi),ya hi,yOb,yg1 (by omega),yOb];cases hm:hasB a.2.2.1 X[i] with
   | true=>
    rw [iP rfl,y5S (by simp;omega),yOb];refine hj1 _ ?_ (fun x hx=>?_) (fun x hx=>?_) ⟨fun _=>yd.1 hm,fun _=>yMr _ (yMs.2 rfl)⟩
    ·unfold Inc at m1 ⊢;rw [List.pairwise_append];exact⟨m1,List.pairwise_singleton _ _,fun c hc b hb=>by rw [yMs.1 hb];exact(m2 c hc).2⟩
    ·rcases yMa.1 hx with hx|hx
     ·have:=m2 x hx;omega
     ·rw [yMs.1 hx];omega
    ·rw [yMa,yMs];exact⟨fun h=>h.resolve_right hx,.inl⟩
   | false=>
    rw [iN (by simp)];refine hj1 M m1 (fun x hx=>by have:=m2 x hx;omega) (fun x _=>Iff.rfl) ⟨fun hx=>by have:=m2 _ hx;omega,fun hx=>?_⟩;rw [yd.2 hx] at hm;cases hm) (fun s ⟨e1,_,hE,m1,m2,mk⟩=>by
   obtain⟨c,M,E⟩:=s;dsimp only at e1 hE m1 m2 mk;subst e1;rw [y2E];dsimp only;rw [iN ct_ge];exact⟨_,rfl,hE,m1,m2,fun c x hx=>mk c x (yGs.1 hx).1 hx⟩) (yZl _) (0,[],[]) ⟨rfl,yZl _,⟨yPn,fun x hx=>(by cases hx),fun x hx=>(by cases hx),fun a b t e r hab=>by omega,by simp⟩,yPn,fun x hx=>(by cases hx),fun c x hc=>absurd hc (Nat.not_lt_zero _)⟩
 obtain⟨M,E⟩:=o;dsimp only at hE m1 m2 mk;have hMl:=y5Z (n:=X.length) (lo:=0) m1 m2 (Int.le_refl _);have hD:=hS.f.disc hS.nd hS.so hS.ea hr.alr;have hEE:E=E0:=ycp (lt:=fun x y=>x.1<y.1∨(x.1=y.1∧x.2.1<y.2.1)) (fun a b h1 h2=>by omega) hE.so hD.so fun x=>by
  have same:∀{a q q':Nat} {t r r':Int},X[a]? =some t→X[q]? =some r→X[q']? =some r→q=q':=fun {a q q' t r r'} _ h1 h2=>by
   have e1:=(yGs.1 h1).2;have e2:=(yGs.1 h2).2;exact(List.getElem_inj hS.nd).1 (e1.trans e2.symm)
  constructor
  ·intro hx;obtain⟨c,q,t,r,g1,g2,g3,g4,g5,g6⟩:=hE.sn x hx;obtain⟨q',k1,k2⟩:=hD.ed c t x.2.1 r g3 g5 g6;have:=same (r':=r) g3 g4 k2;subst this;rw [←g1,←g2] at k1;exact k1
  ·intro hx;obtain⟨c,q,t,r,g1,g2,g3,g4,g5,g6⟩:=hD.sn x hx;obtain⟨b,hb,hbe⟩:=yGo g5;obtain⟨q',k1,k2⟩:=hE.ed c b t x.2.1 r (.inl (yGs.1 g3).1) g3 (by rw [yGe hb,hbe]) g6;have:=same (r':=r) g3 g4 k2;subst this;rw [←g1,←g2] at k1;exact k1
 subst hEE;have hEl:=hE.el;refine⟨(a.1,(X.length:Int),M,E),X,?_,⟨⟨rfl,by omega,hr.ali,hr.alr,m1,m2,fun x hx=>?_,hE.so,hl1,by dsimp only;omega,by dsimp only;omega⟩,rfl,fun _=>x0,hD,mk⟩,hX0,hXl⟩
 ·rw [y3F,hf,yOb,ydS (by omega),yOb,h1];rfl
 ·obtain ⟨c,q,t,r,g1,g2,g3,g4,g5,_⟩:=hE.sn x hx;have e3:=(yGs.1 g3).1;have e4:=(yGs.1 g4).1;exact⟨by omega,by omega,by omega,by omega,g5⟩
end
abbrev Row5 :=Int×Int×Int×Int×Int
def ybe(g:Row5×Row5×Row5×Row5×Row5):LI:=
 [g.1.1,g.1.2.1,g.1.2.2.1,g.1.2.2.2.1,g.1.2.2.2.2,g.2.1.1,g.2.1.2.1,g.2.1.2.2.1,g.2.1.2.2.2.1,g.2.1.2.2.2.2,g.2.2.1.1,g.2.2.1.2.1,g.2.2.1.2.2.1,g.2.2.1.2.2.2.1,g.2.2.1.2.2.2.2,g.2.2.2.1.1,g.2.2.2.1.2.1,g.2.2.2.1.2.2.1,g.2.2.2.1.2.2.2.1,g.2.2.2.1.2.2.2.2,g.2.2.2.2.1,g.2.2.2.2.2.1,g.2.2.2.2.2.2.1,g.2.2.2.2.2.2.2.1,g.2.2.2.2.2.2.2.2]
structure GrIn (g:yq):Prop where
 s:0≤g.1∧g.1<256
 c:∀y∈ybe g.2.2,0≤y∧y<256
structure MG (ev:LI) (n i j:Nat) (E:List (Int×Int×Int)):Prop where
 er:∀x∈E,0≤x.1∧x.1≤(i:Int)∧x.2.1∈ev∧0≤x.2.2∧x.2.2<(n:Int)
 es:∀x∈E,x.1=(i:Int)→∃b,∃hb:b<ev.length,b<j∧ev[b]=x.2.1
 so:E.Pairwise fun x y=>x.1<y.1∨(x.1=y.1∧x.2.1<y.2.1)
 el:E.length≤5*i+j
theorem MG.push{ev:LI}{n i j:Nat}{E:List (Int×Int×Int)}{q:Int}(h:MG ev n i j E)(ie:Inc ev)(hj:j<ev.length)(h0:0≤q)(h1:q<(n:Int)):MG ev n i (j+1) (E++[((i:Int),ev[j],q)]):=by
 refine⟨fun x hx=>?_,fun x hx e=>?_,?_,by have:=h.el;rw [yLa,List.length_singleton];omega⟩
 ·rcases yMa.1 hx with hx|hx
  ·exact h.er x hx
  ·rw [yMs.1 hx];exact⟨by dsimp only;omega,by dsimp only;omega,yGm hj,h0,h1⟩
 ·rcases yMa.1 hx with hx|hx
  ·obtain ⟨b,hb,h2,h3⟩:=h.es x hx e;exact⟨b,hb,by omega,h3⟩
  ·rw [yMs.1 hx];exact⟨j,hj,by omega,rfl⟩
 ·rw [List.pairwise_append];refine⟨h.so,List.pairwise_singleton _ _,fun a ha b hb=>?_⟩;rw [yMs.1 hb];have h2:=h.er a ha;by_cases e:a.1=(i:Int)
  ·obtain ⟨b,hb,h3,h4⟩:=h.es a ha e;refine .inr ⟨e,?_⟩;rw [←h4];exact yPg.1 ie b j hb hj h3
  ·exact .inl (by dsimp only;omega)
theorem MG.skip{ev:LI}{n i j:Nat}{E:List (Int×Int×Int)}(h:MG ev n i j E):MG ev n i (j+1) E:=⟨h.er,fun x hx e=>by
 obtain⟨b,hb,h2,h3⟩:=h.es x hx e;exact⟨b,hb,by omega,h3⟩,h.so,by have:=h.el;omega⟩
theorem MG.next{ev:LI}{n i j:Nat}{E:List (Int×Int×Int)}(h:MG ev n i j E)(hj:j≤5):MG ev n (i+1) 0 E:=⟨fun x hx=>by
 have:=h.er x hx;exact⟨this.1,by omega,this.2.2⟩,fun x hx e=>by have:=h.er x hx;omega,h.so,by have:=h.el;omega⟩
theorem yjb{ev:LI}(ie:Inc ev)(he:∀x∈ev,0≤x∧x<32)(hel:ev.length≤5){g:yq}(hg:GrIn g):∃r n,y5b ev g=some r∧Right r n∧n≤5∧r.1=ev∧(n:Int)≤1+g.1 % 5∧(250≤g.1→n=0):=by
 obtain⟨s,m,c⟩:=g;obtain⟨hs,hc⟩:=hg;dsimp only at hs hc;rw [y5b,ydS (by omega)];dsimp only;by_cases h250:s≥250
 ·rw [iP (by simpa using h250),yOb];exact⟨_,0,rfl,⟨rfl,by omega,ie,he,yPn,fun x hx=>(by cases hx),fun x hx=>(by cases hx),yPn,by dsimp only;omega,by simp,by simp⟩,by omega,rfl,by omega,fun _=>rfl⟩
 rw [iN (by simpa using h250),yOb];obtain⟨n,hn0,hn5,hns,hn⟩:∃n:Nat,0<n∧n≤5∧(n:Int)=1+s % 5∧W (1+W (s.tmod 5))=(n:Int):=by
  refine⟨(1+s % 5).toNat,by omega,by omega,by omega,?_⟩;rw [Int.tmod_eq_emod_of_nonneg hs.1,W_of (x:=s % 5) (by omega) (by omega),W_of (by omega) (by omega)];omega
 have hn2:W ((n:Int)+2)=((n+2:Nat):Int):=by rw [show (n:Int)+2=((n+2:Nat):Int) by omega,W_nat (by omega)]
 rw [hn];obtain⟨o,h1,m1,m2,hM⟩:=yb (f:=y4m ev (s,m,c)) (fun i t=>t.1=(i:Int)∧Inc t.2.1∧(∀x∈t.2.1,0≤x∧x<(i:Int))∧MG ev n i 0 t.2.2) (fun o=>Inc o.1∧(∀x∈o.1,0≤x∧x<(n:Int))∧MG ev n n 0 o.2) n 0 (by omega) (fun i t hi ⟨e1,m1,m2,hM⟩=>by
   obtain⟨t1,t2,t3⟩:=t;dsimp only at e1 m1 m2 hM;subst e1;have hMl:=y5Z (n:=i) (lo:=0) m1 m2 (Int.le_refl _);have hj:∀l:LI,Inc l→(∀x∈l,0≤x∧x<((i+1:Nat):Int))→∃s',y2R ev (s,m,c) ((i:Int),t2,t3) l=some (.inl s')∧s'.1=((i+1:Nat):Int)∧Inc s'.2.1∧(∀x∈s'.2.1,0≤x∧x<((i+1:Nat):Int))∧MG ev n (i+1) 0 s'.2.2:=by
    intro l hl1 hl2;obtain⟨o,h1,h2⟩:=yb (f:=y4l ev (s,m,c) ((i:Int),t2,t3)) (fun k t=>t.1=(k:Int)∧MG ev n i k t.2) (fun o=>MG ev n i ev.length o) ev.length 0 (by omega) (fun k t hk ⟨g1,g2⟩=>by
      obtain⟨u1,u2⟩:=t;dsimp only at g1 g2;subst g1;have hel2:=g2.el;have hj2:∀l:List (Int×Int×Int),y2Q ((k:Int),u2) l=some (.inl (((k+1:Nat):Int),l)):=fun l=>by
       rw [y2Q];dsimp only;rw [nxt (by omega)]
      left;have hlt:i*5+k*1<(ybe c).length:=by show _<25;omega
      obtain⟨v,hcell,hv⟩:∃v,(ybe c)[i*5+k*1]? =some v∧0≤v∧v<256:=⟨_,yGe hlt,hc _ (yGm hlt)⟩;rw [ybe] at hcell;rw [y4l];dsimp only;rw [iP (by simp;omega),show rng (i:Int) 5=some () from iP (by simp;omega),yOb,show rng (k:Int) 5=some () from iP (by simp;omega),yOb,yTn,yTn,hcell,yOb,hn,hn2,show nz ((n+2:Nat):Int)=some () from iN (by omega),yOb,W_of (x:=v) (by omega) (by omega),Int.tmod_eq_emod_of_nonneg hv.1];have hm0:=Int.emod_nonneg v (show ((n+2:Nat):Int)≠0 by omega);by_cases hlt2:v % ((n+2:Nat):Int)<(n:Int)
      ·rw [iP (decide_eq_true hlt2),ya hk,yOb,y5S (by rw [yLc,List.length_nil];omega),yOb,hj2];exact⟨_,rfl,rfl,g2.push ie hk hm0 hlt2⟩
      ·rw [iN (by simpa using hlt2),hj2];exact⟨_,rfl,rfl,g2.skip⟩) (fun t ⟨g1,g2⟩=>by
      obtain⟨u1,u2⟩:=t;dsimp only at g1 g2;subst g1;rw [y4l];dsimp only;rw [iN (by simp)];exact⟨_,rfl,g2⟩) (yZl _) (0,t3) ⟨rfl,hM⟩
    rw [y2R];dsimp only;rw [h1,yOb,nxt (by omega)];exact⟨_,rfl,rfl,hl1,hl2,h2.next hel⟩
   left;rw [y4m];dsimp only;rw [hn,iP (by simp;omega),show ng (i:Int)=some () from iN (by omega),yOb];split
   ·rw [y5S (by simp;omega),yOb];refine hj _ ?_ (fun x hx=>?_)
    ·unfold Inc at m1 ⊢;rw [List.pairwise_append];exact⟨m1,List.pairwise_singleton _ _,fun c hc b hb=>by rw [yMs.1 hb];exact(m2 c hc).2⟩
    ·rcases yMa.1 hx with hx|hx
     ·have:=m2 x hx;omega
     ·rw [yMs.1 hx];omega
   ·exact hj _ m1 (fun x hx=>by have:=m2 x hx;omega)) (fun t ⟨e1,m1,m2,hM⟩=>by
   obtain⟨t1,t2,t3⟩:=t;dsimp only at e1 m1 m2 hM;subst e1;rw [y4m];dsimp only;rw [hn,iN (by simp)];exact⟨_,rfl,m1,m2,hM⟩) (yZl _) (0,[],[]) ⟨rfl,yPn,fun x hx=>(by cases hx),⟨fun x hx=>(by cases hx),fun x hx=>(by cases hx),yPn,by simp⟩⟩
 obtain⟨M,E⟩:=o;dsimp only at m1 m2 hM;have hMl:=y5Z (n:=n) (lo:=0) m1 m2 (Int.le_refl _);have hel2:=hM.el;have hR:Right (ev,(n:Int),M,E) n:=⟨rfl,by omega,ie,he,m1,m2,fun x hx=>by
  have h:=hM.er x hx;refine⟨h.1,?_,h.2.2.2.1,h.2.2.2.2,h.2.2.1⟩;by_cases e:x.1=(n:Int)
  ·obtain ⟨b,_,hb,_⟩:=hM.es x hx e;omega
  ·omega,hM.so,by dsimp only;omega,by dsimp only;omega,by dsimp only;omega⟩
 obtain⟨r,X,hc1,hc2,hc3,hc4⟩:=yhT hR hn0;rw [h1,yOb,hc1,yOb];exact⟨r,X.length,rfl,hc2.right,by omega,hc2.ale,by omega,fun h=>absurd h h250⟩
abbrev GrpT :=(Int×Int×Int×Int)×(yq×yq×yq×yq)×Int
structure GrpIn (p:GrpT):Prop where
 g0:GrIn p.2.1.1
 g1:GrIn p.2.1.2.1
 g2:GrIn p.2.1.2.2.1
 g3:GrIn p.2.1.2.2.2
 c:0≤p.2.2∧p.2.2<256
theorem yjc{p:GrpT}(hp:GrpIn p):∃l,y5c p=some l∧SmL l:=by
 obtain⟨n,hn,hc⟩:∃n:Nat,n≤4∧W (p.2.2.tmod 5)=(n:Int):=by
  have h0:=hp.c;refine⟨(p.2.2 % 5).toNat,by omega,?_⟩;rw [Int.tmod_eq_emod_of_nonneg h0.1,W_of (by omega) (by omega)];omega
 obtain⟨o,h1,h2⟩:=yb (f:=y2T p) (fun i s=>s.1=(i:Int)∧s.2.length=i∧∀a∈s.2,∃n:Nat,n≤3∧Right a n∧∀e∈a.1,e<5) (fun o=>SmL o) n 0 (by omega) (fun i s hi ⟨e1,e2,e3⟩=>by
   obtain⟨k,out⟩:=s;dsimp only at e1 e2 e3;subst e1;left;obtain⟨g,hg,hgi⟩:∃g,([p.2.1.1,p.2.1.2.1,p.2.1.2.2.1,p.2.1.2.2.2]:List yq)[i]? =some g∧GrIn g:=by
    have:i=0∨i=1∨i=2∨i=3:=by omega
    rcases this with rfl|rfl|rfl|rfl
    ·exact ⟨_,rfl,hp.g0⟩
    ·exact ⟨_,rfl,hp.g1⟩
    ·exact ⟨_,rfl,hp.g2⟩
    ·exact ⟨_,rfl,hp.g3⟩
   obtain⟨s,hs⟩:∃s,([p.1.1,p.1.2.1,p.1.2.2.1,p.1.2.2.2]:LI)[i*1]? =some s:=⟨_,yGe (by rw [show ([p.1.1,p.1.2.1,p.1.2.2.1,p.1.2.2.2]:LI).length=4 from rfl];omega)⟩;obtain⟨ev,he,hi1,hi2,hi3⟩:=yj7 s;have hj:∀m:Int,0≤m∧m<256→(m<250→m<3)→∃r,y2S p ((i:Int),out) g m=some (.inl (((i+1:Nat):Int),out++[r]))∧∃n:Nat,n≤3∧Right r n∧∀e∈r.1,e<5:=fun m hm hm3=>by
    obtain⟨r,k,k1,k2,_,k4,k5,k6⟩:=yjb hi1 (fun x hx=>by have:=hi2 x hx;omega) hi3 (g:=(m,g.2)) ⟨hm,hgi.c⟩;refine⟨r,?_,k,?_,k2,fun e hee=>by rw [k4] at hee;exact(hi2 e hee).2⟩
    ·rw [y2S];dsimp only;rw [show rng (i:Int) 4=some () from yhw (by omega),yOb,yTn,hs,yOb,he,yOb,k1,yOb,yv (by simp;omega),yOb,nxt (by omega)]
    ·dsimp only at k5 k6;by_cases h250:250≤m
     ·have:=k6 h250;omega
     ·have:=hm3 (by omega);omega
   have hgs:=hgi.s;have hmain:∃r,y2T p ((i:Int),out)=some (.inl (((i+1:Nat):Int),out++[r]))∧∃n:Nat,n≤3∧Right r n∧∀e∈r.1,e<5:=by
    rw [y2T];dsimp only;rw [hc,iP (ct_lt hi),show rng (i:Int) 4=some () from yhw (by omega),yOb,yTn,hg,yOb];by_cases h250:g.1<250
    ·rw [iP (decide_eq_true h250),Int.tmod_eq_emod_of_nonneg hgs.1];exact hj _ (by omega) (fun _=>by omega)
    ·rw [iN (by simpa using h250)];exact hj _ hgs (fun h=>absurd h h250)
   obtain⟨r,k1,k2⟩:=hmain;refine⟨_,k1,rfl,by simp [e2],fun a ha=>?_⟩;rcases yMa.1 ha with ha|ha
   ·exact e3 a ha
   ·rw [yMs.1 ha];exact k2)
  (fun s ⟨e1,e2,e3⟩=>by
   obtain⟨k,out⟩:=s;dsimp only at e1 e2 e3;subst e1;refine⟨out,?_,by omega,e3⟩;rw [y2T];dsimp only;rw [hc,iN ct_ge]) (yZl _) (0,[]) ⟨rfl,rfl,fun a ha=>by cases ha⟩
 exact⟨o,by rw [y5c,h1];rfl,h2⟩
theorem beqE(x y:E3):(x.1==y.1&&(x.2.1==y.2.1&&(x.2.2==y.2.2&&true)))=decide (x=y):=by
 rw [Bool.eq_iff_iff];simp only [yAe,beq_iff_eq,and_true,decide_eq_true_iff];constructor
 ·rintro ⟨h1,h2,h3⟩;exact Prod.ext h1 (Prod.ext h2 h3)
 ·rintro rfl;exact⟨rfl,rfl,rfl⟩
theorem yfj{xs:List E3}(hl:xs.length≤4294967296):y4O xs=some (dd xs):=by
 rw [←cp_eq ((0:Int),(0:Int),(0:Int)) hl];have h2:∀k,y5k k=cpL2 k:=fun k=>funext fun st=>by
  unfold y5k cpL2 y3V;simp only [beqE,Bool.not_eq_true',decide_eq_false_iff_not,ne_eq]
 have h1:y5l xs=cpL1 ((0:Int),(0:Int),(0:Int)) xs:=funext fun st=>by
  unfold y5l cpL1;simp only [h2,beqE,decide_eq_true_iff]
 unfold y4O cpL;rw [h1];split
 ·rfl
 ·congr 1;funext o;cases o <;> rfl
theorem yf5{us vs:LI}(hu:Inc us)(hv:Inc vs)(lu:us.length≤1000000)(lv:vs.length≤1000000):∃d,y4z us vs=some d∧Inc d∧∀e,e∈d↔e∈us∧e∉vs:=by
 have h:=y6M (fun a b=>a && !b) us vs hu hv;refine⟨mg (fun a b=>a && !b) us vs,?_,h.1,fun e=>?_⟩
 ·rw [y4z,ybN (kp:=fun a b=>a && !b) (f:=y6E) (fun _ _=>rfl) lu lv];rfl
 ·rw [h.2,yAe,yd,Bool.not_eq_true'];have hB:hasB vs e=false↔e∉vs:=by rw [←yd];simp
  rw [hB];constructor
  ·rintro ⟨_,h⟩;exact h
  ·rintro h;exact⟨.inl h.1,h⟩
def ersE(ev:LI)(x:E3):E3:=(x.1,if hasB ev x.2.1=true then -1 else x.2.1,x.2.2)
theorem ykc{A B:Lts Int}(h1:∀s,A.ini s↔B.ini s)(h2:∀s,A.fin s↔B.fin s)(h3:∀e s t,A.st e s t↔B.st e s t)(h4:∀e,A.ev e↔B.ev e):A=B:=by
 obtain⟨a1,a2,a3,a4⟩:=A;obtain⟨b1,b2,b3,b4⟩:=B;have e1:a1=b1:=funext fun s=>propext (h1 s);have e2:a2=b2:=funext fun s=>propext (h2 s);have e3:a3=b3:=funext fun e=>funext fun s=>funext fun t=>propext (h3 e s t);have e4:a4=b4:=funext fun e=>propext (h4 e);rw [e1,e2,e3,e4]
theorem yjd{a:NdT}(ha:NdOk a){ev:LI}(hi:Inc ev)(hr:∀x∈ev,0≤x∧x<32):∃b,yO a ev=some (b,0)∧NdOk b∧b.2.1=a.2.1∧(∀e,e∈b.1↔e∈a.1∧e∉ev)∧ltsN b=Lts.hide (fun e=>e∈ev) (ltsN a):=by
 have hle:=ha.le;have hli:=ha.li;have hlm:=ha.lm;have hel:ev.length≤32:=by
  have:=y5Z (n:=32) (lo:=0) hi hr (Int.le_refl _);omega
 obtain⟨d,hd,hdi,hdm⟩:=yf5 ha.al hi ha.la (by omega);have hloop:iter (y2Z a ev) (0,([]:List E3))=some ([]++a.2.2.2.2.map (ersE ev)):=y5F _ _ _ (by rw [List.length_nil];omega) (fun j hj o=>by
  unfold y2Z;simp only [ct_lt hj,if_true,ya hj,yOb];rw [y4a (by omega) hi,yOb];unfold ersE;cases hasB ev a.2.2.2.2[j].2.1 with
  | true=>
   rw [iP rfl,iP rfl,y1r]
  | false=>
   rw [iN (by simp),iN (by simp),y1r]) (fun o=>by
  unfold y2Z;simp)
 have hml:(a.2.2.2.2.map (ersE ev)).length≤65536:=by rw [yLm];exact hle
 have hsl:=(y3t (ltf yc) (a.2.2.2.2.map (ersE ev))).length_eq;have hmem:∀z:E3,z∈dd (srtL (ltf yc) (a.2.2.2.2.map (ersE ev)))↔ ∃x∈a.2.2.2.2,ersE ev x=z:=fun z=>by rw [yaS,(y3t _ _).mem_iff,yMp]
 refine⟨(d,a.2.1,a.2.2.1,a.2.2.2.1,dd (srtL (ltf yc) (a.2.2.2.2.map (ersE ev)))),?_,⟨hdi,fun x hx=>ha.alr x ((hdm x).1 hx).1,ha.n0,ha.n1,ha.ini,ha.inr,ha.mks,ha.mkr,y9i (fun _ _=>yc0) (yfZ cmpN _),fun z hz=>?_,?_,hli,hlm,?_⟩,rfl,hdm,?_⟩
 ·rw [yO,y6O ha,yOb,iN (by simp),y9P hi hr (by omega),yOb,iN (by simp),hd,yOb,y6h (by omega),yOb,y6h (by omega),yOb,hloop,yOb,List.nil_append,y4S,yf1 cmpN (by omega),yOb,yfj (by omega)];rfl
 ·obtain ⟨x,hx,rfl⟩:=(hmem z).1 hz;have:=ha.esr x hx;unfold ersE;dsimp only;refine⟨this.1,this.2.1,this.2.2.1,this.2.2.2.1,?_⟩;by_cases h:hasB ev x.2.1=true
  ·rw [iP h];exact .inl rfl
  ·rw [iN h];rcases this.2.2.2.2 with h1|h1
   ·exact .inl h1
   ·exact .inr ((hdm _).2 ⟨h1,fun hm=>h (yd.2 hm)⟩)
 ·have:=y5Z (n:=32) (lo:=0) hdi (fun x hx=>ha.alr x ((hdm x).1 hx).1) (Int.le_refl _);dsimp only;omega
 ·dsimp only;have:=y9N (srtL (ltf yc) (a.2.2.2.2.map (ersE ev)));omega
 ·refine ykc (fun s=>Iff.rfl) (fun s=>Iff.rfl) (fun e s t=>?_) hdm;show(s,e,t)∈dd (srtL (ltf yc) (a.2.2.2.2.map (ersE ev)))↔(e= -1∧((s,-1,t)∈a.2.2.2.2∨∃x,x∈ev∧(s,x,t)∈a.2.2.2.2))∨(e≠ -1∧¬e∈ev∧(s,e,t)∈a.2.2.2.2);rw [hmem];have hm1:(-1:Int)∉ev:=fun h=>by have:=hr _ h;omega
  constructor
  ·rintro ⟨⟨x1,x2,x3⟩,hx,he⟩;unfold ersE at he;dsimp only at he;by_cases h:hasB ev x2=true
   ·rw [iP h] at he;cases he;exact .inl ⟨rfl,.inr ⟨x2,yd.1 h,hx⟩⟩
   ·rw [iN h] at he;cases he;by_cases h1:e= -1
    ·subst h1;exact .inl ⟨rfl,.inl hx⟩
    ·exact .inr ⟨h1,fun hm=>h (yd.2 hm),hx⟩
  ·rintro (⟨rfl,hx|⟨x,hm,hx⟩⟩|⟨h1,hm,hx⟩)
   ·exact ⟨_,hx,by unfold ersE;dsimp only;rw [iN (by rw [yd];exact hm1)]⟩
   ·exact ⟨_,hx,by unfold ersE;dsimp only;rw [iP (yd.2 hm)]⟩
   ·exact ⟨_,hx,by unfold ersE;dsimp only;rw [iN (by rw [yd];exact hm)]⟩
theorem yhU{N:NdT}(hN:NdOk N)(h99:N.2.1≤99)(h5:∀e∈N.1,e<5){l:List AutT}(hl:SmL l):
  ∃later later' del er w,y5E l=some (later,0)∧y4z N.1 later=some del∧iter (y2x l) (0,([]:LI))=some later'∧iter (y1o N.1 later') (0,([]:LI))=some del∧
   yO N del=some (er,0)∧yW er=some (w,0)∧NdOk w∧w.2.1≤N.2.1∧(∀e∈w.1,e<5)∧(∃R:Int→Int→Prop,Lts.WBis (Lts.hide (fun e=>e∈del) (ltsN N)) (ltsN w) R)∧(∀e,e∈del→¬(Lts.TL (l.map ltsA)).ev e)∧(-1:Int)∉del:=by
 have hlen:=hl.len;have hrg:=hl.rgt;obtain⟨later,e1,hal,hm⟩:=yhO (l:=l) (by omega) hrg;have hll:=hal.len;obtain⟨del,e2,hdi,hdm⟩:=yf5 hN.al hal.1 hN.la (by omega);have hla:=hN.la
 -- the law's later
 obtain⟨later',e3,hm',hll'⟩:=yb (f:=y2x l) (fun i s=>s.1=(i:Int)∧(∀e,e∈s.2↔ ∃a∈l.take i,e∈a.1)∧s.2.length≤32*i) (fun o=>(∀e,e∈o↔ ∃a∈l,e∈a.1)∧o.length≤1000) l.length 0 (by omega) (fun i s hi ⟨g1,g2,g3⟩=>by
   obtain⟨k,out⟩:=s;dsimp only at g1 g2 g3;subst g1;obtain⟨n,hrn⟩:=hrg _ (yGm hi);have ha32:=Alp.len (xs:=l[i].1) ⟨hrn.ali,hrn.alr⟩;left;refine⟨(((i+1:Nat):Int),dd (isL (out++l[i].1))),?_,rfl,fun e=>?_,?_⟩
   ·rw [y2x];dsimp only;rw [iP (ct_lt hi),ya hi,yOb,ydA (by omega),yOb,nxt (by omega)]
   ·dsimp only;rw [y6d,yMa,g2,yTs hi];constructor
    ·rintro (⟨a,ha,h⟩|h)
     ·exact ⟨a,yMl _ ha,h⟩
     ·exact ⟨_,yMr _ (yMs.2 rfl),h⟩
    ·rintro ⟨a,ha,h⟩;rcases yMa.1 ha with ha|ha
     ·exact .inl ⟨a,ha,h⟩
     ·rw [yMs.1 ha] at h;exact .inr h
   ·dsimp only;have:=y9N (isL (out++l[i].1));rw [(y2e _).length_eq,yLa] at this;omega)
  (fun s ⟨g1,g2,g3⟩=>by
   obtain⟨k,out⟩:=s;dsimp only at g1 g2 g3;subst g1;rw [List.take_length] at g2;refine⟨out,?_,g2,by omega⟩;rw [y2x];dsimp only;rw [iN ct_ge]) (yZl _) (0,[]) ⟨rfl,fun e=>by simp,by simp⟩
 -- the law's local events
 have e4:iter (y1o N.1 later') (0,([]:LI))=some del:=by
  have hfil:N.1.filter (fun e=>!hasB later' e)=del:=by
   refine incE (List.Pairwise.filter _ hN.al) hdi fun e=>?_;rw [List.mem_filter,hdm];have hB:(!hasB later' e)=true↔e∉later:=by
    rw [Bool.not_eq_true',←Bool.not_eq_true,yd,hm',hm]
   rw [hB]
  rw [←hfil];obtain⟨o,ho,he⟩:=yb (f:=y1o N.1 later') (fun j st=>st=((j:Int),(N.1.take j).filter fun e=>!hasB later' e)) (fun o=>o=N.1.filter fun e=>!hasB later' e) N.1.length 0 (by omega) (fun j st hj g1=>by
    subst g1;refine .inl ⟨_,?_,rfl⟩;have h3:=List.length_filter_le (fun e=>!hasB later' e) (N.1.take j);rw [yLt,Nat.min_eq_left (by omega)] at h3;rw [yTs hj,List.filter_append,List.filter_cons,List.filter_nil];generalize (N.1.take j).filter (fun e=>!hasB later' e)=S at h3 ⊢;unfold y1o;simp only [ct_lt hj,if_true,ya hj,yOb];rw [y5M (by omega),yOb];cases hb:hasB later' N.1[j] with
    | true=>
     rw [iN (by simp),iN (by simp),y2w,List.append_nil];simp only [nxt (show j<4611686018427387904 by omega)]
    | false=>
     rw [iP (by simp),iP (by simp),yv (by simp;omega),yOb,y2w];simp only [nxt (show j<4611686018427387904 by omega)])
   (fun st g1=>by
    subst g1;refine⟨_,?_,rfl⟩;rw [List.take_length];unfold y1o;simp) (by omega) (0,[]) (by simp)
  rw [ho,he]
 have hdr:∀x∈del,0≤x∧x<32:=fun x hx=>hN.alr x ((hdm x).1 hx).1;obtain⟨er,e5,hE,hst,hem,hlt⟩:=yjd hN hdi hdr;have hel:er.1.length≤32:=Alp.len ⟨hE.al,hE.alr⟩;obtain⟨c,_,e6,hw,hA⟩:=yfh hE (by omega) hel;have hle:=hA.le hE;have hbis:=hA.bis hE;rw [hlt] at hbis;refine⟨later,later',del,er,absN er c,?_,e2,e3,e4,e5,e6,hw,by omega,fun e he=>?_,⟨_,hbis⟩,fun e he=>?_,fun h=>by have:=hdr _ h;omega⟩
 ·rw [y5E,yd6 (by omega) hrg,yOb,iN (by simp),e1,yOb]
 ·exact h5 e ((hem e).1 ((hA.ab.ev e).1 he)).1
 ·rintro ⟨b,hb,g⟩;obtain⟨a,ha,rfl⟩:=yMp.1 hb;exact((hdm e).1 he).2 ((hm e).2 ⟨a,ha,g⟩)
theorem yf6{a:AutT}{n:Nat}(hr:Right a n):a.2.2.2.length≤32*n:=by
 have h:=y6a (32*n) (a.2.2.2.map fun x=>x.1.toNat*32+x.2.1.toNat) ?_ ?_
 ·rwa [yLm] at h
 ·unfold List.Nodup;rw [List.pairwise_map];refine List.Pairwise.imp_of_mem (fun {x y} hx hy h=>?_) hr.so;have h1:=hr.es x hx;have h2:=hr.es y hy;have h3:=hr.alr _ h1.2.2.2.2;have h4:=hr.alr _ h2.2.2.2.2;omega
 ·intro k hk;obtain⟨x,hx,rfl⟩:=yMp.1 hk;have h1:=hr.es x hx;have h3:=hr.alr _ h1.2.2.2.2;omega
structure TS (l:List AutT) (i:Nat) (W:NdT):Prop where
 ok:NdOk W
 st:W.2.1≤(3 ^ i:Nat)
 al:∀e∈W.1,e<5
 nb:(Lts.par (ltsN W) (Lts.TL ((l.drop i).map ltsA))).NB↔(Lts.TL (l.map ltsA)).NB
abbrev TSt :=Int×LI×Int×LI×LI×List E3×LI
def tst(i:Nat)(W:NdT)(sz:LI):TSt:=((i:Int),W.1,W.2.1,W.2.2.1,W.2.2.2.1,W.2.2.2.2,sz)
section
variable{l:List AutT}(h:SmL l)
include h
theorem yf7{i:Nat}(hi:i<l.length){N:NdT}(hN:NdOk N)(hs:N.2.1≤(3 ^ (i+1):Nat))(h5:∀e∈N.1,e<5)(U:NdT){sz:LI}(hz:sz.length≤4):
  ∃(w:NdT) (del:LI),y3y l (tst i U sz) 0 N.1 N.2.1 N.2.2.1 N.2.2.2.1 N.2.2.2.2=some (.inl (tst (i+1) w (sz++[w.2.1])))∧
   y2y l ((i:Int),sz,U) N.1 N.2.1 N.2.2.1 N.2.2.2.1 N.2.2.2.2=some (.inl (((i+1:Nat):Int),sz++[w.2.1],w))∧
   NdOk w∧w.2.1≤(3 ^ (i+1):Nat)∧(∀e∈w.1,e<5)∧(∃R:Int→Int→Prop,Lts.WBis (Lts.hide (fun e=>e∈del) (ltsN N)) (ltsN w) R)∧(∀e,e∈del→¬(Lts.TL ((l.drop (i+1)).map ltsA)).ev e)∧(-1:Int)∉del:=by
 have hl:=h.len;have hsub:SmL (l.drop (i+1)):=h.sub (by rw [List.length_drop];omega) fun a ha=>List.mem_of_mem_drop ha;have h3:3 ^ (i+1)≤3 ^ 4:=Nat.pow_le_pow_right (by omega) (by omega);obtain⟨later,later',del,er,w,e1,e2,e3,e4,e5,e6,hw,k1,k2,k3,k4,k5⟩:=yhU hN (by omega) h5 hsub;have hslc:slc l (W ((i:Int)+1)) (l.length:Int)=some (l.drop (i+1)):=by
  rw [nxt (by omega),y9O (by omega) (yNr _),List.take_length]
 have e5':yO (N.1,N.2.1,N.2.2.1,N.2.2.2.1,N.2.2.2.2) del=some (er,0):=e5;refine⟨w,del,?_,?_,hw,by omega,k2,k3,k4,k5⟩
 ·rw [y3y,iN (by simp)];unfold tst;dsimp only;rw [hslc,yOb,e1,yOb,e2,yOb,e5',yOb,iN (by simp),e6,yOb,iN (by simp),yv (by simp;omega),yOb,nxt (by omega)]
 ·rw [y2y];dsimp only;rw [hslc,yOb,e3,yOb,e4,yOb,e5',yOb,e6,yOb,yv (by simp;omega),yOb,nxt (by omega)]
theorem ygu(h0:0<l.length)(W:NdT){sz:LI}(hz:sz.length≤4):∃w:NdT,yt l (tst 0 W sz)=some (.inl (tst 1 w (sz++[w.2.1])))∧yo l (((0:Nat):Int),sz,W)=some (.inl (((1:Nat):Int),sz++[w.2.1],w))∧TS l 1 w:=by
 obtain⟨n,hn,hr,h5⟩:=h.right _ (yGm h0);have hnn:=hr.nn;have hel:=yf6 hr;have hN:=yc2 hr (by omega);obtain⟨w,del,k1,k2,k3,k4,k5,⟨R,k6⟩,k7,k8⟩:=yf7 h h0 hN (by show l[0].2.1≤_;omega) h5 W hz;refine⟨w,?_,?_,k3,k4,k5,?_⟩
 ·rw [yt];have e1:(tst 0 W sz).1=((0:Nat):Int):=rfl;rw [e1,iP (ct_lt h0),ya h0,yOb,y9V hr,yOb,iN (by simp)];exact k1
 ·rw [yo];dsimp only;rw [iP (ct_lt h0),ya h0,yOb,y9V hr,yOb,iN (by simp)];exact k2
 ·have hrefl:Lts.Lab (ltsA l[0]) (ltsA l[0]) fun s t=>s=t:=⟨fun s h=>⟨s,h,rfl⟩,fun s h=>⟨s,h,rfl⟩,fun e s t s' hr hst=>⟨s',hr▸hst,rfl⟩,fun e s t t' hr hst=>⟨t',hr▸hst,rfl⟩,fun s t hr=>hr▸Iff.rfl,fun _=>Iff.rfl⟩;have:=Lts.nb_first (a:=ltsA l[0]) (l:=(l.drop 1).map ltsA) (yc3 hr) hrefl.bis (yc3 hr).wf k6 k7 k8;rw [this,←List.map_cons (f:=ltsA) (a:=l[0]) (l:=l.drop 1),←yDc h0,List.drop_zero]
theorem yhV{i:Nat}(hi:i<l.length)(h1:0<i){W:NdT}(hT:TS l i W){sz:LI}(hz:sz.length≤4):∃w:NdT,yt l (tst i W sz)=some (.inl (tst (i+1) w (sz++[w.2.1])))∧yo l ((i:Int),sz,W)=some (.inl (((i+1:Nat):Int),sz++[w.2.1],w))∧TS l (i+1) w:=by
 have hl:=h.len;obtain⟨n,hn,hr,h5⟩:=h.right _ (yGm hi);have hnn:=hr.nn;have hel:=yf6 hr;have hF:=yc2 hr (by omega);have hWs:=hT.st;have hW0:=hT.ok.n0;have h27:3 ^ i≤3 ^ 3:=Nat.pow_le_pow_right (by omega) (by omega);have hp:3 ^ (i+1)=3 ^ i*3:=Nat.pow_succ 3 i;have hmul:W.2.1.toNat*(fromN l[i]).2.1.toNat≤3 ^ (i+1):=by
  rw [hp];exact Nat.mul_le_mul (by omega) (by show l[i].2.1.toNat≤3;omega)
 have lw:W.1.length≤5:=inc5 hT.ok.al fun e he=>⟨(hT.ok.alr e he).1,hT.al e he⟩;have lf:(fromN l[i]).1.length≤5:=inc5 hF.al fun e he=>⟨(hF.alr e he).1,h5 e he⟩;obtain⟨N,ps,_,c2,c3,c4⟩:=ygt hT.ok hF (N:=81) (u:=5) (by omega) (fun c hc=>by
  rw [hc];refine inc5 (y6c _) fun e he=>?_;rcases yMa.1 (y6d.1 he) with he|he
  ·exact ⟨(hT.ok.alr e he).1,hT.al e he⟩
  ·exact ⟨(hF.alr e he).1,h5 e he⟩) (by omega) (by omega) (by decide)
 have hN5:∀e∈N.1,e<5:=fun e he=>by
  rw [c3.al] at he;rcases yMa.1 (y6d.1 he) with he|he
  ·exact hT.al e he
  ·exact h5 e he
 have hNs:N.2.1≤(3 ^ (i+1):Nat):=by
  have:=ybR c3.nd c3.ing;rw [c3.st];omega
 obtain⟨w,del,k1,k2,k3,k4,k5,⟨R,k6⟩,k7,k8⟩:=yf7 h hi c4 hNs hN5 W hz;have c2':yz (W.1,W.2.1,W.2.2.1,W.2.2.2.1,W.2.2.2.2) (fromN l[i])=some (N,ps,0):=c2;refine⟨w,?_,?_,k3,k4,k5,?_⟩
 ·rw [yt];have e1:(tst i W sz).1=(i:Int):=rfl;rw [e1,iP (ct_lt hi),ya hi,yOb,y9V hr,yOb,iP (by simp;omega)];show(yz (W.1,W.2.1,W.2.2.1,W.2.2.2.1,W.2.2.2.2) (fromN l[i])).bind _=_;rw [c2',yOb];exact k1
 ·rw [yo];dsimp only;rw [iP (ct_lt hi),ya hi,yOb,y9V hr,yOb,iP (by simp;omega)];show(yz W (fromN l[i])).bind _=_;rw [c2,yOb];exact k2
 ·have:=Lts.nb_round (a:=ltsA l[i]) (l:=(l.drop (i+1)).map ltsA) (yc3 hr) (c3.lab hT.ok hF).bis c4.wf k6 k7 k8;rw [this,←List.map_cons (f:=ltsA) (a:=l[i]) (l:=l.drop (i+1)),←yDc hi];exact hT.nb
theorem yg2 :∃is sz,y2q l=some (is,sz,0)∧y3A l=some (is,sz)∧(is=true↔(Lts.TL (l.map ltsA)).NB)∧sz.length≤4:=by
 have hl:=h.len;have hend:∀{w:NdT} {sz:LI},NdOk w→iter (yt l) (tst 0 ([],0,[],[],[]) [])=some (.inl (w.1,w.2.1,w.2.2.1,w.2.2.2.1,w.2.2.2.2,sz))→iter (yo l) (((0:Nat):Int),[],([],0,[],[],[]))=some (sz,w)→((ltsN w).NB↔(Lts.TL (l.map ltsA)).NB)→sz.length≤4→∃is sz,y2q l=some (is,sz,0)∧y3A l=some (is,sz)∧(is=true↔(Lts.TL (l.map ltsA)).NB)∧sz.length≤4:=fun {w sz} hw h1 h2 h3 h4=>by
  obtain⟨b,_,b2,b3,_,b5⟩:=ybu hw;have b2':y1k (w.1,w.2.1,w.2.2.1,w.2.2.2.1,w.2.2.2.2)=some b:=b2;refine⟨(b.length:Int)==0,sz,?_,?_,?_,h4⟩
  ·rw [y2q,yd6 (by omega) h.rgt,yOb,iN (by simp)];show(iter (yt l) (tst 0 ([],0,[],[],[]) [])).bind _=_;rw [h1,yOb];dsimp only;rw [b2',yOb]
  ·rw [y3A];show(iter (yo l) (((0:Nat):Int),[],([],0,[],[],[]))).bind _=_;rw [h2,yOb];dsimp only;rw [b3,yOb]
  ·rw [yj6,decide_eq_true_iff,b5,h3]
 have hstop:∀(w:NdT) (sz:LI),yt l (tst l.length w sz)=some (.inr (.inl (w.1,w.2.1,w.2.2.1,w.2.2.2.1,w.2.2.2.2,sz)))∧yo l ((l.length:Int),sz,w)=some (.inr (sz,w)):=fun w sz=>by
  constructor
  ·rw [yt,show(tst l.length w sz).1=(l.length:Int) from rfl,iN ct_ge];rfl
  ·rw [yo];dsimp only;rw [iN ct_ge]
 by_cases h0:l.length=0
 ·obtain rfl:l= []:=List.length_eq_zero_iff.1 h0;obtain⟨s1,s2⟩:=hstop ([],0,[],[],[]) [];rw [List.length_nil] at s1 s2;refine hend (w:=([],0,[],[],[])) (sz:=[]) ⟨.nil,fun x hx=>(by cases hx),Int.le_refl _,by decide,.nil,fun x hx=>(by cases hx),.nil,fun x hx=>(by cases hx),.nil,fun x hx=>(by cases hx),by simp,by simp,by simp,by simp⟩ (y5x (n:=1) (by omega) (by rw [yi];exact(by rw [s1]))) (y5x (n:=1) (by omega) (by rw [yi];exact(by rw [s2]))) ⟨fun _=>?_,fun _=>?_⟩ (by simp)
  ·intro s ⟨i,hi,hp⟩;have hn:∀{v:LI},Star (Lts.TL ([]:List (Lts Int))).nxt1 i v→v=i:=fun h=>by
    cases h with
    | refl=>rfl
    | tail _ g=>obtain⟨e,⟨b,hb,_⟩,_⟩:=g;cases hb
   have:=hn hp;subst this;refine⟨s,.refl _,?_⟩;cases s with
   | nil=>exact trivial
   | cons x s=>exact hi.elim
  ·intro s ⟨i,hi,_⟩;cases hi
 ·have key:∀(d i:Nat) (w:NdT) (sz:LI),0<i→i+d=l.length→sz.length=i→TS l i w→∃w' sz',iterF (yt l) (d+1) (tst i w sz)=some (.inl (w'.1,w'.2.1,w'.2.2.1,w'.2.2.2.1,w'.2.2.2.2,sz'))∧iterF (yo l) (d+1) ((i:Int),sz,w)=some (sz',w')∧TS l l.length w'∧sz'.length≤4:=by
   intro d
   induction d with
   | zero=>
    intro i w sz hi0 hi hz hT;obtain rfl:i=l.length:=by omega
    obtain⟨s1,s2⟩:=hstop w sz;exact⟨w,sz,by rw [yi,s1],by rw [yi,s2],hT,by omega⟩
   | succ d ih=>
    intro i w sz hi0 hi hz hT;obtain⟨w1,k1,k2,k3⟩:=yhV h (i:=i) (by omega) hi0 hT (sz:=sz) (by omega);obtain⟨w2,sz2,k4,k5,k6,k7⟩:=ih (i+1) w1 (sz++[w1.2.1]) (by omega) (by omega) (by simp [hz]) k3;exact⟨w2,sz2,by rw [yi,k1];exact k4,by rw [yi,k2];exact k5,k6,k7⟩
  obtain⟨w1,k1,k2,k3⟩:=ygu h (by omega) ([],0,[],[],[]) (sz:=[]) (by simp);obtain⟨w2,sz2,k4,k5,k6,k7⟩:=key (l.length-1) 1 w1 ([]++[w1.2.1]) (by omega) (by omega) (by simp) k3;have hf1:iterF (yt l) (l.length-1+1+1) (tst 0 ([],0,[],[],[]) [])=some (.inl (w2.1,w2.2.1,w2.2.2.1,w2.2.2.2.1,w2.2.2.2.2,sz2)):=by rw [yi,k1];exact k4
  have hf2:iterF (yo l) (l.length-1+1+1) (((0:Nat):Int),[],([],0,[],[],[]))=some (sz2,w2):=by rw [yi,k2];exact k5
  refine hend k6.ok (y5x (by omega) hf1) (y5x (by omega) hf2) ?_ k7;have:=k6.nb;rw [List.drop_length] at this;exact(Lts.nb_last k6.ok.wf).symm.trans this
end
theorem yhW{xs:List AutT}(h:xs.length≤4294967296):yu xs=some xs:=by
 rw [yu,yv (by simpa using h)];rfl
theorem ykd{xs:List AutT}(h:xs.length≤4):yY xs=some xs.reverse:=by
 match xs,h with
 | [],_=>rfl
 | [a],_=>rfl
 | [a,b],_=>rfl
 | [a,b,c],_=>rfl
 | [a,b,c,d],_=>rfl
theorem yhX{p:GrpT}(hp:GrpIn p):y3s p=some true:=by
 obtain⟨l,hm,h⟩:=yjc hp;have hl:=h.len;obtain⟨is,sz,k1,k2,k3,k4⟩:=yg2 h;obtain⟨w,b,s,j1,j2,j3,_⟩:=h.nb;have hrev:SmL l.reverse:=⟨by simp;omega,fun a ha=>h.right a (by simpa using ha)⟩;obtain⟨is',sz',r1,_,r3,_⟩:=yg2 hrev;have e1:is=b:=by rw [Bool.eq_iff_iff,k3,j3]
 have e2:is'=is:=by
  rw [Bool.eq_iff_iff,r3,k3,List.map_reverse];exact(Lts.nb_rev _).symm
 subst e1;subst e2;have hW:y3w l=some (w,!is',0):=by
  rw [y3w,j1,yOb,iN (by simp)]
 rw [y3s,yjX,yOb,iN (by simp),hm,yOb,k1,yOb,k2,yOb,hW,yOb,j1,yOb];dsimp only;rw [iN (by simp),yeN (by omega),yOb,yOb,iN (by cases is' <;> simp),yeN (by omega),yOb,yOb,iN (by simp),yhW (by omega),yOb,ykd hl,yOb,r1,yOb];simp
end
section
open Go.Proofs.Tryz Go Go.RowKit Go.ChangeShapes Go.WideShapes Go.Deep
def Op(P:Program){α:Type}(r:Rep α)(Q:α→Prop)(t:TypeId):Prop:=
 ∀(H:Type) (enc:TypeId×Value→H) (w:World) (fuel:Nat) (cs:List Value) (x:DataW H×List MemPlace),DataW.trod enc P w 0 (fun _=>true) true fuel t cs=some x→∃y:α,r.rd ⟨w,fun _=>0⟩ cs y∧Q y
section
variable{P:Program}{α β:Type}{r:Rep α}{q:Rep β}{Q:α→Prop}{R:β→Prop}{t e:TypeId}
theorem ykI{w:World}{base:Nat}{v:Value}{fs:Array Field}{ts:List TypeId}(ht:P.underlying t=some (.struct fs))(hts:P.cellTypes P.depth t=some ts)(hsz:P.cellsOf t=ts.length)(hok:Value.okWide P w .any base t v):
  ∃cs,v= .agg cs∧cs.size=ts.length∧∀(i:Nat) (u:TypeId),ts[i]? =some u→∃c:Value,cs[i]? =some c∧Cell.okWide P w .any base u c:=by
 simp only [Value.okWide,ht] at hok;obtain⟨cs,rfl,h1,ts',h2,h3,h4⟩:=hok;rw [hts] at h2;cases h2;refine⟨cs,rfl,by omega,fun i u hu=>?_⟩;have hlt:i<ts.length:=(yGs.1 hu).1;obtain⟨u',g1,g2⟩:=h4 i cs[i] (Array.getElem?_eq_getElem (by omega));rw [Nat.mod_eq_of_lt hlt,hu] at g1;cases g1;exact⟨_,Array.getElem?_eq_getElem (by omega),g2⟩
end
end
section
open Go.Proofs.Tryz Go Go.ChangeShapes Go.WideShapes Go.ChangeAt Go.RowKit Go.Deep
theorem Fw.law{P:Program}{f:FuncId}{ts:List TV}(h:Fw P f ⟨0,[]⟩ ts [] (.b true) []){w:World}{vs:List Value}(ha:All3 (fun _=> .bool false) ⟨w,fun _=>0⟩ ts vs):Calls P f vs.toArray w fun e w'=>e= .returned (.bool true)∧Below w.heap.size w w':=
 Calls.mono (h.is [] (fun _=> .bool false) ⟨w,fun _=>0⟩ vs rfl (yNr _) List.nodup_nil (fun t ht=>by cases ht) ha (fun i o h=>by simp at h)) fun e W' ⟨v,s',hw,he,hm,β',_,hv,_⟩=>by
  obtain⟨hv,_⟩:=hv;subst hw;subst hv;exact⟨he,(hm.weak (S':=No) fun t ⟨i,hi,_⟩=>by cases hi).below⟩
theorem All3.c{β:Nat→Value}{s:Sig}{x:TV}{xs:List TV}{v:Value}{us:List Value}(h:x.p β s v)(h2:All3 β s xs us):All3 β s (x::xs) (v::us):=⟨v,us,h,h2,rfl⟩
theorem yke{w:World}{r:Reach}{base:Nat}{v:Value}(h:Cell.okWide prog w r base 5 v):∃n:Int,v= .int .u8 n∧0≤n∧n<256:=by
 simp only [Cell.okWide,underlying5] at h;cases v <;> simp_all [Cell.ok];rename_i k n;obtain⟨rfl,h2⟩:=h;simp [IntKind.has,IntKind.min,IntKind.max,IntKind.signed,IntKind.bits] at h2;omega
theorem ygv{α:Type}[Inhabited α]{n:Nat}{p:Nat→α→Prop}(h:∀i,i<n→∃x,p i x):∃f:Nat→α,∀i,i<n→p i (f i):=
 ⟨fun i=>if hi:i<n then Classical.choose (h i hi) else default,fun i hi=>by
  dsimp only;rw [dif_pos hi];exact Classical.choose_spec (h i hi)⟩
def gpT :List TypeId:=List.replicate 4 40++List.replicate 109 5
theorem yje :prog.cellTypes prog.depth 48=some gpT:=by kernel_rfl
theorem yjf :prog.cellsOf 48=gpT.length:=by kernel_rfl
section
variable{H:Type}{enc:TypeId×Value→H}{w:World}{base:Nat}{v:Value}{d:DataW H}{ps:List MemPlace}
/-- A described group. -/
theorem ykf(hok:Value.okWide prog w .any base 48 v):∃x:GrpT,GrpIn x∧∀β s,(TV.a (lx48 x)).p β s v:=by
 obtain⟨cs,rfl,h1,h2⟩:=ykI underlying48 yje yjf hok;have h1':cs.size=113:=h1;obtain⟨f,hf⟩:=ygv (α:=Int) (n:=113) (p:=fun i n=>cs[i]? =some (.int .u8 n)∧0≤n∧n<256) (fun i hi=>by
  obtain⟨u,hu,hu2⟩:∃u,gpT[i]? =some u∧(u=40∨u=5):=by
   refine⟨gpT[i]'hi,yGe (l:=gpT) hi,?_⟩;have:=yGm (l:=gpT) hi;generalize gpT[i]'hi=u at this;simp only [gpT,yMa,List.mem_replicate] at this;rcases this with h|h
   ·exact .inl h.2
   ·exact .inr h.2
  obtain⟨c,g1,g2⟩:=h2 i u hu;have g2':Cell.okWide prog w .any base 5 c:=by
   rcases hu2 with rfl|rfl
   ·simp only [Cell.okWide,Cell.ok,underlying40,underlying5] at g2 ⊢;exact g2
   ·exact g2
  obtain⟨n,rfl,g3⟩:=yke g2';exact⟨n,g1,g3⟩)
 have hcs:cs=((List.range 113).map fun i=>Value.int .u8 (f i)).toArray:=by
  apply Array.ext_getElem?;intro i;by_cases hi:i<113
  ·rw [(hf i hi).1];simp [hi]
  ·rw [Array.getElem?_eq_none (by omega),Array.getElem?_eq_none (by simp;omega)]
 have gr:∀o,o+27≤113→GrIn (f o,f (o+1),((f (o+2),f (o+3),f (o+4),f (o+5),f (o+6)),(f (o+7),f (o+8),f (o+9),f (o+10),f (o+11)),(f (o+12),f (o+13),f (o+14),f (o+15),f (o+16)),(f (o+17),f (o+18),f (o+19),f (o+20),f (o+21)),(f (o+22),f (o+23),f (o+24),f (o+25),f (o+26)))):=fun o ho=>by
  refine⟨(hf o (by omega)).2,fun y hy=>?_⟩;have hy2:y∈(List.range 25).map fun i=>f (o+(i+2)):=hy;obtain⟨i,hi,rfl⟩:=yMp.1 hy2;have:=List.mem_range.1 hi;exact(hf (o+(i+2)) (by omega)).2
 refine⟨((f 0,f 1,f 2,f 3),((f 4,f 5,((f 6,f 7,f 8,f 9,f 10),(f 11,f 12,f 13,f 14,f 15),(f 16,f 17,f 18,f 19,f 20),(f 21,f 22,f 23,f 24,f 25),(f 26,f 27,f 28,f 29,f 30))),(f 31,f 32,((f 33,f 34,f 35,f 36,f 37),(f 38,f 39,f 40,f 41,f 42),(f 43,f 44,f 45,f 46,f 47),(f 48,f 49,f 50,f 51,f 52),(f 53,f 54,f 55,f 56,f 57))),(f 58,f 59,((f 60,f 61,f 62,f 63,f 64),(f 65,f 66,f 67,f 68,f 69),(f 70,f 71,f 72,f 73,f 74),(f 75,f 76,f 77,f 78,f 79),(f 80,f 81,f 82,f 83,f 84))),(f 85,f 86,((f 87,f 88,f 89,f 90,f 91),(f 92,f 93,f 94,f 95,f 96),(f 97,f 98,f 99,f 100,f 101),(f 102,f 103,f 104,f 105,f 106),(f 107,f 108,f 109,f 110,f 111)))),f 112),⟨gr 4 (by omega),gr 31 (by omega),gr 58 (by omega),gr 85 (by omega),(hf 112 (by omega)).2⟩,fun β s=>?_⟩;refine⟨((List.range 113).map fun i=>Value.int .u8 (f i)),?_,by rw [hcs]⟩;exact y9z (cs:=(List.range 113).map fun i=>Value.int .u8 (f i)) (yAt.2 fun x hx=>by
  obtain⟨i,_,rfl⟩:=yMp.1 hx;rfl)
end
theorem yOwn :ownKnob prog.godebug=none:=by kernel_rfl
theorem yLaid :laidOutB prog=true:=by kernel_rfl
section
variable{H:Type}{enc:TypeId×Value→H}
def yf8(P:Program)(ts:List TypeId):Bool:=ts.all fun t=>P.readableRec t&&decide (t<P.types.size)
theorem yav{P:Program}(hl:laidOutB P=true){W W':World}(hb:Below W.heap.size W W'){sp:Nat→Bool}:∀{ts:List TypeId} {vs:List Value} {ds:List (DataW H)} {ps:List MemPlace},yf8 P ts=true→
  DataW.TrodAll enc P W 0 (fun _=>true) true ts vs ds ps→(∀x∈ps,x.block<W.heap.size)→(∀x∈ps,sp x.block=true)→DataW.TrodAll enc P W' 0 sp true ts vs ds ps
 | [],[],[],_,_,h,_,_=>h
 | [],_::_,_,_,_,h,_,_=>h.elim
 | [],[],_::_,_,_,h,_,_=>h.elim
 | t::ts,[],_,_,_,h,_,_=>h.elim
 | t::ts,_::_,[],_,_,h,_,_=>h.elim
 | t::ts,v::vs,d::ds,ps,hc,⟨p,q,h1,h2,e⟩,hlt,hsp=>by
  subst e;unfold yf8 at hc;rw [List.all_cons,yAe,yAe] at hc;exact⟨p,q,WideElems.Trod_stays hl hc.1.1 (of_decide_eq_true hc.1.2) h1 (fun x hx=>hb.same (hlt x (yMl _ hx))) (fun x hx=>hsp x (yMl _ hx)),
   yav hl hb hc.2 h2 (fun x hx=>hlt x (yMr _ hx)) (fun x hx=>hsp x (yMr _ hx)),rfl⟩
theorem yjg{P:Program}(hl:laidOutB P=true){f:Func}{s:ChangeSpec}{apart fresh handsOn again:Bool}{W W':World}{args:Array Value}{ds:List (DataW H)}{before:List MemPlace}{tb:TypeId}{b:Bool}
  (hW:DataW.Whole enc P f.params.toList s.vars apart W args.toList ds [] before) (hv:s.vars= []) (hc:yf8 P f.params.toList=true) (hrt:f.resultTypes= #[tb]) (ht:P.underlying tb=some .bool)
  (hr:(s.fn H (ds++[])).results= [.lit (.bool b)]) (ha:(s.fn H (ds++[])).args=ds) (hvn:(s.fn H (ds++[])).vars= []) (hb:Below W.heap.size W W'):
  s.post enc P f apart fresh handsOn again W args (.bool b) W':=by
 have hlt:∀p∈before,p.block<W.heap.size:=fun p hp=>hW.lt p hp;have hWc:=hW;obtain⟨p,q,hA,hV,rfl,hz,hn⟩:=hWc;rw [hv] at hV;obtain⟨-,rfl⟩:=trodVars_none hV;rw [List.append_nil] at hlt hz hn;have hargs:∀sp:Nat→Bool,(∀x∈p,sp x.block=true)→DataW.TrodAll enc P W' 0 sp true f.params.toList args.toList (s.fn H (ds++[])).args p:=fun sp hsp=>by
  rw [ha];exact yav hl hb hc hA hlt hsp
 have hres:∀(b0:Nat) (sp:Nat→Bool) (hd:Bool),DataW.TrodAll enc P W' b0 sp hd f.resultTypes.toList ((Value.bool b).resultList f.resultTypes.size) (s.fn H (ds++[])).results []:=fun _ _ _=>by
  rw [hr,hrt];exact trodAll_mk1 (shut_bool ht b)
 have hvars:∀sp:Nat→Bool,DataW.TrodVars enc P W' sp s.vars (s.fn H (ds++[])).vars []:=fun sp=>by rw [hv,hvn];rfl
 have hold:∀x∈p,(fun b=>decide (b<W.heap.size)) x.block=true:=fun x hx=>by simpa using hlt x hx
 refine⟨ds,[],p++[],[],p,[],hW,hres _ _ _,hargs _ hold,hvars _,World.keptBut_mono (fun x hx=>?_) (hb.frame (· ∈p)),fun _=>?_⟩
 ·exact ⟨by rwa [List.append_nil],Or.inr (.inl hx)⟩
 ·have hok:=ok_one (f:=f) (W':=W') (by rw [hrt]) rfl (okWide_bool_mk (W':=W') ht b);refine⟨hok,_,_,([]++p)++[],⟨[]++p,[],trodAll_append (hargs _ (fun _ _=>rfl)) (hres _ _ _),hvars _,rfl,?_,?_⟩,?_⟩
  ·intro b0 off hp;have hin:MemPlace.cell b0 off∈p:=by simpa using hp
   rw [hb.frozen (hlt _ hin)];exact hz b0 off hin
  ·intro hap;simpa using hn hap
  ·intro x hx _;simpa using hx
end
def lay24 : List (String × DataW Unit) := [("math/bits.deBruijn32tab", Rows.laid_math_bits_deBruijn32tab), ("math/bits.deBruijn64tab", Rows.laid_math_bits_deBruijn64tab), ("internal/strconv.uint64pow10", Rows.laid_internal_strconv_uint64pow10)]
theorem yhY(os:Os)(args:Array Value):laidMetH prog lay24 ((World.laidAll prog os lay24).forCall (fun _ _=>0) ⟨#[],args,[]⟩).memory:=
 laidMetH_of_parts3 (fuel:=8) (laidMet_laidAll args (by kernel_rfl) (by kernel_rfl)) (by kernel_rfl) (by kernel_rfl)
theorem y9b(os:Os)(started:os.Started)(H:Type)(enc:TypeId×Value→H):
  ReturnsInHanded {} Tryz.checked os 4 .any (fun w args=>(Rows.nonconflictTestsSpec.pre enc prog Tryz.f4 [] false w args∧laidMetH prog lay24 w)∧sizedMet enc prog Tryz.f4 (OpenSpec.ofChange Rows.nonconflictTestsSpec) false w args) (Rows.nonconflictTestsSpec.post enc prog Tryz.f4 false true false false):=by
 refine returnsInHanded_of_change_and (C:=Tryz.checked) (X:=fun w _=>laidMetH prog lay24 w) (fun _ _ _ hh h=>h.of_heap hh) yOwn started (by kernel_rfl) func4
  (ChangeSpec.witness_shaped (enc:=enc) (C:=Tryz.checked) (os:=os) (X:=fun w _=>laidMetH prog lay24 w) false (World.laidAll prog os lay24) #[.agg (Array.replicate 113 (.int .u8 0))] 8 (World.laidAll_os _ _ _) (World.shaped_of_ZipB (by kernel_rfl) (by kernel_rfl)) (by kernel_rfl) (by kernel_rfl) (by kernel_rfl) (yhY os _)) ?_
 intro W base args ds gs before hval0 hW _ _ _ _;have hval:∀(j:Nat) t v,Tryz.f4.params[j]? =some t→args[j]? =some v→Value.okWide prog W .any base t v:=hval0;have hW':=hW;obtain⟨p,q,hA0,hV,rfl,hfz,hnd⟩:=hW;have hA:DataW.TrodAll enc prog W 0 (fun _=>true) true Tryz.f4.params.toList args.toList ds p:=hA0;rw [Tryz.params4] at hA hval;obtain⟨v0,d0,rfl,rfl,h0⟩:=trodAll_one hA;obtain⟨x,g0,r0⟩:=ykf (hval 0 48 v0 rfl rfl);obtain⟨rfl,rfl⟩:=trodVars_none hV;clear hA0 hval0;refine Calls.mono ((y6U (yhX g0)).law (All3.c (r0 _ _) rfl)) fun e W' ⟨he,hbl⟩=>?_;subst he;exact⟨_,rfl,yjg yLaid hW' rfl (by kernel_rfl) (by kernel_rfl) underlying4 rfl rfl rfl hbl⟩
end
section
open Go.Proofs.Tryz Go Go.RowKit
set_option maxRecDepth 100000
theorem ykg :prog.stopsHeard=true:=by kernel_rfl
theorem ykh :prog.mayEnter=true:=by kernel_rfl
theorem yki :(laidOutB prog&&mapsRowed prog)=true:=by kernel_rfl
theorem ykj :(prog.stops==[])=true:=by kernel_rfl
theorem yjh :(prog.stopKnobs==[])=true:=by kernel_rfl
theorem yji :false=prog.looks []:=by kernel_rfl
end
section
open Go.Proofs.Tryz Go Go.ChangeShapes Go.WideShapes Go.ChangeAt Go.RowKit Go.Deep
theorem yaz :(Rows.nonconflictTestsRow.inPlace==prog.inPlace 4)=true:=by kernel_rfl
theorem yaA :(Rows.nonconflictTestsRow.unfollowed==prog.unfollowed 4)=true:=by kernel_rfl
theorem yaB :(Rows.nonconflictTestsRow.recurses==prog.recurses 4)=true:=by kernel_rfl
theorem yaC :(Rows.nonconflictTestsRow.named==prog.varsNamed 4)=true:=by kernel_rfl
theorem yaD :(Rows.nonconflictTestsRow.lifted==prog.liftsFinal)=true:=by kernel_rfl
theorem y9c :joinedFacts prog 4 Tryz.f4 Rows.nonconflictTestsSpec Rows.nonconflictTestsRow=true:=by
 have h8:=yki;rw [yAe] at h8;unfold joinedFacts;rw [h8.1,h8.2,yaz,yaA,yaB,yaC,yaD,ykg,ykh,ykj,yjh];change (_:Bool)=true;kernel_rfl
theorem y9x :Rows.NonconflictTestsSaid:=
 OpenClaim.holds_of_wide 4 Tryz.f4 rfl rfl rfl rfl rfl rfl rfl ⟨rfl,rfl,rfl,rfl,rfl⟩ rfl rfl rfl rfl rfl (by kernel_rfl) func4 y9c
  (of_decide_eq_true (by kernel_rfl)) (by unfold Func.isWrapper;first | (rw [iP (by decide +kernel)];kernel_rfl)|(rw [iN (by decide +kernel)];exact⟨rfl,rfl⟩))
  (fun os started H enc _=>y9b os started H enc)
theorem nonconflictTests_k12 :false=Rows.nonconflictTestsRow.goesBy prog:=by kernel_rfl
theorem nonconflictTests_k13 : prog.funcNamed "overseer/overseerlaw33.NonconflictTests" = some 4 := by kernel_rfl
theorem nonconflictTests_k14 :(Tryz.f4.params.toList.all fun u=>!(prog.wantsStandIn u))=true:=by kernel_rfl
theorem nonconflictTests_k15 :Rows.nonconflictTestsRow.wfByText (OpenSpec.ofChange Rows.nonconflictTestsSpec)=true:=by kernel_rfl
theorem nonconflictTests_card_holds :Rows.NonconflictTestsCardSaid:=
 Claim7.holds_tied_plain_at .later [] [.data,.data,.data] true _ false
  y9x (fun _ h=>by cases h) nonconflictTests_k15 (fun _ h=>by cases h) nonconflictTests_row_tie rfl ⟨rfl,rfl⟩ (by kernel_rfl) rfl
  (fun f fn hf hfn=>by
   obtain rfl:f=4:=ySi (nonconflictTests_k13.symm.trans hf) |>.symm;obtain rfl:fn=Tryz.f4:=(ySi (func4.symm.trans hfn)).symm;exact⟨yji,fun j t ht=>by
    have hm:t∈Tryz.f4.params:=Array.mem_of_getElem? ht;exact(show prog.wantsStandIn t=false by simpa using yAt.1 nonconflictTests_k14 t (Array.mem_toList_iff.2 hm))⟩)
  nonconflictTests_k12
end
end Go.Proofs.YtfdeiphkmjdifaaGreatDoor
