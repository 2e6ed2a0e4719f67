/- Parts of the proof, without what nothing here names. -/
import Derived.IntWalk
import Derived.Test.YtfdeiphkmjdifaaGreatDoorQs6
namespace Go.Proofs.YtfdeiphkmjdifaaGreatDoor
section
open Go Go.RowKit
abbrev GrT :=AutT×List ((Int×Int)×Int)
abbrev TaskT :=GrT×GrT×GrT×List LI×LI×LI
abbrev ProbT :=AutT×AutT×LI
theorem ybW{a:AutT}{n:Nat}(hr:Right a n):∃o,y6K a=some (a,o)∧∀q:Int×Int,kget o q=st1 a q.1 q.2:=by
 have hl:=hr.l3;obtain⟨o,h1,h2⟩:=ye (f:=y7T a) (fun i s=>s.1=(i:Int)∧∀q:Int×Int,kget s.2 q=((a.2.2.2.take i).find? fun x=>x.1==q.1&&x.2.1==q.2).map fun x=>x.2.2) (fun o=>∀q:Int×Int,kget o q=st1 a q.1 q.2) a.2.2.2.length 0 (by omega) (fun i s hi ⟨e1,g1⟩=>by
   obtain⟨k,out⟩:=s;dsimp only at e1 g1;subst e1;refine .inl ⟨(((i+1:Nat):Int),kput out (a.2.2.2[i].1,a.2.2.2[i].2.1) a.2.2.2[i].2.2),?_,rfl,fun q=>?_⟩
   ·rw [y7T];dsimp only;rw [iP (ct_lt hi),yb hi,yOb,nxt (by omega)]
   ·dsimp only;rw [y3D,ygK hr.so hi,g1]) (fun s ⟨e1,g1⟩=>by
   obtain⟨k,out⟩:=s;dsimp only at e1 g1;subst e1;rw [List.take_length] at g1;refine⟨out,?_,g1⟩;rw [y7T];dsimp only;rw [iN ct_ge]) (yZl _) (0,[]) ⟨rfl,fun q=>rfl⟩
 exact⟨o,by rw [y6K,h1];rfl,h2⟩
def GrOk(g:GrT)(a:AutT):Prop:=g.1=a∧∀q:Int×Int,kget g.2 q=st1 a q.1 q.2
theorem to_eq{g:GrT}{a:AutT}(h:GrOk g a)(s e:Int):y1g g s e=some ((st1 a s e).getD (-1)):=by
 rw [y1g,h.2 (s,e)];cases st1 a s e <;> rfl
structure LoopZ (P S p:AutT) (T:List LI) (n:Nat):Prop where
 right:Right p n
 le:n≤4000
 tl:T.length=n
 nd:T.Nodup
 tt:∀t∈T,∃x y,t= [x,y]∧0≤x∧x<P.2.1∧0≤y∧y<S.2.1
 t0:0<n→T[0]? =some [0,0]
 zero:n=0↔P.2.1=0∨S.2.1=0
 ev:∀e,e∈p.1↔e∈P.1∨e∈S.1
 no:∀(a:Nat) (x y e:Int),T[a]? =some [x,y]→e∈p.1→pst P S x y e=none→st1 p (a:Int) e=none
 yes:∀(a:Nat) (x y e x' y':Int),T[a]? =some [x,y]→e∈p.1→pst P S x y e=some (x',y')→∃q:Nat,st1 p (a:Int) e=some (q:Int)∧T[q]? =some [x',y']
 num:Num (edsOf p) n
theorem yi1{P S:AutT}{n1 n2:Nat}(hP:Right P n1)(hS:Right S n2):y5P [P,S]=some 0:=by
 have h1:iter (y1W [P,S]) 0=some (.inl ()):=by
  refine y3r (n:=3) (by omega) ?_;rw [yc,y1W,iP (by simp),show idx [P,S] 0=some P from rfl,yOb,hP.check,yOb,iN (by simp)];dsimp only;rw [yc,y1W,show W (0+1)=1 from rfl,iP (by simp),show idx [P,S] 1=some S from rfl,yOb,hS.check,yOb,iN (by simp)];dsimp only;rw [yc,y1W,show W (1+1)=2 from rfl,iN (by simp)]
 rw [y5P,iN (by simp),h1];rfl
theorem yjj{P S:AutT}{n1 n2:Nat}(hP:Right P n1)(hS:Right S n2)(b1:n1≤40)(b2:n2≤40):∃p T n,yx [P,S]=some (p,T,0)∧LoopZ P S p T n:=by
 by_cases h0:n1=0∨n2=0
 ·obtain ⟨o1,o2,h1,g1,g2⟩:=yfF hP hS;have hi:∀ev,yy ([P,S],ev,[o1,o2])=some ([],false):=fun ev=>by
   have h2:iter (yl ([P,S],ev,[o1,o2])) 0=some (.inr ()):=by
    refine y3r (n:=2) (by omega) ?_;rw [yc,yl];dsimp only;rw [iP (by simp),show idx [P,S] 0=some P from rfl,yOb,hP.nn];by_cases h1:n1=0
    ·rw [iP (by simp [h1])]
    ·rw [iN (by simp;omega)];dsimp only;rw [yc,yl];dsimp only;rw [show W (0+1)=1 from rfl,iP (by simp),show idx [P,S] 1=some S from rfl,yOb,hS.nn,iP (by simp;omega)]
   rw [yy,h2];rfl
  have hsp:=y5t (fun a b=>a||b) P.1 S.1 hP.ali hS.ali;have hev:∀e,e∈mg (fun a b=>a||b) P.1 S.1↔e∈P.1∨e∈S.1:=fun e=>by
   rw [hsp.2];constructor
   ·exact fun q=>q.1
   ·intro q;refine⟨q,?_⟩;rcases q with q|q
    ·rw [ya.2 q];rfl
    ·rw [ya.2 q];simp
  have halr:∀e∈mg (fun a b=>a||b) P.1 S.1,0≤e∧e<32:=fun e he=>by
   rcases(hev e).1 he with h|h
   ·exact hP.alr e h
   ·exact hS.alr e h
  have hlen:=Alp.len ⟨hsp.1,halr⟩;refine⟨(mg (fun a b=>a||b) P.1 S.1,0,[],[]),[],0,?_,⟨⟨rfl,by omega,hsp.1,halr,yPn,fun x hx=>(by cases hx),fun x hx=>(by cases hx),yPn,by dsimp only;omega,by simp,by simp⟩,by omega,rfl,List.nodup_nil,fun t ht=>(by cases ht),fun h=>absurd h (by omega),?_,hev,fun a x y e ha=>(by simp at ha),fun a x y e x' y' ha=>(by simp at ha),?_⟩⟩
  ·rw [yx,yi1 hP hS,yOb,iN (by simp),h1,yOb,hi,yOb,iP (by simp)]
  ·have e1:=hP.nn;have e2:=hS.nn;exact⟨fun _=>by omega,fun _=>rfl⟩
  ·exact ⟨yPn,fun x hx=>(by cases hx),fun k h1 h2=>by omega,fun n hn=>(by simp [edsOf] at hn),fun n hn=>(by simp [edsOf] at hn)⟩
 ·obtain ⟨p,T,n,h1,h⟩:=yks (B:=40) hP hS (by omega) (by omega) b1 b2 (by omega) (by omega);have e1:=hP.nn;have e2:=hS.nn;have:=h.pos;exact⟨p,T,n,h1,h.right,h.le,h.tl,h.nd,h.tt,fun _=>h.t0,⟨fun _=>by omega,fun _=>by omega⟩,h.ev,h.no,h.yes,h.num⟩
theorem ybX{xs:LI}{n:Int}(hl:xs.length<4611686018427387904):y1H xs n=some (yv n none xs):=y9I hl
def errP(q:ProbT):Int:=
 if(toAut q.1).err≠0 then(toAut q.1).err
 else if(toAut q.2.1).err≠0 then(toAut q.2.1).err
 else if(mg (fun a b=>a && !b) q.2.1.1 q.1.1).length≠0 then 9
 else yv 32 none q.2.2
structure ShortP (q:ProbT):Prop where
 p1:q.1.1.length≤1000000
 p2:q.1.2.2.1.length≤1000000
 p3:q.1.2.2.2.length≤1000000
 s1:q.2.1.1.length≤1000000
 s2:q.2.1.2.2.1.length≤1000000
 s3:q.2.1.2.2.2.length≤1000000
 u1:q.2.2.length≤1000000
theorem yeT{us vs:LI}(hu:us.length≤1000000)(hv:vs.length≤1000000):y4a us vs=some (mg (fun a b=>a && !b) us vs):=by
 rw [y4a,ydp (f:=yw) (kp:=fun a b=>a && !b) (fun a b=>rfl) hu hv];rfl
theorem yeU{us vs:LI}(hu:us.length≤1000000)(hv:vs.length≤1000000):y4y us vs=some (mg (fun a b=>a&&b) us vs):=by
 rw [y4y,ydp (f:=y7k) (kp:=fun a b=>a&&b) (fun a b=>rfl) hu hv];rfl
theorem yhf{us vs:LI}(hu:us.length≤1000000)(hv:vs.length≤1000000):yV us vs=some (decide ((mg (fun a b=>a && !b) us vs).length=0)):=by
 rw [yV,yeT hu hv,yOb];congr 1;rw [Bool.eq_iff_iff];simp
structure TaskOk (q:ProbT) (t:TaskT) (p:AutT) (T:List LI) (n1 n2 n:Nat):Prop where
 rP:Right q.1 n1
 rS:Right q.2.1 n2
 iu:Inc q.2.2
 ur:∀x∈q.2.2,0≤x∧x<32
 sub:∀x∈q.2.1.1,x∈q.1.1
 g1:GrOk t.1 q.1
 g2:GrOk t.2.1 q.2.1
 g3:GrOk t.2.2.1 p
 tt:t.2.2.2.1=T
 un:t.2.2.2.2.1=mg (fun a b=>a&&b) q.1.1 q.2.2
 co:t.2.2.2.2.2=mg (fun a b=>a && !b) q.1.1 (mg (fun a b=>a&&b) q.1.1 q.2.2)
 loop:LoopZ q.1 q.2.1 p T n
theorem yi2{q:ProbT}(h:ShortP q)(he:errP q=0)(b1:q.1.2.1≤40)(b2:q.2.1.2.1≤40):∃t p T n1 n2 n,y2x q=some (some t,0)∧TaskOk q t p T n1 n2 n∧yx [q.1,q.2.1]=some (p,T,0):=by
 unfold errP at he;by_cases h1:(toAut q.1).err=0
 ·rw [iN (by simpa using h1)] at he;by_cases h2:(toAut q.2.1).err=0
  ·rw [iN (by simpa using h2)] at he;by_cases h3:(mg (fun a b=>a && !b) q.2.1.1 q.1.1).length=0
   ·rw [iN (by simpa using h3)] at he;have rP:=yeS h1 h.p1 h.p2 h.p3;have rS:=yeS h2 h.s1 h.s2 h.s3;obtain⟨iu,ur⟩:=yb2 he;obtain⟨p,T,n,e1,hL⟩:=yjj rP rS (by omega) (by omega);obtain⟨o1,i1,k1⟩:=ybW rP;obtain⟨o2,i2,k2⟩:=ybW rS;obtain⟨o3,i3,k3⟩:=ybW hL.right;have hit3:iter (y7w q) 0=some (.inl ()):=by
     refine y3r (n:=3) (by omega) ?_;rw [yc,y7w,iP (by simp),show idx [q.1,q.2.1] 0=some q.1 from rfl,yOb,rP.check,yOb,iN (by simp)];dsimp only;rw [yc,y7w,show W (0+1)=1 from rfl,iP (by simp),show idx [q.1,q.2.1] 1=some q.2.1 from rfl,yOb,rS.check,yOb,iN (by simp)];dsimp only;rw [yc,y7w,show W (1+1)=2 from rfl,iN (by simp)]
    have hin:∀x,x∈mg (fun a b=>a&&b) q.1.1 q.2.2→x∈q.1.1:=fun x hx=>by
     have:=((y5t (fun a b=>a&&b) q.1.1 q.2.2 rP.ali iu).2 x).1 hx;simp only [yAe] at this;exact ya.1 this.2.1
    have hil:(mg (fun a b=>a&&b) q.1.1 q.2.2).length≤32:=Alp.len ⟨(y5t (fun a b=>a&&b) q.1.1 q.2.2 rP.ali iu).1,fun x hx=>rP.alr x (hin x hx)⟩;refine⟨((q.1,o1),(q.2.1,o2),(p,o3),T,mg (fun a b=>a&&b) q.1.1 q.2.2,mg (fun a b=>a && !b) q.1.1 (mg (fun a b=>a&&b) q.1.1 q.2.2)),p,T,_,_,n,?_,⟨rP,rS,iu,ur,fun x hx=>?_,⟨rfl,k1⟩,⟨rfl,k2⟩,⟨rfl,k3⟩,rfl,rfl,rfl,hL⟩,e1⟩
    ·rw [y2x,hit3,yOb];dsimp only;rw [yhf h.s1 h.p1,yOb,iN (by simpa using h3),ybX (by have:=h.u1;omega),yOb,he,iN (by simp),e1,yOb];dsimp only;rw [iN (by simp),yeU h.p1 h.u1,yOb,i1,yOb,i2,yOb,i3,yOb,yeT h.p1 (by omega),yOb]
    ·by_cases hh:x∈q.1.1
     ·exact hh
     ·have hm:x∈mg (fun a b=>a && !b) q.2.1.1 q.1.1:=by
       rw [(y5t (fun a b=>a && !b) q.2.1.1 q.1.1 rS.ali rP.ali).2];refine⟨.inl hx,?_⟩;rw [ya.2 hx];cases hb:hasB q.1.1 x
       ·rfl
       ·exact absurd (ya.1 hb) hh
      rw [yLz h3] at hm;cases hm
   ·rw [iP (by simpa using h3)] at he;cases he
  ·rw [iP (by simpa using h2)] at he;exact absurd he h2
 ·rw [iP (by simpa using h1)] at he;exact absurd he h1
def idxL1{α:Type}(xs:List α)(f:α→Option Bool)(st:Int):Option (Int⊕(Unit⊕Int)):=
 if decide (st<(xs.length:Int)) then
  (idx xs st).bind fun x=>
  (f x).bind fun r=>
  if r then some (.inr (.inr st)) else some (.inl (W (st+1)))
 else
  some (.inr (.inl ()))
theorem yen{α:Type}{xs:List α}{f:α→Option Bool}{g:α→Bool}(hf:∀x∈xs,f x=some (g x))(hl:xs.length<4611686018427387904):
  ∃o,iter (idxL1 xs f) 0=some o∧((o= .inl ()∧∀x∈xs,g x=false)∨∃k:Nat,∃hk:k<xs.length,o= .inr (k:Int)∧g xs[k]=true∧∀j (hj:j<xs.length),j<k→g xs[j]=false):=by
 refine ye (f:=idxL1 xs f) (fun i s=>s=(i:Int)∧∀j (hj:j<xs.length),j<i→g xs[j]=false) (fun o=>(o= .inl ()∧∀x∈xs,g x=false)∨∃k:Nat,∃hk:k<xs.length,o= .inr (k:Int)∧g xs[k]=true∧∀j (hj:j<xs.length),j<k→g xs[j]=false) xs.length 0 (by omega) (fun i s hi ⟨e1,g1⟩=>?_) (fun s ⟨e1,g1⟩=>?_) (yZl _) 0 ⟨rfl,fun j hj h=>by omega⟩
 ·subst e1;rw [idxL1,iP (ct_lt hi),yb hi,yOb,hf _ (yGm hi),yOb];cases hg:g xs[i]
  ·rw [iN (by simp),nxt (by omega)];refine .inl ⟨_,rfl,rfl,fun j hj h=>?_⟩;by_cases e:j=i
   ·subst e;exact hg
   ·exact g1 j hj (by omega)
  ·rw [iP rfl];exact .inr ⟨_,rfl,.inr ⟨i,hi,rfl,hg,g1⟩⟩
 ·subst e1;rw [idxL1,iN ct_ge];refine⟨_,rfl,.inl ⟨rfl,fun x hx=>?_⟩⟩;obtain⟨j,hj,rfl⟩:=yGo hx;exact g1 j hj hj
theorem ykt{xs:List (Int×Int×Int)}{f:Int×Int×Int→Option Bool}{g:Int×Int×Int→Bool}(hf:∀x∈xs,f x=some (g x))(hl:xs.length<4611686018427387904):
  ∃r,yE xs f=some r∧((r= -1∧∀x∈xs,g x=false)∨∃k:Nat,∃hk:k<xs.length,r=(k:Int)∧g xs[k]=true∧∀j (hj:j<xs.length),j<k→g xs[j]=false):=by
 obtain⟨o,h1,h2⟩:=yen hf hl;have h1:iter (y1v xs f) 0=some o:=h1;rw [yE,h1,yOb];rcases h2 with ⟨rfl,h3⟩|⟨k,hk,rfl,h3,h4⟩
 ·exact ⟨_,rfl,.inl ⟨rfl,h3⟩⟩
 ·exact ⟨_,rfl,.inr ⟨k,hk,rfl,h3,h4⟩⟩
theorem yku{xs:LI}{f:Int→Option Bool}{g:Int→Bool}(hf:∀x∈xs,f x=some (g x))(hl:xs.length<4611686018427387904):
  ∃r,y2z xs f=some r∧((r= -1∧∀x∈xs,g x=false)∨∃k:Nat,∃hk:k<xs.length,r=(k:Int)∧g xs[k]=true∧∀j (hj:j<xs.length),j<k→g xs[j]=false):=by
 obtain⟨o,h1,h2⟩:=yen hf hl;have h1:iter (y2J xs f) 0=some o:=h1;rw [y2z,h1,yOb];rcases h2 with ⟨rfl,h3⟩|⟨k,hk,rfl,h3,h4⟩
 ·exact ⟨_,rfl,.inl ⟨rfl,h3⟩⟩
 ·exact ⟨_,rfl,.inr ⟨k,hk,rfl,h3,h4⟩⟩
theorem ykv{g:GrT}{a:AutT}{n:Nat}(hg:GrOk g a)(hr:Right a n)(hn:Num (edsOf a) n){k:Nat}(hk:k<n)(hnl:n≤4096):y4S g (k:Int)=some (wN (edsOf a) (k:Int)):=by
 have hl3:=hr.l3;obtain⟨o,h1,h2,h3⟩:=ye (f:=y6G g) (fun i s=>∃k':Nat,s.2=(k':Int)∧k'+i≤k∧s.1.length≤i∧wN (edsOf a) (k:Int)=wN (edsOf a) (k':Int)++s.1.reverse) (fun o=>wN (edsOf a) (k:Int)=o.reverse∧o.length≤k) k 0 (by omega) (fun i s hi ⟨k',e1,g1,g2,g3⟩=>by
   obtain⟨out,c⟩:=s;dsimp only at e1 g2 g3;subst e1;rw [y6G];dsimp only;by_cases h0:0<k'
   ·left;rw [iP (by simp;omega),hg.1];obtain⟨x,hx,hf,ht,hx0,hxk,hw⟩:=hn.step h0 (by omega);obtain⟨r,q1,q2⟩:=ykt (xs:=a.2.2.2) (f:=y7S (k':Int)) (g:=fun y=>y.2.2==(k':Int)) (fun y _=>rfl) (by omega);rw [q1,yOb];rcases q2 with ⟨_,q3⟩|⟨j,hj,rfl,q3,q4⟩
    ·obtain ⟨y,hy,rfl⟩:=yMp.1 hx;have:=q3 y hy;have ht:y.2.2=(k':Int):=ht;simp [ht] at this
    ·have he:toEd a.2.2.2[j]=x:=by
      have:(edsOf a).find? (fun y=>y.t==(k':Int))=some (toEd a.2.2.2[j]):=by
       rw [List.find?_eq_some_iff_getElem];refine⟨q3,j,by simpa [edsOf] using hj,by simp [edsOf],fun i hi=>?_⟩;have:=q4 i (by omega) hi;have e2:(edsOf a)[i]'(by simp [edsOf];omega)=toEd a.2.2.2[i]:=by simp [edsOf]
       rw [e2];show(!(a.2.2.2[i].2.2==(k':Int)))=true;rw [this];rfl
      rw [hf] at this;exact(ySi this).symm
     rw [yb hj,yOb,yg (by simp;omega),yOb,yOb];refine⟨_,rfl,x.f.toNat,?_,by omega,by simp;omega,?_⟩
     ·dsimp only;rw [←he];rw [←he] at hx0;exact(Int.toNat_of_nonneg hx0).symm
     ·dsimp only;rw [g3,hw,Int.toNat_of_nonneg hx0,List.reverse_append,List.reverse_singleton,yAa,←he];rfl
   ·right;obtain rfl:k'=0:=by omega
    rw [iN (by simp)];exact⟨_,rfl,by rw [g3];rfl,by omega⟩) (fun s ⟨k',e1,g1,g2,g3⟩=>by
   obtain⟨out,c⟩:=s;dsimp only at e1 g2 g3;subst e1;rw [y6G];dsimp only;obtain rfl:k'=0:=by omega
   rw [iN (by simp)];exact⟨_,rfl,by rw [g3];rfl,by omega⟩) (yZl _) ([],(k:Int)) ⟨k,rfl,by omega,by simp,by simp⟩
 rw [y4S,h1,yOb,y3k,iP (by omega),yOb,h2]
def hdl(S:AutT):Int→LI→Int×Nat
 | s,[]=>(s,0)
 | s,e::l=>if hasB S.1 e=true then(match st1 S s e with
   | none=>(s,0)
   | some u=>((hdl S u l).1,(hdl S u l).2+1)) else((hdl S s l).1,(hdl S s l).2+1)
theorem yeV{q:ProbT}{t:TaskT}{p:AutT}{T:List LI}{n1 n2 n:Nat}(h:TaskOk q t p T n1 n2 n)(s:Int){l:LI}(hl:l.length≤1000000):y5N t s l=some ((hdl q.2.1 s l).1,((hdl q.2.1 s l).2:Int)):=by
 obtain⟨o,h1,h2⟩:=ye (f:=y5Z t l) (fun i st=>st.1=(i:Int)∧hdl q.2.1 s l=((hdl q.2.1 st.2 (l.drop i)).1,i+(hdl q.2.1 st.2 (l.drop i)).2)) (fun o=>(match o with
   | .inl u=>(u,(l.length:Int))
   | .inr u=>(u.2,u.1))=((hdl q.2.1 s l).1,((hdl q.2.1 s l).2:Int))) l.length 0 (by omega) (fun i st hi ⟨e1,g1⟩=>by
   obtain⟨k,c⟩:=st;dsimp only at e1 g1;subst e1;rw [yDc hi,hdl] at g1;rw [y5Z];dsimp only;rw [iP (ct_lt hi),yb hi,yOb,h.g2.1,y2v (by have:=h.rS.l1;omega) h.rS.ali,yOb];cases hb:hasB q.2.1.1 l[i]
   ·left;rw [hb,iN (by simp)] at g1;rw [iP (by rfl),y4o];dsimp only;rw [nxt (by omega)];refine⟨_,rfl,rfl,?_⟩;dsimp only;rw [g1];congr 1;omega
   ·rw [hb,iP rfl] at g1;rw [iN (by simp),to_eq h.g2,yOb];cases hs:st1 q.2.1 c l[i] with
    | none=>
     right;rw [hs] at g1;rw [iP (by rfl)];refine⟨_,rfl,?_⟩;dsimp only at g1 ⊢;rw [g1];rfl
    | some u=>
     left;rw [hs] at g1;have:=y6a h.rS hs;rw [iN (by simp;omega),y4o];dsimp only [Option.getD];rw [nxt (by omega)];refine⟨_,rfl,rfl,?_⟩;dsimp only at g1 ⊢;rw [g1];congr 1;omega) (fun st ⟨e1,g1⟩=>by
   obtain⟨k,c⟩:=st;dsimp only at e1 g1;subst e1;rw [y5Z];dsimp only;rw [iN ct_ge];refine⟨_,rfl,?_⟩;rw [List.drop_length,hdl] at g1;dsimp only at g1 ⊢;rw [g1];rfl) (yZl _) (0,s) ⟨rfl,by simp⟩
 rw [y5N,h1,yOb,←h2];cases o <;> rfl
theorem ygM :∀(xs:LI) (m k:Nat) (a:LI),k+m=xs.length→a.length+m≤4294967296→rngF (fun k=>y1z (xs.getD k 0)) m k a=some (a++xs.drop k)
 | xs,0,k,a,e,hl=>by
  rw [rngF,List.drop_of_length_le (by omega),List.append_nil]
 | xs,m+1,k,a,e,hl=>by
  have hk:k<xs.length:=by omega
  rw [rngF,y1z,yg (by simp;omega),yOb,yOb,ygM xs m (k+1) _ (by omega) (by simp;omega),yDc hk,yGd,yGe hk];simp
theorem yi3{l:LI}(hl:l.length≤1000000):y3E l=some (isL l):=by
 have hlen:(isL l).length=l.length:=(y6H l).length_eq;rw [y3E,y6t,y5v,ygM l l.length 0 [] (by omega) (by simp;omega),yOb,yOb,yOb,List.drop_zero,List.nil_append,y2A,iP (by omega),yOb,lenEq,iP hlen,yOb]
def okB(S:AutT)(y:Int)(l:LI):Bool:=((((hdl S y l).2:Int)==(l.length:Int))&&(((hdl S y (isL l)).2:Int)==(l.length:Int)))&&((hdl S y l).1==(hdl S y (isL l)).1)
theorem ydO{q:ProbT}{t:TaskT}{p:AutT}{T:List LI}{n1 n2 n:Nat}(h:TaskOk q t p T n1 n2 n){k:Nat}{x y:Int}(hk:T[k]? =some [x,y]){l:LI}(hl:l.length≤1000000):y5k t (k:Int) l=some (okB q.2.1 y l):=by
 have hlen:(isL l).length=l.length:=(y6H l).length_eq;rw [y5k,h.tt,y7O,hk,yOb,show idx [x,y] 1=some y from rfl,yOb,yeV h y hl,yOb,y5b,iP (by omega),yOb,yi3 hl,yOb,yeV h y (by omega),yOb];rfl
def pot :Nat→Nat
 | 0=>1
 | f+1=>1+32*pot f
theorem ygN :∀f,1≤pot f
 | 0=>yNr _
 | _+1=>by rw [pot];omega
def potL(z:Nat)(l:List (Int×LI)):Nat:=(l.map fun r=>pot (z-r.2.length)).sum
theorem ydq(z:Nat):∀l,l.length≤potL z l
 | []=>yZl _
 | r::l=>by
  have h1:=ydq z l;have h2:=ygN (z-r.2.length);unfold potL at h1 ⊢;rw [List.map_cons,List.sum_cons,yLc];omega
theorem yjk(z:Nat)(l m:List (Int×LI)):potL z (l++m)=potL z l+potL z m:=by
 unfold potL;rw [List.map_append,List.sum_append]
theorem yjl(z:Nat)(r:Int×LI):potL z [r]=pot (z-r.2.length):=by
 unfold potL;simp
section
variable{q:ProbT}{t:TaskT}{p:AutT}{T:List LI}{n1 n2 n:Nat}
theorem TaskOk.uni(h:TaskOk q t p T n1 n2 n):Inc t.2.2.2.2.1∧t.2.2.2.2.1.length≤32∧∀x,x∈t.2.2.2.2.1↔x∈q.1.1∧x∈q.2.2:=by
 have hs:=y5t (fun a b=>a&&b) q.1.1 q.2.2 h.rP.ali h.iu;have hm:∀x,x∈mg (fun a b=>a&&b) q.1.1 q.2.2↔x∈q.1.1∧x∈q.2.2:=fun x=>by
  rw [hs.2];simp only [yAe,ya];exact⟨fun h=>h.2,fun h=>⟨.inl h.1,h⟩⟩
 rw [h.un];exact⟨hs.1,Alp.len ⟨hs.1,fun x hx=>h.rP.alr x ((hm x).1 hx).1⟩,hm⟩
theorem TaskOk.con(h:TaskOk q t p T n1 n2 n):Inc t.2.2.2.2.2∧t.2.2.2.2.2.length≤32∧∀x,x∈t.2.2.2.2.2↔x∈q.1.1∧x∉q.2.2:=by
 obtain⟨ui,ul,um⟩:=h.uni;have hs:=y5t (fun a b=>a && !b) q.1.1 t.2.2.2.2.1 h.rP.ali ui;have hm:∀x,x∈mg (fun a b=>a && !b) q.1.1 t.2.2.2.2.1↔x∈q.1.1∧x∉q.2.2:=fun x=>by
  rw [hs.2];simp only [yAe,ya,Bool.not_eq_true'];have e:hasB t.2.2.2.2.1 x=false↔ ¬(x∈q.1.1∧x∈q.2.2):=by
   rw [←um x,←ya,Bool.not_eq_true]
  rw [e];constructor
  ·rintro ⟨_,h1,h2⟩;exact⟨h1,fun h3=>h2 ⟨h1,h3⟩⟩
  ·rintro ⟨h1,h2⟩;exact⟨.inl h1,h1,fun h3=>h2 h3.2⟩
 rw [h.co,←h.un];exact⟨hs.1,Alp.len ⟨hs.1,fun x hx=>h.rP.alr x ((hm x).1 hx).1⟩,hm⟩
theorem yi4(h:TaskOk q t p T n1 n2 n){z c:Nat}{out:List LI}{l:List (Int×LI)}{r:Int×LI}(hc:l[c]? =some r)(hz:r.2.length<z)(hz3:z≤3)(hl:l.length≤1000000)(hw:∀r∈l,r.2.length≤z):
  ∃N,iter (yQ t ((c:Int),out,l)) (0,l)=some (l++N)∧N.length≤32∧∀u∈N,u.2.length=r.2.length+1:=by
 obtain⟨ui,ul,um⟩:=h.uni;obtain⟨o,h1,N,rfl,h2,h3⟩:=ye (f:=yQ t ((c:Int),out,l)) (fun i s=>s.1=(i:Int)∧∃N,s.2=l++N∧N.length≤i∧∀u∈N,u.2.length=r.2.length+1) (fun o=>∃N,o=l++N∧N.length≤32∧∀u∈N,u.2.length=r.2.length+1) t.2.2.2.2.1.length 0 (by omega) (fun i s hi ⟨e1,N,e2,g1,g2⟩=>by
   obtain⟨k,m⟩:=s;dsimp only at e1 e2;subst e1;subst e2;have hx:idx (l++N) (c:Int)=some r:=by
    rw [y7O,yAl (yGs.1 hc).1,hc]
   have hrl:=hw r (List.mem_of_getElem? hc);left;rw [yQ];dsimp only;rw [iP (ct_lt hi),yb hi,yOb,hx,yOb,to_eq h.g1,yOb];by_cases hb:((st1 q.1 r.1 t.2.2.2.2.1[i]).getD (-1) != (-1))=true
   ·rw [iP hb,yOb,yG (by omega),yOb,yOb];cases hh:hasB r.2 t.2.2.2.2.1[i]
    ·rw [iP (by rfl),yOb,y7H (by omega),yOb,yg (by simp;omega),yOb,yg (by simp;omega),yOb,yP];dsimp only;rw [nxt (by omega)];refine⟨_,rfl,rfl,N++[_],by rw [yAa],by simp;omega,fun u hu=>?_⟩;rcases yMa.1 hu with hu|hu
     ·exact g2 u hu
     ·rw [yMs.1 hu];simp
    ·rw [iN (by simp),yP];dsimp only;rw [nxt (by omega)];exact⟨_,rfl,rfl,N,rfl,by omega,g2⟩
   ·rw [iN hb,yOb,iN (by simp),yP];dsimp only;rw [nxt (by omega)];exact⟨_,rfl,rfl,N,rfl,by omega,g2⟩) (fun s ⟨e1,N,e2,g1,g2⟩=>by
   obtain⟨k,m⟩:=s;dsimp only at e1 e2;subst e1;subst e2;rw [yQ];dsimp only;rw [iN ct_ge];exact⟨_,rfl,N,rfl,by omega,g2⟩) (yZl _) (0,l) ⟨rfl,[],by simp,by simp,fun u hu=>by cases hu⟩
 exact⟨N,h1,h2,h3⟩
theorem yl3 :∀{z:Nat},z≤3→pot z≤33825
 | 0,_=>by decide
 | 1,_=>by decide
 | 2,_=>by decide
 | 3,_=>by decide
theorem yfG{z k:Nat}:∀{N:List (Int×LI)},(∀u∈N,u.2.length=k)→potL z N=N.length*pot (z-k)
 | [],_=>by simp [potL]
 | u::N,h=>by
  have h1:=yfG (z:=z) (N:=N) fun v hv=>h v (yMm _ hv);unfold potL at h1 ⊢;rw [List.map_cons,List.sum_cons,h1,h u (yMc ..),yLc,Nat.add_mul,Nat.one_mul,Nat.add_comm]
theorem TaskOk.pair(h:TaskOk q t p T n1 n2 n){k:Nat}(hk:k<T.length):∃x y,T[k]? =some [x,y]∧0≤x∧x<(n1:Int)∧0≤y∧y<(n2:Int):=by
 obtain⟨x,y,e,h1,h2,h3,h4⟩:=h.loop.tt _ (yGm hk);rw [h.rP.nn] at h2;rw [h.rS.nn] at h4;exact⟨x,y,by rw [yGe hk,e],h1,h2,h3,h4⟩
theorem TaskOk.word(h:TaskOk q t p T n1 n2 n){k:Nat}(hk:k<T.length):y4S t.2.2.1 (k:Int)=some (wN (edsOf p) (k:Int)):=
 ykv h.g3 h.loop.right h.loop.num (by rw [←h.loop.tl];exact hk) (by have:=h.loop.le;omega)
end
def priE(al u:LI):LI→LI→Int
 | _,[]=>0
 | d,e::l=>if hasB al e=false then 9 else if hasB u e=true then 13 else if hasB d e=true then 8 else priE al u (d++[e]) l
theorem yfH{α:Type}{xs:List α}{i:Nat}(h:i≤xs.length):slc xs 0 (i:Int)=some (xs.take i):=by
 rw [slc,iP ⟨by omega,by omega,by omega⟩];simp
section
variable{q:ProbT}{t:TaskT}{p:AutT}{T:List LI}{n1 n2 n:Nat}
theorem TaskOk.unB(h:TaskOk q t p T n1 n2 n){e:Int}(ha:hasB q.1.1 e=true):hasB t.2.2.2.2.1 e=hasB q.2.2 e:=by
 rw [Bool.eq_iff_iff,ya,ya,h.uni.2.2];exact⟨fun x=>x.2,fun x=>⟨ya.1 ha,x⟩⟩
theorem ykw(h:TaskOk q t p T n1 n2 n){l:LI}(hl:l.length≤1000000):y4v t l=some (priE q.1.1 q.2.2 [] l):=by
 have hl1:=h.rP.l1;obtain⟨ui,ul,um⟩:=h.uni;obtain⟨o,h1,h2⟩:=ye (f:=y3p t l) (fun i s=>s=(i:Int)∧priE q.1.1 q.2.2 [] l=priE q.1.1 q.2.2 (l.take i) (l.drop i)) (fun o=>(match o with
   | .inl _=>0
   | .inr u=>u)=priE q.1.1 q.2.2 [] l) l.length 0 (by omega) (fun i s hi ⟨e1,g1⟩=>by
   subst e1;rw [yDc hi,priE] at g1;rw [y3p,iP (ct_lt hi),yb hi,yOb,h.g1.1,y2v (by omega) h.rP.ali,yOb];cases ha:hasB q.1.1 l[i]
   ·right;rw [iP ha] at g1;rw [iP (by rfl)];exact⟨_,rfl,g1.symm⟩
   ·rw [iN (by simp [ha])] at g1;rw [iN (by simp),y2v (by omega) ui,yOb,h.unB ha];cases hu:hasB q.2.2 l[i]
    ·rw [iN (by simp [hu])] at g1;rw [iN (by simp),yfH (by omega),yOb,yG (by simp;omega),yOb];cases hd:hasB (l.take i) l[i]
     ·left;rw [iN (by simp [hd])] at g1;rw [iN (by simp),nxt (by omega)];refine⟨_,rfl,rfl,?_⟩;rw [g1,yTs hi]
     ·right;rw [iP hd] at g1;rw [iP rfl];exact⟨_,rfl,g1.symm⟩
    ·right;rw [iP hu] at g1;rw [iP rfl];exact⟨_,rfl,g1.symm⟩) (fun s ⟨e1,g1⟩=>by
   subst e1;rw [y3p,iN ct_ge];refine⟨_,rfl,?_⟩;rw [g1,List.drop_length,priE]) (yZl _) 0 ⟨rfl,rfl⟩
 rw [y4v,h1,yOb];cases o with
 | inl u=>exact congrArg some h2
 | inr u=>exact congrArg some h2
def chz(p:AutT)(l:LI)(s:Int):Int:=(l.find? fun e=>(st1 p s e).isSome).getD (-1)
theorem yi5(h:TaskOk q t p T n1 n2 n)(s:Int){l:LI}(hl:l.length≤1000000):y7j t s l=some (chz p l s):=by
 obtain⟨r,h1,h2⟩:=yku (xs:=l) (f:=y4P (some t) s) (g:=fun e=>(st1 p s e).isSome) (fun e _=>by
  rw [y4P,yOb,to_eq h.g3,yOb];congr 1;cases hs:st1 p s e with
  | none=>rfl
  | some v=>
   have:=y6a h.loop.right hs;simp;omega) (by omega)
 rw [y7j,h1,yOb,chz];rcases h2 with ⟨rfl,h3⟩|⟨k,hk,rfl,h3,h4⟩
 ·rw [iP (by simp),List.find?_eq_none.2 (fun x hx=>by rw [h3 x hx];simp)];rfl
 ·rw [iN (by simp),yb hk,yOb];have:l.find? (fun e=>(st1 p s e).isSome)=some l[k]:=by
   rw [List.find?_eq_some_iff_getElem];exact⟨h3,k,hk,rfl,fun j hj=>by rw [h4 j (by omega) hj];rfl⟩
  rw [this];rfl
theorem ygO(h:TaskOk q t p T n1 n2 n)(ho:y2x q=some (some t,0)){l:LI}(hl:l.length≤1000000):y9H q l=if priE q.1.1 q.2.2 [] l=0 then some (some t,0) else some (none,priE q.1.1 q.2.2 [] l):=by
 rw [y9H,ho,yOb,iN (by simp),yOb,ykw h hl,yOb];by_cases h0:priE q.1.1 q.2.2 [] l=0
 ·rw [iN (by simpa using h0),iP h0]
 ·rw [iP (by simpa using h0),iN h0]
end
def stR(p:AutT)(u l:LI)(s e:Int):Option Int:=if(e==chz p l s||hasB u e)=true then st1 p s e else none
structure SR (st:Int→Int→Option Int) (al:LI) (n i j:Nat) (T:LI) (kn:List (Int×Int)) (E:List (Int×Int×Int)):Prop where
 f:Fnd st al i j T E
 k1:∀s v,kget kn s=some v→∃q:Nat,v=(q:Int)∧T[q]? =some s
 k2:∀s∈T,(kget kn s).isSome=true
 nd:T.Nodup
 tr:∀s∈T,0≤s∧s<(n:Int)
 so:E.Pairwise fun x y=>x.1<y.1∨(x.1=y.1∧x.2.1<y.2.1)
 ei:∀x∈E,x.1<(i:Int)∨(x.1=(i:Int)∧∃b,∃hb:b<al.length,b<j∧al[b]=x.2.1)
 ea:∀x∈E,x.2.1∈al
 el:E.length≤32*i+j
namespace SR
variable{st:Int→Int→Option Int}{al:List Int}{n i j:Nat}{T:List Int}{kn:List (Int×Int)}{E:List (Int×Int×Int)}
theorem len(h:SR st al n i j T kn E):T.length≤n:=by
 have:=y8P n (T.map Int.toNat) (by
  unfold List.Nodup;rw [List.pairwise_map];refine h.nd.imp_of_mem fun {a b} ha hb hab=>?_;have h1:=h.tr a ha;have h2:=h.tr b hb;omega) (fun x hx=>by
  obtain⟨y,hy,rfl⟩:=List.mem_map.1 hx;have:=h.tr y hy;omega)
 simpa using this
theorem skip(h:SR st al n i j T kn E){s e:Int}(ht:T[i]? =some s)(he:al[j]? =some e)(hs:st s e=none):SR st al n i (j+1) T kn E:=
 ⟨h.f.skip ht he hs,h.k1,h.k2,h.nd,h.tr,h.so,fun x hx=>by
  rcases h.ei x hx with h1|⟨h1,b,hb,h2,h3⟩
  ·exact .inl h1
  ·exact .inr ⟨h1,b,hb,by omega,h3⟩,h.ea,by have:=h.el;omega⟩
theorem next(h:SR st al n i j T kn E)(hj:al.length≤j)(hj2:j≤32):SR st al n (i+1) 0 T kn E:=
 ⟨h.f.next hj,h.k1,h.k2,h.nd,h.tr,h.so,fun x hx=>by
  rcases h.ei x hx with h1|⟨h1,_⟩
  ·exact .inl (by omega)
  ·exact .inl (by omega),h.ea,by have:=h.el;omega⟩
theorem pw(h:SR st al n i j T kn E)(ia:Inc al)(hj:j<al.length)(v:Int):(E++[((i:Int),al[j],v)]).Pairwise fun x y=>x.1<y.1∨(x.1=y.1∧x.2.1<y.2.1):=by
 rw [List.pairwise_append];refine⟨h.so,List.pairwise_singleton _ _,fun x hx y hy=>?_⟩;rw [yMs.1 hy];rcases h.ei x hx with h1|⟨h1,b,hb,h2,h3⟩
 ·exact .inl h1
 ·refine .inr ⟨h1,?_⟩;rw [←h3];exact List.pairwise_iff_getElem.1 ia b j hb hj h2
theorem ei'(h:SR st al n i j T kn E)(hj:j<al.length)(v:Int):∀x∈E++[((i:Int),al[j],v)],x.1<(i:Int)∨(x.1=(i:Int)∧∃b,∃hb:b<al.length,b<j+1∧al[b]=x.2.1):=fun x hx=>by
 rcases yMa.1 hx with hx|hx
 ·rcases h.ei x hx with h1|⟨h1,b,hb,h2,h3⟩
  ·exact .inl h1
  ·exact .inr ⟨h1,b,hb,by omega,h3⟩
 ·rw [yMs.1 hx];exact .inr ⟨rfl,j,hj,by omega,rfl⟩
theorem ea'(h:SR st al n i j T kn E)(hj:j<al.length)(v:Int):∀x∈E++[((i:Int),al[j],v)],x.2.1∈al:=fun x hx=>by
 rcases yMa.1 hx with hx|hx
 ·exact h.ea x hx
 ·rw [yMs.1 hx];exact yGm hj
theorem edge(h:SR st al n i j T kn E)(ia:Inc al)(hj:j<al.length){s v:Int}{q:Nat}(ht:T[i]? =some s)(hs:st s al[j]=some v)(hq:T[q]? =some v):SR st al n i (j+1) T kn (E++[((i:Int),al[j],(q:Int))]):=
 ⟨h.f.edge ht (yGe hj) hs hq,h.k1,h.k2,h.nd,h.tr,h.pw ia hj _,h.ei' hj _,h.ea' hj _,by have:=h.el;simp;omega⟩
theorem new(h:SR st al n i j T kn E)(ia:Inc al)(hj:j<al.length){s v:Int}(ht:T[i]? =some s)(hs:st s al[j]=some v)(hk:kget kn v=none)(v0:0≤v)(v1:v<(n:Int)):SR st al n i (j+1) (T++[v]) (kput kn v (T.length:Int)) (E++[((i:Int),al[j],(T.length:Int))]):=by
 have hi:=(List.getElem?_eq_some_iff.1 ht).1;refine⟨h.f.new hi ht (yGe hj) hs,fun s' w hw=>?_,fun s' hs'=>?_,?_,fun s' hs'=>?_,h.pw ia hj _,h.ei' hj _,h.ea' hj _,by have:=h.el;simp;omega⟩
 ·rw [y3D] at hw;split at hw
  ·rename_i e;subst e;cases hw;exact⟨T.length,rfl,by rw [List.getElem?_append_right (Nat.le_refl _)];simp⟩
  ·obtain ⟨q,h1,h2⟩:=h.k1 s' w hw;exact⟨q,h1,by rw [List.getElem?_append_left (List.getElem?_eq_some_iff.1 h2).1,h2]⟩
 ·rw [y3D];split
  ·rfl
  ·rename_i e;rcases yMa.1 hs' with hs'|hs'
   ·exact h.k2 s' hs'
   ·exact absurd (yMs.1 hs') e
 ·unfold List.Nodup;rw [List.pairwise_append];refine⟨h.nd,List.pairwise_singleton _ _,fun a ha b hb e=>?_⟩;rw [yMs.1 hb] at e;subst e;have:=h.k2 a ha;rw [hk] at this;cases this
 ·rcases yMa.1 hs' with hs'|hs'
  ·exact h.tr s' hs'
  ·rw [yMs.1 hs'];exact⟨v0,v1⟩
end SR
section
variable{q:ProbT}{t:TaskT}{p:AutT}{T:List (List Int)}{n1 n2 n:Nat}
theorem yl4(h:TaskOk q t p T n1 n2 n){l M X:List Int}{i:Nat}{kn:List (Int×Int)}{E:List (Int×Int×Int)}(hS:SR (stR p t.2.2.2.2.1 l) p.1 n i 0 X kn E)(hi:i<X.length):
  ∃kn' X' E',iter (y2N t p.1 ((i:Int),X,kn,M,E) (chz p l X[i])) (0,X,kn,E)=some (X',kn',E')∧SR (stR p t.2.2.2.2.1 l) p.1 n (i+1) 0 X' kn' E'∧∃U,X'=X++U:=by
 obtain⟨ui,ul,um⟩:=h.uni;have hpr:=h.loop.right;have hle:=h.loop.le;have hal:p.1.length≤32:=Alp.len ⟨hpr.ali,hpr.alr⟩;obtain⟨o,h1,h2,h3⟩:=ye (f:=y2N t p.1 ((i:Int),X,kn,M,E) (chz p l X[i])) (fun j s=>s.1=(j:Int)∧SR (stR p t.2.2.2.2.1 l) p.1 n i j s.2.1 s.2.2.1 s.2.2.2∧s.2.1[i]? =some X[i]∧∃U,s.2.1=X++U) (fun o=>SR (stR p t.2.2.2.2.1 l) p.1 n (i+1) 0 o.1 o.2.1 o.2.2∧∃U,o.1=X++U) p.1.length 0 (by omega) (fun j s hj ⟨e1,g1,g2,g3⟩=>by
   obtain⟨c,Y,k',F⟩:=s;dsimp only at e1 g1 g2 g3;subst e1;have hYl:=g1.len;have hFl:=g1.el;left;rw [y2N];dsimp only;rw [if_pos (ct_lt hj),yb hj,yOb,y7O,g2,yOb,to_eq h.g3,yOb];have hskip:stR p t.2.2.2.2.1 l X[i] p.1[j]=none→∃s',yX ((j:Int),Y,k',F) Y k' F=some (.inl s')∧s'.1=((j+1:Nat):Int)∧SR (stR p t.2.2.2.2.1 l) p.1 n i (j+1) s'.2.1 s'.2.2.1 s'.2.2.2∧s'.2.1[i]? =some X[i]∧∃U,s'.2.1=X++U:=fun hn=>by
    rw [yX];dsimp only;rw [nxt (by omega)];exact⟨_,rfl,rfl,g1.skip g2 (yGe hj) hn,g2,g3⟩
   cases hs:st1 p X[i] p.1[j] with
   | none=>
    rw [if_pos (by rfl),yOb,if_pos rfl];refine hskip ?_;unfold stR;rw [hs];split <;> rfl
   | some v=>
    have hv:=y6a hpr hs;dsimp only [Option.getD_some];rw [if_neg (by simp;omega)];have hb:((if (p.1[j] != chz p l X[i])=true then(yq t.2.2.2.2.1 p.1[j]).bind fun r=>some (!r) else some false).bind fun b=>some b)=some (!(p.1[j]==chz p l X[i]||hasB t.2.2.2.2.1 p.1[j])):=by
     rw [y2v (by omega) ui,yOb];by_cases hc:p.1[j]=chz p l X[i]
     ·rw [if_neg (by simp [hc]),yOb];simp [hc]
     ·rw [if_pos (by simp [hc]),yOb];simp [hc]
    rw [hb,yOb];by_cases ha:(p.1[j]==chz p l X[i]||hasB t.2.2.2.2.1 p.1[j])=true
    ·have hst:stR p t.2.2.2.2.1 l X[i] p.1[j]=some v:=by
      unfold stR;rw [if_pos ha,hs]
     rw [ha,if_neg (by simp)];by_cases hk:(kget k' v).isSome=true
     case neg=>
      have hk:kget k' v=none:=by simpa using hk
      have hYi:i<Y.length:=(List.getElem?_eq_some_iff.1 g2).1;obtain⟨U,hU⟩:=g3;rw [if_pos (by rw [hk];rfl),yg (by simp;omega),yOb,y2M];dsimp only;rw [y3D,if_pos rfl,yg (by simp;omega),yOb,yX];dsimp only [Option.getD_some];rw [nxt (by omega)];refine⟨_,rfl,rfl,g1.new hpr.ali hj g2 hst hk hv.2.2.1 hv.2.2.2.1,?_,U++[v],by dsimp only;rw [hU,List.append_assoc]⟩;dsimp only;rw [List.getElem?_append_left (by omega)];exact g2
     case pos=>
      obtain⟨w,hk⟩:=Option.isSome_iff_exists.1 hk;have hYi:i<Y.length:=(List.getElem?_eq_some_iff.1 g2).1;obtain⟨r,rfl,hr⟩:=g1.k1 v w hk;rw [if_neg (by rw [hk];simp),y2M];dsimp only;rw [hk,yg (by simp;omega),yOb,yX];dsimp only [Option.getD_some];rw [nxt (by omega)];exact⟨_,rfl,rfl,g1.edge hpr.ali hj g2 hst hr,g2,g3⟩
    ·rw [if_pos (by simpa using ha)];refine hskip ?_;unfold stR;rw [if_neg ha]) (fun s ⟨e1,g1,g2,g3⟩=>by
   obtain⟨c,Y,k',F⟩:=s;dsimp only at e1 g1 g2 g3;subst e1;rw [y2N];dsimp only;rw [if_neg ct_ge];exact⟨_,rfl,g1.next (Nat.le_refl _) hal,g3⟩) (yZl _) (0,X,kn,E) ⟨rfl,hS,yGe hi,[],by simp⟩
 exact⟨o.2.1,o.1,o.2.2,h1,h2,h3⟩
structure ResOk (p:AutT) (u l:List Int) (r:AutT) (X:List Int):Prop where
 right:Right r X.length
 al:r.1=p.1
 le:X.length≤4000
 zero:X.length=0↔p.2.1=0
 x0:0<X.length→X[0]? =some 0
 disc:Disc (stR p u l) p.1 X r.2.2.2
 mkd:∀(i:Nat) (s:Int),X[i]? =some s→((i:Int)∈r.2.2.1↔s∈p.2.2.1)
theorem yf6(h:TaskOk q t p T n1 n2 n)(l:List Int)(hl:l.length≤1000000):∃g r X,y5B t l=some g∧GrOk g r∧ResOk p t.2.2.2.2.1 l r X:=by
 have hpr:=h.loop.right;have hle:=h.loop.le;have hal:p.1.length≤32:=Alp.len ⟨hpr.ali,hpr.alr⟩;have hp2:=hpr.l2;have main:∀X0 kn0,SR (stR p t.2.2.2.2.1 l) p.1 n 0 0 X0 kn0 []→X0.length≤1→(X0.length=0↔n=0)→(0<X0.length→X0[0]? =some 0)→∃g r X,y2Q t l p.1 X0 kn0=some g∧GrOk g r∧ResOk p t.2.2.2.2.1 l r X:=fun X0 kn0 hS0 hX0 hz hx0=>by
  obtain⟨o,h1,kn,h2,h3,h4,h5,h6,h7⟩:=ye (f:=y2P t l p.1) (fun i s=>s.1=(i:Int)∧i≤s.2.1.length∧SR (stR p t.2.2.2.2.1 l) p.1 n i 0 s.2.1 s.2.2.1 s.2.2.2.2∧Inc s.2.2.2.1∧(∀x∈s.2.2.2.1,0≤x∧x<(i:Int))∧(s.2.1.length=0↔n=0)∧(0<s.2.1.length→s.2.1[0]? =some 0)∧∀(a:Nat) (x:Int),a<i→s.2.1[a]? =some x→((a:Int)∈s.2.2.2.1↔x∈p.2.2.1)) (fun o=>∃kn,SR (stR p t.2.2.2.2.1 l) p.1 n o.1.length 0 o.1 kn o.2.2∧Inc o.2.1∧(∀x∈o.2.1,0≤x∧x<(o.1.length:Int))∧(o.1.length=0↔n=0)∧(0<o.1.length→o.1[0]? =some 0)∧∀(a:Nat) (x:Int),o.1[a]? =some x→((a:Int)∈o.2.1↔x∈p.2.2.1)) n 0 (by omega) (fun i s hi ⟨e1,g0,g1,g2,g3,g4,g5,g6⟩=>by
    obtain⟨c,X,kn,M,E⟩:=s;dsimp only at e1 g0 g1 g2 g3 g4 g5 g6;subst e1;have hXl:=g1.len;have hMl:=y4p (n:=i) (lo:=0) g2 g3 (Int.le_refl _);by_cases hix:i<X.length
    ·left;obtain⟨kn',X',E',k1,k2,U,k3⟩:=yl4 h (l:=l) (M:=M) g1 hix;have hpre:∀a,a<X.length→X'[a]? =X[a]? :=fun a ha=>by rw [k3,List.getElem?_append_left ha]
     have hXX:X.length≤X'.length:=by rw [k3];simp
     have hj2:∀M':List Int,Inc M'→(∀x∈M',0≤x∧x<((i+1:Nat):Int))→(∀x:Int,x≠(i:Int)→(x∈M'↔x∈M))→((i:Int)∈M'↔X[i]∈p.2.2.1)→∃s',y2O t l p.1 ((i:Int),X,kn,M,E) M'=some (.inl s')∧s'.1=((i+1:Nat):Int)∧i+1≤s'.2.1.length∧SR (stR p t.2.2.2.2.1 l) p.1 n (i+1) 0 s'.2.1 s'.2.2.1 s'.2.2.2.2∧Inc s'.2.2.2.1∧(∀x∈s'.2.2.2.1,0≤x∧x<((i+1:Nat):Int))∧(s'.2.1.length=0↔n=0)∧(0<s'.2.1.length→s'.2.1[0]? =some 0)∧∀(a:Nat) (x:Int),a<i+1→s'.2.1[a]? =some x→((a:Int)∈s'.2.2.2.1↔x∈p.2.2.1):=fun M' m1 m2 m3 m4=>by
      rw [y2O];dsimp only;rw [yb hix,yOb,yi5 h _ hl,yOb,k1,yOb];dsimp only;rw [nxt (by omega)];refine⟨_,rfl,rfl,by dsimp only;omega,k2,m1,m2,by dsimp only;omega,fun _=>?_,fun a x ha hx=>?_⟩
      ·dsimp only;rw [hpre 0 (by omega)];exact g5 (by omega)
      ·dsimp only at hx ⊢;rw [hpre a (by omega)] at hx;by_cases e:a=i
       ·subst e;rw [yGe hix] at hx;cases hx;exact m4
       ·rw [m3 _ (by omega)];exact g6 a x (by omega) hx
     rw [y2P];dsimp only;rw [if_pos (ct_lt hix),yb hix,yOb,h.g3.1,y2v (by omega) hpr.msi,yOb];cases hm:hasB p.2.2.1 X[i]
     ·rw [if_neg (by simp)];refine hj2 M g2 (fun x hx=>by have:=g3 x hx;omega) (fun x _=>Iff.rfl) ⟨fun hx=>by have:=g3 _ hx;omega,fun hx=>?_⟩;rw [ya.2 hx] at hm;cases hm
     ·rw [if_pos rfl,yg (by simp;omega),yOb];refine hj2 _ ?_ (fun x hx=>?_) (fun x hx=>?_) ⟨fun _=>ya.1 hm,fun _=>List.mem_append_right _ (yMs.2 rfl)⟩
      ·unfold Inc at g2 ⊢;rw [List.pairwise_append];exact⟨g2,List.pairwise_singleton _ _,fun a ha b hb=>by rw [yMs.1 hb];exact(g3 a ha).2⟩
      ·rcases yMa.1 hx with hx|hx
       ·have:=g3 x hx;omega
       ·rw [yMs.1 hx];omega
      ·rw [yMa,yMs];exact⟨fun h=>h.resolve_right hx,.inl⟩
    ·right;obtain rfl:i=X.length:=by omega
     rw [y2P];dsimp only;rw [if_neg ct_ge];exact⟨_,rfl,kn,g1,g2,g3,g4,g5,fun a x hx=>g6 a x (List.getElem?_eq_some_iff.1 hx).1 hx⟩) (fun s ⟨e1,g0,g1,g2,g3,g4,g5,g6⟩=>by
    obtain⟨c,X,kn,M,E⟩:=s;dsimp only at e1 g0 g1 g2 g3 g4 g5 g6;subst e1;have hXl:=g1.len;have hX:n=X.length:=by omega
    rw [y2P];dsimp only;rw [if_neg (by simp;omega)];exact⟨_,rfl,kn,by rw [←hX];exact hX▸g1,g2,by rw [←hX];exact g3,g4,g5,fun a x hx=>g6 a x (by have h8:a<X.length:=(List.getElem?_eq_some_iff.1 hx).1;omega) hx⟩) (yZl _) (0,X0,kn0,[],[]) ⟨rfl,yZl _,hS0,List.Pairwise.nil,fun x hx=>(by cases hx),hz,hx0,fun a x ha=>by omega⟩
  obtain⟨X,M,E⟩:=o;dsimp only at h2 h3 h4 h5 h6 h7;have hXl:=h2.len;have hEl:=h2.el;have hMl:=y4p (n:=X.length) (lo:=0) h3 h4 (Int.le_refl _);have hR:Right (p.1,(X.length:Int),M,E) X.length:=by
   refine⟨rfl,by omega,hpr.ali,hpr.alr,h3,h4,fun x hx=>?_,h2.so,by dsimp only;omega,by dsimp only;omega,by dsimp only;omega⟩;obtain⟨a,b,s,r,q1,q2,q3,q4,q5⟩:=h2.f.sn x hx;have e3:=(List.getElem?_eq_some_iff.1 q3).1;have e4:=(List.getElem?_eq_some_iff.1 q4).1;exact⟨by omega,by omega,by omega,by omega,h2.ea x hx⟩
  obtain⟨oo,i1,i2⟩:=ybW hR;refine⟨((p.1,(X.length:Int),M,E),oo),(p.1,(X.length:Int),M,E),X,?_,⟨rfl,i2⟩,hR,rfl,by omega,?_,h6,h2.f.disc h2.nd h2.so h2.ea hpr.alr,h7⟩
  ·rw [y2Q,h1,yOb];dsimp only;rw [i1,yOb]
  ·rw [h5];have:=hpr.nn;omega
 rw [y5B,h.g3.1,y7H (by omega),yOb,hpr.nn];by_cases h0:n=0
 ·rw [if_neg (by simp;omega)];exact main [] [] ⟨Fnd.start (by simp),fun s v hv=>(by cases hv),fun s hs=>(by cases hs),List.nodup_nil,fun s hs=>(by cases hs),List.Pairwise.nil,fun x hx=>(by cases hx),fun x hx=>(by cases hx),by simp⟩ (by simp) (by simp [h0]) (fun h=>by simp at h)
 ·rw [if_pos (by simp;omega),yg (by simp),yOb];refine main [0] _ ⟨Fnd.start (by simp),fun s v hv=>?_,fun s hs=>?_,by simp,fun s hs=>?_,List.Pairwise.nil,fun x hx=>(by cases hx),fun x hx=>(by cases hx),by simp⟩ (by simp) (by simp [h0]) (fun _=>rfl)
  ·rw [y3D] at hv;split at hv
   ·rename_i e;subst e;cases hv;exact⟨0,rfl,rfl⟩
   ·cases hv
  ·rw [yMs.1 hs,y3D,if_pos rfl];rfl
  ·rw [yMs.1 hs];omega
end
structure CanOf (st:Int→Int→Option Int) (al ms:List Int) (r:AutT) (X:List Int):Prop where
 right:Right r X.length
 ale:r.1=al
 x0:0<X.length→X[0]? =some 0
 disc:Disc st al X r.2.2.2
 mkd:∀(i:Nat) (s:Int),X[i]? =some s→((i:Int)∈r.2.2.1↔s∈ms)
theorem ydr{xs ys:List Int}(hx:Inc xs)(hy:Inc ys)(h:∀x,x∈xs↔x∈ys):xs=ys:=yaf (lt:=fun a b:Int=>a<b) (fun a b h1 h2=>by omega) hx hy h
theorem SR.skips{st:Int→Int→Option Int}{al:List Int}{n i j:Nat}{T:List Int}{kn:List (Int×Int)}{E:List (Int×Int×Int)}(h:SR st al n i j T kn E){s:Int}(ht:T[i]? =some s):∀(b:Nat),j≤b→b≤al.length→(∀c (hc:c<al.length),j≤c→c<b→st s al[c]=none)→SR st al n i b T kn E
 | 0,hj,_,_=>by
  obtain rfl:j=0:=by omega
  exact h
 | b+1,hj,hb,hn=>by
  by_cases e:j=b+1
  ·subst e;exact h
  ·have hb2:b<al.length:=by omega
   exact(h.skips ht b (by omega) (by omega) fun c hc h1 h2=>hn c hc h1 (by omega)).skip ht (yGe hb2) (hn b hb2 (by omega) (by omega))
end
section
def evsOf(a:Aut):List (Nat×List (Nat×Nat)):=(List.range a.al.length).map fun i=>(i,(a.es.filter fun x=>x.e==a.al.getD i 0).map fun x=>(x.f.toNat,x.t.toNat))
def cmsOf(a:Aut)(ctrl:LI):List (Nat×List Nat):=(List.range ctrl.length).map fun k=>(k,(a.es.filter fun x=>x.e==ctrl.getD k 0).map fun x=>x.f.toNat)
def stepF(es:List Ed)(s:Nat)(e:Int):Option Nat:=(es.find? fun x=>x.f==(s:Int)&&x.e==e).map fun x=>x.t.toNat
def y6b(es:List Ed)(S:Nat×Bool)(e:Int):Nat×Bool:=match stepF es S.1 e with
 | some t=>(t,S.2)
 | none=>(S.1,true)
theorem ydP{es:List Ed}(hes:∀x∈es,0≤x.f)(s:Nat)(e:Int):(((es.filter fun x=>x.e==e).map fun x=>(x.f.toNat,x.t.toNat)).find? fun p=>p.1==s).map (·.2)=stepF es s e:=by
 unfold stepF
 induction es with
 | nil=>rfl
 | cons x es ih=>
  have h0:=hes x (yMc ..);have ih:=ih (fun y hy=>hes y (yMm _ hy));by_cases he:(x.e==e)=true
  ·rw [List.filter_cons_of_pos (p:=fun x:Ed=>x.e==e) he,List.map_cons];by_cases hf:x.f=(s:Int)
   ·rw [List.find?_cons_of_pos (by simp;omega),List.find?_cons_of_pos (by simp [hf];simpa using he)];rfl
   ·rw [List.find?_cons_of_neg (by simp;omega),List.find?_cons_of_neg (by simp [hf])];exact ih
  ·rw [List.filter_cons_of_neg (p:=fun x:Ed=>x.e==e) he,List.find?_cons_of_neg (by simp at he;simp [he])];exact ih
theorem yhg{es:List Ed}(hes:∀x∈es,0≤x.f){inp:List Bool}{i:Nat}{e:Int}(S:Nat×Bool):y7V inp (i,(es.filter fun x=>x.e==e).map fun x=>(x.f.toNat,x.t.toNat)) S=if inp.getD i false=true then y6b es S e else S:=by
 have h:=ydP hes S.1 e;unfold y7V y6b;split
 ·rw [←h];cases ((es.filter fun x=>x.e==e).map fun x=>(x.f.toNat,x.t.toNat)).find? (fun p=>p.1==S.1) <;> rfl
 ·rfl
theorem yfI{es:List Ed}(hes:∀x∈es,0≤x.f)(al:LI)(p:Int→Bool):∀(k:Nat) (S:Nat×Bool),k≤al.length→
  ((List.range k).map fun i=>(i,(es.filter fun x=>x.e==al.getD i 0).map fun x=>(x.f.toNat,x.t.toNat))).foldl (fun S x=>y7V (al.map p) x S) S=((al.take k).filter p).foldl (y6b es) S
 | 0,S,_=>by simp
 | k+1,S,hk=>by
  rw [List.range_succ,List.map_append,List.foldl_append,yfI hes al p k S (by omega),yTs (by omega),List.filter_append,List.foldl_append];simp only [List.map_cons,List.map_nil,List.foldl_cons,List.foldl_nil];rw [yhg hes];have hg:al.getD k 0=al[k]:=by rw [yGd,yGe (by omega)];rfl
  have hi:(al.map p).getD k false=p al[k]:=by rw [yGd,List.getElem?_map,yGe (by omega)];rfl
  rw [hg,hi];cases hp:p al[k] with
  | true=>rw [iP rfl,List.filter_cons_of_pos hp];rfl
  | false=>rw [iN (by simp),List.filter_cons_of_neg (by rw [hp];simp)];rfl
theorem yg5{al ev:LI}(ha:Inc al)(he:Inc ev)(hsub:∀x∈ev,x∈al):al.filter (hasB ev)=ev:=by
 refine ydr (List.Pairwise.filter _ ha) he (fun x=>?_);rw [List.mem_filter,ya];exact⟨fun h=>h.2,fun h=>⟨hsub x h,h⟩⟩
def genP(a:Aut)(ctrl:LI):List Ins:=
 genI (a.al.length+(ctrl.length+1)+a.n.toNat) (a.al.length+ctrl.length)
  ((evsOf a).map fun x=>(x.1,x.2.map fun e=>(a.al.length+(ctrl.length+1)+e.1,a.al.length+(ctrl.length+1)+e.2)))
  ((cmsOf a ctrl).map fun x=>(a.al.length+x.1,x.2.map fun y=>a.al.length+(ctrl.length+1)+y))
theorem yjm{a:Aut}{ctrl ev:LI}{n:Nat}(hn:a.n=n)(hes:∀x∈a.es,0≤x.f∧x.f<(n:Int)∧0≤x.t∧x.t<(n:Int))(ha:Inc a.al)(he:Inc ev)(hsub:∀x∈ev,x∈a.al)
  {s:Nat} {al:Bool} {b:List Bool} (hs:s<n) (hv:View a.al.length ctrl.length n (a.al.map (hasB ev)) s al b):
  View a.al.length ctrl.length n (a.al.map (hasB ev)) (ev.foldl (y6b a.es) (s,al)).1 (ev.foldl (y6b a.es) (s,al)).2 (yo (genP a ctrl) 0 false b)∧(ev.foldl (y6b a.es) (s,al)).1<n∧
  ∀k,k<ctrl.length→(yo (genP a ctrl) 0 false b).getD (a.al.length+k) false=(stepF a.es (ev.foldl (y6b a.es) (s,al)).1 (ctrl.getD k 0)).isSome:=by
 have hes0:∀x∈a.es,0≤x.f:=fun x hx=>(hes x hx).1;have h1:=yd0 (evsOf a) hv hs (fun x hx=>by
  obtain⟨i,hi,rfl⟩:=yMp.1 hx;refine⟨List.mem_range.1 hi,fun e he'=>?_⟩;obtain⟨y,hy,rfl⟩:=yMp.1 he';have:=hes y (List.mem_filter.1 hy).1;dsimp only;omega)
 have h2:(evsOf a).foldl (fun S x=>y7V (a.al.map (hasB ev)) x S) (s,al)=ev.foldl (y6b a.es) (s,al):=by
  unfold evsOf;rw [yfI hes0 a.al (hasB ev) a.al.length (s,al) (yNr _),List.take_length,yg5 ha he hsub]
 rw [h2] at h1;have h3:=yc7 (cmsOf a ctrl) h1.1 (fun x hx=>by
  obtain⟨k,hk,rfl⟩:=yMp.1 hx;refine⟨List.mem_range.1 hk,fun y hy=>?_⟩;obtain⟨z,hz,rfl⟩:=yMp.1 hy;have:=hes z (List.mem_filter.1 hz).1;omega) (by
  unfold cmsOf;rw [List.map_map];have:((fun x:Nat×List Nat=>x.1)∘fun k=>(k,(a.es.filter fun x=>x.e==ctrl.getD k 0).map fun x=>x.f.toNat))=fun k:Nat=>k:=rfl;rw [this,List.map_id'];exact List.nodup_range)
 have hev:yo (genP a ctrl) 0 false b=(cmsOf a ctrl).foldl (fun b x=>y6c (a.al.length+x.1) (x.2.map fun y=>a.al.length+(ctrl.length+1)+y) b) ((evsOf a).foldl (fun b x=>y8t x.1 (a.al.length+(ctrl.length+1)+n) (a.al.length+ctrl.length) (x.2.map fun e=>(a.al.length+(ctrl.length+1)+e.1,a.al.length+(ctrl.length+1)+e.2)) b) b):=by
  unfold genP;rw [yiR,hn,yTn,List.foldl_map,List.foldl_map]
 rw [hev];refine⟨h3.1,h1.2,fun k hk=>?_⟩;have h4:=h3.2.1 (k,(a.es.filter fun x=>x.e==ctrl.getD k 0).map fun x=>x.f.toNat) (yMp.2 ⟨k,List.mem_range.2 hk,rfl⟩);dsimp only at h4;rw [h4,Bool.eq_iff_iff,List.contains_iff_mem];unfold stepF;rw [Option.isSome_map,List.find?_isSome,yMp];constructor
 ·rintro ⟨x,hx,hxs⟩;have h5:=List.mem_filter.1 hx;have:=hes0 x h5.1;refine⟨x,h5.1,?_⟩;rw [yAe];exact⟨by simp;omega,h5.2⟩
 ·rintro ⟨x,hx,hp⟩;rw [yAe] at hp;refine⟨x,List.mem_filter.2 ⟨hx,hp.2⟩,?_⟩;have:=hp.1;simp at this;omega
structure InsOk (N W m:Nat) (i:Nat) (x:Ins):Prop where
 op:1≤x.op∧x.op≤13
 jump:11≤x.op→(i:Int)<x.arg∧x.arg≤(N:Int)
 bit:x.op≤10→0≤x.arg∧x.arg<(W:Int)
 store:7≤x.op→x.op≤10→(m:Int)≤x.arg
def LocOk(N W m:Nat)(s:Nat)(L:List Ins):Prop:=∀(k:Nat) (x:Ins),L[k]? =some x→InsOk N W m (s+k) x
theorem LocOk.append{N W m s:Nat}{L M:List Ins}(h:LocOk N W m s L)(h':LocOk N W m (s+L.length) M):LocOk N W m s (L++M):=by
 intro k x hx;by_cases hk:k<L.length
 ·exact h k x (by rwa [yAl hk] at hx)
 ·rw [yAr (by omega)] at hx;have:=h' (k-L.length) x hx;rwa [show s+L.length+(k-L.length)=s+k by omega] at this
theorem LocOk.plain{N W m s:Nat}{L:List Ins}(h:∀x∈L,1≤x.op∧x.op≤10∧0≤x.arg∧x.arg<(W:Int)∧(7≤x.op→(m:Int)≤x.arg)):LocOk N W m s L:=by
 intro k x hx;have h1:=h x (List.mem_of_getElem? hx);exact⟨by omega,fun h2=>by omega,fun _=>⟨h1.2.2.1,h1.2.2.2.1⟩,fun h2 _=>h1.2.2.2.2 h2⟩
theorem yi6{N W m:Nat}{i moved alarm:Nat}{es:List (Nat×Nat)}{s:Nat}(hN:s+(6+5*es.length)≤N)(hi:i<W)(hm:moved<W)(hm2:m≤moved)(ha:alarm<W)(ha2:m≤alarm)(he:∀e∈es,e.1<W∧m≤e.1∧e.2<W∧m≤e.2):LocOk N W m s (y7I i moved alarm es s):=by
 unfold y7I;refine LocOk.append ?_ (LocOk.plain ?_)
 ·intro k x hx
  match k,hx with
  | 0,hx=>cases hx;exact⟨by dsimp only;omega,fun h=>by simp at h,fun _=>by dsimp only;omega,fun h=>by simp at h⟩
  | 1,hx=>cases hx;exact⟨by dsimp only;omega,fun _=>⟨by show((s+1:Nat):Int)<((s+6+5*es.length:Nat):Int);omega,by show((s+6+5*es.length:Nat):Int)≤(N:Int);omega⟩,fun h=>by simp at h,fun _ h=>by simp at h⟩
  | 2,hx=>cases hx;exact⟨by dsimp only;omega,fun h=>by simp at h,fun _=>by dsimp only;omega,fun h=>by simp at h⟩
  | 3,hx=>cases hx;exact⟨by dsimp only;omega,fun h=>by simp at h,fun _=>by dsimp only;omega,fun _ _=>by dsimp only;omega⟩
  | k+4,hx=>cases hx
 ·intro x hx;rcases yMa.1 hx with h|h
  ·obtain ⟨e,hee,h⟩:=List.mem_flatMap.1 h;have:=he e hee;simp [edgeI] at h;rcases h with rfl|rfl|rfl|rfl|rfl <;> dsimp only <;> omega
  ·simp at h;rcases h with rfl|rfl <;> dsimp only <;> omega
theorem ydQ{N W m:Nat}{moved alarm:Nat}(hm:moved<W)(hm2:m≤moved)(ha:alarm<W)(ha2:m≤alarm):∀(l:List (Nat×List (Nat×Nat))) {s:Nat},s+(y1f moved alarm l s).length≤N→(∀x∈l,x.1<W∧∀e∈x.2,e.1<W∧m≤e.1∧e.2<W∧m≤e.2)→LocOk N W m s (y1f moved alarm l s)
 | [],s,_,_=>fun k x hx=>by cases hx
 | (i,es)::l,s,hN,h=>by
  rw [y1f] at hN ⊢;rw [yLa,y7b] at hN;have hx:=h (i,es) (yMc ..);refine(yi6 (es:=es) (by omega) hx.1 hm hm2 ha ha2 hx.2).append ?_;rw [y7b];exact ydQ hm hm2 ha ha2 l (by omega) (fun y hy=>h y (yMm _ hy))
theorem yfJ{N W m s:Nat}{l:List (Nat×List Nat)}(h:∀x∈l,x.1<W∧m≤x.1∧∀y∈x.2,y<W):LocOk N W m s (yH l):=by
 refine LocOk.plain fun x hx=>?_;obtain⟨c,hc,h1⟩:=List.mem_flatMap.1 hx;obtain⟨o,ms⟩:=c;have h2:=h _ hc;dsimp only at h2;cases ms with
 | nil=>
  simp [y2C] at h1;rcases h1 with rfl|rfl|rfl <;> dsimp only <;> omega
 | cons y ms=>
  simp [y2C] at h1;have hy:=h2.2.2 y (yMc ..);rcases h1 with rfl|⟨k,hk,rfl⟩|rfl
  ·dsimp only;omega
  ·have:=h2.2.2 k (yMm _ hk);dsimp only;omega
  ·dsimp only;omega
theorem ykx{a:Aut}{ctrl:LI}{n:Nat}(hn:a.n=n)(hes:∀x∈a.es,0≤x.f∧x.f<(n:Int)∧0≤x.t∧x.t<(n:Int)):
  ∀(i:Nat) (x:Ins),(genP a ctrl)[i]? =some x→InsOk (genP a ctrl).length (a.al.length+(ctrl.length+1)+(n+1)) a.al.length i x:=by
 have h1:=ydQ (N:=(genP a ctrl).length) (W:=a.al.length+(ctrl.length+1)+(n+1)) (m:=a.al.length) (moved:=a.al.length+(ctrl.length+1)+n) (alarm:=a.al.length+ctrl.length) (by omega) (by omega) (by omega) (by omega)
  ((evsOf a).map fun x=>(x.1,x.2.map fun e=>(a.al.length+(ctrl.length+1)+e.1,a.al.length+(ctrl.length+1)+e.2))) (s:=0) (by
   unfold genP genI;rw [hn,yTn,yLa];omega) (fun x hx=>by
   obtain⟨y,hy,rfl⟩:=yMp.1 hx;obtain⟨k,hk,rfl⟩:=yMp.1 hy;refine⟨by have:=List.mem_range.1 hk;dsimp only;omega,fun e he=>?_⟩;obtain⟨z,hz,rfl⟩:=yMp.1 he;obtain⟨q,hq,rfl⟩:=yMp.1 hz;have:=hes q (List.mem_filter.1 hq).1;dsimp only;omega)
 have h2:=yfJ (N:=(genP a ctrl).length) (W:=a.al.length+(ctrl.length+1)+(n+1)) (m:=a.al.length)
  (s:=0+(y1f (a.al.length+(ctrl.length+1)+n) (a.al.length+ctrl.length) ((evsOf a).map fun x=>(x.1,x.2.map fun e=>(a.al.length+(ctrl.length+1)+e.1,a.al.length+(ctrl.length+1)+e.2))) 0).length)
  (l:=(cmsOf a ctrl).map fun x=>(a.al.length+x.1,x.2.map fun y=>a.al.length+(ctrl.length+1)+y)) (fun x hx=>by
   obtain⟨y,hy,rfl⟩:=yMp.1 hx;obtain⟨k,hk,rfl⟩:=yMp.1 hy;have:=List.mem_range.1 hk;refine⟨by dsimp only;omega,by dsimp only;omega,fun z hz=>?_⟩;obtain⟨q,hq,rfl⟩:=yMp.1 hz;obtain⟨r,hr,rfl⟩:=yMp.1 hq;have:=hes r (List.mem_filter.1 hr).1;omega)
 have h3:=h1.append h2;intro i x hx;have h4:genP a ctrl=y1f (a.al.length+(ctrl.length+1)+n) (a.al.length+ctrl.length) ((evsOf a).map fun x=>(x.1,x.2.map fun e=>(a.al.length+(ctrl.length+1)+e.1,a.al.length+(ctrl.length+1)+e.2))) 0++yH ((cmsOf a ctrl).map fun x=>(a.al.length+x.1,x.2.map fun y=>a.al.length+(ctrl.length+1)+y)):=by
  unfold genP genI;rw [hn,yTn]
 rw [h4] at hx;have:=h3 i x hx;rwa [yNz] at this
theorem yeW{α:Type}(p q:α→Bool):∀(l:List α),(∀x∈l,p x=true→q x=false)→l.countP (fun x=>p x||q x)=l.countP p+l.countP q
 | [],_=>rfl
 | x::l,h=>by
  have ih:=yeW p q l (fun y hy=>h y (yMm _ hy));have hx:=h x (yMc ..);rw [List.countP_cons,List.countP_cons,List.countP_cons,ih];cases hp:p x with
  | true=>rw [hx hp];simp;omega
  | false=>cases hq:q x <;> simp;omega
theorem yeo{es:List Ed}{al:LI}(hn:al.Nodup):∀k,k≤al.length→((List.range k).map fun i=>(es.filter fun x=>x.e==al.getD i 0).length).sum=es.countP fun x=>(al.take k).contains x.e
 | 0,_=>by simp
 | k+1,hk=>by
  have ih:=yeo (es:=es) hn k (by omega);rw [List.range_succ,List.map_append,List.sum_append,ih];simp only [List.map_cons,List.map_nil,List.sum_cons,List.sum_nil,Nat.add_zero];rw [←List.countP_eq_length_filter,←yeW]
  ·apply List.countP_congr;intro x _;have ht:al.take (k+1)=al.take k++[al[k]]:=yTs (by omega);have hg:al.getD k 0=al[k]:=by rw [yGd,yGe (by omega)];rfl
   show((al.take k).contains x.e||x.e==al.getD k 0)=true↔(al.take (k+1)).contains x.e=true;rw [ht,hg,Bool.or_eq_true,List.contains_iff_mem,List.contains_iff_mem,yMa,yMs,beq_iff_eq]
  ·intro x _ hp;have hm:x.e∈al.take k:=by simpa using hp
   have hg:al.getD k 0=al[k]:=by rw [yGd,yGe (by omega)];rfl
   rw [hg,beq_eq_false_iff_ne];intro e;rw [e] at hm;obtain⟨j,hj,hje⟩:=List.mem_iff_getElem.1 hm;rw [yLt] at hj;rw [List.getElem_take] at hje;exact(yPg.1 hn j k (by omega) (by omega) (by omega)) hje
theorem yd6(moved alarm:Nat):∀(l:List (Nat×List (Nat×Nat))) (s:Nat),(y1f moved alarm l s).length=6*l.length+5*(l.map fun x=>x.2.length).sum
 | [],_=>rfl
 | (i,es)::l,s=>by
  rw [y1f,yLa,y7b,yd6 moved alarm l,List.map_cons,List.sum_cons,yLc];dsimp only;omega
theorem yc9 :∀(l:List (Nat×List Nat)),(yH l).length≤3*l.length+(l.map fun x=>x.2.length).sum
 | []=>yNr _
 | c::l=>by
  have hs:yH (c::l)=y2C c.1 c.2++yH l:=by simp [yH]
  have ih:=yc9 l;have hc:(y2C c.1 c.2).length≤3+c.2.length:=by
   cases c.2 with
   | nil=>simp [y2C]
   | cons m ms=>simp [y2C];omega
  rw [hs,yLa,List.map_cons,List.sum_cons,yLc];omega
theorem yjn{a:Aut}{ctrl:LI}(ha:Inc a.al)(hc:Inc ctrl):(genP a ctrl).length≤6*a.al.length+3*ctrl.length+6*a.es.length:=by
 have hna:a.al.Nodup:=List.Pairwise.imp (fun {x y} (h:x<y)=>by omega) ha;have hnc:ctrl.Nodup:=List.Pairwise.imp (fun {x y} (h:x<y)=>by omega) hc;have h1:=yeo (es:=a.es) hna a.al.length (yNr _);have h2:=yeo (es:=a.es) hnc ctrl.length (yNr _);have h3:=List.countP_le_length (p:=fun x:Ed=>(a.al.take a.al.length).contains x.e) (l:=a.es);have h4:=List.countP_le_length (p:=fun x:Ed=>(ctrl.take ctrl.length).contains x.e) (l:=a.es);unfold genP genI;rw [yLa,yd6];have h5:=yc9 ((cmsOf a ctrl).map fun x=>(a.al.length+x.1,x.2.map fun y=>a.al.length+(ctrl.length+1)+y));have e1:(((evsOf a).map fun x=>(x.1,x.2.map fun e=>(a.al.length+(ctrl.length+1)+e.1,a.al.length+(ctrl.length+1)+e.2))).map fun x=>x.2.length).sum=((List.range a.al.length).map fun i=>(a.es.filter fun x=>x.e==a.al.getD i 0).length).sum:=by
  unfold evsOf;rw [List.map_map,List.map_map];congr 1;apply List.map_congr_left;intro i _;simp
 have e2:(((cmsOf a ctrl).map fun x=>(a.al.length+x.1,x.2.map fun y=>a.al.length+(ctrl.length+1)+y)).map fun x=>x.2.length).sum=((List.range ctrl.length).map fun i=>(a.es.filter fun x=>x.e==ctrl.getD i 0).length).sum:=by
  unfold cmsOf;rw [List.map_map,List.map_map];congr 1;apply List.map_congr_left;intro i _;simp
 rw [e1];rw [e2] at h5;have l1:(evsOf a).length=a.al.length:=by simp [evsOf]
 have l2:(cmsOf a ctrl).length=ctrl.length:=by simp [cmsOf]
 rw [yLm,l1];rw [yLm,l2] at h5;omega
theorem yky{m c n:Nat}{inp out mem:List Bool}{s:Nat}{al:Bool}(hi:inp.length=m)(ho:out.length=c+1)(hm:mem.length=n+1)(hs:∀j,j<n→mem.getD j false=decide (j=s))(ha:out.getD c false=al):View m c n inp s al (inp++out++mem):=by
 refine⟨by simp;omega,fun j hj=>?_,fun j hj=>?_,?_⟩
 ·rw [yGd,yAa,yAl (by omega),←yGd]
 ·rw [←hs j hj,yGd,yAr (by simp;omega),yGd];congr 2;simp;omega
 ·rw [←ha,yGd,yAa,yAr (by omega),yAl (by omega),yGd];congr 2;omega
theorem View.mem{m c n:Nat}{inp:List Bool}{s:Nat}{al:Bool}{b:List Bool}(h:View m c n inp s al b):(b.drop (m+(c+1))).length=n+1∧(∀j,j<n→(b.drop (m+(c+1))).getD j false=decide (j=s)):=by
 have hl:=h.len;refine⟨by simp;omega,fun j hj=>?_⟩;rw [←h.one j hj,yGd,List.getElem?_drop,←yGd]
theorem View.out{m c n:Nat}{inp:List Bool}{s:Nat}{al:Bool}{b:List Bool}(h:View m c n inp s al b):((b.drop m).take (c+1)).length=c+1∧((b.drop m).take (c+1)).getD c false=al∧∀j,j<c+1→((b.drop m).take (c+1)).getD j false=b.getD (m+j) false:=by
 have hl:=h.len;have hg:∀j,j<c+1→((b.drop m).take (c+1)).getD j false=b.getD (m+j) false:=fun j hj=>by
  rw [yGd,List.getElem?_take,iP hj,List.getElem?_drop,←yGd]
 exact⟨by simp;omega,by rw [hg c (by omega)];exact h.al,hg⟩
end
section
open Go Go.RowKit
variable{i:Nat}{kn:List (Int×Int)}{st:Int→Int→Option Int}{al:LI}{j:Nat}{q:ProbT}{ev:LI}{n1:Nat}{d Q:LI}{T:List LI}{M C:Nat}{β:Type}
theorem yi7{l:List Bool}(hi:i<l.length):(l.set i true).count false≤l.count false∧(l[i]=false→(l.set i true).count false<l.count false):=by
 have h:=List.count_set (a:=true) (b:=false) hi;have hm:l[i]=false→0<l.count false:=fun e=>List.count_pos_iff.2 (e▸yGm hi);refine⟨?_,fun e=>?_⟩
 ·rw [h];simp
 ·have:=hm e;rw [h,e];simp;omega
abbrev LiveS(a:AutT)(x:Int):Prop:=∃k,y9G (edsOf a) a.2.2.1 k x
theorem yi8{g:GrT}{r:AutT}{N:Nat}(hg:GrOk g r)(hR:Right r N):∃b,y7s g=some b∧b.length=N∧∀k:Nat,k<N→(b[k]? =some true↔LiveS r k):=by
 have hnl:=hR.nl;have hl2:=hR.l2;have hl3:=hR.l3;have set_true:∀{u:List Bool} {i k:Nat},(u.set i true)[k]? =some true↔(i=k∧k<u.length)∨u[k]? =some true:=fun {u i k}=>by
  rw [List.getElem?_set];by_cases e:i=k
  ·subst e;rw [iP rfl];by_cases hl:i<u.length
   ·rw [iP hl];simp [hl]
   ·rw [iN hl,yGn (by omega)];simp [hl]
  ·rw [iN e];simp [e]
 obtain⟨m,h1,h2,h2s,h2m⟩:=ye (f:=y6F g) (fun i s=>s.1=(i:Int)∧s.2.length=N∧(∀k:Nat,s.2[k]? =some true→LiveS r k)∧∀c (hc:c<r.2.2.1.length),c<i→s.2[r.2.2.1[c].toNat]? =some true)
   (fun o=>o.length=N∧(∀k:Nat,o[k]? =some true→LiveS r k)∧∀x∈r.2.2.1,o[x.toNat]? =some true) r.2.2.1.length 0 (by omega) (fun i s hi ⟨e1,g1,g2,g3⟩=>by
   obtain⟨c,l⟩:=s;dsimp only at e1 g1 g2 g3;subst e1;left;have hxm:=yGm hi;have hx:=hR.msr _ hxm;obtain⟨k,hk⟩:∃k:Nat,r.2.2.1[i]=(k:Int):=⟨r.2.2.1[i].toNat,by omega⟩;rw [hk] at hx hxm;have hkl:k<l.length:=by omega
   rw [y6F,hg.1];dsimp only;rw [iP (ct_lt hi),yb hi,yOb,hk,yb hkl,yOb,y8z hkl,yOb,nxt (by omega)];refine⟨_,rfl,rfl,by simpa using g1,fun k' hk'=>?_,fun c hc hci=>?_⟩
   ·rcases set_true.1 hk' with ⟨rfl,_⟩|hk'
    ·exact ⟨0,hxm⟩
    ·exact g2 k' hk'
   ·dsimp only;rw [set_true];by_cases e:c=i
    ·subst e;rw [hk];exact .inl ⟨by omega,by omega⟩
    ·exact .inr (g3 c hc (by omega))) (fun s ⟨e1,g1,g2,g3⟩=>by
   obtain⟨c,l⟩:=s;dsimp only at e1 g1 g2 g3;subst e1;rw [y6F,hg.1];dsimp only;rw [iN ct_ge];refine⟨_,rfl,g1,g2,fun x hx=>?_⟩;obtain⟨c,hc,rfl⟩:=yGo hx;exact g3 c hc hc) (yZl _) (0,List.replicate N false) ⟨rfl,by simp,fun k hk=>(by
    rw [show ((0:Int),List.replicate N false).2[k]? =(List.replicate N false)[k]? from rfl,List.getElem?_replicate] at hk;split at hk <;> cases hk),fun c hc h=>absurd h (Nat.not_lt_zero _)⟩
 have inner:∀l:List Bool,l.length=N→(∀k:Nat,l[k]? =some true→LiveS r k)→(∀x∈r.2.2.1,l[x.toNat]? =some true)→
   ∃o,iter (y4Q g) (0,false,l)=some o∧o.2.length=N∧(∀k:Nat,o.2[k]? =some true→LiveS r k)∧(∀x∈r.2.2.1,o.2[x.toNat]? =some true)∧o.2.count false≤l.count false∧(o.1=true→o.2.count false<l.count false)∧
    (o.1=false→∀x∈r.2.2.2,o.2[x.2.2.toNat]? =some true→o.2[x.1.toNat]? =some true):=fun l hl hs hm=>by
  obtain⟨o,q0,q1,q2,q3,q4,q5,q6⟩:=ye (f:=y4Q g) (fun i s=>s.1=(i:Int)∧s.2.2.length=N∧(∀k:Nat,s.2.2[k]? =some true→LiveS r k)∧(∀x∈r.2.2.1,s.2.2[x.toNat]? =some true)∧s.2.2.count false≤l.count false∧(s.2.1=true→s.2.2.count false<l.count false)∧
    (s.2.1=false→∀c (hc:c<r.2.2.2.length),c<i→s.2.2[r.2.2.2[c].2.2.toNat]? =some true→s.2.2[r.2.2.2[c].1.toNat]? =some true))
   (fun o=>o.2.length=N∧(∀k:Nat,o.2[k]? =some true→LiveS r k)∧(∀x∈r.2.2.1,o.2[x.toNat]? =some true)∧o.2.count false≤l.count false∧(o.1=true→o.2.count false<l.count false)∧
    (o.1=false→∀c (hc:c<r.2.2.2.length),o.2[r.2.2.2[c].2.2.toNat]? =some true→o.2[r.2.2.2[c].1.toNat]? =some true)) r.2.2.2.length 0 (by omega) (fun i s hi ⟨e1,g1,gs,gm,g2,g3,g4⟩=>by
   obtain⟨c,mo,u⟩:=s;dsimp only at e1 g1 gs gm g2 g3 g4;subst e1;left;have hxm:=yGm hi;have hx:=hR.es _ hxm;obtain⟨a,ha⟩:∃k:Nat,r.2.2.2[i].1=(k:Int):=⟨r.2.2.2[i].1.toNat,by omega⟩;obtain⟨b,hb⟩:∃k:Nat,r.2.2.2[i].2.2=(k:Int):=⟨r.2.2.2[i].2.2.toNat,by omega⟩;rw [ha,hb] at hx;have hal:a<u.length:=by omega
   have hbl:b<u.length:=by omega
   rw [y4Q,hg.1];dsimp only;rw [iP (ct_lt hi),yb hi,yOb,hb,ha,yb hbl,yOb,yb hal];have hc:=yi7 hal;have hold:(u[b]=false∨u[a]=true)→(mo=false→∀c (hc:c<r.2.2.2.length),c<i+1→u[r.2.2.2[c].2.2.toNat]? =some true→u[r.2.2.2[c].1.toNat]? =some true):=fun hd hmo c hc hci h=>by
    by_cases e:c=i
    ·subst e;rw [hb,yTn,yGe hbl] at h;rcases hd with hd|hd
     ·rw [hd] at h;cases h
     ·rw [ha,yTn,yGe hal,hd]
    ·exact g4 hmo c hc (by omega) h
   cases hub:u[b]
   ·rw [iN (by simp),yOb,iN (by simp),y3q];dsimp only;rw [nxt (by omega)];exact⟨_,rfl,rfl,g1,gs,gm,g2,g3,hold (.inl hub)⟩
   ·rw [iP rfl,yOb,yOb];cases hua:u[a]
    ·rw [iP (by rfl),yOb,y8z hal,yOb,y3q];dsimp only;rw [nxt (by omega)];have:=hc.2 hua;refine⟨_,rfl,rfl,by simpa using g1,fun k hk=>?_,fun x hx=>?_,by dsimp only;omega,fun _=>by dsimp only;omega,fun h=>by cases h⟩
     ·rcases set_true.1 hk with ⟨rfl,_⟩|hk
      ·obtain ⟨j,hj⟩:=gs b (by rw [yGe hbl,hub]);exact⟨j+1,toEd r.2.2.2[i],List.mem_map_of_mem hxm,ha,by show y9G _ _ j r.2.2.2[i].2.2;rw [hb];exact hj⟩
      ·exact gs k hk
     ·exact set_true.2 (.inr (gm x hx))
    ·rw [iN (by simp),y3q];dsimp only;rw [nxt (by omega)];exact⟨_,rfl,rfl,g1,gs,gm,g2,g3,hold (.inr hua)⟩) (fun s ⟨e1,g1,gs,gm,g2,g3,g4⟩=>by
   obtain⟨c,mo,u⟩:=s;dsimp only at e1 g1 gs gm g2 g3 g4;subst e1;rw [y4Q,hg.1];dsimp only;rw [iN ct_ge];exact⟨_,rfl,g1,gs,gm,g2,g3,fun h c hc=>g4 h c hc hc⟩) (yZl _) (0,false,l) ⟨rfl,hl,hs,hm,yNr _,fun h=>(by cases h),fun _ c hc h=>absurd h (Nat.not_lt_zero _)⟩
  refine⟨o,q0,q1,q2,q3,q4,q5,fun h x hx=>?_⟩;obtain⟨c,hc,rfl⟩:=yGo hx;exact q6 h c hc
 obtain⟨o,h3,h4,h5,h6,h7⟩:=ye (f:=y6E g) (fun i s=>s.2.length=N∧(∀k:Nat,s.2[k]? =some true→LiveS r k)∧(∀x∈r.2.2.1,s.2[x.toNat]? =some true)∧(s.1=true→s.2.count false+i≤N)∧(s.1=false→∀x∈r.2.2.2,s.2[x.2.2.toNat]? =some true→s.2[x.1.toNat]? =some true))
   (fun o=>o.length=N∧(∀k:Nat,o[k]? =some true→LiveS r k)∧(∀x∈r.2.2.1,o[x.toNat]? =some true)∧∀x∈r.2.2.2,o[x.2.2.toNat]? =some true→o[x.1.toNat]? =some true) (N+1) 0 (by omega) (fun i s hi ⟨g1,gs,gm,g2,g3⟩=>by
   obtain⟨mo,u⟩:=s;dsimp only at g1 gs gm g2 g3;rw [y6E];dsimp only;cases mo
   ·right;rw [iN (by simp)];exact⟨_,rfl,g1,gs,gm,g3 rfl⟩
   ·left;obtain⟨o,k1,k2,k3,k4,k5,k6,k7⟩:=inner u g1 gs gm;rw [iP rfl,k1,yOb];refine⟨_,rfl,k2,k3,k4,fun h=>?_,k7⟩;have:=k6 h;have:=g2 rfl;omega) (fun s ⟨g1,gs,gm,g2,g3⟩=>by
   obtain⟨mo,u⟩:=s;dsimp only at g1 gs gm g2 g3;rw [y6E];dsimp only;cases mo
   ·rw [iN (by simp)];exact⟨_,rfl,g1,gs,gm,g3 rfl⟩
   ·have:=g2 rfl;omega) (yZl _) (true,m) ⟨h2,h2s,h2m,fun _=>by have:=List.count_le_length (a:=false) (l:=m);dsimp only;omega,fun h=>by cases h⟩
 refine⟨o,?_,h4,fun k hk=>⟨h5 k,?_⟩⟩
 ·rw [y7s,hg.1,hR.nn,y8R (by omega) (by omega),yOb,yTn,h1,yOb,h3];rfl
 ·rintro ⟨j,hj⟩;have key:∀(j:Nat) (x:Int),y9G (edsOf r) r.2.2.1 j x→o[x.toNat]? =some true:=by
   intro j
   induction j with
   | zero=>intro x hx;exact h6 x hx
   | succ j ih=>
    rintro x ⟨e,he,rfl,h⟩;obtain⟨y,hy,rfl⟩:=yMp.1 he;exact h7 y hy (ih _ h)
  have:=key j _ hj;rwa [yTn] at this
theorem y9e{S R:Type}{f:S→Option (S⊕(Unit⊕R))}(mk:Int→S)(n:Nat)(hn:n≤4000000)(b:Nat→Bool)(r:Nat→R)(step:∀i,i<n→f (mk (i:Int))=if b i=true then some (.inr (.inr (r i))) else some (.inl (mk ((i+1:Nat):Int))))(last:f (mk (n:Int))=some (.inr (.inl ()))):
  ∃o,iter f (mk 0)=some o∧((o= .inl ()∧∀i,i<n→b i=false)∨∃i,i<n∧o= .inr (r i)∧b i=true∧∀j,j<i→b j=false):=by
 refine ye (f:=f) (fun i s=>s=mk (i:Int)∧∀j,j<i→b j=false) _ n 0 (by omega) (fun i s hi ⟨e1,g1⟩=>?_) (fun s ⟨e1,g1⟩=>?_) (yZl _) (mk 0) ⟨rfl,fun j hj=>absurd hj (by omega)⟩
 ·subst e1;rw [step i hi];cases hb:b i with
  | true=>exact .inr ⟨_,rfl,.inr ⟨i,hi,rfl,hb,g1⟩⟩
  | false=>
   refine .inl ⟨_,by rw [iN (by simp)],rfl,fun j hj=>?_⟩;by_cases e:j=i
   ·rw [e];exact hb
   ·exact g1 j (by omega)
 ·subst e1;exact⟨_,last,.inl ⟨rfl,g1⟩⟩
theorem yds(p:Int):∃ev,y1x p=some ev∧Inc ev∧(∀x∈ev,0≤x∧x<5)∧ev.length≤5:=by
 obtain⟨o,h1,h2⟩:=ye (f:=y2U p) (fun i s=>s.1=(i:Int)∧Inc s.2∧(∀x∈s.2,0≤x∧x<(i:Int))∧s.2.length≤i) (fun o=>Inc o∧(∀x∈o,0≤x∧x<5)∧o.length≤5) 5 0 (by omega) (fun i s hi ⟨e1,e2,e3,e4⟩=>by
   obtain⟨s1,s2⟩:=s;dsimp only at e1 e2 e3 e4;subst e1;have hj:∀l:LI,y1F ((i:Int),s2) l=some (.inl (((i+1:Nat):Int),l)):=fun l=>by
    rw [y1F];dsimp only;rw [nxt (by omega)]
   left;rw [y2U];dsimp only;rw [iP (by simp;omega),show ng (i:Int)=some () from iN (by omega),yOb];split
   ·rw [yg (by simp;omega),yOb,hj];refine⟨_,rfl,rfl,?_,fun x hx=>?_,by simp;omega⟩
    ·unfold Inc at e2 ⊢;rw [List.pairwise_append];exact⟨e2,List.pairwise_singleton ..,fun a ha b hb=>by rw [yMs.1 hb];exact(e3 a ha).2⟩
    ·dsimp only at hx;rcases yMa.1 hx with h|h
     ·have:=e3 x h;omega
     ·rw [yMs.1 h];omega
   ·rw [hj];exact⟨_,rfl,rfl,e2,fun x hx=>by have:=e3 x hx;omega,by dsimp only;omega⟩) (fun s ⟨e1,e2,e3,e4⟩=>by
   obtain⟨s1,s2⟩:=s;dsimp only at e1 e2 e3 e4;subst e1;refine⟨s2,?_,e2,e3,e4⟩;rw [y2U];dsimp only;rw [iN (by simp)]) (by omega) (0,[]) ⟨rfl,yPn,fun x hx=>(by cases hx),by simp⟩
 exact⟨o,by rw [y1x,h1];rfl,h2⟩
theorem yeX{xs:LI}(h:xs.length≤1000000):y2R xs=some (xs,0,[],[]):=by
 rw [y2R,yg (by simp;omega)];rfl
theorem ygP{xs:LI}{x:Int}(hl:xs.length≤1000000):y5i xs x=some (hasB xs x):=by
 obtain⟨o,h1,h2⟩:=y9e (f:=y5A xs x) (fun i=>i) xs.length (by omega) (fun i=>xs[i]? == some x) (fun _=>()) (fun i hi=>by
  rw [y5A];rw [iP (ct_lt hi),yb hi,yOb,nxt (by omega),yGe hi];by_cases e:xs[i]=x
  ·rw [iP (by simpa using e),iP (by simpa using e)]
  ·rw [iN (by simpa using e),iN (by simpa using e)]) (by
  rw [y5A];rw [iN ct_ge])
 rw [y5i,h1,yOb];rcases h2 with ⟨rfl,h3⟩|⟨i,hi,rfl,h3,h4⟩
 ·have:hasB xs x=false:=by
   rw [←Bool.not_eq_true,ya];intro hm;obtain⟨k,hk,e⟩:=yGo hm;have:=h3 k hk;rw [yGe hk,e] at this;simp at this
  rw [this]
 ·have:hasB xs x=true:=by
   rw [ya];rw [yGe hi] at h3;have h3:xs[i]=x:=by simpa using h3
   exact h3▸yGm hi
  rw [this]
theorem yi9{xs:LI}{x:Int}(hl:xs.length≤1000000)(hm:x∈xs):∃k:Nat,y5T xs x=some (k:Int)∧xs[k]? =some x:=by
 obtain⟨o,h1,h2⟩:=y9e (f:=y4I xs x) (fun i=>i) xs.length (by omega) (fun i=>xs[i]? == some x) (fun i=>(i:Int)) (fun i hi=>by
  rw [y4I];rw [iP (ct_lt hi),yb hi,yOb,nxt (by omega),yGe hi];by_cases e:xs[i]=x
  ·rw [iP (by simpa using e),iP (by simpa using e)]
  ·rw [iN (by simpa using e),iN (by simpa using e)]) (by
  rw [y4I];rw [iN ct_ge])
 rw [y5T,h1,yOb];rcases h2 with ⟨rfl,h3⟩|⟨i,hi,rfl,h3,h4⟩
 ·exfalso;obtain⟨k,hk,e⟩:=yGo hm;have:=h3 k hk;rw [yGe hk,e] at this;simp at this
 ·exact ⟨i,rfl,by simpa using h3⟩
theorem yjo{a:AutT}{s e:Int}(h:∀x∈a.2.2.2,¬(x.1=s∧x.2.1=e)):st1 a s e=none:=by
 unfold st1;rw [Option.map_eq_none_iff,List.find?_eq_none];intro x hx;have:=h x hx;simpa using this
theorem yfK{a:AutT}{n:Nat}(hr:Right a n)(s e:Int):y4G a s e=some ((st1 a s e).getD (-1)):=by
 have hl:=hr.l3;obtain⟨o,h1,h2⟩:=y9e (f:=y4X a s e) (fun i=>i) a.2.2.2.length (by omega) (fun i=>match a.2.2.2[i]? with | some x=>x.1==s&&x.2.1==e|none=>false) (fun i=>(a.2.2.2.getD i (0,0,0)).2.2) (fun i hi=>by
  rw [y4X];rw [iP (ct_lt hi),yb hi,yOb,nxt (by omega),yGe hi,yGd,yGe hi];dsimp only [Option.getD_some];by_cases e1:a.2.2.2[i].1=s
  ·rw [iP (by simpa using e1),yOb,yOb,yOb];by_cases e2:a.2.2.2[i].2.1=e
   ·rw [iP (by simpa using e2),iP (by simp [e1,e2])]
   ·rw [iN (by simpa using e2),iN (by simp [e2])]
  ·rw [iN (by simpa using e1),yOb,iN (by simp),iN (by simp [e1])]) (by
  rw [y4X];rw [iN ct_ge])
 rw [y4G,h1,yOb];rcases h2 with ⟨rfl,h3⟩|⟨i,hi,rfl,h3,h4⟩
 ·rw [yjo fun x hx hxx=>?_]
  ·rfl
  ·obtain ⟨k,hk,e'⟩:=yGo hx;have:=h3 k hk;rw [yGe hk,e'] at this;simp [hxx.1,hxx.2] at this
 ·rw [yGe hi] at h3;have h3:a.2.2.2[i].1=s∧a.2.2.2[i].2.1=e:=by simpa using h3
  have:st1 a s e=some a.2.2.2[i].2.2:=by
   rw [y7l hr,←h3.1,←h3.2];exact yGm hi
  rw [this,yGd,yGe hi];rfl
section
variable{a:AutT}{n:Nat}
theorem yjp(hr:Right a n)(hal:a.1.length≤32){y:LI}{X:LI}{E:List (Int×Int×Int)}(hS:SR (st1 a) a.1 n i 0 X kn E)(hi:i<X.length):
  ∃kn' X' E',iter (y3c a ((i:Int),y)) (0,X)=some X'∧SR (st1 a) a.1 n (i+1) 0 X' kn' E'∧∃U,X'=X++U:=by
 have hnl:=hr.nl;obtain⟨o,h1,kn',E',hS',hU⟩:=ye (f:=y3c a ((i:Int),y)) (fun j s=>s.1=(j:Int)∧∃kn E,SR (st1 a) a.1 n i j s.2 kn E∧∃U,s.2=X++U) (fun o=>∃kn E,SR (st1 a) a.1 n (i+1) 0 o kn E∧∃U,o=X++U) a.1.length 0 (by omega) (fun j s hj ⟨e1,kn1,E1,hS1,U,hU⟩=>by
   obtain⟨c,X1⟩:=s;dsimp only at e1 hS1 hU;subst e1;have hX1:=hS1.len;have hi1:i<X1.length:=by rw [hU,yLa];omega
   have hj2:∀l:LI,y3b ((j:Int),X1) l=some (.inl (((j+1:Nat):Int),l)):=fun l=>by
    rw [y3b];dsimp only;rw [nxt (by omega)]
   left;rw [y3c];dsimp only;rw [iP (ct_lt hj),yb hi1,yOb,yb hj,yOb,yfK hr,yOb];cases hst:st1 a X1[i] a.1[j] with
   | none=>
    rw [Option.getD_none,iN (by simp),yOb,iN (by simp),hj2];exact⟨_,rfl,rfl,kn1,E1,hS1.skip (yGe hi1) (yGe hj) hst,U,hU⟩
   | some t=>
    have ht:=y6a hr hst;rw [Option.getD_some,iP (by simp;omega),ygP (by omega),yOb,yOb];by_cases hm:t∈X1
    ·obtain ⟨q,hq⟩:=List.getElem?_of_mem hm;rw [ya.2 hm,iN (by simp),hj2];exact⟨_,rfl,rfl,kn1,_,hS1.edge hr.ali hj (yGe hi1) hst hq,U,hU⟩
    ·have hb:hasB X1 t=false:=by rw [←Bool.not_eq_true,ya];exact hm
     rw [hb,iP (by simp),yg (by simp;omega),yOb,hj2];have hk:kget kn1 t=none:=by
      cases hk:kget kn1 t with
      | none=>rfl
      | some v=>
       obtain⟨q,_,hq⟩:=hS1.k1 _ _ hk;exact absurd (List.mem_of_getElem? hq) hm
     exact⟨_,rfl,rfl,_,_,hS1.new hr.ali hj (yGe hi1) hst hk ht.2.2.1 ht.2.2.2.1,U++[t],by dsimp only;rw [hU,yAa]⟩) (fun s ⟨e1,kn1,E1,hS1,hU⟩=>by
   obtain⟨c,X1⟩:=s;dsimp only at e1 hS1 hU;subst e1;rw [y3c];dsimp only;rw [iN ct_ge];exact⟨_,rfl,kn1,E1,hS1.next (yNr _) hal,hU⟩) (yZl _) (0,X) ⟨rfl,kn,E,hS,[],(List.append_nil _).symm⟩
 exact⟨kn',o,E',h1,hS',hU⟩
theorem yjq(hr:Right a n)(h0:0<n):∃X kn E,y5S a=some X∧SR (st1 a) a.1 n X.length 0 X kn E∧X[0]? =some 0:=by
 have hnl:=hr.nl;have hal:a.1.length≤32:=Alp.len ⟨hr.ali,hr.alr⟩;have hS0:SR (st1 a) a.1 n 0 0 [0] (kput [] 0 0) []:=by
  refine⟨Fnd.start (by simp),fun s v hv=>?_,fun s hs=>?_,by simp,fun s hs=>?_,yPn,fun x hx=>(by cases hx),fun x hx=>(by cases hx),by simp⟩
  ·rw [y3D] at hv;split at hv
   ·rename_i e;subst e;cases hv;exact⟨0,rfl,rfl⟩
   ·cases hv
  ·rw [yMs.1 hs,y3D,iP rfl];rfl
  ·rw [yMs.1 hs];omega
 obtain⟨o,h1,kn,E,h2,h3⟩:=ye (f:=y3d a) (fun i s=>s.1=(i:Int)∧i≤s.2.length∧∃kn E,SR (st1 a) a.1 n i 0 s.2 kn E∧s.2[0]? =some 0) (fun o=>∃kn E,SR (st1 a) a.1 n o.length 0 o kn E∧o[0]? =some 0) n 0 (by omega) (fun i s hi ⟨e1,hle,kn,E,hS,x0⟩=>by
   obtain⟨c,X⟩:=s;dsimp only at e1 hle hS x0;subst e1;have hXl:=hS.len;rw [y3d];dsimp only;by_cases hix:i<X.length
   ·left;obtain⟨kn',X',E',w1,w2,U,hU⟩:=yjp hr hal (y:=X) hS hix;rw [iP (ct_lt hix),w1,yOb,nxt (by omega)];exact⟨_,rfl,rfl,by dsimp only;rw [hU,yLa];omega,kn',E',w2,by dsimp only;rw [hU,yAl (by omega)];exact x0⟩
   ·right;obtain rfl:i=X.length:=by omega
    rw [iN ct_ge];exact⟨_,rfl,kn,E,hS,x0⟩) (fun s ⟨e1,hle,kn,E,hS,x0⟩=>by
   obtain⟨c,X⟩:=s;dsimp only at e1 hle hS x0;subst e1;have hXl:=hS.len;have hX:n=X.length:=by omega
   rw [y3d];dsimp only;rw [iN (by simp;omega)];exact⟨_,rfl,kn,E,by rw [←hX];exact hX▸hS,x0⟩) (yZl _) (0,[0]) ⟨rfl,by simp,kput [] 0 0,[],hS0,rfl⟩
 refine⟨o,kn,E,?_,h2,h3⟩;rw [y5S,iP (by rw [hr.nn];simp;omega),yg (by simp),yOb,y4H,show iter (y3d a) (0,([]:LI)++[0])=some o from h1];rfl
structure EL (st:Int→Int→Option Int) (al X:LI) (i j:Nat) (E:List (Int×Int×Int)):Prop where
 so:E.Pairwise fun x y=>x.1<y.1∨(x.1=y.1∧x.2.1<y.2.1)
 ei:∀x∈E,x.1<(i:Int)∨(x.1=(i:Int)∧∃b,∃hb:b<al.length,b<j∧al[b]=x.2.1)
 sn:∀x∈E,∃(a q:Nat) (t r:Int),x.1=(a:Int)∧x.2.2=(q:Int)∧X[a]? =some t∧X[q]? =some r∧x.2.1∈al∧st t x.2.1=some r
 ed:∀(a b:Nat) (t e r:Int),(a<i∨(a=i∧b<j))→X[a]? =some t→al[b]? =some e→st t e=some r→∃q:Nat,((a:Int),e,(q:Int))∈E∧X[q]? =some r
 el:E.length≤32*i+j
theorem EL.skip{X:LI}{E:List (Int×Int×Int)}(h:EL st al X i j E){s e:Int}(ht:X[i]? =some s)(he:al[j]? =some e)(hs:st s e=none):EL st al X i (j+1) E:=by
 refine⟨h.so,fun x hx=>?_,h.sn,fun a b t' e' r hab ha hb hst=>?_,by have:=h.el;omega⟩
 ·rcases h.ei x hx with h1|⟨h1,b,hb,h2,h3⟩
  ·exact .inl h1
  ·exact .inr ⟨h1,b,hb,by omega,h3⟩
 ·by_cases hx:a=i∧b=j
  ·obtain ⟨rfl,rfl⟩:=hx;rw [ht] at ha;rw [he] at hb;cases ha;cases hb;rw [hs] at hst;cases hst
  ·exact h.ed a b t' e' r (by omega) ha hb hst
theorem EL.edge{X:LI}{E:List (Int×Int×Int)}(h:EL st al X i j E)(ia:Inc al)(hj:j<al.length){s v:Int}{q:Nat}(ht:X[i]? =some s)(hs:st s al[j]=some v)(hq:X[q]? =some v):EL st al X i (j+1) (E++[((i:Int),al[j],(q:Int))]):=by
 refine⟨?_,fun x hx=>?_,fun x hx=>?_,fun a b t' e' r hab ha hb hst=>?_,by have:=h.el;rw [yLa,List.length_singleton];omega⟩
 ·rw [List.pairwise_append];refine⟨h.so,List.pairwise_singleton _ _,fun x hx y hy=>?_⟩;rw [yMs.1 hy];rcases h.ei x hx with h1|⟨h1,b,hb,h2,h3⟩
  ·exact .inl h1
  ·refine .inr ⟨h1,?_⟩;rw [←h3];exact yPg.1 ia b j hb hj h2
 ·rcases yMa.1 hx with hx|hx
  ·rcases h.ei x hx with h1|⟨h1,b,hb,h2,h3⟩
   ·exact .inl h1
   ·exact .inr ⟨h1,b,hb,by omega,h3⟩
  ·rw [yMs.1 hx];exact .inr ⟨rfl,j,hj,by omega,rfl⟩
 ·rcases yMa.1 hx with hx|hx
  ·exact h.sn x hx
  ·rw [yMs.1 hx];exact⟨i,q,s,v,rfl,rfl,ht,hq,yGm hj,hs⟩
 ·by_cases hx:a=i∧b=j
  ·obtain ⟨rfl,rfl⟩:=hx;rw [ht] at ha;rw [yGe hj] at hb;cases ha;cases hb;rw [hs] at hst;cases hst;exact⟨q,yMr _ (yMs.2 rfl),hq⟩
  ·obtain ⟨q',g1,g2⟩:=h.ed a b t' e' r (by omega) ha hb hst;exact⟨q',yMl _ g1,g2⟩
theorem EL.next{X:LI}{E:List (Int×Int×Int)}(h:EL st al X i j E)(hj:al.length≤j)(hj2:j≤32):EL st al X (i+1) 0 E:=
 ⟨h.so,fun x hx=>by
  rcases h.ei x hx with h1|⟨h1,_⟩
  ·exact .inl (by omega)
  ·exact .inl (by omega),h.sn,fun a b t e r hab ha hb hst=>h.ed a b t e r (by have:=(yGs.1 hb).1;omega) ha hb hst,by have:=h.el;omega⟩
theorem yia(hr:Right a n)(hal:a.1.length≤32){X:LI}{E0:List (Int×Int×Int)}(hS:SR (st1 a) a.1 n X.length 0 X kn E0)(hi:i<X.length){ms:LI}{y E:List (Int×Int×Int)}(hE:EL (st1 a) a.1 X i 0 E):
  ∃E',iter (y1U a X ((i:Int),ms,y)) (0,E)=some E'∧EL (st1 a) a.1 X (i+1) 0 E':=by
 have hnl:=hr.nl;have hXl:=hS.len;refine ye (f:=y1U a X ((i:Int),ms,y)) (fun j s=>s.1=(j:Int)∧EL (st1 a) a.1 X i j s.2) (fun o=>EL (st1 a) a.1 X (i+1) 0 o) a.1.length 0 (by omega) (fun j s hj ⟨e1,hE1⟩=>?_) (fun s ⟨e1,hE1⟩=>?_) (yZl _) (0,E) ⟨rfl,hE⟩
 ·obtain ⟨c,E1⟩:=s;dsimp only at e1 hE1;subst e1;have hel:=hE1.el;have hj2:∀l:List (Int×Int×Int),y1T ((j:Int),E1) l=some (.inl (((j+1:Nat):Int),l)):=fun l=>by
   rw [y1T];dsimp only;rw [nxt (by omega)]
  left;rw [y1U];dsimp only;rw [iP (ct_lt hj),yb hi,yOb,yb hj,yOb,yfK hr,yOb];cases hst:st1 a X[i] a.1[j] with
  | none=>
   rw [Option.getD_none,iN (by simp),hj2];exact⟨_,rfl,rfl,hE1.skip (yGe hi) (yGe hj) hst⟩
  | some t=>
   have ht:=y6a hr hst;obtain⟨q,_,hq⟩:=hS.f.ed i j X[i] a.1[j] t (.inl hi) (yGe hi) (yGe hj) hst;obtain⟨k,hk,hk2⟩:=yi9 (xs:=X) (x:=t) (by omega) (List.mem_of_getElem? hq);rw [Option.getD_some,iP (by simp;omega),yOb,hk,yOb,yg (by simp;omega),yOb,hj2];exact⟨_,rfl,rfl,hE1.edge hr.ali hj (yGe hi) hst hk2⟩
 ·obtain ⟨c,E1⟩:=s;dsimp only at e1 hE1;subst e1;rw [y1U];dsimp only;rw [iN ct_ge];exact⟨_,rfl,hE1.next (yNr _) hal⟩
theorem yib(hr:Right a n)(h0:0<n):∃r X,y4t a=some r∧CanOf (st1 a) a.1 a.2.2.1 r X∧0<X.length∧X.length≤n:=by
 have hnl:=hr.nl;have hl1:=hr.l1;have hl2:=hr.l2;have hal:a.1.length≤32:=Alp.len ⟨hr.ali,hr.alr⟩;obtain⟨X,kn,E0,hf,hS,x0⟩:=yjq hr h0;have hXl:=hS.len;have hX0:0<X.length:=(yGs.1 x0).1;obtain⟨o,h1,hE,m1,m2,mk⟩:=ye (f:=y3o a X) (fun i s=>s.1=(i:Int)∧i≤X.length∧EL (st1 a) a.1 X i 0 s.2.2∧Inc s.2.1∧(∀x∈s.2.1,0≤x∧x<(i:Int))∧∀(c:Nat) (x:Int),c<i→X[c]? =some x→((c:Int)∈s.2.1↔x∈a.2.2.1))
   (fun o=>EL (st1 a) a.1 X X.length 0 o.2∧Inc o.1∧(∀x∈o.1,0≤x∧x<(X.length:Int))∧∀(c:Nat) (x:Int),X[c]? =some x→((c:Int)∈o.1↔x∈a.2.2.1)) X.length 0 (by omega) (fun i s hi ⟨e1,_,hE,m1,m2,mk⟩=>by
   obtain⟨c,M,E⟩:=s;dsimp only at e1 hE m1 m2 mk;subst e1;have hMl:=y4p (n:=i) (lo:=0) m1 m2 (Int.le_refl _);have hj1:∀M':LI,Inc M'→(∀x∈M',0≤x∧x<((i+1:Nat):Int))→(∀x:Int,x≠(i:Int)→(x∈M'↔x∈M))→((i:Int)∈M'↔X[i]∈a.2.2.1)→
     ∃s',y1V a X ((i:Int),M,E) M'=some (.inl s')∧s'.1=((i+1:Nat):Int)∧i+1≤X.length∧EL (st1 a) a.1 X (i+1) 0 s'.2.2∧Inc s'.2.1∧(∀x∈s'.2.1,0≤x∧x<((i+1:Nat):Int))∧∀(c:Nat) (x:Int),c<i+1→X[c]? =some x→((c:Int)∈s'.2.1↔x∈a.2.2.1):=fun M' q1 q2 q3 q4=>by
    obtain⟨E',w1,w2⟩:=yia hr hal hS hi (ms:=M) (y:=E) hE;rw [y1V];dsimp only;rw [w1,yOb,nxt (by omega)];refine⟨_,rfl,rfl,hi,w2,q1,q2,fun c x hc hx=>?_⟩;dsimp only;by_cases e:c=i
    ·subst e;rw [yGe hi] at hx;cases hx;exact q4
    ·rw [q3 _ (by omega)];exact mk c x (by omega) hx
   left;rw [y3o];dsimp only;rw [iP (ct_lt hi),yb hi,yOb,ygP (by omega),yOb];cases hm:hasB a.2.2.1 X[i] with
   | true=>
    rw [iP rfl,yg (by simp;omega),yOb];refine hj1 _ ?_ (fun x hx=>?_) (fun x hx=>?_) ⟨fun _=>ya.1 hm,fun _=>yMr _ (yMs.2 rfl)⟩
    ·unfold Inc at m1 ⊢;rw [List.pairwise_append];exact⟨m1,List.pairwise_singleton _ _,fun c hc b hb=>by rw [yMs.1 hb];exact(m2 c hc).2⟩
    ·rcases yMa.1 hx with hx|hx
     ·have:=m2 x hx;omega
     ·rw [yMs.1 hx];omega
    ·rw [yMa,yMs];exact⟨fun h=>h.resolve_right hx,.inl⟩
   | false=>
    rw [iN (by simp)];refine hj1 M m1 (fun x hx=>by have:=m2 x hx;omega) (fun x _=>Iff.rfl) ⟨fun hx=>by have:=m2 _ hx;omega,fun hx=>?_⟩;rw [ya.2 hx] at hm;cases hm) (fun s ⟨e1,_,hE,m1,m2,mk⟩=>by
   obtain⟨c,M,E⟩:=s;dsimp only at e1 hE m1 m2 mk;subst e1;rw [y3o];dsimp only;rw [iN ct_ge];exact⟨_,rfl,hE,m1,m2,fun c x hx=>mk c x (yGs.1 hx).1 hx⟩) (yZl _) (0,[],[]) ⟨rfl,yZl _,⟨yPn,fun x hx=>(by cases hx),fun x hx=>(by cases hx),fun a b t e r hab=>by omega,by simp⟩,yPn,fun x hx=>(by cases hx),fun c x hc=>absurd hc (Nat.not_lt_zero _)⟩
 obtain⟨M,E⟩:=o;dsimp only at hE m1 m2 mk;have hMl:=y4p (n:=X.length) (lo:=0) m1 m2 (Int.le_refl _);have hD:=hS.f.disc hS.nd hS.so hS.ea hr.alr;have hEE:E=E0:=yaf (lt:=fun x y=>x.1<y.1∨(x.1=y.1∧x.2.1<y.2.1)) (fun a b h1 h2=>by omega) hE.so hD.so fun x=>by
  have same:∀{a q q':Nat} {t r r':Int},X[a]? =some t→X[q]? =some r→X[q']? =some r→q=q':=fun {a q q' t r r'} _ h1 h2=>by
   have e1:=(yGs.1 h1).2;have e2:=(yGs.1 h2).2;exact(List.getElem_inj hS.nd).1 (e1.trans e2.symm)
  constructor
  ·intro hx;obtain⟨c,q,t,r,g1,g2,g3,g4,g5,g6⟩:=hE.sn x hx;obtain⟨q',k1,k2⟩:=hD.ed c t x.2.1 r g3 g5 g6;have:=same (r':=r) g3 g4 k2;subst this;rw [←g1,←g2] at k1;exact k1
  ·intro hx;obtain⟨c,q,t,r,g1,g2,g3,g4,g5,g6⟩:=hD.sn x hx;obtain⟨b,hb,hbe⟩:=yGo g5;obtain⟨q',k1,k2⟩:=hE.ed c b t x.2.1 r (.inl (yGs.1 g3).1) g3 (by rw [yGe hb,hbe]) g6;have:=same (r':=r) g3 g4 k2;subst this;rw [←g1,←g2] at k1;exact k1
 subst hEE;have hEl:=hE.el;refine⟨(a.1,(X.length:Int),M,E),X,?_,⟨⟨rfl,by omega,hr.ali,hr.alr,m1,m2,fun x hx=>?_,hE.so,hl1,by dsimp only;omega,by dsimp only;omega⟩,rfl,fun _=>x0,hD,mk⟩,hX0,hXl⟩
 ·rw [y4t,hf,yOb,yeX (by omega),yOb,h1];rfl
 ·obtain ⟨c,q,t,r,g1,g2,g3,g4,g5,_⟩:=hE.sn x hx;have e3:=(yGs.1 g3).1;have e4:=(yGs.1 g4).1;exact⟨by omega,by omega,by omega,by omega,g5⟩
end
abbrev Row5 :=Int×Int×Int×Int×Int
def ycQ(g:Row5×Row5×Row5×Row5×Row5):LI:=
 [g.1.1,g.1.2.1,g.1.2.2.1,g.1.2.2.2.1,g.1.2.2.2.2,g.2.1.1,g.2.1.2.1,g.2.1.2.2.1,g.2.1.2.2.2.1,g.2.1.2.2.2.2,g.2.2.1.1,g.2.2.1.2.1,g.2.2.1.2.2.1,g.2.2.1.2.2.2.1,g.2.2.1.2.2.2.2,g.2.2.2.1.1,g.2.2.2.1.2.1,g.2.2.2.1.2.2.1,g.2.2.2.1.2.2.2.1,g.2.2.2.1.2.2.2.2,g.2.2.2.2.1,g.2.2.2.2.2.1,g.2.2.2.2.2.2.1,g.2.2.2.2.2.2.2.1,g.2.2.2.2.2.2.2.2]
structure GrIn (g:y1h):Prop where
 s:0≤g.1∧g.1<256
 c:∀y∈ycQ g.2.2,0≤y∧y<256
structure MG (ev:LI) (n i j:Nat) (E:List (Int×Int×Int)):Prop where
 er:∀x∈E,0≤x.1∧x.1≤(i:Int)∧x.2.1∈ev∧0≤x.2.2∧x.2.2<(n:Int)
 es:∀x∈E,x.1=(i:Int)→∃b,∃hb:b<ev.length,b<j∧ev[b]=x.2.1
 so:E.Pairwise fun x y=>x.1<y.1∨(x.1=y.1∧x.2.1<y.2.1)
 el:E.length≤5*i+j
theorem MG.push{n:Nat}{E:List (Int×Int×Int)}{q:Int}(h:MG ev n i j E)(ie:Inc ev)(hj:j<ev.length)(h0:0≤q)(h1:q<(n:Int)):MG ev n i (j+1) (E++[((i:Int),ev[j],q)]):=by
 refine⟨fun x hx=>?_,fun x hx e=>?_,?_,by have:=h.el;rw [yLa,List.length_singleton];omega⟩
 ·rcases yMa.1 hx with hx|hx
  ·exact h.er x hx
  ·rw [yMs.1 hx];exact⟨by dsimp only;omega,by dsimp only;omega,yGm hj,h0,h1⟩
 ·rcases yMa.1 hx with hx|hx
  ·obtain ⟨b,hb,h2,h3⟩:=h.es x hx e;exact⟨b,hb,by omega,h3⟩
  ·rw [yMs.1 hx];exact⟨j,hj,by omega,rfl⟩
 ·rw [List.pairwise_append];refine⟨h.so,List.pairwise_singleton _ _,fun a ha b hb=>?_⟩;rw [yMs.1 hb];have h2:=h.er a ha;by_cases e:a.1=(i:Int)
  ·obtain ⟨b,hb,h3,h4⟩:=h.es a ha e;refine .inr ⟨e,?_⟩;rw [←h4];exact yPg.1 ie b j hb hj h3
  ·exact .inl (by dsimp only;omega)
theorem MG.skip{n:Nat}{E:List (Int×Int×Int)}(h:MG ev n i j E):MG ev n i (j+1) E:=⟨h.er,fun x hx e=>by
 obtain⟨b,hb,h2,h3⟩:=h.es x hx e;exact⟨b,hb,by omega,h3⟩,h.so,by have:=h.el;omega⟩
theorem MG.next{n:Nat}{E:List (Int×Int×Int)}(h:MG ev n i j E)(hj:j≤5):MG ev n (i+1) 0 E:=⟨fun x hx=>by
 have:=h.er x hx;exact⟨this.1,by omega,this.2.2⟩,fun x hx e=>by have:=h.er x hx;omega,h.so,by have:=h.el;omega⟩
theorem yfL(ie:Inc ev)(he:∀x∈ev,0≤x∧x<32)(hel:ev.length≤5){g:y1h}(hg:GrIn g):∃r n,y4J ev g=some r∧Right r n∧n≤5∧r.1=ev:=by
 obtain⟨s,m,c⟩:=g;obtain⟨hs,hc⟩:=hg;dsimp only at hs hc;rw [y4J,yeX (by omega)];dsimp only;by_cases h250:s≥250
 ·rw [iP (by simpa using h250),yOb];exact⟨_,0,rfl,⟨rfl,by omega,ie,he,yPn,fun x hx=>(by cases hx),fun x hx=>(by cases hx),yPn,by dsimp only;omega,by simp,by simp⟩,by omega,rfl⟩
 rw [iN (by simpa using h250),yOb];obtain⟨n,hn0,hn5,hn⟩:∃n:Nat,0<n∧n≤5∧W (1+W (s.tmod 5))=(n:Int):=by
  refine⟨(1+s % 5).toNat,by omega,by omega,?_⟩;rw [Int.tmod_eq_emod_of_nonneg hs.1,W_of (x:=s % 5) (by omega) (by omega),W_of (by omega) (by omega)];omega
 have hn2:W ((n:Int)+2)=((n+2:Nat):Int):=by rw [show (n:Int)+2=((n+2:Nat):Int) by omega,W_nat (by omega)]
 rw [hn];obtain⟨o,h1,m1,m2,hM⟩:=ye (f:=y4Z ev (s,m,c)) (fun i t=>t.1=(i:Int)∧Inc t.2.1∧(∀x∈t.2.1,0≤x∧x<(i:Int))∧MG ev n i 0 t.2.2) (fun o=>Inc o.1∧(∀x∈o.1,0≤x∧x<(n:Int))∧MG ev n n 0 o.2) n 0 (by omega) (fun i t hi ⟨e1,m1,m2,hM⟩=>by
   obtain⟨t1,t2,t3⟩:=t;dsimp only at e1 m1 m2 hM;subst e1;have hMl:=y4p (n:=i) (lo:=0) m1 m2 (Int.le_refl _);have hj:∀l:LI,Inc l→(∀x∈l,0≤x∧x<((i+1:Nat):Int))→∃s',y3u ev (s,m,c) ((i:Int),t2,t3) l=some (.inl s')∧s'.1=((i+1:Nat):Int)∧Inc s'.2.1∧(∀x∈s'.2.1,0≤x∧x<((i+1:Nat):Int))∧MG ev n (i+1) 0 s'.2.2:=by
    intro l hl1 hl2;obtain⟨o,h1,h2⟩:=ye (f:=y4Y ev (s,m,c) ((i:Int),t2,t3)) (fun k t=>t.1=(k:Int)∧MG ev n i k t.2) (fun o=>MG ev n i ev.length o) ev.length 0 (by omega) (fun k t hk ⟨g1,g2⟩=>by
      obtain⟨u1,u2⟩:=t;dsimp only at g1 g2;subst g1;have hel2:=g2.el;have hj2:∀l:List (Int×Int×Int),y3t ((k:Int),u2) l=some (.inl (((k+1:Nat):Int),l)):=fun l=>by
       rw [y3t];dsimp only;rw [nxt (by omega)]
      left;have hlt:i*5+k*1<(ycQ c).length:=by show _<25;omega
      obtain⟨v,hcell,hv⟩:∃v,(ycQ c)[i*5+k*1]? =some v∧0≤v∧v<256:=⟨_,yGe hlt,hc _ (yGm hlt)⟩;rw [ycQ] at hcell;rw [y4Y];dsimp only;rw [iP (by simp;omega),show rng (i:Int) 5=some () from iP (by simp;omega),yOb,show rng (k:Int) 5=some () from iP (by simp;omega),yOb,yTn,yTn,hcell,yOb,hn,hn2,show nz ((n+2:Nat):Int)=some () from iN (by omega),yOb,W_of (x:=v) (by omega) (by omega),Int.tmod_eq_emod_of_nonneg hv.1];have hm0:=Int.emod_nonneg v (show ((n+2:Nat):Int)≠0 by omega);by_cases hlt2:v % ((n+2:Nat):Int)<(n:Int)
      ·rw [iP (decide_eq_true hlt2),yb hk,yOb,yg (by rw [yLc,List.length_nil];omega),yOb,hj2];exact⟨_,rfl,rfl,g2.push ie hk hm0 hlt2⟩
      ·rw [iN (by simpa using hlt2),hj2];exact⟨_,rfl,rfl,g2.skip⟩) (fun t ⟨g1,g2⟩=>by
      obtain⟨u1,u2⟩:=t;dsimp only at g1 g2;subst g1;rw [y4Y];dsimp only;rw [iN (by simp)];exact⟨_,rfl,g2⟩) (yZl _) (0,t3) ⟨rfl,hM⟩
    rw [y3u];dsimp only;rw [h1,yOb,nxt (by omega)];exact⟨_,rfl,rfl,hl1,hl2,h2.next hel⟩
   left;rw [y4Z];dsimp only;rw [hn,iP (by simp;omega),show ng (i:Int)=some () from iN (by omega),yOb];split
   ·rw [yg (by simp;omega),yOb];refine hj _ ?_ (fun x hx=>?_)
    ·unfold Inc at m1 ⊢;rw [List.pairwise_append];exact⟨m1,List.pairwise_singleton _ _,fun c hc b hb=>by rw [yMs.1 hb];exact(m2 c hc).2⟩
    ·rcases yMa.1 hx with hx|hx
     ·have:=m2 x hx;omega
     ·rw [yMs.1 hx];omega
   ·exact hj _ m1 (fun x hx=>by have:=m2 x hx;omega)) (fun t ⟨e1,m1,m2,hM⟩=>by
   obtain⟨t1,t2,t3⟩:=t;dsimp only at e1 m1 m2 hM;subst e1;rw [y4Z];dsimp only;rw [hn,iN (by simp)];exact⟨_,rfl,m1,m2,hM⟩) (yZl _) (0,[],[]) ⟨rfl,yPn,fun x hx=>(by cases hx),⟨fun x hx=>(by cases hx),fun x hx=>(by cases hx),yPn,by simp⟩⟩
 obtain⟨M,E⟩:=o;dsimp only at m1 m2 hM;have hMl:=y4p (n:=n) (lo:=0) m1 m2 (Int.le_refl _);have hel2:=hM.el;have hR:Right (ev,(n:Int),M,E) n:=⟨rfl,by omega,ie,he,m1,m2,fun x hx=>by
  have h:=hM.er x hx;refine⟨h.1,?_,h.2.2.2.1,h.2.2.2.2,h.2.2.1⟩;by_cases e:x.1=(n:Int)
  ·obtain ⟨b,_,hb,_⟩:=hM.es x hx e;omega
  ·omega,hM.so,by dsimp only;omega,by dsimp only;omega,by dsimp only;omega⟩
 obtain⟨r,X,hc1,hc2,hc3,hc4⟩:=yib hR hn0;rw [h1,yOb,hc1,yOb];exact⟨r,X.length,rfl,hc2.right,by omega,hc2.ale⟩
structure PbOk (q:ProbT) (n1 n2:Nat):Prop where
 rP:Right q.1 n1
 rS:Right q.2.1 n2
 l1:n1≤40
 l2:n2≤40
 sub:∀x∈q.2.1.1,x∈q.1.1
 iu:Inc q.2.2
 ur:∀x∈q.2.2,0≤x∧x<32
theorem PbOk.open{n2:Nat}(h:PbOk q n1 n2):∃t p T n1 n2 n,y2x q=some (some t,0)∧TaskOk q t p T n1 n2 n∧yx [q.1,q.2.1]=some (p,T,0):=by
 have hu:=Alp.len ⟨h.iu,h.ur⟩;refine yi2 ⟨h.rP.l1,h.rP.l2,h.rP.l3,h.rS.l1,h.rS.l2,h.rS.l3,by omega⟩ ?_ (by rw [h.rP.nn];have:=h.l1;omega) (by rw [h.rS.nn];have:=h.l2;omega);have hm:mg (fun a b=>a && !b) q.2.1.1 q.1.1= []:=List.eq_nil_iff_forall_not_mem.2 fun x hx=>by
  rw [(y5t (fun a b=>a && !b) q.2.1.1 q.1.1 h.rS.ali h.rP.ali).2] at hx;obtain⟨_,h2⟩:=hx;rw [yAe,ya] at h2;have:=ya.2 (h.sub x h2.1);rw [this] at h2;simp at h2
 unfold errP;rw [h.rP.err,h.rS.err,hm,iN (by simp),iN (by simp),iN (by simp)];exact y7y h.iu h.ur (fun q hq=>by cases hq)
abbrev PartT :=Int×y1h
abbrev Des26 :=PartT×PartT×Int
structure Des26In (d:Des26):Prop where
 g1:GrIn d.1.2
 g2:GrIn d.2.1.2
theorem yic{d:Des26}(hd:Des26In d):∃q n1 n2,y6A d=some q∧PbOk q n1 n2∧n1≤5∧n2≤5∧∀x∈q.1.1,0≤x∧x<5:=by
 obtain⟨e1,a1,i1,r1,z1⟩:=yds d.1.1;obtain⟨P,n1,b1,R1,s1,t1⟩:=yfL i1 (fun x hx=>by have:=r1 x hx;omega) z1 hd.g1;obtain⟨e2,a2,i2,r2,z2⟩:=yds d.2.1.1;have hsp:=y5t (fun a b=>a&&b) e2 P.1 i2 R1.ali;have hmem:∀x,x∈mg (fun a b=>a&&b) e2 P.1→x∈e2∧x∈P.1:=fun x hx=>by
  have:=(hsp.2 x).1 hx;simp only [yAe] at this;exact⟨ya.1 this.2.1,ya.1 this.2.2⟩
 have hl:=y4p (n:=5) (lo:=0) hsp.1 (fun x hx=>r2 x (hmem x hx).1) (Int.le_refl _);obtain⟨S,n2,b2,R2,s2,t2⟩:=yfL hsp.1 (fun x hx=>by have:=r2 x (hmem x hx).1;omega) (by omega) hd.g2;obtain⟨e3,a3,i3,r3,z3⟩:=yds d.2.2;refine⟨(P,S,e3),n1,n2,?_,⟨R1,R2,by omega,by omega,fun x hx=>?_,i3,fun x hx=>by have:=r3 x hx;omega⟩,s1,s2,fun x hx=>?_⟩
 ·rw [y6A,a1,yOb,b1,yOb,a2,yOb,yeU (by omega) R1.l1,yOb,b2,yOb,a3];rfl
 ·dsimp only at hx;rw [t2] at hx;exact(hmem x hx).2
 ·dsimp only at hx;rw [t1] at hx;exact r1 x hx
def stK(a:AutT)(g:List Bool)(s e:Int):Option Int:=(st1 a s e).filter fun t=>g.getD t.toNat false
theorem ydt{a:AutT}{n:Nat}(hr:Right a n){g:List Bool}{s e t:Int}:stK a g s e=some t↔(s,e,t)∈a.2.2.2∧g.getD t.toNat false=true:=by
 unfold stK;rw [Option.filter_eq_some_iff,y7l hr]
theorem yjr{a:AutT}{n:Nat}(hr:Right a n)(hE32:a.1.length≤32){g:List Bool}{s:Nat}{X:LI}{E:List (Int×Int×Int)}(hS:SR (stK a g) a.1 n i 0 X kn E)(hi:X[i]? =some (s:Int))(M:LI){os:List (Int×Int×Int)}(hos:os=a.2.2.2.filter fun x=>x.1==(s:Int)&&g.getD x.2.2.toNat false):
  ∃kn' X' E',iter (y1b ((i:Int),X,kn,M,E) os) (0,X,kn,E)=some (X',kn',E')∧SR (stK a g) a.1 n (i+1) 0 X' kn' E'∧∃U,X'=X++U:=by
 have hnl:=hr.nl;have hl3:=hr.l3;have hil:i<X.length:=(yGs.1 hi).1;have hmem:∀x∈os,x∈a.2.2.2∧x.1=(s:Int)∧g.getD x.2.2.toNat false=true:=fun x hx=>by
  rw [hos] at hx;have:=List.mem_filter.1 hx;rw [yAe] at this;exact⟨this.1,by simpa using this.2.1,this.2.2⟩
 have hso:os.Pairwise fun x y=>x.2.1<y.2.1:=by
  have h:=hr.so.filter (fun x=>x.1==(s:Int)&&g.getD x.2.2.toNat false);rw [←hos] at h;refine h.imp_of_mem fun {x y} hx hy hxy=>?_;have:=(hmem x hx).2.1;have:=(hmem y hy).2.1;omega
 have hol:os.length≤1000000:=by rw [hos];exact Nat.le_trans (List.length_filter_le _ _) hl3
 have hin:∀{e t:Int},stK a g (s:Int) e=some t→((s:Int),e,t)∈os:=fun {e t} h=>by
  rw [hos];have:=(ydt hr).1 h;exact List.mem_filter.2 ⟨this.1,by simp only [beq_self_eq_true,Bool.true_and];exact this.2⟩
 obtain⟨o,h1,j,hS',hU,hj,hlast⟩:=ye (f:=y1b ((i:Int),X,kn,M,E) os)
  (fun k s'=>s'.1=(k:Int)∧k≤os.length∧∃j,SR (stK a g) a.1 n i j s'.2.1 s'.2.2.1 s'.2.2.2∧(∃U,s'.2.1=X++U)∧j≤a.1.length∧
   (∀c (hc:c<a.1.length),c<j→∀k' (hk:k'<os.length),k≤k'→os[k'].2.1≠a.1[c])∧∀k' (hk:k'<os.length),k'<k→∀c (hc:c<a.1.length),j≤c→os[k'].2.1≠a.1[c])
  (fun o=>∃j,SR (stK a g) a.1 n i j o.1 o.2.1 o.2.2∧(∃U,o.1=X++U)∧j≤a.1.length∧∀k' (hk:k'<os.length),∀c (hc:c<a.1.length),j≤c→os[k'].2.1≠a.1[c])
  os.length 0 (by omega) (fun k s' hk ⟨e1,_,j,hS',⟨U,hU⟩,hj,hlo,hhi⟩=>by
   obtain⟨c',X1,kn',E1⟩:=s';dsimp only at e1 hS' hU;subst e1;have hx:=hmem _ (yGm hk);have hxe:=hr.es _ hx.1;obtain⟨t,ht⟩:∃t:Nat,os[k].2.2=(t:Int):=⟨os[k].2.2.toNat,by omega⟩;have htn:t<n:=by omega
   obtain⟨b,hb,hbe⟩:=yGo hxe.2.2.2.2;have hjb:j≤b:=Nat.le_of_not_lt fun hlt=>hlo b hb hlt k hk (yNr _) hbe.symm;have hiX:X1[i]? =some (s:Int):=by rw [hU,yAl hil];exact hi
   have hstx:stK a g (s:Int) a.1[b]=some (t:Int):=by
    rw [ydt hr,hbe,←ht];refine⟨?_,hx.2.2⟩;rw [←hx.2.1];exact hx.1
   have hSb:=hS'.skips hiX b hjb (by omega) fun c hc h1 h2=>by
    cases hst:stK a g (s:Int) a.1[c] with
    | none=>rfl
    | some v=>
     exfalso;obtain⟨k',hk',e'⟩:=yGo (hin hst);have ev:os[k'].2.1=a.1[c]:=by rw [e']
     have hcb:a.1[c]<a.1[b]:=yPg.1 hr.ali c b hc hb h2;by_cases h3:k'<k
     ·exact hhi k' hk' h3 c hc h1 ev
     ·by_cases h4:k'=k
      ·subst h4;omega
      ·have:=yPg.1 hso k k' hk hk' (by omega);omega
   have hpos:∀(X2:LI) (E2:List (Int×Int×Int)) (kn2:List (Int×Int)),SR (stK a g) a.1 n i (b+1) X2 kn2 E2→(∃U,X2=X++U)→
     (∃j,SR (stK a g) a.1 n i j X2 kn2 E2∧(∃U,X2=X++U)∧j≤a.1.length∧
   (∀c (hc:c<a.1.length),c<j→∀k' (hk:k'<os.length),k+1≤k'→os[k'].2.1≠a.1[c])∧∀k' (hk:k'<os.length),k'<k+1→∀c (hc:c<a.1.length),j≤c→os[k'].2.1≠a.1[c]):=fun X2 E2 kn2 g1 g3=>by
    refine⟨b+1,g1,g3,hb,fun c hc h1 k' hk' h2 e=>?_,fun k' hk' h2 c hc h1 e=>?_⟩
    ·have h5:=yPg.1 hso k k' hk hk' (by omega);by_cases h6:c=b
     ·subst h6;omega
     ·have:=yPg.1 hr.ali c b hc hb (by omega);omega
    ·have h5:=yPg.1 hr.ali b c hb hc (by omega);by_cases h6:k'=k
     ·subst h6;omega
     ·have:=yPg.1 hso k' k hk' hk (by omega);omega
   have hXl:=hSb.len;have hEl:=hSb.el;have hil2:i<n:=by have:=(yGs.1 hiX).1;omega
   have hj2:∀(X2:LI) (v:Int) (kn2:List (Int×Int)),y1a ((i:Int),X,kn,M,E) os[k] ((k:Int),X1,kn',E1) X2 v kn2=some (.inl (((k+1:Nat):Int),X2,kn2,E1++[((i:Int),os[k].2.1,v)])):=fun X2 v kn2=>by
    rw [y1a];dsimp only;rw [yg (by simp;omega),yOb,nxt (by omega)]
   left;rw [y1b];dsimp only;rw [iP (ct_lt hk),yb hk,yOb,ht];cases hkg:kget kn' (t:Int) with
   | none=>
    rw [iP (by simp),yg (by simp;omega),yOb,hj2];refine⟨_,rfl,rfl,hk,?_⟩;dsimp only;rw [←hbe];exact hpos _ _ _ (hSb.new hr.ali hb hiX hstx hkg (by omega) (by omega)) ⟨U++[(t:Int)],by rw [hU,yAa]⟩
   | some v=>
    obtain⟨q,hv,hq⟩:=hSb.k1 _ _ hkg;subst hv;rw [iN (by simp),hj2];refine⟨_,rfl,rfl,hk,?_⟩;dsimp only;rw [←hbe,Option.getD_some];exact hpos _ _ _ (hSb.edge hr.ali hb hiX hstx hq) ⟨U,hU⟩) (fun s' ⟨e1,_,j,hS',hU,hj,hlo,hhi⟩=>by
   obtain⟨c',X1,kn',E1⟩:=s';dsimp only at e1 hS' hU;subst e1;refine⟨(X1,kn',E1),?_,j,hS',hU,hj,fun k' hk' c hc hjc=>hhi k' hk' hk' c hc hjc⟩;rw [y1b];dsimp only;rw [iN ct_ge]) (yZl _) (0,X,kn,E) ⟨rfl,yZl _,0,hS,⟨[],(List.append_nil _).symm⟩,yZl _,fun c hc h=>absurd h (Nat.not_lt_zero _),fun k' hk' h=>absurd h (Nat.not_lt_zero _)⟩
 obtain⟨X',kn',E'⟩:=o;obtain⟨U,hU⟩:=hU;dsimp only at hS' hU;have hiX:X'[i]? =some (s:Int):=by rw [hU,yAl hil];exact hi
 have hSe:=hS'.skips hiX a.1.length hj (yNr _) fun c hc h1 _=>by
  cases hst:stK a g (s:Int) a.1[c] with
  | none=>rfl
  | some v=>
   exfalso;obtain⟨k',hk',e'⟩:=yGo (hin hst);exact hlast k' hk' c hc h1 (by rw [e'])
 exact⟨kn',X',E',h1,hSe.next (yNr _) hE32,U,hU⟩
theorem yhh{a:AutT}{n:Nat}(hr:Right a n){g:List Bool}(hg:g.length=n)(p:AutT×LI×List (Int×LI)×List Bool)(hp1:p.1=a)(hp2:p.2.2.2=g):
  ∃R:List EdgL,iter (y1e p) (0,List.replicate n [])=some R∧R.length=n∧∀s:Nat,s<n→R[s]? =some (a.2.2.2.filter fun x=>x.1==(s:Int)&&g.getD x.2.2.toNat false):=by
 subst hp1 hp2;have hl3:=hr.l3;have hnl:=hr.nl;obtain⟨R,h1,h2,h3⟩:=ye (f:=y1e p) (fun i s=>s.1=(i:Int)∧i≤p.1.2.2.2.length∧s.2.length=n∧∀t:Nat,t<n→s.2[t]? =some ((p.1.2.2.2.take i).filter fun x=>x.1==(t:Int)&&p.2.2.2.getD x.2.2.toNat false))
  (fun R=>R.length=n∧∀t:Nat,t<n→R[t]? =some (p.1.2.2.2.filter fun x=>x.1==(t:Int)&&p.2.2.2.getD x.2.2.toNat false)) p.1.2.2.2.length 0 (by omega) (fun i s hi ⟨e1,_,hl,hR⟩=>by
   obtain⟨c,R⟩:=s;dsimp only at e1 hl hR;subst e1;have hx:=hr.es _ (yGm hi);obtain⟨q,hq⟩:∃q:Nat,(p.1.2.2.2[i]).1=(q:Int):=⟨(p.1.2.2.2[i]).1.toNat,by omega⟩;obtain⟨t,ht⟩:∃t:Nat,(p.1.2.2.2[i]).2.2=(t:Int):=⟨(p.1.2.2.2[i]).2.2.toNat,by omega⟩;have hqn:q<n:=by omega
   have htn:t<p.2.2.2.length:=by omega
   have hql:q<R.length:=by omega
   have hRq:R[q]=(p.1.2.2.2.take i).filter fun x=>x.1==(q:Int)&&p.2.2.2.getD x.2.2.toNat false:=by
    have:=hR q hqn;rw [yGe hql] at this;exact ySi this
   have hgt:p.2.2.2.getD (p.1.2.2.2[i]).2.2.toNat false=p.2.2.2[t]:=by
    rw [ht,yTn,yGd,yGe htn,Option.getD_some]
   have htake:p.1.2.2.2.take (i+1)=p.1.2.2.2.take i++[p.1.2.2.2[i]]:=by rw [List.take_add_one,yGe hi];rfl
   left;rw [y1e];dsimp only;rw [iP (ct_lt hi),yb hi,yOb,ht,yb htn,yOb];cases hgb:p.2.2.2[t] with
   | true=>
    have hlen:R[q].length≤1000000:=by rw [hRq];exact Nat.le_trans (List.length_filter_le _ _) (Nat.le_trans (List.length_take_le _ _) (by omega))
    rw [iP rfl,hq,yb hql,yOb,yg (by simp;omega),yOb,yOb,y8z hql,yOb,y1d];dsimp only;rw [nxt (by omega)];refine⟨_,rfl,rfl,hi,by dsimp only;rw [List.length_set];exact hl,fun s' hs'=>?_⟩;dsimp only;rw [List.getElem?_set,htake,List.filter_append];by_cases e:q=s'
    ·subst e;rw [iP rfl,iP hql,hRq,List.filter_cons_of_pos (by rw [hq,hgt,hgb];simp)];rfl
    ·rw [iN e,List.filter_cons_of_neg (by rw [hq];simp;omega),List.filter_nil,List.append_nil];exact hR s' hs'
   | false=>
    rw [iN (by simp),y1d];dsimp only;rw [nxt (by omega)];refine⟨_,rfl,rfl,hi,hl,fun s' hs'=>?_⟩;dsimp only;rw [htake,List.filter_append,List.filter_cons_of_neg (by rw [hgt,hgb];simp),List.filter_nil,List.append_nil];exact hR s' hs') (fun s ⟨e1,_,hl,hR⟩=>by
   obtain⟨c,R⟩:=s;dsimp only at e1 hl hR;subst e1;refine⟨R,?_,hl,fun t ht=>by have:=hR t ht;rwa [List.take_length] at this⟩;rw [y1e];dsimp only;rw [iN ct_ge]) (yZl _) (0,List.replicate n []) ⟨rfl,yZl _,by simp,fun t ht=>by simp [List.getElem?_replicate,ht]⟩
 exact⟨R,h1,h2,h3⟩
theorem yjs{a:AutT}{n:Nat}(hr:Right a n){g:List Bool}(hg:g.length=n)(p:AutT×LI×List (Int×LI)×List Bool)(hp1:p.1=a)(hp2:p.2.2.2=g):
  ∃r X,y2L p=some (r,X)∧CanOf (stK a g) a.1 a.2.2.1 r X∧X.length≤n∧∀s∈X,0≤s∧s<(n:Int)∧g.getD s.toNat false=true:=by
 subst hp1 hp2;have hnn:=hr.nn;have hnl:=hr.nl;have hl1:=hr.l1;have hal:p.1.1.length≤32:=Alp.len ⟨hr.ali,hr.alr⟩;have hcl:yB p.1.1=some p.1.1:=y7H (by omega);have hemp:∃r X,some ((p.1.1,(0:Int),([]:LI),([]:List (Int×Int×Int))),([]:LI))=some (r,X)∧CanOf (stK p.1 p.2.2.2) p.1.1 p.1.2.2.1 r X∧X.length≤n∧∀s∈X,0≤s∧s<(n:Int)∧p.2.2.2.getD s.toNat false=true:=
  ⟨_,[],rfl,⟨⟨rfl,by simp,hr.ali,hr.alr,yPn,fun x hx=>(by cases hx),fun x hx=>(by cases hx),yPn,hl1,by simp,by simp⟩,rfl,fun h=>absurd h (by simp),(Fnd.start (by simp)).disc List.nodup_nil yPn (fun x hx=>(by cases hx)) hr.alr,fun i s hi=>by simp at hi⟩,by simp,fun s hs=>by cases hs⟩
 rw [y2L,hcl,yOb,hnn];by_cases h0:n=0
 ·subst h0;rw [iP (by simp),yOb,iP rfl];exact hemp
 have hg0:0<p.2.2.2.length:=by omega
 rw [iN (by simp;omega),show idx p.2.2.2 0=some p.2.2.2[0] from yb hg0,yOb,yOb];cases hb:p.2.2.2[0] with
 | false=>
  rw [iP (show (!false)=true from rfl)];exact hemp
 | true=>
 obtain⟨R,f1,f2,f3⟩:=yhh hr hg p rfl rfl;have hS0:SR (stK p.1 p.2.2.2) p.1.1 n 0 0 [0] (kput [] 0 0) []:=by
  refine⟨Fnd.start (by simp),fun s v hv=>?_,fun s hs=>?_,by simp,fun s hs=>?_,yPn,fun x hx=>(by cases hx),fun x hx=>(by cases hx),by simp⟩
  ·rw [y3D] at hv;split at hv
   ·rename_i e;subst e;cases hv;exact⟨0,rfl,rfl⟩
   ·cases hv
  ·rw [yMs.1 hs,y3D,iP rfl];rfl
  ·rw [yMs.1 hs];omega
 obtain⟨o,g1,kn,g2,g3,g4,g5,g6⟩:=ye (f:=y1c p R) (fun i s=>s.1=(i:Int)∧i≤s.2.1.length∧SR (stK p.1 p.2.2.2) p.1.1 n i 0 s.2.1 s.2.2.1 s.2.2.2.2∧Inc s.2.2.2.1∧(∀x∈s.2.2.2.1,0≤x∧x<(i:Int))∧s.2.1[0]? =some 0∧∀(c:Nat) (x:Int),c<i→s.2.1[c]? =some x→((c:Int)∈s.2.2.2.1↔x∈p.1.2.2.1))
  (fun o=>∃kn,SR (stK p.1 p.2.2.2) p.1.1 n o.1.length 0 o.1 kn o.2.2∧Inc o.2.1∧(∀x∈o.2.1,0≤x∧x<(o.1.length:Int))∧o.1[0]? =some 0∧∀(c:Nat) (x:Int),o.1[c]? =some x→((c:Int)∈o.2.1↔x∈p.1.2.2.1)) n 0 (by omega) (fun i s hi ⟨e1,hle,hS,m1,m2,x0,mk⟩=>by
   obtain⟨k,X,kn,M,E⟩:=s;dsimp only at e1 hle hS m1 m2 x0 mk;subst e1;have hXl:=hS.len;have hMl:=y4p (n:=i) (lo:=0) m1 m2 (Int.le_refl _);by_cases hiq:i<X.length
   ·left;have hq:=hS.tr _ (yGm hiq);obtain⟨s,hs⟩:∃s:Nat,X[i]=(s:Int):=⟨X[i].toNat,by omega⟩;have hsn:s<n:=by omega
    have hsR:s<R.length:=by omega
    have hRs:R[s]=p.1.2.2.2.filter fun x=>x.1==(s:Int)&&p.2.2.2.getD x.2.2.toNat false:=by
     have:=f3 s hsn;rw [yGe hsR] at this;exact ySi this
    obtain⟨kn',X',E',w1,w2,U,hU⟩:=yjr hr hal hS (by rw [yGe hiq,hs]) M hRs;have hpre:∀c,c<X.length→X'[c]? =X[c]? :=fun c hc=>by rw [hU,yAl hc]
    have hXX:X.length≤X'.length:=by rw [hU];simp
    have hiX':i<X'.length:=by omega
    have hXi:X'[i]=(s:Int):=by
     have:=hpre i hiq;rw [yGe hiq,yGe hiX',hs] at this;exact ySi this
    have hml:p.1.2.2.1.length<4611686018427387904:=by have:=hr.l2;omega
    have hj1:∀M':LI,Inc M'→(∀x∈M',0≤x∧x<((i+1:Nat):Int))→(∀x:Int,x≠(i:Int)→(x∈M'↔x∈M))→((i:Int)∈M'↔(s:Int)∈p.1.2.2.1)→
      ∃s',yZ ((i:Int),X,kn,M,E) X' kn' M' E'=some (.inl s')∧s'.1=((i+1:Nat):Int)∧i+1≤s'.2.1.length∧SR (stK p.1 p.2.2.2) p.1.1 n (i+1) 0 s'.2.1 s'.2.2.1 s'.2.2.2.2∧Inc s'.2.2.2.1∧(∀x∈s'.2.2.2.1,0≤x∧x<((i+1:Nat):Int))∧s'.2.1[0]? =some 0∧∀(c:Nat) (x:Int),c<i+1→s'.2.1[c]? =some x→((c:Int)∈s'.2.2.2.1↔x∈p.1.2.2.1):=fun M' q1 q2 q3 q4=>by
     rw [yZ];dsimp only;rw [nxt (by omega)];refine⟨_,rfl,rfl,by dsimp only;omega,w2,q1,q2,?_,fun c x hc hx=>?_⟩
     ·dsimp only;rw [hpre 0 (by omega)];exact x0
     ·dsimp only at hx ⊢;rw [hpre c (by omega)] at hx;by_cases e:c=i
      ·subst e;rw [yGe hiq,hs] at hx;cases hx;exact q4
      ·rw [q3 _ (by omega)];exact mk c x (by omega) hx
    rw [y1c];dsimp only;rw [iP (ct_lt hiq),yb hiq,yOb,hs,yb hsR,yOb,w1,yOb];dsimp only;rw [yb hiX',yOb,hXi,yG hml,yOb];cases hm:hasB p.1.2.2.1 (s:Int) with
    | true=>
     rw [iP rfl,yg (by simp;omega),yOb];refine hj1 _ ?_ (fun x hx=>?_) (fun x hx=>?_) ⟨fun _=>ya.1 hm,fun _=>yMr _ (yMs.2 rfl)⟩
     ·unfold Inc at m1 ⊢;rw [List.pairwise_append];exact⟨m1,List.pairwise_singleton _ _,fun c hc b hb=>by rw [yMs.1 hb];exact(m2 c hc).2⟩
     ·rcases yMa.1 hx with hx|hx
      ·have:=m2 x hx;omega
      ·rw [yMs.1 hx];omega
     ·rw [yMa,yMs];exact⟨fun h=>h.resolve_right hx,.inl⟩
    | false=>
     rw [iN (by simp)];refine hj1 M m1 (fun x hx=>by have:=m2 x hx;omega) (fun x _=>Iff.rfl) ⟨fun hx=>by have:=m2 _ hx;omega,fun hx=>?_⟩;rw [ya.2 hx] at hm;cases hm
   ·right;obtain rfl:i=X.length:=by omega
    refine⟨(X,M,E),?_,kn,hS,m1,m2,x0,fun c x hx=>mk c x (yGs.1 hx).1 hx⟩;rw [y1c];dsimp only;rw [iN ct_ge]) (fun s ⟨e1,hle,hS,m1,m2,x0,mk⟩=>by
   obtain⟨k,X,kn,M,E⟩:=s;dsimp only at e1 hle hS m1 m2 x0 mk;subst e1;have hXl:=hS.len;have hnq:n=X.length:=by omega
   refine⟨(X,M,E),?_,kn,by dsimp only;rw [←hnq];exact hnq▸hS,m1,by dsimp only;rw [←hnq];exact m2,x0,fun c x hx=>mk c x (by have h8:c<X.length:=(yGs.1 hx).1;omega) hx⟩;rw [y1c];dsimp only;rw [iN (by simp;omega)]) (yZl _) (0,[0],kput [] 0 0,[],[]) ⟨rfl,by simp,hS0,yPn,fun x hx=>(by cases hx),rfl,fun c x hc=>absurd hc (Nat.not_lt_zero _)⟩
 obtain⟨X,M,E⟩:=o;dsimp only at g2 g3 g4 g5 g6;have hXl:=g2.len;have hEl:=g2.el;have hMl:=y4p (n:=X.length) (lo:=0) g3 g4 (Int.le_refl _);have hX0:0<X.length:=(yGs.1 g5).1;refine⟨(p.1.1,(X.length:Int),M,E),X,?_,⟨⟨rfl,by omega,hr.ali,hr.alr,g3,g4,fun x hx=>?_,g2.so,hl1,by dsimp only;omega,by dsimp only;omega⟩,rfl,fun _=>g5,g2.f.disc g2.nd g2.so g2.ea hr.alr,g6⟩,hXl,fun s hs=>?_⟩
 ·rw [iN (by simp),y8R (by omega) (by omega),yOb,yTn,f1,yOb,g1];rfl
 ·obtain ⟨c,b,s,r,q1,q2,q3,q4,q5⟩:=g2.f.sn x hx;have e3:=(yGs.1 q3).1;have e4:=(yGs.1 q4).1;exact⟨by omega,by omega,by omega,by omega,g2.ea x hx⟩
 ·refine ⟨(g2.tr s hs).1,(g2.tr s hs).2,?_⟩;obtain⟨k,hk,rfl⟩:=yGo hs;by_cases hk0:k=0
  ·subst hk0;rw [yGe hX0] at g5;rw [ySi g5,Int.toNat_zero,yGd,yGe hg0,Option.getD_some,hb]
  ·obtain ⟨x,hx,e⟩:=g2.f.cov k (by omega) hk;obtain⟨c,b,s,r,q1,q2,q3,q4,q5⟩:=g2.f.sn x hx;obtain rfl:b=k:=by omega
   rw [yGe hk] at q4;rw [ySi q4];exact((ydt hr).1 q5).2
inductive LiveG (a:AutT) (g:List Bool):Nat→Prop
 | mk {s:Nat}:g[s]? =some true→(s:Int)∈a.2.2.1→LiveG a g s
 | st {s t:Nat} {e:Int}:g[s]? =some true→((s:Int),e,(t:Int))∈a.2.2.2→LiveG a g t→LiveG a g s
structure DQs (a:AutT) (g:List Bool) (n:Nat) (Q d:LI):Prop where
 dl:d.length=n
 qn:Q.Nodup
 qd:∀(k:Nat) (x:Int),Q[k]? =some x→∃s:Nat,x=(s:Int)∧s<n∧∃v:Int,d[s]? =some v∧0≤v∧v≤(k:Int)
 lv:∀(s:Nat) (v:Int),d[s]? =some v→0≤v→LiveG a g s
theorem DQs.len{a:AutT}{g:List Bool}{n:Nat}(h:DQs a g n Q d):Q.length≤n:=by
 have hr:∀x∈Q,0≤x∧x<(n:Int):=fun x hx=>by
  obtain⟨k,hk,rfl⟩:=yGo hx;obtain⟨s,e,h1,_⟩:=h.qd k _ (yGe hk);omega
 have:=y8P n (Q.map Int.toNat) (by
  unfold List.Nodup;rw [List.pairwise_map];refine h.qn.imp_of_mem fun {a b} ha hb hab=>?_;have h1:=hr a ha;have h2:=hr b hb;omega) (fun x hx=>by
  obtain⟨y,hy,rfl⟩:=yMp.1 hx;have:=hr y hy;omega)
 simpa using this
theorem DQs.add{a:AutT}{g:List Bool}{n:Nat}(h:DQs a g n Q d){s:Nat}(hs:s<n){v0 v:Int}(hd:d[s]? =some v0)(hv0:v0<0)(v1:0≤v)(v2:v≤(Q.length:Int))(hl:LiveG a g s):DQs a g n (Q++[(s:Int)]) (d.set s v):=by
 have hsd:s<d.length:=by rw [h.dl];exact hs
 refine⟨by rw [List.length_set];exact h.dl,?_,fun k x hx=>?_,fun t w hw h0=>?_⟩
 ·unfold List.Nodup;rw [List.pairwise_append];refine⟨h.qn,List.pairwise_singleton _ _,fun x hx y hy e=>?_⟩;rw [yMs.1 hy] at e;subst e;obtain⟨k,hk,e⟩:=yGo hx;obtain⟨s',e1,_,w,e2,e3,_⟩:=h.qd k _ (yGe hk);obtain rfl:s'=s:=by omega
  rw [hd] at e2;cases e2;omega
 ·by_cases hk:k<Q.length
  ·rw [yAl hk] at hx;obtain⟨s',e1,e2,w,e3,e4,e5⟩:=h.qd k x hx;refine⟨s',e1,e2,?_⟩;rw [List.getElem?_set];by_cases e:s=s'
   ·subst e;rw [hd] at e3;cases e3;omega
   ·rw [iN e];exact⟨w,e3,e4,e5⟩
  ·rw [yAr (by omega)] at hx;have hk2:k-Q.length=0:=by
    have:=(yGs.1 hx).1;simp at this;omega
   rw [hk2] at hx;cases hx;exact⟨s,rfl,hs,v,by rw [List.getElem?_set,iP rfl,iP hsd],v1,by omega⟩
 ·rw [List.getElem?_set] at hw;by_cases e:s=t
  ·subst e;exact hl
  ·rw [iN e] at hw;exact h.lv t w hw h0
def IncOk(a:AutT)(n:Nat)(m:List (Int×LI)):Prop:=∀(t:Int),((kget m t).getD []).length≤a.2.2.2.length∧∀x∈(kget m t).getD [],0≤x∧x<(n:Int)∧∃e,(x,e,t)∈a.2.2.2
section
variable{a:AutT}{n:Nat}{g:List Bool}{u:LI}{m:List (Int×LI)}
theorem yhi(hr:Right a n)(hg:g.length=n):∃Q d,iter (y1n (a,u,m,g)) (0,[],List.replicate n (-1))=some (Q,d)∧DQs a g n Q d:=by
 have hl2:=hr.l2;have hnl:=hr.nl;obtain⟨o,h1,h2⟩:=ye (f:=y1n (a,u,m,g)) (fun i s=>s.1=(i:Int)∧i≤a.2.2.1.length∧DQs a g n s.2.1 s.2.2∧∀(t:Nat) (v:Int),s.2.2[t]? =some v→0≤v→∃k,k<i∧a.2.2.1[k]? =some (t:Int)) (fun o=>DQs a g n o.1 o.2) a.2.2.1.length 0 (by omega) (fun i s hi ⟨e1,_,hd,hm⟩=>by
   obtain⟨c,Q,d⟩:=s;dsimp only at e1 hd hm;subst e1;have hQl:=hd.len;have hx:=hr.msr _ (yGm hi);obtain⟨t,ht⟩:∃t:Nat,a.2.2.1[i]=(t:Int):=⟨(a.2.2.1[i]).toNat,by omega⟩;have htg:t<g.length:=by omega
   have htd:t<d.length:=by rw [hd.dl];omega
   left;rw [y1n];dsimp only;rw [iP (ct_lt hi),yb hi,yOb,ht,yb htg,yOb];cases hgb:g[t] with
   | true=>
    have hgt:g[t]? =some true:=by rw [yGe htg,hgb]
    have hneg:d[t]<0:=by
     refine Int.not_le.1 fun h0=>?_;obtain⟨k,hk,e⟩:=hm t _ (yGe htd) h0;have hkl:k<a.2.2.1.length:=by omega
     rw [yGe hkl] at e;have:=yPg.1 hr.msi k i hkl hi hk;rw [ySi e,ht] at this;omega
    rw [iP rfl,yb htd,yOb,y8z htd,yOb,yg (by simp;omega),yOb,y1m];dsimp only;rw [nxt (by omega)];refine⟨_,rfl,rfl,hi,hd.add (by omega) (yGe htd) hneg (Int.le_refl _) (by omega) (.mk hgt (by rw [←ht];exact yGm hi)),fun s' v hv h0=>?_⟩;dsimp only at hv;rw [List.getElem?_set] at hv;by_cases e:t=s'
    ·subst e;exact⟨i,by omega,by rw [yGe hi,ht]⟩
    ·rw [iN e] at hv;obtain⟨k,hk,e2⟩:=hm s' v hv h0;exact⟨k,by omega,e2⟩
   | false=>
    rw [iN (by simp),y1m];dsimp only;rw [nxt (by omega)];refine⟨_,rfl,rfl,hi,hd,fun s' v hv h0=>?_⟩;obtain⟨k,hk,e2⟩:=hm s' v hv h0;exact⟨k,by omega,e2⟩) (fun s ⟨e1,_,hd,hm⟩=>by
   obtain⟨c,Q,d⟩:=s;dsimp only at e1 hd;subst e1;refine⟨(Q,d),?_,hd⟩;rw [y1n];dsimp only;rw [iN ct_ge]) (yZl _) (0,[],List.replicate n (-1)) ⟨rfl,yZl _,⟨by simp,List.nodup_nil,fun k x hx=>by simp at hx,fun s v hv h0=>by
    rw [List.getElem?_replicate] at hv;split at hv
    ·cases hv;omega
    ·cases hv⟩,fun s v hv h0=>by
    dsimp only at hv;rw [List.getElem?_replicate] at hv;split at hv
    ·cases hv;omega
    ·cases hv⟩
 exact⟨o.1,o.2,h1,h2⟩
theorem ykz(hr:Right a n)(hg:g.length=n)(hm:IncOk a n m)(hd:DQs a g n Q d)(hi:i<Q.length)(z:LI×LI):
  ∃Q' d',iter (y1k (a,u,m,g) ((i:Int),z) Q[i]) (0,Q,d)=some (Q',d')∧DQs a g n Q' d'∧Q.length≤Q'.length:=by
 have hl3:=hr.l3;have hnl:=hr.nl;obtain⟨ml,mm⟩:=hm Q[i];obtain⟨q,hq,hqn,vq,hvq,hvq0,_⟩:=hd.qd i _ (yGe hi);have hlq:=hd.lv q vq hvq hvq0;obtain⟨o,h1,h2,h3⟩:=ye (f:=y1k (a,u,m,g) ((i:Int),z) Q[i]) (fun k s=>s.1=(k:Int)∧k≤((kget m Q[i]).getD []).length∧DQs a g n s.2.1 s.2.2∧Q.length≤s.2.1.length) (fun o=>DQs a g n o.1 o.2∧Q.length≤o.1.length) ((kget m Q[i]).getD []).length 0 (by omega) (fun k s hk ⟨e1,_,hd1,hle⟩=>by
   obtain⟨c,Q1,d1⟩:=s;dsimp only at e1 hd1 hle;subst e1;have hQl:=hd1.len;obtain⟨x0,x1,e,hxe⟩:=mm _ (yGm hk);obtain⟨t,ht⟩:∃t:Nat,((kget m Q[i]).getD [])[k]=(t:Int):=⟨(((kget m Q[i]).getD [])[k]).toNat,by omega⟩;rw [ht] at hxe x1;have htg:t<g.length:=by omega
   have htd:t<d1.length:=by rw [hd1.dl];omega
   have hi1:i<Q1.length:=by omega
   have hj1:∀Q2 d2,y1j ((k:Int),Q1,d1) Q2 d2=some (.inl (((k+1:Nat):Int),Q2,d2)):=fun Q2 d2=>by
    rw [y1j];dsimp only;rw [nxt (by omega)]
   left;rw [y1k];dsimp only;rw [iP (ct_lt hk),yb hk,yOb,ht,yb htg,yOb,yb htd];cases hgb:g[t] with
   | true=>
    have hgt:g[t]? =some true:=by rw [yGe htg,hgb]
    rw [iP rfl,yOb,yOb];by_cases hneg:d1[t]<0
    ·obtain ⟨q1,e1,e2,v1,e3,e4,e5⟩:=hd1.qd i _ (yGe hi1);have hq1d:q1<d1.length:=by rw [hd1.dl];exact e2
     have hv1:d1[q1]=v1:=by
      rw [yGe hq1d] at e3;exact ySi e3
     rw [iP (by simpa using hneg),yb hi1,yOb,e1,yb hq1d,yOb,yOb,y8z htd,yOb,yg (by simp;omega),yOb,hj1];refine⟨_,rfl,rfl,hk,hd1.add (by omega) (yGe htd) hneg ?_ ?_ (.st (e:=e) hgt ?_ hlq),by dsimp only;simp;omega⟩
     ·rw [hv1,W_of (by omega) (by omega)];omega
     ·rw [hv1,W_of (by omega) (by omega)];omega
     ·rw [←hq];exact hxe
    ·rw [iN (by simpa using hneg),hj1];exact⟨_,rfl,rfl,hk,hd1,hle⟩
   | false=>
    rw [iN (by simp),yOb,iN (by simp),hj1];exact⟨_,rfl,rfl,hk,hd1,hle⟩) (fun s ⟨e1,_,hd1,hle⟩=>by
   obtain⟨c,Q1,d1⟩:=s;dsimp only at e1 hd1 hle;subst e1;refine⟨(Q1,d1),?_,hd1,hle⟩;rw [y1k];dsimp only;rw [iN ct_ge]) (yZl _) (0,Q,d) ⟨rfl,yZl _,hd,yNr _⟩
 exact⟨o.1,o.2,h1,h2,h3⟩
theorem ygQ(hr:Right a n)(hg:g.length=n)(hm:IncOk a n m):∃d,y1G (a,u,m,g)=some d∧d.length=n∧∀(s:Nat) (v:Int),d[s]? =some v→0≤v→LiveG a g s:=by
 have hnn:=hr.nn;have hnl:=hr.nl;have hf:iter (y1o (List.replicate n 0)) (0,List.replicate n 0)=some (List.replicate n (-1)):=by
  obtain⟨o,g1,rfl⟩:=ye (f:=y1o (List.replicate n 0)) (fun i s=>i≤n∧s=((i:Int),List.replicate i (-1)++List.replicate (n-i) 0)) (fun o=>o=List.replicate n (-1)) n 0 (by omega) (fun i s hi ⟨_,e1⟩=>by
    subst e1;refine .inl ⟨(((i+1:Nat):Int),List.replicate (i+1) (-1)++List.replicate (n-(i+1)) 0),?_,hi,rfl⟩;rw [y1o];dsimp only;rw [iP (by simp;omega),yb (by simp;omega),yOb,y8z (by simp;omega),yOb,nxt (by omega)];rw [List.set_append_right _ _ (by simp),List.length_replicate,Nat.sub_self,show n-i=(n-(i+1))+1 by omega,List.replicate_succ,List.set_cons_zero,List.replicate_succ',yAa];rfl) (fun s ⟨_,e1⟩=>by
    subst e1;refine⟨_,?_,rfl⟩;rw [y1o];dsimp only;rw [iN (by simp),Nat.sub_self];simp) (yZl _) (0,List.replicate n 0) ⟨yZl _,by simp⟩
  exact g1
 obtain⟨Q,d,h1,h2⟩:=yhi (u:=u) (m:=m) hr hg;obtain⟨o,h3,h4,h5⟩:=ye (f:=y1l (a,u,m,g)) (fun i s=>s.1=(i:Int)∧i≤s.2.1.length∧DQs a g n s.2.1 s.2.2) (fun o=>o.length=n∧∀(s:Nat) (v:Int),o[s]? =some v→0≤v→LiveG a g s) n 0 (by omega) (fun i s hi ⟨e1,hle,hd⟩=>by
   obtain⟨c,Q,d⟩:=s;dsimp only at e1 hd hle;subst e1;by_cases hiq:i<Q.length
   ·left;obtain⟨Q',d',w1,w2,w3⟩:=ykz (u:=u) hr hg hm hd hiq (Q,d);rw [y1l];dsimp only;rw [iP (ct_lt hiq),yb hiq,yOb,w1,yOb,nxt (by omega)];exact⟨_,rfl,rfl,by dsimp only;omega,w2⟩
   ·right;obtain rfl:i=Q.length:=by omega
    refine⟨d,?_,hd.dl,hd.lv⟩;rw [y1l];dsimp only;rw [iN ct_ge]) (fun s ⟨e1,hle,hd⟩=>by
   obtain⟨c,Q,d⟩:=s;dsimp only at e1 hd hle;subst e1;have:=hd.len;refine⟨d,?_,hd.dl,hd.lv⟩;rw [y1l];dsimp only;rw [iN (by simp;omega)]) (yZl _) (0,Q,d) ⟨rfl,yZl _,h2⟩
 refine⟨o,?_,h4,h5⟩;rw [y1G];dsimp only;rw [hnn,y8R (by omega) (by omega),yOb,yTn,hf,yOb,h1,yOb,h3];rfl
end
theorem yid :∀{g g':List Bool},g'.length=g.length→(∀s:Nat,g'[s]? =some true→g[s]? =some true)→g'.count true≤g.count true
 | [],[],_,_=>yNr _
 | [],_::_,h,_=>by simp at h
 | _::_,[],h,_=>by simp at h
 | x::g,y::g',h,hs=>by
  have ih:=yid (g:=g) (g':=g') (by simpa using h) fun s hs'=>hs (s+1) (by simpa using hs');have h0:=hs 0;cases y with
  | true=>
   have:x=true:=by simpa using h0 rfl
   subst this;simp [ih]
  | false=>cases x <;> simp <;> omega
theorem yie :∀{g g':List Bool},g'.length=g.length→(∀s:Nat,g'[s]? =some true→g[s]? =some true)→∀{s:Nat},g[s]? =some true→g'[s]? ≠some true→g'.count true<g.count true
 | [],[],_,_,s,h,_=>by simp at h
 | [],_::_,h,_,_,_,_=>by simp at h
 | _::_,[],h,_,_,_,_=>by simp at h
 | x::g,y::g',h,hs,0,h1,h2=>by
  have:=yid (g:=g) (g':=g') (by simpa using h) fun s hs'=>hs (s+1) (by simpa using hs');have hx:x=true:=by simpa using h1
  subst hx;cases y with
  | true=>exact absurd rfl h2
  | false=>simp;omega
 | x::g,y::g',h,hs,s+1,h1,h2=>by
  have:=yie (g:=g) (g':=g') (by simpa using h) (fun s hs'=>hs (s+1) (by simpa using hs')) (s:=s) (by simpa using h1) (by simpa using h2);have h0:=hs 0;cases y with
  | true=>
   have hx:x=true:=by simpa using h0 rfl
   subst hx;simp;omega
  | false=>cases x <;> simp <;> omega
theorem yhj{L:List (Int×Int×Int×Int)}(h:∀x∈L,0≤x.1∧x.1<4294967296)(hl:L.length≤4294967296):∃r,y1B L=some r:=by
 unfold y1B;by_cases h0:L= []
 ·subst h0;rw [dif_neg (by simp),iP rfl];exact⟨_,rfl⟩
 ·rw [dif_pos ⟨h,hl,List.length_pos_iff.2 h0⟩];exact⟨_,rfl⟩
def RemIn(g:List Bool)(L:List (Int×Int×Int×Int)):Prop:=∀x∈L,∃s:Nat,x.1=(s:Int)∧g[s]? =some true
theorem RemIn.app{g:List Bool}{L:List (Int×Int×Int×Int)}(h:RemIn g L){x:Int×Int×Int×Int}{s:Nat}(hx:x.1=(s:Int))(hg:g[s]? =some true):RemIn g (L++[x]):=fun y hy=>by
 rcases yMa.1 hy with hy|hy
 ·exact h y hy
 ·rw [yMs.1 hy];exact⟨s,hx,hg⟩
section
variable{a:AutT}{n:Nat}{g:List Bool}{u:LI}{m:List (Int×LI)}
theorem ykA(hr:Right a n)(hg:g.length=n)(hu:u.length<4611686018427387904)(k:Int):∃L,y4M (a,u,m,g) k=some L∧L.length≤a.2.2.2.length∧RemIn g L:=by
 have hl3:=hr.l3;have hnl:=hr.nl;obtain⟨o,h1,h2,h3⟩:=ye (f:=y3A (a,u,m,g) k) (fun i s=>s.1=(i:Int)∧i≤a.2.2.2.length∧s.2.length≤i∧RemIn g s.2) (fun o=>o.length≤a.2.2.2.length∧RemIn g o) a.2.2.2.length 0 (by omega) (fun i s hi ⟨e1,_,hL,hR⟩=>by
   obtain⟨c,L⟩:=s;dsimp only at e1 hL hR;subst e1;have hx:=hr.es _ (yGm hi);obtain⟨q,hq⟩:∃q:Nat,(a.2.2.2[i]).1=(q:Int):=⟨(a.2.2.2[i]).1.toNat,by omega⟩;obtain⟨t,ht⟩:∃t:Nat,(a.2.2.2[i]).2.2=(t:Int):=⟨(a.2.2.2[i]).2.2.toNat,by omega⟩;have hqg:q<g.length:=by omega
   have htg:t<g.length:=by omega
   have hj1:∀L':List (Int×Int×Int×Int),L'.length≤i+1→RemIn g L'→∃s',y1q ((i:Int),L) L'=some (.inl s')∧s'.1=((i+1:Nat):Int)∧i+1≤a.2.2.2.length∧s'.2.length≤i+1∧RemIn g s'.2:=fun L' g1 g2=>by
    rw [y1q];dsimp only;rw [nxt (by omega)];exact⟨_,rfl,rfl,hi,g1,g2⟩
   have hj3:g[q]? =some true→∀b,∃s',y2i k ((i:Int),L) a.2.2.2[i] b=some (.inl s')∧s'.1=((i+1:Nat):Int)∧i+1≤a.2.2.2.length∧s'.2.length≤i+1∧RemIn g s'.2:=fun hgq b=>by
    rw [y2i];cases b with
    | true=>
     rw [iP rfl];exact hj1 _ (by dsimp only;omega) hR
    | false=>
     rw [iN (by simp)];dsimp only;rw [yg (by simp;omega),yOb];exact hj1 _ (by simp;omega) (hR.app hq hgq)
   left;rw [y3A];dsimp only;rw [iP (ct_lt hi),yb hi,yOb,hq,yb hqg,yOb];cases hgb:g[q] with
   | false=>
    rw [iP (show (!false)=true from rfl),yL,iP rfl];exact hj1 _ (by dsimp only;omega) hR
   | true=>
    have hgq:g[q]? =some true:=by rw [yGe hqg,hgb]
    rw [iN (by simp),ht,yb htg,yOb];cases g[t] with
    | true=>
     rw [iP rfl,yL,iP rfl];exact hj1 _ (by dsimp only;omega) hR
    | false=>
     rw [iN (by simp),yG hu,yOb,yL];cases hasB u (a.2.2.2[i]).2.1 with
     | false=>
      rw [iP (show (!false)=true from rfl)];exact hj1 _ (by dsimp only;omega) hR
     | true=>
      rw [iN (by simp)];dsimp only;by_cases hL0:0<L.length
      ·rw [iP (by rw [decide_eq_true_eq];omega),show W ((L.length:Int)-1)=((L.length-1:Nat):Int) by rw [W_of (by omega) (by omega)];omega,yb (by omega),yOb];exact hj3 hgq _
      ·rw [iN (by rw [decide_eq_true_eq];omega)];exact hj3 hgq _) (fun s ⟨e1,_,hL,hR⟩=>by
   obtain⟨c,L⟩:=s;dsimp only at e1 hL hR;subst e1;refine⟨L,?_,hL,hR⟩;rw [y3A];dsimp only;rw [iN ct_ge]) (yZl _) (0,[]) ⟨rfl,yZl _,yZl _,fun x hx=>by cases hx⟩
 exact⟨o,by rw [y4M,h1];rfl,h2,h3⟩
theorem yhk(hr:Right a n)(hg:g.length=n)(hm:IncOk a n m)(k:Int):∃L,y3B (a,u,m,g) k=some L∧L.length≤n∧RemIn g L∧(L= []→∀s:Nat,g[s]? =some true→LiveG a g s):=by
 have hnl:=hr.nl;obtain⟨d,d1,d2,d3⟩:=ygQ (u:=u) hr hg hm;obtain⟨o,h1,h2,h3,h4⟩:=ye (f:=y2K (a,u,m,g) k d) (fun i s=>s.1=(i:Int)∧i≤n∧s.2.length≤i∧RemIn g s.2∧(s.2= []→∀t:Nat,t<i→g[t]? =some true→LiveG a g t)) (fun o=>o.length≤n∧RemIn g o∧(o= []→∀t:Nat,t<n→g[t]? =some true→LiveG a g t)) n 0 (by omega) (fun i s hi ⟨e1,_,hL,hR,hv⟩=>by
   obtain⟨c,L⟩:=s;dsimp only at e1 hL hR hv;subst e1;have hid:i<d.length:=by omega
   have hig:i<g.length:=by omega
   left;rw [y2K];dsimp only;rw [iP (by simp;omega),yb hid,yOb,yb hig,yOb];by_cases hb:g[i]=true∧d[i]<0
   ·rw [iP (by simp;exact hb),yg (by simp;omega),yOb,y1y];dsimp only;rw [nxt (by omega)];exact⟨_,rfl,rfl,hi,by simp;omega,hR.app rfl (by rw [yGe hig,hb.1]),fun h=>by simp at h⟩
   ·rw [iN (by simp;exact fun h=>Int.not_lt.1 fun h2=>hb ⟨h,h2⟩),y1y];dsimp only;rw [nxt (by omega)];refine⟨_,rfl,rfl,hi,by dsimp only;omega,hR,fun h t ht hgt=>?_⟩;by_cases e:t=i
    ·subst e;refine d3 t _ (yGe hid) (Int.not_lt.1 fun h2=>hb ⟨?_,h2⟩);rw [yGe hig] at hgt;exact ySi hgt
    ·exact hv h t (by omega) hgt) (fun s ⟨e1,_,hL,hR,hv⟩=>by
   obtain⟨c,L⟩:=s;dsimp only at e1 hL hR hv;subst e1;refine⟨L,?_,hL,hR,hv⟩;rw [y2K];dsimp only;rw [iN (by simp;omega)]) (yZl _) (0,[]) ⟨rfl,yZl _,yZl _,fun x hx=>by(cases hx),fun _ t ht=>absurd ht (Nat.not_lt_zero _)⟩
 refine⟨o,by rw [y3B,d1,yOb,h1];rfl,h2,h3,fun h s hs=>h4 h s ?_ hs⟩;rw [←hg];exact(yGs.1 hs).1
theorem yfM(hr:Right a n)(hg:g.length=n)(hm:IncOk a n m)(hu:u.length<4611686018427387904)(k:Int):∃L,y4N (a,u,m,g) k true=some L∧L.length≤1000000∧RemIn g L∧(L= []→∀s:Nat,g[s]? =some true→LiveG a g s):=by
 have hl3:=hr.l3;have hnl:=hr.nl;obtain⟨L,h1,h2,h3⟩:=ykA (m:=m) hr hg hu k;obtain⟨L',w1,w2,w3,w4⟩:=yhk (u:=u) hr hg hm k;rw [y4N,h1,yOb];by_cases h0:0<L.length
 ·rw [iP (by rw [decide_eq_true (show (L.length:Int)>0 by omega)];rfl)];exact⟨L,rfl,by omega,h3,fun h=>by rw [h] at h0;simp at h0⟩
 ·rw [iN (by rw [decide_eq_false (show ¬(L.length:Int)>0 by omega)];simp),w1];exact⟨L',rfl,by omega,w3,w4⟩
theorem yif(hr:Right a n){f:LI}(hf:∀x∈f,0≤x∧x<(n:Int))(hfl:f.length≤1000000)(u:LI):∃m g,y7q a f u=some (a,u,m,g)∧g.length=n∧IncOk a n m:=by
 have hnn:=hr.nn;have hnl:=hr.nl;have hl3:=hr.l3;have h1:iter (y4L (List.replicate n false)) (0,List.replicate n false)=some (List.replicate n true):=by
  obtain⟨o,g1,rfl⟩:=ye (f:=y4L (List.replicate n false)) (fun i s=>i≤n∧s=((i:Int),List.replicate i true++List.replicate (n-i) false)) (fun o=>o=List.replicate n true) n 0 (by omega) (fun i s hi ⟨_,e1⟩=>by
    subst e1;refine .inl ⟨(((i+1:Nat):Int),List.replicate (i+1) true++List.replicate (n-(i+1)) false),?_,hi,rfl⟩;rw [y4L];dsimp only;rw [iP (by simp;omega),yb (by simp;omega),yOb,y8z (by simp;omega),yOb,nxt (by omega)];rw [List.set_append_right _ _ (by simp),List.length_replicate,Nat.sub_self,show n-i=(n-(i+1))+1 by omega,List.replicate_succ,List.set_cons_zero,List.replicate_succ',yAa];rfl) (fun s ⟨_,e1⟩=>by
    subst e1;refine⟨_,?_,rfl⟩;rw [y4L];dsimp only;rw [iN (by simp),Nat.sub_self];simp) (yZl _) (0,List.replicate n false) ⟨yZl _,by simp⟩
  exact g1
 obtain⟨g,h2,h3⟩:=ye (f:=y6C f) (fun i s=>s.1=(i:Int)∧i≤f.length∧s.2.length=n) (fun o=>o.length=n) f.length 0 (by omega) (fun i s hi ⟨e1,_,hl⟩=>by
   obtain⟨c,g⟩:=s;dsimp only at e1 hl;subst e1;have hx:=hf _ (yGm hi);obtain⟨t,ht⟩:∃t:Nat,f[i]=(t:Int):=⟨(f[i]).toNat,by omega⟩;have htg:t<g.length:=by omega
   left;rw [y6C];dsimp only;rw [iP (ct_lt hi),yb hi,yOb,ht,yb htg,yOb,y8z htg,yOb,nxt (by omega)];exact⟨_,rfl,rfl,hi,by dsimp only;rw [List.length_set];exact hl⟩) (fun s ⟨e1,_,hl⟩=>by
   obtain⟨c,g⟩:=s;dsimp only at e1 hl;subst e1;refine⟨g,?_,hl⟩;rw [y6C];dsimp only;rw [iN ct_ge]) (yZl _) (0,List.replicate n true) ⟨rfl,yZl _,by simp⟩
 obtain⟨m,h4,h5⟩:=ye (f:=y6B a) (fun i s=>s.1=(i:Int)∧i≤a.2.2.2.length∧∀t,((kget s.2 t).getD []).length≤i∧∀x∈(kget s.2 t).getD [],0≤x∧x<(n:Int)∧∃e,(x,e,t)∈a.2.2.2) (fun o=>IncOk a n o) a.2.2.2.length 0 (by omega) (fun i s hi ⟨e1,_,hm⟩=>by
   obtain⟨c,m⟩:=s;dsimp only at e1 hm;subst e1;have hx:=hr.es _ (yGm hi);obtain⟨m1,m2⟩:=hm (a.2.2.2[i]).2.2;left;rw [y6B];dsimp only;rw [iP (ct_lt hi),yb hi,yOb,yg (by simp;omega),yOb,nxt (by omega)];refine⟨_,rfl,rfl,hi,fun t=>?_⟩;dsimp only;rw [y3D];by_cases e:t=(a.2.2.2[i]).2.2
   ·subst e;rw [iP rfl,Option.getD_some];refine⟨by simp;omega,fun x hx'=>?_⟩;rcases yMa.1 hx' with hx'|hx'
    ·exact m2 x hx'
    ·rw [yMs.1 hx'];exact⟨hx.1,hx.2.1,(a.2.2.2[i]).2.1,yGm hi⟩
   ·rw [iN e];exact⟨by have:=(hm t).1;omega,(hm t).2⟩) (fun s ⟨e1,_,hm⟩=>by
   obtain⟨c,m⟩:=s;dsimp only at e1 hm;subst e1;refine⟨m,?_,hm⟩;rw [y6B];dsimp only;rw [iN ct_ge]) (yZl _) (0,[]) ⟨rfl,yZl _,fun t=>⟨by simp [kget],fun x hx=>by simp [kget] at hx⟩⟩
 refine⟨m,g,?_,h3,h5⟩;rw [y7q,hnn,y8R (by omega) (by omega),yOb,yTn,h1,yOb,h2,yOb,h4];rfl
theorem yjt(hn:n≤4096)(hg:g.length=n){L:List (Int×Int×Int×Int)}(hL:RemIn g L)(hl:L.length≤1000000):∃g',iter (y4k L) (0,g)=some g'∧g'.length=n∧(∀s:Nat,g'[s]? =some true→g[s]? =some true)∧∀(k s:Nat) (h:k<L.length),(L[k]).1=(s:Int)→g'[s]? ≠some true:=by
 obtain⟨o,h1,h2,h3,h4⟩:=ye (f:=y4k L) (fun i s=>s.1=(i:Int)∧i≤L.length∧s.2.length=n∧(∀t:Nat,s.2[t]? =some true→g[t]? =some true)∧∀(k t:Nat) (h:k<L.length),k<i→(L[k]).1=(t:Int)→s.2[t]? ≠some true) (fun o=>o.length=n∧(∀t:Nat,o[t]? =some true→g[t]? =some true)∧∀(k t:Nat) (h:k<L.length),(L[k]).1=(t:Int)→o[t]? ≠some true) L.length 0 (by omega) (fun i s hi ⟨e1,_,q1,q2,q3⟩=>by
   obtain⟨c,g1⟩:=s;dsimp only at e1 q1 q2 q3;subst e1;obtain⟨t,ht,hgt⟩:=hL _ (yGm hi);have htl:t<g1.length:=by
    have:=(yGs.1 hgt).1;omega
   left;rw [y4k];dsimp only;rw [iP (ct_lt hi),yb hi,yOb,ht,yb htl,yOb,y8z htl,yOb,nxt (by omega)];refine⟨_,rfl,rfl,hi,by dsimp only;rw [List.length_set];exact q1,fun s' hs'=>?_,fun k s' hk hki e=>?_⟩
   ·dsimp only at hs';rw [List.getElem?_set] at hs';by_cases e2:t=s'
    ·subst e2;rw [iP rfl,iP htl] at hs';cases hs'
    ·rw [iN e2] at hs';exact q2 s' hs'
   ·dsimp only;rw [List.getElem?_set];by_cases e2:t=s'
    ·subst e2;rw [iP rfl,iP htl];simp
    ·rw [iN e2];by_cases e3:k=i
     ·subst e3;omega
     ·exact q3 k s' hk (by omega) e) (fun s ⟨e1,_,q1,q2,q3⟩=>by
   obtain⟨c,g1⟩:=s;dsimp only at e1 q1 q2 q3;subst e1;refine⟨g1,?_,q1,q2,fun k t h e=>q3 k t h h e⟩;rw [y4k];dsimp only;rw [iN ct_ge]) (yZl _) (0,g) ⟨rfl,yZl _,hg,fun t h=>h,fun k t h hk=>absurd hk (Nat.not_lt_zero _)⟩
 exact⟨o,h1,h2,h3,h4⟩
end
section
variable{a:AutT}{n:Nat}{u f:LI}
structure SynOk (a:AutT) (n:Nat) (g:List Bool) (r:AutT) (X:LI):Prop where
 gl:g.length=n
 can:CanOf (stK a g) a.1 a.2.2.1 r X
 le:X.length≤n
 kept:∀s∈X,0≤s∧s<(n:Int)∧g.getD s.toNat false=true
 live:∀s:Nat,g[s]? =some true→LiveG a g s
theorem yig(hr:Right a n)(hn:n≤40)(hf:∀x∈f,0≤x∧x<(n:Int))(hfl:f.length≤1000000)(hu:u.length<4611686018427387904):
  ∃z k g r X,y7h a f u true=some (z,k,r,X)∧SynOk a n g r X:=by
 obtain⟨m,g0,s1,s2,s3⟩:=yif hr hf hfl u;obtain⟨o1,h1,h2,h3⟩:=ye (f:=y5V f) (fun i s=>s.1=(i:Int)∧i≤f.length∧s.2.1.length≤i∧∀x∈s.2.1,0≤x.1∧x.1<(n:Int)) (fun o=>o.1.length≤f.length∧∀x∈o.1,0≤x.1∧x.1<(n:Int)) f.length 0 (by omega) (fun i s hi ⟨e1,_,q1,q2⟩=>by
   obtain⟨c,L,w⟩:=s;dsimp only at e1 q1 q2;subst e1;left;rw [y5V];dsimp only;rw [iP (ct_lt hi),yb hi,yOb,yg (by simp;omega),yOb,nxt (by omega)];refine⟨_,rfl,rfl,hi,by simp;omega,fun x hx=>?_⟩;dsimp only at hx;rcases yMa.1 hx with hx|hx
   ·exact q2 x hx
   ·rw [yMs.1 hx];exact hf _ (yGm hi)) (fun s ⟨e1,_,q1,q2⟩=>by
   obtain⟨c,L,w⟩:=s;dsimp only at e1 q1 q2;subst e1;refine⟨(L,w),?_,q1,q2⟩;rw [y5V];dsimp only;rw [iN ct_ge]) (yZl _) (0,[],0) ⟨rfl,yZl _,yZl _,fun x hx=>by cases hx⟩
 obtain⟨o2,h4,h5,h6,h7,h8⟩:=ye (f:=y5U true (a,u,m,g0)) (fun i s=>s.2.1.length≤1000000+i*1000000∧(∀x∈s.2.1,0≤x.1∧x.1<(n:Int))∧s.2.2.2.length=n∧i+s.2.2.2.count true≤n) (fun o=>o.1.length≤100000000∧(∀x∈o.1,0≤x.1∧x.1<(n:Int))∧o.2.2.length=n∧∀s:Nat,o.2.2[s]? =some true→LiveG a o.2.2 s) n 0 (by omega) (fun i s hi ⟨q1,q2,q3,q4⟩=>by
   obtain⟨c,L,w,g⟩:=s;dsimp only at q1 q2 q3 q4;obtain⟨R,r1,r2,r3,r4⟩:=yfM (u:=u) hr q3 s3 hu c;rw [y5U];dsimp only;rw [r1,yOb];by_cases h0:R= []
   ·right;subst h0;rw [iP (by simp)];exact⟨_,rfl,by dsimp only;omega,q2,q3,r4 rfl⟩
   ·left;have hRl:0<R.length:=List.length_pos_iff.2 h0;obtain⟨g',w1,w2,w3,w4⟩:=yjt (n:=n) (by omega) q3 r3 r2;rw [iN (by simp [h0]),w1,yOb,yg (by omega),yOb];obtain⟨t,ht,hgt⟩:=r3 _ (yGm hRl);have hc:=yie (by omega) w3 hgt (w4 0 t hRl ht);refine⟨_,rfl,by simp;omega,fun x hx=>?_,w2,by dsimp only;omega⟩;dsimp only at hx;rcases yMa.1 hx with hx|hx
    ·exact q2 x hx
    ·obtain ⟨s',e,hs'⟩:=r3 x hx;have:=(yGs.1 hs').1;omega) (fun s ⟨q1,q2,q3,q4⟩=>by
   obtain⟨c,L,w,g⟩:=s;dsimp only at q1 q2 q3 q4;obtain⟨R,r1,r2,r3,r4⟩:=yfM (u:=u) hr q3 s3 hu c;rw [y5U];dsimp only;rw [r1,yOb];by_cases h0:R= []
   ·subst h0;rw [iP (by simp)];exact⟨_,rfl,by dsimp only;omega,q2,q3,r4 rfl⟩
   ·exfalso;have hRl:0<R.length:=List.length_pos_iff.2 h0;obtain⟨t,ht,hgt⟩:=r3 _ (yGm hRl);have:0<g.count true:=List.count_pos_iff.2 (List.mem_of_getElem? hgt);omega) (yZl _) (2,o1.1,o1.2,g0) ⟨by dsimp only;omega,h3,s2,by
    dsimp only;have:=List.count_le_length (a:=true) (l:=g0);omega⟩
 obtain⟨rem,hrem⟩:=yhj (fun x hx=>by have:=h6 x hx;omega) (by omega:o2.1.length≤4294967296);obtain⟨d,d1,d2,d3⟩:=ygQ (u:=u) hr h7 s3;obtain⟨o3,h9⟩:∃o3,iter (y4j o2 d) (0,[],[])=some o3:=by
  obtain⟨o,w,_⟩:=ye (f:=y4j o2 d) (fun i s=>s.1=(i:Int)∧i≤n∧s.2.1.length≤i∧s.2.2.length≤i) (fun o=>True) n 0 (by omega) (fun i s hi ⟨e1,_,q1,q2⟩=>by
    obtain⟨c,A,B⟩:=s;dsimp only at e1 q1 q2;subst e1;have hid:i<d.length:=by omega
    have hig:i<o2.2.2.length:=by omega
    left;rw [y4j];dsimp only;rw [iP (by simp;omega),yb hid,yOb,yb hig,yOb];cases o2.2.2[i] with
    | true=>
     rw [iP rfl,yg (by simp;omega),yOb,yg (by simp;omega),yOb,y4i];dsimp only;rw [nxt (by omega)];exact⟨_,rfl,rfl,hi,by simp;omega,by simp;omega⟩
    | false=>
     rw [iN (by simp),y4i];dsimp only;rw [nxt (by omega)];exact⟨_,rfl,rfl,hi,by dsimp only;omega,by dsimp only;omega⟩) (fun s ⟨e1,_,q1,q2⟩=>by
    obtain⟨c,A,B⟩:=s;dsimp only at e1 q1 q2;subst e1;refine⟨(A,B),?_,trivial⟩;rw [y4j];dsimp only;rw [iN (by simp;omega)]) (yZl _) (0,[],[]) ⟨rfl,yZl _,yZl _,yZl _⟩
  exact⟨o,w⟩
 obtain⟨r,X,x1,x2,x3,x4⟩:=yjs hr h7 (a,u,m,o2.2.2) rfl rfl;refine⟨(o3.1,o3.2,rem),o2.2.1,o2.2.2,r,X,?_,h7,x2,x3,x4,h8⟩;rw [y7h,s1,yOb,h1,yOb];dsimp only;rw [h4,yOb,hrem,yOb,d1,yOb,h9,yOb,x1];rfl
theorem yl5(hr:Right a n)(hn:n≤40)(hfi:Inc f)(hf:∀x∈f,0≤x∧x<(n:Int))(hui:Inc u)(hur:∀x∈u,0≤x∧x<32):
  ∃z k g r X,y3O a f u=some ((z,k,r,X),0)∧SynOk a n g r X:=by
 have hfl:=y4p (n:=n) (lo:=0) hfi hf (Int.le_refl _);have hul:=Alp.len ⟨hui,hur⟩;obtain⟨z,k,g,r,X,h1,h2⟩:=yig hr hn hf (by omega) (u:=u) (by omega);refine⟨z,k,g,r,X,?_,h2⟩;have hc:y7p a f u=some 0:=by
  rw [y7p,yg4 hr.l1 hr.l2 hr.l3,hr.err,yOb,iN (by simp),hr.nn,ybX (by omega),y7y hfi hf (fun q hq=>by cases hq),yOb,iN (by simp),ybX (by omega),y7y hui hur (fun q hq=>by cases hq)];rfl
 rw [y3O,hc,yOb,iN (by simp),h1];rfl
theorem yeY(hr:Right a n)(s e:Int):y4K a s e=some ((st1 a s e).getD (-1)):=by
 have hl3:=hr.l3;obtain⟨o,h1,h2⟩:=ye (f:=y5a a s e) (fun i c=>c=(i:Int)∧i≤a.2.2.2.length∧∀k (h:k<a.2.2.2.length),k<i→¬((a.2.2.2[k]).1=s∧(a.2.2.2[k]).2.1=e)) (fun o=>match o with
  | .inl _=>st1 a s e=none
  | .inr t=>st1 a s e=some t) a.2.2.2.length 0 (by omega) (fun i c hi ⟨e1,_,hk⟩=>by
   subst e1;rw [y5a,iP (ct_lt hi),yb hi,yOb];by_cases hx:(a.2.2.2[i]).1=s∧(a.2.2.2[i]).2.1=e
   ·right;rw [iP (by simpa using hx.1),yOb,yOb,iP (by simpa using hx.2),yOb];refine⟨_,rfl,?_⟩;dsimp only;rw [y7l hr,←hx.1,←hx.2];exact yGm hi
   ·left;refine⟨((i+1:Nat):Int),?_,rfl,hi,fun k h hki=>?_⟩
    ·by_cases h1:(a.2.2.2[i]).1=s
     ·rw [iP (by simpa using h1),yOb,yOb,iN (by simpa using fun h2=>hx ⟨h1,h2⟩),nxt (by omega)]
     ·rw [iN (by simpa using h1),yOb,iN (by simp),nxt (by omega)]
    ·by_cases e:k=i
     ·subst e;exact hx
     ·exact hk k h (by omega)) (fun c ⟨e1,_,hk⟩=>by
   subst e1;refine⟨.inl (),by rw [y5a,iN ct_ge],?_⟩;dsimp only;cases hst:st1 a s e with
   | none=>rfl
   | some t=>
    exfalso;obtain⟨k,h,e2⟩:=yGo ((y7l hr).1 hst);exact hk k h h (by rw [e2];exact⟨rfl,rfl⟩)) (yZl _) 0 ⟨rfl,yZl _,fun k h hk=>absurd hk (Nat.not_lt_zero _)⟩
 rw [y4K,h1,yOb];cases o with
 | inl _=>dsimp only at h2 ⊢;rw [h2];rfl
 | inr t=>dsimp only at h2 ⊢;rw [h2];rfl
end
theorem LoopZ.few{P S p:AutT}{n n2:Nat}(h:LoopZ P S p T n)(hP:P.2.1=(n1:Int))(hS:S.2.1=(n2:Int)):n≤n1*n2:=by
 rw [←h.tl];have hx:∀t∈T,∃x y:Nat,t= [(x:Int),(y:Int)]∧x<n1∧y<n2:=fun t ht=>by
  obtain⟨x,y,e,g1,g2,g3,g4⟩:=h.tt t ht;exact⟨x.toNat,y.toNat,by rw [e,Int.toNat_of_nonneg g1,Int.toNat_of_nonneg g3],by omega,by omega⟩
 have:=y8P (n1*n2) (T.map fun t=>match t with
  | [x,y]=>x.toNat*n2+y.toNat
  | _=>0) (by
  unfold List.Nodup;rw [List.pairwise_map];refine h.nd.imp_of_mem fun {s t} hs ht hst=>?_;obtain⟨x,y,rfl,g1,g2⟩:=hx s hs;obtain⟨x',y',rfl,g3,g4⟩:=hx t ht;dsimp only;rw [yTn,yTn,yTn,yTn];intro e;refine hst ?_;have e1:x=x':=by
   have a1:(x*n2+y)/n2=x:=by rw [Nat.mul_comm,Nat.mul_add_div (by omega),Nat.div_eq_of_lt g2,Nat.add_zero]
   have a2:(x'*n2+y')/n2=x':=by rw [Nat.mul_comm,Nat.mul_add_div (by omega),Nat.div_eq_of_lt g4,Nat.add_zero]
   rw [←a1,e,a2]
  subst e1;have:y=y':=by omega
  rw [this]) (fun v hv=>by
  obtain⟨t,ht,rfl⟩:=yMp.1 hv;obtain⟨x,y,rfl,g1,g2⟩:=hx t ht;dsimp only;rw [yTn,yTn]
  calc x*n2+y<x*n2+n2:=by omega
   _=(x+1)*n2:=by rw [Nat.succ_mul]
   _≤n1*n2:=Nat.mul_le_mul_right _ g1)
 simpa using this
theorem ykB{n:Nat}{A:AutT}{z:Int}(hP:Right q.1 n1)(hA:Right A n)(hu:q.2.2.length≤32)(hT:∀t∈T,∃x y,t= [x,y])(hi:i<T.length){o:LI}(ho:o.length≤1000000):
  ∃o',iter (y3v q (A,T,z) ((i:Int),o)) 0=some o'∧(o'=o∨o'=o++[(i:Int)]):=by
 obtain⟨x,y,hxy⟩:=hT _ (yGm hi);obtain⟨o',h1,h2⟩:=ye (f:=y3v q (A,T,z) ((i:Int),o)) (fun j c=>c=(j:Int)∧j≤q.2.2.length) (fun o'=>o'=o∨o'=o++[(i:Int)]) q.2.2.length 0 (by omega) (fun j c hj ⟨e1,_⟩=>by
   subst e1;have hj1:∀b,(∃s',y2n ((i:Int),o) (j:Int) b=some (.inl s')∧s'=((j+1:Nat):Int)∧j+1≤q.2.2.length)∨∃o',y2n ((i:Int),o) (j:Int) b=some (.inr o')∧(o'=o∨o'=o++[(i:Int)]):=fun b=>by
    rw [y2n];cases b with
    | true=>
     right;rw [iP rfl];dsimp only;rw [yg (by simp;omega)];exact⟨_,rfl,.inr rfl⟩
    | false=>
     left;rw [iN (by simp),nxt (by omega)];exact⟨_,rfl,rfl,hj⟩
   rw [y3v];dsimp only;rw [iP (ct_lt hj),yb hj,yOb,yb hi,yOb,hxy,show idx [x,y] 0=some x from rfl,yOb,yeY hP,yOb];split
   ·rw [yeY hA,yOb];exact hj1 _
   ·exact hj1 _) (fun c ⟨e1,_⟩=>by
   subst e1;refine⟨o,?_,.inl rfl⟩;rw [y3v];dsimp only;rw [iN ct_ge]) (yZl _) 0 ⟨rfl,yZl _⟩
 exact⟨o',h1,h2⟩
theorem ykC{n:Nat}{A:AutT}{z:Int}(hP:Right q.1 n1)(hA:Right A n)(hu:q.2.2.length≤32)(hT:∀t∈T,∃x y,t= [x,y])(hl:T.length≤4000):
  ∃o,iter (y2o q (A,T,z)) (0,[])=some o∧Inc o∧∀x∈o,0≤x∧x<(T.length:Int):=by
 obtain⟨o,h1,h2,h3⟩:=ye (f:=y2o q (A,T,z)) (fun i s=>s.1=(i:Int)∧i≤T.length∧Inc s.2∧∀x∈s.2,0≤x∧x<(i:Int)) (fun o=>Inc o∧∀x∈o,0≤x∧x<(T.length:Int)) T.length 0 (by omega) (fun i s hi ⟨e1,_,q1,q2⟩=>by
   obtain⟨c,o⟩:=s;dsimp only at e1 q1 q2;subst e1;have hol:=y4p (n:=i) (lo:=0) q1 q2 (Int.le_refl _);obtain⟨o',w1,w2⟩:=ykB (z:=z) hP hA hu hT hi (o:=o) (by omega);left;rw [y2o];dsimp only;rw [iP (ct_lt hi),w1,yOb,nxt (by omega)];refine⟨_,rfl,rfl,hi,?_⟩;dsimp only;rcases w2 with rfl|rfl
   ·exact ⟨q1,fun x hx=>by have:=q2 x hx;omega⟩
   ·refine ⟨?_,fun x hx=>?_⟩
    ·unfold Inc at q1 ⊢;rw [List.pairwise_append];exact⟨q1,List.pairwise_singleton _ _,fun c hc b hb=>by rw [yMs.1 hb];exact(q2 c hc).2⟩
    ·rcases yMa.1 hx with hx|hx
     ·have:=q2 x hx;omega
     ·rw [yMs.1 hx];omega) (fun s ⟨e1,_,q1,q2⟩=>by
   obtain⟨c,o⟩:=s;dsimp only at e1 q1 q2;subst e1;refine⟨o,?_,q1,q2⟩;rw [y2o];dsimp only;rw [iN ct_ge]) (yZl _) (0,[]) ⟨rfl,yZl _,yPn,fun x hx=>by cases hx⟩
 exact⟨o,h1,h2,h3⟩
theorem ykD{m1 m2:Nat}(h:PbOk q m1 m2)(l1:m1≤5)(l2:m2≤5):∃A T n o z k g r X,yx [q.1,q.2.1]=some (A,T,0)∧iter (y2o q (A,T,0)) (0,[])=some o∧y3O A o q.2.2=some ((z,k,r,X),0)∧LoopZ q.1 q.2.1 A T n∧n≤25∧SynOk A n g r X∧PbOk (q.1,r,q.2.2) m1 X.length:=by
 obtain⟨t,A,T,k1,k2,n,_,hk,hs⟩:=h.open;have hL:=hk.loop;have hn:n≤25:=Nat.le_trans (hL.few h.rP.nn h.rS.nn) (Nat.mul_le_mul l1 l2);have hul:=Alp.len ⟨h.iu,h.ur⟩;obtain⟨o,o1,o2,o3⟩:=ykC (z:=0) h.rP hL.right hul (fun t ht=>by
  obtain⟨x,y,e,_⟩:=hL.tt t ht;exact⟨x,y,e⟩) (by rw [hL.tl];exact hL.le)
 rw [hL.tl] at o3;obtain⟨z,k,g,r,X,s1,s2⟩:=yl5 hL.right (by omega) o2 o3 h.iu h.ur;refine⟨A,T,n,o,z,k,g,r,X,hs,o1,s1,hL,hn,s2,h.rP,s2.can.right,h.l1,by have:=s2.le;omega,fun x hx=>?_,h.iu,h.ur⟩;dsimp only at hx;rw [s2.can.ale,hL.ev] at hx;exact hx.elim id (h.sub x)
theorem yhl{d:Des26}(hd:Des26In d)(keep:Bool):∃q n1 n2,y6D d keep=some q∧PbOk q n1 n2∧n1≤5∧n2≤25∧∀x∈q.1.1,0≤x∧x<5:=by
 obtain⟨q,n1,n2,h1,h2,h3,h4,h5⟩:=yic hd;rw [y6D,h1,yOb];cases keep with
 | false=>
  rw [iP (show (!false)=true from rfl)];exact⟨q,n1,n2,rfl,h2,h3,by omega,h5⟩
 | true=>
  obtain⟨A,T,n,o,z,k,g,r,X,s1,s2,s3,s4,s5,s6,s7⟩:=ykD h2 h3 h4;rw [iN (by simp),s1,yOb];dsimp only;rw [s2,yOb,s3];exact⟨_,n1,X.length,rfl,s7,h3,by have:=s6.le;omega,h5⟩
def dB(P p:AutT)(T:List LI)(s u c:Int):Bool:=match st1 p s u with
 | none=>false
 | some r=>(st1 p s c).isSome&&(st1 p r c).isNone&&(match T[r.toNat]? with
  | some (x::_)=>(st1 P x c).isSome
  | _=>false)
section
variable{q:ProbT}{t:TaskT}{p:AutT}{T:List LI}{n1 n2 n:Nat}
theorem ycR{a:AutT}{m:Nat}(hr:Right a m)(s e:Int):((st1 a s e).getD (-1) != -1)=(st1 a s e).isSome:=by
 cases hs:st1 a s e with
 | none=>rfl
 | some v=>
  have hv:=y6a hr hs;have:v≠ -1:=by omega
  simpa using this
theorem ydR(h:TaskOk q t p T n1 n2 n)(k:Nat)(u c:Int):y5l t (k:Int) u c=some (dB q.1 p T (k:Int) u c):=by
 rw [y5l,to_eq h.g3,yOb,ycR h.loop.right,dB];cases hs:st1 p (k:Int) u with
 | none=>rfl
 | some v=>
  have hv:=y6a h.loop.right hs;have hvt:v.toNat<T.length:=by rw [h.loop.tl];omega
  obtain⟨x,y,e,_⟩:=h.pair hvt;have hix:idx t.2.2.2.1 v=some [x,y]:=by
   rw [h.tt,←Int.toNat_of_nonneg hv.2.2.1,y7O,e]
  rw [iP (show (some v).isSome=true from rfl),to_eq h.g3,yOb,ycR h.loop.right];dsimp only [Option.getD_some];rw [e];dsimp only;cases hc:(st1 p (k:Int) c).isSome with
  | false=>rw [iN (by simp)];rfl
  | true=>
   rw [iP rfl,to_eq h.g3,yOb];have h7:((st1 p v c).getD (-1) == -1)=(st1 p v c).isNone:=by
    have:=ycR h.loop.right v c;cases hq:st1 p v c with
    | none=>rfl
    | some w=>
     have:=y6a h.loop.right hq;have:w≠ -1:=by omega
     simpa using this
   rw [h7];cases hn:(st1 p v c).isNone with
   | false=>rw [iN (by simp)];rfl
   | true=>
    rw [iP rfl,hix,yOb,show idx [x,y] 0=some x from rfl,yOb,to_eq h.g1,yOb,ycR h.rP];rfl
end
def FD(al:LI)(L:Int→Int→Bool):Option (Int×Int)→Prop
 | none=>∀u∈al,∀c∈al,L u c=false
 | some z=>z.1∈al∧z.2∈al∧L z.1 z.2=true∧(∀u∈al,u<z.1→∀c∈al,L u c=false)∧∀c∈al,c<z.2→L z.1 c=false
section
variable{q:ProbT}{t:TaskT}{p:AutT}{T:List LI}{n1 n2 n:Nat}
def dL(q:ProbT)(p:AutT)(T:List LI)(s u c:Int):Bool:=hasB q.2.2 u && !hasB q.2.2 c&&dB q.1 p T s u c
theorem yih(h:TaskOk q t p T n1 n2 n){k:Nat}(hk:k<T.length):∃o,FD q.1.1 (dL q p T (k:Int)) o∧iter (y6P t (k:Int)) 0=some (match o with
  | none=> .inl ()
  | some z=> .inr (wN (edsOf p) (k:Int),[z.1,z.2])):=by
 obtain⟨ui,ul,um⟩:=h.uni;obtain⟨ci,cl,cm⟩:=h.con;obtain⟨U,hU⟩:∃U,U=t.2.2.2.2.1:=⟨_,rfl⟩;obtain⟨V,hV⟩:∃V,V=t.2.2.2.2.2:=⟨_,rfl⟩;rw [←hU] at ui ul um;rw [←hV] at ci cl cm;have hLu:∀u∈U,∀c∈V,dL q p T (k:Int) u c=dB q.1 p T (k:Int) u c:=fun u hu c hc=>by
  have h1:=ya.2 ((um u).1 hu).2;have h2:hasB q.2.2 c=false:=by
   cases hb:hasB q.2.2 c with
   | false=>rfl
   | true=>exact absurd (ya.1 hb) ((cm c).1 hc).2
  rw [dL,h1,h2];rfl
 have hLn:∀u∈q.1.1,∀c∈q.1.1,(u∈U→c∈V→dB q.1 p T (k:Int) u c=false)→dL q p T (k:Int) u c=false:=fun u hu c hc hd=>by
  by_cases h1:u∈q.2.2
  ·by_cases h2:c∈q.2.2
   ·rw [dL,ya.2 h2];simp
   ·have hu':=(um u).2 ⟨hu,h1⟩;have hc':=(cm c).2 ⟨hc,h2⟩;rw [hLu u hu' c hc'];exact hd hu' hc'
  ·have:hasB q.2.2 u=false:=by
    cases hb:hasB q.2.2 u with
    | false=>rfl
    | true=>exact absurd (ya.1 hb) h1
   rw [dL,this];rfl
 have hin:∀u∈U,∃o,iter (y6O t (k:Int) u) 0=some o∧((o= .inl ()∧∀c∈V,dB q.1 p T (k:Int) u c=false)∨∃i,∃hi:i<V.length,o= .inr (wN (edsOf p) (k:Int),[u,V[i]])∧dB q.1 p T (k:Int) u V[i]=true∧∀j (hj:j<V.length),j<i→dB q.1 p T (k:Int) u V[j]=false):=fun u hu=>by
  have hg:∀i (hi:i<V.length),V.getD i 0=V[i]:=fun i hi=>by rw [yGd,yGe hi,Option.getD_some]
  obtain⟨o,h1,h2⟩:=y9e (f:=y6O t (k:Int) u) (fun i=>i) V.length (by omega) (fun i=>dB q.1 p T (k:Int) u (V.getD i 0)) (fun i=>(wN (edsOf p) (k:Int),[u,V.getD i 0])) (fun i hi=>by
   rw [y6O,←hV,iP (ct_lt hi),yb hi,yOb,ydR h,yOb,nxt (by omega),hg i hi,h.word hk,yOb]) (by rw [y6O,←hV,iN ct_ge])
  refine⟨o,h1,?_⟩;rcases h2 with ⟨e,h3⟩|⟨i,hi,e,h3,h4⟩
  ·refine .inl ⟨e,fun c hc=>?_⟩;obtain⟨i,hi,rfl⟩:=yGo hc;rw [←hg i hi];exact h3 i hi
  ·exact .inr ⟨i,hi,by rw [e,hg i hi],by rw [←hg i hi];exact h3,fun j hj hji=>by rw [←hg j hj];exact h4 j hji⟩
 obtain⟨o,h1,o',h2,h3⟩:=ye (f:=y6P t (k:Int)) (fun i s=>s=(i:Int)∧i≤U.length∧∀j (hj:j<U.length),j<i→∀c∈V,dB q.1 p T (k:Int) U[j] c=false) (fun o=>∃o',FD q.1.1 (dL q p T (k:Int)) o'∧o=(match o' with
  | none=> .inl ()
  | some z=> .inr (wN (edsOf p) (k:Int),[z.1,z.2]))) U.length 0 (by omega) (fun i s hi ⟨e1,_,hz⟩=>by
   subst e1;obtain⟨o,w1,w2⟩:=hin _ (yGm hi);rw [y6P,←hU,iP (ct_lt hi),yb hi,yOb,w1,yOb];rcases w2 with ⟨rfl,w3⟩|⟨j,hj,rfl,w3,w4⟩
   ·left;dsimp only;rw [nxt (by omega)];refine⟨_,rfl,rfl,hi,fun j hj hji c hc=>?_⟩;by_cases e:j=i
    ·subst e;exact w3 c hc
    ·exact hz j hj (by omega) c hc
   ·right;have hUi:=yGm hi;have hVj:=yGm hj;refine⟨_,rfl,some (U[i],V[j]),⟨((um _).1 hUi).1,((cm _).1 hVj).1,by dsimp only;rw [hLu _ hUi _ hVj];exact w3,fun u hu hlt c hc=>hLn u hu c hc fun hu' hc'=>?_,fun c hc hlt=>hLn _ ((um _).1 hUi).1 c hc fun _ hc'=>?_⟩,rfl⟩
    ·obtain ⟨i',hi',rfl⟩:=yGo hu';refine hz i' hi' (Nat.lt_of_not_le fun hle=>?_) c hc';dsimp only at hlt;by_cases e:i=i'
     ·subst e;omega
     ·have:=yPg.1 ui i i' hi hi' (by omega);omega
    ·obtain ⟨i',hi',rfl⟩:=yGo hc';refine w4 i' hi' (Nat.lt_of_not_le fun hle=>?_);dsimp only at hlt;by_cases e:j=i'
     ·subst e;omega
     ·have:=yPg.1 ci j i' hj hi' (by omega);omega) (fun s ⟨e1,_,hz⟩=>by
   subst e1;refine⟨.inl (),by rw [y6P,←hU,iN ct_ge],none,fun u hu c hc=>hLn u hu c hc fun hu' hc'=>?_,rfl⟩;obtain⟨i',hi',rfl⟩:=yGo hu';exact hz i' hi' hi' c hc') (yZl _) 0 ⟨rfl,yZl _,fun j hj h0=>absurd h0 (Nat.not_lt_zero _)⟩
 exact⟨o',h2,by rw [h1,h3]⟩
theorem yii(h:TaskOk q t p T n1 n2 n)(ho:y2x q=some (some t,0)):∃r,y8C q=some r∧((r=((0,[],[]),true,0)∧∀k,k<T.length→FD q.1.1 (dL q p T (k:Int)) none)∨∃(k:Nat) (z:Int×Int),k<T.length∧FD q.1.1 (dL q p T (k:Int)) (some z)∧(∀j,j<k→FD q.1.1 (dL q p T (j:Int)) none)∧r=((2,wN (edsOf p) (k:Int),[z.1,z.2]),false,0)):=by
 have htl:=h.loop.tl;have hle:=h.loop.le;obtain⟨o,h1,h2⟩:=ye (f:=y7G t) (fun i s=>s=(i:Int)∧i≤T.length∧∀j,j<i→FD q.1.1 (dL q p T (j:Int)) none) (fun o=>(o= .inl ()∧∀k,k<T.length→FD q.1.1 (dL q p T (k:Int)) none)∨∃(k:Nat) (z:Int×Int),k<T.length∧FD q.1.1 (dL q p T (k:Int)) (some z)∧(∀j,j<k→FD q.1.1 (dL q p T (j:Int)) none)∧o= .inr (wN (edsOf p) (k:Int),[z.1,z.2])) T.length 0 (by omega) (fun i s hi ⟨e1,_,hz⟩=>by
   subst e1;obtain⟨o,w1,w2⟩:=yih h hi;rw [y7G,h.tt,iP (ct_lt hi),w2,yOb];cases o with
   | none=>
    left;dsimp only;rw [nxt (by omega)];refine⟨_,rfl,rfl,hi,fun j hj=>?_⟩;by_cases e:j=i
    ·subst e;exact w1
    ·exact hz j (by omega)
   | some z=>
    right;exact⟨_,rfl,.inr ⟨i,z,hi,w1,hz,rfl⟩⟩) (fun s ⟨e1,_,hz⟩=>by
   subst e1;exact⟨.inl (),by rw [y7G,h.tt,iN ct_ge],.inl ⟨rfl,hz⟩⟩) (yZl _) 0 ⟨rfl,yZl _,fun j hj=>absurd hj (Nat.not_lt_zero _)⟩
 rw [y8C,ho,yOb,iN (by simp),yOb,h1,yOb];rcases h2 with ⟨rfl,h3⟩|⟨k,z,hk,h3,h4,rfl⟩
 ·exact ⟨_,rfl,.inl ⟨rfl,h3⟩⟩
 ·exact ⟨_,rfl,.inr ⟨k,z,hk,h3,h4,rfl⟩⟩
end
section
variable{a:AutT}{n:Nat}
theorem yfN(hr:Right a n):∀{u:LI} {s t:Int},stw (st1 a) s u=some t→0≤s→s<(n:Int)→0≤t∧t<(n:Int)∧∀e∈u,e∈a.1
 | [],s,t,h,h0,h1=>by
  have h:some s=some t:=h;cases h;exact⟨h0,h1,fun e he=>by cases he⟩
 | e::u,s,t,h,h0,h1=>by
  rw [stw] at h;obtain⟨r,g1,g2⟩:=Option.bind_eq_some_iff.1 h;have g3:=y6a hr g1;obtain⟨k1,k2,k3⟩:=yfN hr g2 g3.2.2.1 g3.2.2.2.1;refine⟨k1,k2,fun x hx=>?_⟩;rcases yMo.1 hx with rfl|hx
  ·exact g3.2.2.2.2
  ·exact k3 x hx
theorem ydu{g:GrT}(hg:GrOk g a)(hr:Right a n){u:LI}(hl:u.length≤1000000):y5M g u=some (if n=0 then -1 else(stw (st1 a) 0 u).getD (-1)):=by
 rw [y5M,hg.1,hr.nn];by_cases h0:n=0
 ·rw [iP (by simpa using h0),iP h0]
 ·rw [iN (by simpa using h0),iN h0];obtain⟨o,h1,h2⟩:=ye (f:=y5W g u) (fun i st=>st.1=(i:Int)∧stw (st1 a) st.2 (u.drop i)=stw (st1 a) 0 u) (fun o=>(∃t,o= .inl t∧stw (st1 a) 0 u=some t)∨(o= .inr ()∧stw (st1 a) 0 u=none)) u.length 0 (by omega) (fun i st hi ⟨e1,g1⟩=>by
    obtain⟨c,x⟩:=st;dsimp only at e1 g1;subst e1;rw [yDc hi,stw] at g1;rw [y5W];dsimp only;rw [iP (ct_lt hi),yb hi,yOb,to_eq hg,yOb];cases hst:st1 a x u[i] with
    | none=>
     rw [hst] at g1;right;rw [iP (by simp)];exact⟨_,rfl,.inr ⟨rfl,g1.symm⟩⟩
    | some t=>
     rw [hst,yOb] at g1;have ht:=y6a hr hst;left;rw [Option.getD_some,iN (by simp;omega),nxt (by omega)];exact⟨_,rfl,rfl,g1⟩) (fun st ⟨e1,g1⟩=>by
    obtain⟨c,x⟩:=st;dsimp only at e1 g1;subst e1;rw [List.drop_length] at g1;rw [y5W];dsimp only;rw [iN ct_ge];exact⟨_,rfl,.inl ⟨x,rfl,g1.symm⟩⟩) (yZl _) (0,0) ⟨rfl,by rw [List.drop_zero]⟩
  rw [h1,yOb];rcases h2 with ⟨t,rfl,h3⟩|⟨rfl,h3⟩
  ·rw [h3];rfl
  ·rw [h3];rfl
end
section
variable{q:ProbT}{t:TaskT}{p:AutT}{T:List LI}{n1 n2 n:Nat}
theorem ygR{es:List Ed}{N:Nat}(h:Num es N):∀k:Nat,k<N→(wN es (k:Int)).length≤k:=by
 intro k
 induction k using Nat.strongRecOn with
 | ind k ih=>
  intro hk;by_cases h0:k=0
  ·subst h0;exact Nat.le_of_eq rfl
  ·obtain ⟨x,hm,_,_,hf0,hfk,e⟩:=h.step (k:=k) (by omega) hk;rw [e,yLa,List.length_singleton];have:=ih x.f.toNat (by omega) (by omega);rw [Int.toNat_of_nonneg hf0] at this;omega
end
theorem ycw{a:AutT}{n:Nat}(hr:Right a n):∀{u:LI} {s t:Int},Leads (edsOf a) anyE s u t→stw (st1 a) s u=some t
 | [],s,t,h=>by
  have h:s=t:=h;rw [h];rfl
 | e::u,s,t,⟨x,hx,h1,h2,_,h4⟩=>by
  obtain⟨y,hy,rfl⟩:=yMp.1 hx;have:st1 a s e=some y.2.2:=by
   rw [y7l hr,←h1,←h2];exact hy
  rw [stw,this];exact ycw hr h4
theorem yaE{xs:LI}{n:Int}(hl:xs.length<4611686018427387904):y1H xs n=some (yv n none xs):=y9I hl
def insP(x:Ins):Int×Int:=(x.op,x.arg)
theorem yaF{l ps:List (Int×Int)}{i o:Int}(h:l.length+ps.length≤4294967296):yu (l,i,o) ps=some (l++ps,i,o):=by
 have hi:iter (y1Y ps) (l,0)=some (l++ps):=by
  have:=y2D (f:=y1Y ps) (fun k=>(l++ps.take k,(k:Int))) ps.length (by omega) (o:=l++ps) (fun k hk=>by
   rw [y1Y,iP (by simp;omega)];dsimp only;rw [yb hk,yOb,yg (by simp;omega),yOb,show(k:Int)+1=((k+1:Nat):Int) by omega,W_nat (by omega),yTs hk,yAa]) (by
   rw [y1Y,iN (by simp)];simp)
  simpa using this
 rw [yu,hi];rfl
theorem yaR{l:List (Int×Int)}{i o k:Int}(h0:0≤i∧i≤1000000)(h1:0≤o∧o≤1000000)(h2:0≤k∧k≤1000000):yK (l,i,o) k=some (i+o+k):=by
 rw [yK];dsimp only;rw [W_of (x:=i+o) (by omega) (by omega),W_of (by omega) (by omega)]
theorem yeZ{l:List (Int×Int)}{i o k:Int}(h0:0≤i∧i≤1000000)(h2:0≤k∧k≤1000000):y1X (l,i,o) k=some (i+k):=by
 rw [y1X];dsimp only;rw [W_of (by omega) (by omega)]
theorem yij(moved:Nat)(e:Nat×Nat):(edgeI moved e).map insP= [(1,(e.1:Int)),(4,(moved:Int)),(10,(e.1:Int)),(9,(e.2:Int)),(9,(moved:Int))]:=rfl
theorem flat5{moved:Nat}{E:List (Nat×Nat)}:((E.flatMap (edgeI moved)).map insP).length=5*E.length:=by rw [yLm,y7t]
theorem yhm{l:List (Int×Int)}{moved:Nat}{E:List Ed}(hE:∀x∈E,0≤x.f∧x.f≤100000∧0≤x.t∧x.t≤100000)(hM:M≤100000)(hC:C≤100000)(hl:l.length+5*E.length≤4000000000):
  iter (y1C (moved:Int) (E.map edP)) (l,(M:Int),(C:Int),0)=some (l++((E.map fun x=>(M+C+x.f.toNat,M+C+x.t.toNat)).flatMap (edgeI moved)).map insP,(M:Int),(C:Int)):=by
 have:=y2D (f:=y1C (moved:Int) (E.map edP)) (fun k=>(l++(((E.take k).map fun x=>(M+C+x.f.toNat,M+C+x.t.toNat)).flatMap (edgeI moved)).map insP,(M:Int),(C:Int),(k:Int))) E.length (by omega) (o:=(l++((E.map fun x=>(M+C+x.f.toNat,M+C+x.t.toNat)).flatMap (edgeI moved)).map insP,(M:Int),(C:Int))) (fun k hk=>by
  have hx:=hE E[k] (yGm hk);rw [y1C,iP (by simp;omega)];dsimp only;rw [yb (by simpa using hk),yOb,List.getElem_map];dsimp only [edP];rw [yaR (by omega) (by omega) (by omega),yOb,yaR (by omega) (by omega) (by omega),yOb,yaF (by simp only [yLa,y7t,yLm,yLt,yLc,List.length_nil];omega),yOb,
   show(k:Int)+1=((k+1:Nat):Int) by omega,W_nat (by omega),yTs hk,List.map_append,List.flatMap_append,List.map_append,yAa]
  have e1:((M+C+E[k].f.toNat:Nat):Int)=M+C+E[k].f:=by omega
  have e2:((M+C+E[k].t.toNat:Nat):Int)=M+C+E[k].t:=by omega
  rw [List.map_cons,List.map_nil,List.flatMap_cons,List.flatMap_nil,List.append_nil,yij];dsimp only;rw [e1,e2]) (by
  rw [y1C,iN (by simp),List.take_length])
 simpa using this
theorem yju{l:List (Int×Int)}{moved alarm:Nat}{E:List Ed}(hE:∀x∈E,0≤x.f∧x.f≤100000∧0≤x.t∧x.t≤100000)(hM:M≤100000)(hC:C≤100000)(hl:l.length+5*E.length≤3000000000):
  y3U (l,(M:Int),(C:Int)) (i:Int) (moved:Int) (alarm:Int) (E.map edP)=
   some (l++(y7I i moved alarm (E.map fun x=>(M+C+x.f.toNat,M+C+x.t.toNat)) l.length).map insP,(M:Int),(C:Int)):=by
 have hX:∀X:List (Int×Int),X.length=5*E.length→
   (idx (l++[(2,(i:Int)),(12,0)]++[(1,(i:Int)),(10,(moved:Int))]++X++[(2,(moved:Int)),(9,(alarm:Int))]) (W (((l++[(2,(i:Int)),(12,0)]).length:Int)-1)))=some (12,0)∧
   upd (l++[(2,(i:Int)),(12,0)]++[(1,(i:Int)),(10,(moved:Int))]++X++[(2,(moved:Int)),(9,(alarm:Int))]) (W (((l++[(2,(i:Int)),(12,0)]).length:Int)-1)) (12,((l++[(2,(i:Int)),(12,0)]++[(1,(i:Int)),(10,(moved:Int))]++X++[(2,(moved:Int)),(9,(alarm:Int))]).length:Int))=
    some (l++([(2,(i:Int)),(12,((l.length+6+5*E.length:Nat):Int)),(1,(i:Int)),(10,(moved:Int))]++(X++[(2,(moved:Int)),(9,(alarm:Int))]))):=by
  intro X hX;have e0:W (((l++[(2,(i:Int)),(12,0)]).length:Int)-1)=((l.length+1:Nat):Int):=by
   rw [yLa,yLc,yLc,List.length_nil,show(((l.length+(0+1+1):Nat):Int)-1)=((l.length+1:Nat):Int) by omega,W_nat (by omega)]
  rw [e0];have e1:(l++[(2,(i:Int)),(12,0)]++[(1,(i:Int)),(10,(moved:Int))]++X++[(2,(moved:Int)),(9,(alarm:Int))])=l++((2,(i:Int))::(12,0)::([(1,(i:Int)),(10,(moved:Int))]++(X++[(2,(moved:Int)),(9,(alarm:Int))]))):=by simp
  rw [e1];constructor
  ·rw [y7O,yAr (by omega),show l.length+1-l.length=1 by omega];rfl
  ·unfold upd;rw [iP ⟨by omega,by simp only [yLa,yLc,List.length_nil];omega⟩,yTn,List.set_append_right _ _ (by omega),show l.length+1-l.length=1 by omega];simp only [List.set_cons_succ,List.set_cons_zero,yLa,yLc,List.length_nil,hX,List.cons_append,List.nil_append];congr 4;simp only [Prod.mk.injEq,true_and];omega
 have hflat:(((E.map fun x=>(M+C+x.f.toNat,M+C+x.t.toNat)).flatMap (edgeI moved)).map insP).length=5*E.length:=by rw [flat5,yLm]
 rw [y3U,yaF (by simp;omega),yOb,yaF (by simp;omega),yOb,yhm hE hM hC (by simp;omega),yOb,yaF (by simp only [yLa,yLm,y7t,yLc,List.length_nil];omega),yOb];dsimp only;obtain⟨g1,g2⟩:=hX _ hflat;rw [g1,yOb];dsimp only;rw [g2,yOb,y7I];simp only [List.map_append,List.map_cons,List.map_nil,insP,yLm]
theorem yfO{l:List (Int×Int)}{ms:List Nat}(hms:∀x∈ms,x≤100000)(hM:M≤100000)(hC:C≤100000)(hl:l.length+ms.length≤3000000000):
  iter (y1s (ms.map fun k:Nat=>(k:Int))) (l,(M:Int),(C:Int),0)=
   some (l++(match ms with | []=> []|m::r=>(⟨1,((M+C+m:Nat):Int)⟩:Ins)::r.map (fun k:Nat=>(⟨5,((M+C+k:Nat):Int)⟩:Ins))).map insP,(M:Int),(C:Int)):=by
 have hL:∀k,(h:k<ms.length)→((match ms with | []=> []|m::r=>(⟨1,((M+C+m:Nat):Int)⟩:Ins)::r.map (fun k:Nat=>(⟨5,((M+C+k:Nat):Int)⟩:Ins))).map insP)[k]? =some (if k=0 then 1 else 5,((M+C+ms[k]:Nat):Int)):=by
  intro k h;cases ms with
  | nil=>simp at h
  | cons m r=>
   cases k with
   | zero=>rfl
   | succ k=>simp at h;simp [h,insP]
 have hlen:((match ms with | []=> []|m::r=>(⟨1,((M+C+m:Nat):Int)⟩:Ins)::r.map (fun k:Nat=>(⟨5,((M+C+k:Nat):Int)⟩:Ins))).map insP).length=ms.length:=by cases ms <;> simp
 generalize ((match ms with | []=> []|m::r=>(⟨1,((M+C+m:Nat):Int)⟩:Ins)::r.map (fun k:Nat=>(⟨5,((M+C+k:Nat):Int)⟩:Ins))).map insP)=L at hL hlen;have:=y2D (f:=y1s (ms.map fun k:Nat=>(k:Int))) (fun k=>(l++L.take k,(M:Int),(C:Int),(k:Int))) ms.length (by omega) (o:=(l++L,(M:Int),(C:Int))) (fun k hk=>by
  have hx:=hms ms[k] (yGm hk);rw [y1s,iP (by simp;omega)];dsimp only;rw [yb (by simpa using hk),yOb,List.getElem_map];have hop:idx ([1,5]:LI) (if 1<(k:Int) then 1 else(k:Int))=some (if k=0 then 1 else 5):=by
   by_cases h0:k=0
   ·subst h0;rfl
   ·have:(if 1<(k:Int) then 1 else(k:Int))=1:=by split <;> omega
    rw [this,iN h0];rfl
  rw [hop,yOb,yaR (by omega) (by omega) (by omega),yOb,yaF (by simp only [yLa,yLt,yLc,List.length_nil];omega),yOb,
   show(k:Int)+1=((k+1:Nat):Int) by omega,W_nat (by omega),yAa]
  have hk':k<L.length:=by omega
  have e:=hL k hk;rw [yGe hk',yIj] at e;rw [yTs hk',e];rfl) (by
  rw [y1s,iN (by simp),List.take_of_length_le (by omega)])
 simpa using this
theorem yhn{l:List (Int×Int)}{o:Nat}{ms:List Nat}(hms:∀x∈ms,x≤100000)(hM:M≤100000)(hC:C≤100000)(hl:l.length+ms.length≤2000000000):
  y3m (l,(M:Int),(C:Int)) (o:Int) (ms.map fun k:Nat=>(k:Int))=some (l++(y2C o (ms.map fun k=>M+C+k)).map insP,(M:Int),(C:Int)):=by
 rw [y3m];cases ms with
 | nil=>
  rw [iP (by simp),yaF (by simp;simp at hl;omega),yOb];rfl
 | cons m r=>
  rw [iN (by simp;omega),yfO hms hM hC (show l.length+(m::r).length≤3000000000 by omega),yOb,yaF (by simp at hl ⊢;omega),yOb];simp [y2C,insP,yAa]
theorem yho(d:β)(m:List (Int×β))(k:Int)(v:β)(k':Int):(kget (kput m k v) k').getD d=if k=k' then v else(kget m k').getD d:=by
 rw [y3D];by_cases h:k=k'
 ·rw [iP h,iP h.symm];rfl
 ·rw [iN h,iN fun e=>h e.symm]
def y2w{β:Type}(f:Ed→β)(es:List Ed):List (Int×List β):=es.foldl (fun m x=>kput m x.e (((kget m x.e).getD [])++[f x])) []
theorem yag(f:Ed→β)(k:Int):∀(es:List Ed) (m:List (Int×List β)),((kget (es.foldl (fun m x=>kput m x.e ((kget m x.e).getD []++[f x])) m) k).getD [])=((kget m k).getD [])++(es.filter fun x=>x.e==k).map f
 | [],m=>by simp
 | x::es,m=>by
  rw [List.foldl_cons,yag f k es,yho];by_cases h:x.e=k
  ·rw [iP h,List.filter_cons_of_pos (by simpa using h),h];simp
  ·rw [iN h,List.filter_cons_of_neg (by simpa using h)]
theorem ydS(f:Ed→β)(es:List Ed)(k:Int):(((kget (y2w f es) k).getD [])).length≤es.length:=by
 rw [y2w,yag];simp only [kget,List.find?_nil,Option.map_none,Option.getD_none,List.nil_append,yLm];exact List.length_filter_le _ _
theorem yd7(f:Ed→β)(es:List Ed)(x:Ed):y2w f (es++[x])=kput (y2w f es) x.e (((kget (y2w f es) x.e).getD [])++[f x]):=by simp [y2w]
theorem yjv{a:Aut}(hl:a.es.length≤1000000):iter (y3J (autP a)) (0,([]:List (Int×LI)),([]:List (Int×List (Int×Int×Int))))=some (y2w (fun x=>x.f) a.es,y2w edP a.es):=by
 have hlen:(autP a).2.2.2.length=a.es.length:=by simp [autP]
 have:=y2D (f:=y3J (autP a)) (fun k=>((k:Int),y2w (fun x=>x.f) (a.es.take k),y2w edP (a.es.take k))) a.es.length (by omega) (o:=(y2w (fun x=>x.f) a.es,y2w edP a.es)) (fun k hk=>by
  rw [y3J,iP (by rw [hlen];simp;omega)];dsimp only;have h1:=ydS edP (a.es.take k) a.es[k].e;have h2:=ydS (fun x=>x.f) (a.es.take k) a.es[k].e;rw [yLt] at h1 h2;rw [yb (by rw [hlen];exact hk),yOb,show(autP a).2.2.2[k]'(by rw [hlen];exact hk)=edP a.es[k] from by simp [autP]];dsimp only [edP];rw [yg (by simp only [yLc,List.length_nil];omega),yOb,yg (by simp only [yLc,List.length_nil];omega),yOb,
   show(k:Int)+1=((k+1:Nat):Int) by omega,W_nat (by omega),yTs hk,yd7,yd7]
  rfl) (by
  rw [y3J,iN (by rw [hlen];simp),List.take_length])
 simpa [y2w] using this
theorem yaG(moved alarm:Nat):∀(l:List (Nat×List (Nat×Nat))) (x:Nat×List (Nat×Nat)) (s:Nat),y1f moved alarm (l++[x]) s=y1f moved alarm l s++y7I x.1 moved alarm x.2 (s+(y1f moved alarm l s).length)
 | [],x,s=>by simp [y1f]
 | (i,es)::l,x,s=>by
  rw [List.cons_append,y1f,y1f,yaG moved alarm l x,yAa,yLa,y7b];congr 3;omega
theorem ybw(l:List (Nat×List Nat))(x:Nat×List Nat):yH (l++[x])=yH l++y2C x.1 x.2:=by simp [yH]
theorem yg6(o:Nat)(ms:List Nat):(y2C o ms).length≤ms.length+3:=by cases ms <;> simp [y2C]
structure GenIn (a:Aut) (ctrl:LI) (n:Nat):Prop where
 hn:a.n=n
 n0:0<n
 n1:n≤64
 es:a.es.length≤256
 al:a.al.length≤32
 ct:ctrl.length≤32
 ed:∀x∈a.es,0≤x.f∧x.f<(n:Int)∧0≤x.t∧x.t<(n:Int)
def yaH(a:Aut)(ctrl:LI):List (Nat×List (Nat×Nat)):=(evsOf a).map fun x=>(x.1,x.2.map fun e=>(a.al.length+(ctrl.length+1)+e.1,a.al.length+(ctrl.length+1)+e.2))
def y9Z(a:Aut)(ctrl:LI):List (Nat×List Nat):=(cmsOf a ctrl).map fun x=>(a.al.length+x.1,x.2.map fun y=>a.al.length+(ctrl.length+1)+y)
section
variable{a:Aut}{ctrl:LI}{n:Nat}
theorem y9f :(yaH a ctrl).length=a.al.length:=by simp [yaH,evsOf]
theorem yah :(y9Z a ctrl).length=ctrl.length:=by simp [y9Z,cmsOf]
theorem yf0{k:Nat}(hk:k<a.al.length):(yaH a ctrl)[k]'(by rw [y9f];exact hk)=(k,(a.es.filter fun x=>x.e==a.al[k]).map fun x=>(a.al.length+(ctrl.length+1)+x.f.toNat,a.al.length+(ctrl.length+1)+x.t.toNat)):=by
 simp [yaH,evsOf,yGd,hk,List.map_map,Function.comp_def]
theorem yf1{k:Nat}(hk:k<ctrl.length):(y9Z a ctrl)[k]'(by rw [yah];exact hk)=(a.al.length+k,(a.es.filter fun x=>x.e==ctrl[k]).map fun x=>a.al.length+(ctrl.length+1)+x.f.toNat):=by
 simp [y9Z,cmsOf,yGd,hk,List.map_map,Function.comp_def]
theorem ycS(k:Int):(a.es.filter fun x=>x.e==k).length≤a.es.length:=List.length_filter_le _ _
theorem yep{moved alarm:Nat}(h:GenIn a ctrl n):∀k,k≤a.al.length→(y1f moved alarm ((yaH a ctrl).take k) 0).length≤k*2000
 | 0,_=>by simp [y1f]
 | k+1,hk=>by
  have ih:=yep (moved:=moved) (alarm:=alarm) h k (by omega);rw [yTs (by rw [y9f];omega),yaG,yLa,y7b,yf0 (by omega)];have:=ycS (a:=a) a.al[k];have:=h.es;simp only [yLm];omega
theorem yhp(h:GenIn a ctrl n):iter (y3I (autP a) ctrl (y2w (fun x=>x.f) a.es,y2w edP a.es)) (0,([]:List (Int×Int)),(a.al.length:Int),((ctrl.length+1:Nat):Int))=
  some ((y1f (a.al.length+(ctrl.length+1)+n) (a.al.length+ctrl.length) (yaH a ctrl) 0).map insP,(a.al.length:Int),((ctrl.length+1:Nat):Int)):=by
 have h1:=h.n1;have h2:=h.es;have h3:=h.al;have h4:=h.ct;have h5:=h.hn;refine y2D (f:=y3I (autP a) ctrl (y2w (fun x=>x.f) a.es,y2w edP a.es)) (fun k=>((k:Int),(y1f (a.al.length+(ctrl.length+1)+n) (a.al.length+ctrl.length) ((yaH a ctrl).take k) 0).map insP,(a.al.length:Int),((ctrl.length+1:Nat):Int))) a.al.length (by omega) (fun k hk=>?_) ?_
 ·rw [y3I,iP (by simp [autP];omega)];dsimp only [autP];have hg:=yep (moved:=a.al.length+(ctrl.length+1)+n) (alarm:=a.al.length+ctrl.length) h k (by omega);have hf:=ycS (a:=a) a.al[k];rw [yb hk,yOb,yaR (by omega) (by omega) (by omega),yOb,yeZ (by omega) (by omega),yOb,
   show(kget (y2w edP a.es) a.al[k]).getD []=(a.es.filter fun x=>x.e==a.al[k]).map edP from by rw [y2w,yag];rfl,
   show(a.al.length:Int)+((ctrl.length+1:Nat):Int)+a.n=((a.al.length+(ctrl.length+1)+n:Nat):Int) by omega,
   show(a.al.length:Int)+(ctrl.length:Int)=((a.al.length+ctrl.length:Nat):Int) by omega,
   yju (fun x hx=>by have:=h.ed x (List.mem_filter.1 hx).1;omega) (by omega) (by omega) (by rw [yLm];omega),yOb,
   show(k:Int)+1=((k+1:Nat):Int) by omega,W_nat (by omega),yTs (by rw [y9f];exact hk),yaG,List.map_append,yf0 hk,yNz,yLm]
 ·rw [y3I,iN (by simp [autP]),List.take_of_length_le (by rw [y9f];omega)]
set_option maxHeartbeats 1000000 in
theorem yfP(h:GenIn a ctrl n){L:List (Int×Int)}(hL:L.length≤100000):iter (y3H ctrl (y2w (fun x=>x.f) a.es,y2w edP a.es)) (0,L,(a.al.length:Int),((ctrl.length+1:Nat):Int))=
  some (L++(yH (y9Z a ctrl)).map insP,(a.al.length:Int),((ctrl.length+1:Nat):Int)):=by
 have h1:=h.n1;have h2:=h.es;have h3:=h.al;have h4:=h.ct;have h5:=h.hn;have hcl:∀k,k≤ctrl.length→(yH ((y9Z a ctrl).take k)).length≤k*2000:=by
  intro k
  induction k with
  | zero=>intro _;simp [yH]
  | succ k ih=>
   intro hk;have:=ih (by omega);rw [yTs (by rw [yah];omega)];rw [ybw,yLa,yf1 (by omega)];have hf:=ycS (a:=a) ctrl[k];have:=yg6 (a.al.length+k) ((a.es.filter fun x=>x.e==ctrl[k]).map fun x=>a.al.length+(ctrl.length+1)+x.f.toNat);rw [yLm] at this;dsimp only;omega
 have key:=y2D (f:=y3H ctrl (y2w (fun x=>x.f) a.es,y2w edP a.es)) (fun k=>((k:Int),L++(yH ((y9Z a ctrl).take k)).map insP,(a.al.length:Int),((ctrl.length+1:Nat):Int))) ctrl.length (by omega) (o:=(L++(yH (y9Z a ctrl)).map insP,(a.al.length:Int),((ctrl.length+1:Nat):Int))) (fun k hk=>by
  rw [y3H,iP (by simp;omega)];dsimp only;have hg:=hcl k (by omega);have hf:=ycS (a:=a) ctrl[k];have hms:(kget (y2w (fun x=>x.f) a.es) ctrl[k]).getD []=(((a.es.filter fun x=>x.e==ctrl[k]).map fun x=>x.f.toNat).map fun k:Nat=>(k:Int)):=by
   rw [y2w,yag,List.map_map];simp only [kget,List.find?_nil,Option.map_none,Option.getD_none,List.nil_append];refine List.map_congr_left fun x hx=>?_;have:=h.ed x (List.mem_filter.1 hx).1;simp only [Function.comp_def];omega
  rw [yb hk,yOb,yeZ (by omega) (by omega),yOb,hms,
   show(a.al.length:Int)+(k:Int)=((a.al.length+k:Nat):Int) by omega,
   yhn (fun x hx=>by
    obtain⟨y,hy,rfl⟩:=yMp.1 hx;have:=h.ed y (List.mem_filter.1 hy).1;omega) (by omega) (by omega) (by simp only [yLa,yLm];omega),yOb,
   show(k:Int)+1=((k+1:Nat):Int) by omega,W_nat (by omega),yTs (by rw [yah];exact hk),yAa,←List.map_append]
  rw [ybw,yf1 hk,List.map_map];rfl) (by
  rw [y3H,iN (by simp),List.take_of_length_le (by rw [yah];omega)])
 rw [List.take_zero] at key;simpa [yH] using key
def codeP(a:Aut)(ctrl:LI)(n:Nat):(Int×Int×Int×List Bool×List (Int×Int))×LI×LI×Int:=
 (((a.al.length:Int),((ctrl.length+1:Nat):Int),((n+1:Nat):Int),true::List.replicate n false,(genP a ctrl).map insP),a.al,ctrl,(n:Int))
set_option maxHeartbeats 1000000 in
theorem yg7(h:GenIn a ctrl n)(hms:a.ms.length≤1000000)(he:a.err=0)(hc:yv 32 none ctrl=0)(hs:yV ctrl a.al=some true):yS (autP a) ctrl=some (codeP a ctrl n,0):=by
 have h0:=h.n0;have h1:=h.n1;have h2:=h.es;have h3:=h.al;have h4:=h.ct;have h5:=h.hn;have hg:=yep (moved:=a.al.length+(ctrl.length+1)+n) (alarm:=a.al.length+ctrl.length) h a.al.length (yNr _);rw [List.take_of_length_le (by rw [y9f];omega)] at hg;rw [yS,ybV (by omega) (by omega) (by omega),yOb,he,iN (by simp),yaE (by omega),yOb,hc,iN (by simp),
  show yV ctrl (autP a).1=some true from hs,yOb,iN (by simp),iN (by simp [autP];omega),iN (by simp [autP];omega),yjv (by omega),yOb,
  show(autP a).1.length=a.al.length from rfl,show W ((ctrl.length:Int)+1)=((ctrl.length+1:Nat):Int) by rw [show (ctrl.length:Int)+1=((ctrl.length+1:Nat):Int) by omega,W_nat (by omega)],
  yhp h,yOb,yfP h (by rw [yLm];omega),yOb,
  show W ((autP a).2.1+1)=((n+1:Nat):Int) by
   show W (a.n+1)=_;rw [show a.n+1=((n+1:Nat):Int) by omega,W_nat (by omega)],
  y8R (by omega) (by omega),yOb,yTn]
 have hi:idx (List.replicate (n+1) false) 0=some false:=by rw [List.replicate_succ];rfl
 have hu:upd (List.replicate (n+1) false) 0 true=some (true::List.replicate n false):=by
  unfold upd;rw [iP (by simp),List.replicate_succ];rfl
 rw [hi,yOb,hu,yOb,show(autP a).1=a.al from rfl,y7H (by omega),yOb,y7H (by omega),yOb];have e2:(autP a).2.1=(n:Int):=h5;rw [e2];simp only [codeP,genP,genI,List.map_append,yLc,List.length_replicate,h5,yTn];rfl
end
def prgP(m c n:Nat)(start:List Bool)(L:List Ins):Int×Int×Int×List Bool×List (Int×Int):=((m:Int),(c:Int),(n:Int),start,L.map insP)
def stB(op:Int)(acc v:Bool):Bool:=if op=7 then acc else if op=8 then !acc else if op=9 then v||acc else v && !acc
theorem yhq{op:Int}(h1:7≤op)(h2:op≤10)(k:Int)(acc:Bool)(b:List Bool):y7N ⟨op,k⟩ acc b=b.set k.toNat (stB op acc (b.getD k.toNat false)):=by
 have hc:op=7∨op=8∨op=9∨op=10:=by omega
 rcases hc with rfl|rfl|rfl|rfl <;> rfl
theorem yfQ{op:Int}(h1:1≤op)(h2:op≤13):∃T e,y1i=some T∧T.length=13∧idx T (W (op-1))=some e∧
    ((op≤6∧e.2.2.2.1=none∧e.2.2.2.2=none∧∃f,e.2.2.1=some f∧∀acc v k,f acc v=some (yb3 ⟨op,k⟩ acc v))∨
     (7≤op∧op≤10∧e.2.2.1=none∧e.2.2.2.2=none∧∃f,e.2.2.2.1=some f∧∀acc v,f acc v=some (stB op acc v))∨
     (11≤op∧e.2.2.1=none∧e.2.2.2.1=none∧∃f,e.2.2.2.2=some f∧∀acc,f acc=some (if op=11 then true else if op=12 then acc else !acc))):=by
  have hc:op=1∨op=2∨op=3∨op=4∨op=5∨op=6∨op=7∨op=8∨op=9∨op=10∨op=11∨op=12∨op=13:=by omega
  rcases hc with rfl|rfl|rfl|rfl|rfl|rfl|rfl|rfl|rfl|rfl|rfl|rfl|rfl
  all_goals refine⟨_,_,rfl,rfl,rfl,?_⟩
  · exact .inl ⟨by decide,rfl,rfl,_,rfl,fun _ _ _=>rfl⟩
  · exact .inl ⟨by decide,rfl,rfl,_,rfl,fun _ _ _=>rfl⟩
  · exact .inl ⟨by decide,rfl,rfl,_,rfl,fun _ _ _=>rfl⟩
  · exact .inl ⟨by decide,rfl,rfl,_,rfl,fun _ _ _=>rfl⟩
  · exact .inl ⟨by decide,rfl,rfl,_,rfl,fun _ _ _=>rfl⟩
  · exact .inl ⟨by decide,rfl,rfl,_,rfl,fun _ _ _=>rfl⟩
  · exact .inr (.inl ⟨by decide,by decide,rfl,rfl,_,rfl,fun _ _=>rfl⟩)
  · exact .inr (.inl ⟨by decide,by decide,rfl,rfl,_,rfl,fun _ _=>rfl⟩)
  · exact .inr (.inl ⟨by decide,by decide,rfl,rfl,_,rfl,fun _ _=>rfl⟩)
  · exact .inr (.inl ⟨by decide,by decide,rfl,rfl,_,rfl,fun _ _=>rfl⟩)
  · exact .inr (.inr ⟨by decide,rfl,rfl,_,rfl,fun _=>rfl⟩)
  · exact .inr (.inr ⟨by decide,rfl,rfl,_,rfl,fun _=>rfl⟩)
  · exact .inr (.inr ⟨by decide,rfl,rfl,_,rfl,fun _=>rfl⟩)
structure PrgIn (m c n:Nat) (start:List Bool) (L:List Ins):Prop where
 hm:m≤256
 hc:c≤256
 hn:n≤256
 st:start.length=n
 len:L.length≤2048
 ok:∀(i:Nat) (x:Ins),L[i]? =some x→InsOk L.length (m+c+n) m i x
section
variable{m c n:Nat}{start:List Bool}{L:List Ins}
theorem ykE(h:PrgIn m c n start L):y4V (prgP m c n start L)=some 0:=by
 have h1:=h.hm;have h2:=h.hc;have h3:=h.hn;have h4:=h.st;have h5:=h.len;have hi:iter (y3V (prgP m c n start L)) 0=some (.inl ()):=by
  refine y2D (f:=y3V (prgP m c n start L)) (fun k=>(k:Int)) 3 (by omega) (fun k hk=>?_) ?_
  ·rw [y3V,iP (by simp;omega)];have hx:∃x:Nat,idx ([(prgP m c n start L).1,(prgP m c n start L).2.1,(prgP m c n start L).2.2.1]:LI) (k:Int)=some (x:Int)∧x≤256:=by
    have:k=0∨k=1∨k=2:=by omega
    rcases this with rfl|rfl|rfl
    ·exact ⟨m,rfl,h1⟩
    ·exact ⟨c,rfl,h2⟩
    ·exact ⟨n,rfl,h3⟩
   obtain⟨x,hx,hle⟩:=hx;rw [hx,yOb,iN (by simp only [Bool.or_eq_true,decide_eq_true_eq];omega),show(k:Int)+1=((k+1:Nat):Int) by omega,W_nat (by omega)]
  ·rfl
 rw [y4V,hi,yOb];dsimp only;rw [iN (by simp [prgP,h4]),iN (by simp [prgP];omega)]
theorem yjw(h:PrgIn m c n start L):y5d (prgP m c n start L)=some ((m+c+n:Nat):Int):=by
 have h1:=h.hm;have h2:=h.hc;have h3:=h.hn;rw [y5d];dsimp only [prgP];rw [W_of (x:=(m:Int)+c) (by omega) (by omega),W_of (by omega) (by omega)];simp
theorem yl6(h:PrgIn m c n start L)(hi:i<L.length):y2H (prgP m c n start L) (i:Int)=some 0:=by
 have hk:=h.ok i L[i] (yGe hi);obtain⟨T,e,hT,hl,he,hcase⟩:=yfQ hk.op.1 hk.op.2;have hat:idx (prgP m c n start L).2.2.2.2 (i:Int)=some (insP L[i]):=by
  rw [yb (by simpa [prgP] using hi)];simp [prgP]
 have hop:=hk.op;rw [y2H,hat,yOb,hT,yOb,iN (by rw [hl];simp only [Bool.or_eq_true,decide_eq_true_eq];show ¬(L[i].op<1∨L[i].op>((13:Nat):Int));omega),
  show idx T (W ((insP L[i]).1-1))=some e from he,yOb]
 have hw:=yjw h;have hj:∀b:Bool,yD (prgP m c n start L) (insP L[i]) e b=if b then some 2 else if(e.2.2.2.1.isSome&&decide (L[i].arg<(m:Int))) then some 19 else some 0:=fun b=>rfl
 have hbit:e.2.2.2.2=none→L[i].op≤10→(e.2.2.2.1.isSome=true→7≤L[i].op)→(if e.2.2.2.2.isSome=true then(if ((decide ((insP L[i]).2≤(i:Int)))||(decide ((insP L[i]).2>((prgP m c n start L).2.2.2.2.length:Int))))=true then some 2 else some 0) else if decide ((insP L[i]).2<0)=true then yD (prgP m c n start L) (insP L[i]) e true else(y5d (prgP m c n start L)).bind fun r51=>yD (prgP m c n start L) (insP L[i]) e (decide ((insP L[i]).2≥r51)))=some 0:=by
  intro h1 h2 h3;have hb:=hk.bit h2;rw [iN (by rw [h1];simp),iN (show ¬decide ((insP L[i]).2<0)=true by rw [decide_eq_true_eq];show ¬L[i].arg<0;omega),hw,yOb,hj,iN (show ¬decide ((insP L[i]).2≥((m+c+n:Nat):Int))=true by rw [decide_eq_true_eq];show ¬L[i].arg≥_;omega)];rw [iN];rw [yAe,decide_eq_true_eq];rintro⟨h4,h5⟩;have:=hk.store (h3 h4) h2;omega
 rcases hcase with ⟨h1,h2,h3,_⟩|⟨h1,h2,h3,h4,_⟩|⟨h1,h2,h3,f,h4,_⟩
 ·exact hbit h3 (by omega) (fun h=>by rw [h2] at h;cases h)
 ·exact hbit h4 h2 (fun _=>h1)
 ·have hb:=hk.jump h1;have hlen:(prgP m c n start L).2.2.2.2.length=L.length:=by simp [prgP]
  rw [iP (by rw [h4];rfl),iN];rw [hlen];simp only [Bool.or_eq_true,decide_eq_true_eq];show ¬(L[i].arg≤(i:Int)∨L[i].arg>(L.length:Int));omega
theorem ydT(h:PrgIn m c n start L):y5e (prgP m c n start L)=some 0:=by
 have h5:=h.len;have hlen:(prgP m c n start L).2.2.2.2.length=L.length:=by simp [prgP]
 have hi:iter (y3K (prgP m c n start L)) 0=some (.inl ()):=by
  refine y2D (f:=y3K (prgP m c n start L)) (fun k=>(k:Int)) L.length (by omega) (fun k hk=>?_) ?_
  ·rw [y3K,iP (by rw [hlen];simp;omega),yl6 h hk,yOb,iN (by simp),show(k:Int)+1=((k+1:Nat):Int) by omega,W_nat (by omega)]
  ·rw [y3K,iN (by rw [hlen];simp)]
 rw [y5e,ykE h,yOb,iN (by simp),hi];rfl
theorem yjx(h:PrgIn m c n start L):y5f (prgP m c n start L)=some ((List.replicate c false,start),0):=by
 have h2:=h.hc;have h3:=h.hn;have h4:=h.st;rw [y5f,ydT h,yOb,iN (by simp)];dsimp only [prgP];rw [y8R (by omega) (by omega),yOb,yg (by simp;omega),yOb];simp
end
end
section
def y4R :Nat→LI→LI→LI→LI
 | 0,_,_,out=>out
 | _+1,[],[],out=>out
 | f+1,[],_::vs,out=>y4R f [] vs out
 | f+1,a::us,[],out=>y4R f us [] (out++[a])
 | f+1,a::us,b::vs,out=>if a<b then y4R f us (b::vs) (out++[a]) else if b<a then y4R f (a::us) vs out else y4R f us vs out
theorem y7Q :∀(f:Nat) (us vs out:LI),Inc us→Inc vs→us.length+vs.length≤f→y4R f us vs out=out++us.filter fun x=>!hasB vs x
 | 0,us,vs,out,_,_,h=>by
  have ha:us= []:=yLz (by omega);rw [ha,y4R];simp
 | f+1,[],[],out,_,_,_=>by rw [y4R];simp
 | f+1,[],b::vs,out,ha,hb,h=>by
  rw [y4R,y7Q f [] vs out ha (yPc.1 hb).2 (by simp at h ⊢;omega)];simp
 | f+1,a::us,[],out,ha,hb,h=>by
  rw [y4R,y7Q f us [] _ (yPc.1 ha).2 hb (by simp at h ⊢;omega),List.filter_cons_of_pos (by simp [hasB]),yAa];rfl
 | f+1,a::us,b::vs,out,ha,hb,h=>by
  obtain⟨ha1,ha2⟩:=yPc.1 ha;obtain⟨hb1,hb2⟩:=yPc.1 hb;rw [yLc,yLc] at h;rw [y4R];by_cases h1:a<b
  ·have hn:hasB (b::vs) a=false:=by
    rw [yaa];intro hm;rcases yMo.1 hm with h2|h2
    ·omega
    ·have:=hb1 a h2;omega
   rw [iP h1,y7Q f us (b::vs) _ ha2 hb (by rw [yLc];omega),List.filter_cons_of_pos (by rw [hn];rfl),yAa];rfl
  ·rw [iN h1];by_cases h2:b<a
   ·rw [iP h2,y7Q f (a::us) vs out ha hb2 (by rw [yLc];omega)];congr 1;apply List.filter_congr;intro x hx;have hx2:a≤x:=by
     rcases yMo.1 hx with h3|h3
     ·omega
     ·have:=ha1 x h3;omega
    congr 1;rw [Bool.eq_iff_iff,ya,ya,yMo];exact⟨.inr,fun h3=>h3.elim (fun h4=>by omega) id⟩
   ·have hab:a=b:=by omega
    subst hab;rw [iN h2,y7Q f us vs out ha2 hb2 (by omega),List.filter_cons_of_neg (by rw [ya.2 (yMc ..)];simp)];congr 1;apply List.filter_congr;intro x hx;have hx2:=ha1 x hx;congr 1;rw [Bool.eq_iff_iff,ya,ya,yMo];exact⟨.inr,fun h3=>h3.elim (fun h4=>by omega) id⟩
def subB(us vs:LI):Bool:=us.all (hasB vs)
theorem yik{us vs:LI}(ha:Inc us)(hb:Inc vs):(y4R (us.length+vs.length) us vs []= [])↔subB us vs=true:=by
 rw [y7Q _ us vs [] ha hb (yNr _),List.nil_append,List.filter_eq_nil_iff,subB,yAt];exact⟨fun h x hx=>by simpa using h x hx,fun h x hx=>by rw [h x hx];simp⟩
end
section
open Go Go.RowKit
theorem yjy :∀(f:Nat) (us vs out:LI),us.length+vs.length≤f→out.length+us.length≤4294967296→iterF (yh yw) (f+1) (out,us,vs)=some (y4R f us vs out):=by
 intro f
 induction f with
 | zero=>
  intro us vs out h _;have h1:us= []:=yLz (by omega);have h2:vs= []:=yLz (by omega);subst h1;subst h2;rfl
 | succ f ih=>
  intro us vs out h ho;rw [yc];cases us with
  | nil=>
   cases vs with
   | nil=>rfl
   | cons b vs=>
    have e:yh yw (out,[],b::vs)=some (.inl (out,[],vs)):=by
     rw [yh];dsimp only;rw [iP (by simp),iN (by simp),yt];dsimp only;rw [iP (by simp),iP (by simp),ym,iN (by simp),yk,iP rfl];dsimp only;rw [y1u,yOb,y5m,yOb];rfl
    rw [e];exact ih [] vs out (by simp at h ⊢;omega) ho
  | cons a us=>
   rw [yLc] at h ho;have ho':app out ([a]:LI)=some (out++[a]):=yg (by simp;omega);cases vs with
   | nil=>
    have e:yh yw (out,a::us,[])=some (.inl (out++[a],us,[])):=by
     rw [yh];dsimp only;rw [iP (by simp),iP (by simp),iP (by simp),yt];dsimp only;rw [iN (by simp),ym,iP rfl];dsimp only;rw [y1u,yOb,y5m,yOb,yk,iN (by simp),yp,show yw true false=some true from rfl,yOb,iP rfl];dsimp only;rw [ho',yOb]
    rw [e];exact ih us [] (out++[a]) (by simp at h ⊢;omega) (by simp;omega)
   | cons b vs=>
    rw [yLc] at h;have e0:yh yw (out,a::us,b::vs)=ym yw (out,a::us,b::vs) (decide (a≤b)) (decide (b≤a)):=by
     rw [yh];dsimp only;rw [iP (by simp),iP (by simp),iN (by simp;omega),y1u,yOb,y1u,yOb,yt];dsimp only;rw [iP (by simp),iN (by simp;omega),y1u,yOb,y1u,yOb]
    rw [e0,y4R,ym];dsimp only;by_cases h1:a<b
    ·rw [iP (show decide (a≤b)=true by simp;omega),y1u,yOb,y5m,yOb,yk,iN (by simp;omega),yp,show decide (a≤b)=true by simp;omega,show decide (b≤a)=false by simp;omega,
      show yw true false=some true from rfl,yOb,iP rfl,iP h1]
     dsimp only;rw [ho',yOb];exact ih us (b::vs) (out++[a]) (by simp;omega) (by simp;omega)
    ·rw [iN h1];by_cases h2:b<a
     ·rw [iN (show ¬decide (a≤b)=true by simp;omega),yk,iP (show decide (b≤a)=true by simp;omega)];dsimp only;rw [y1u,yOb,y5m,yOb,yp,show decide (a≤b)=false by simp;omega,show decide (b≤a)=true by simp;omega,
       show yw false true=some false from rfl,yOb,iN (by simp),iP h2]
      exact ih (a::us) vs out (by simp;omega) (by simp;omega)
     ·rw [iP (show decide (a≤b)=true by simp;omega),y1u,yOb,y5m,yOb,yk,iP (show decide (b≤a)=true by simp;omega)];dsimp only;rw [y1u,yOb,y5m,yOb,yp,show decide (a≤b)=true by simp;omega,show decide (b≤a)=true by simp;omega,
       show yw true true=some false from rfl,yOb,iN (by simp),iN h2]
      exact ih us vs out (by omega) (by omega)
theorem yjz{us vs:LI}(hu:us.length≤4294967296)(hv:vs.length≤4294967296):y4a us vs=some (y4R (us.length+vs.length) us vs []):=by
 have h:iter (yh yw) (([]:LI),us,vs)=some (y4R (us.length+vs.length) us vs []):=y3r (by omega) (yjy _ us vs [] (yNr _) (by simpa using hu));rw [y4a,y2V,h];rfl
theorem yf2{us vs:LI}(hu:us.length≤4294967296)(hv:vs.length≤4294967296)(iu:Inc us)(iv:Inc vs):yV us vs=some (subB us vs):=by
 rw [yV,yjz hu hv,yOb];have h:=yik iu iv;cases hb:subB us vs with
 | true=>rw [h.2 hb];rfl
 | false=>
  have hn:y4R (us.length+vs.length) us vs []≠ []:=fun e=>by rw [h.1 e] at hb;cases hb
  have:(y4R (us.length+vs.length) us vs []).length≠0:=fun e=>hn (yLz e);rw [show (((y4R (us.length+vs.length) us vs []).length:Int)==0)=false from by simpa using hn]
theorem yjA{us al:LI}(hu:us.length<4294967296)(ha:al.length<4294967296)(iu:Inc us)(ia:Inc al)(he:yv 32 none us=0)(hs:subB us al=true):y7C us al=some 0:=by
 rw [y7C,yaE (by omega),he,yOb,iN (by simp),yf2 (by omega) (by omega) iu ia,hs,yOb];rfl
theorem yjB{ys:List Bool}{k:Nat}(h:k<ys.length):(ys.take k++List.replicate (ys.length-k) false).set k ys[k]=ys.take (k+1)++List.replicate (ys.length-(k+1)) false:=by
 have hl:(ys.take k).length=k:=by simp;omega
 rw [List.set_append_right _ _ (by omega),hl,Nat.sub_self,show ys.length-k=(ys.length-(k+1))+1 by omega,List.replicate_succ,List.set_cons_zero,yTs h,yAa];rfl
theorem yil{p:Int×Int×Int×List Bool×List (Int×Int)}{al ctrl ev:LI}{n:Int}(ha:al.length<4294967296)(he:ev.length<4294967296)(ia:Inc al)(ie:Inc ev)(hs:yv 32 none ev=0)(hb:subB ev al=true):
  y7o (p,al,ctrl,n) ev=some (al.map (hasB ev),0):=by
 have hi:iter (y4C (p,al,ctrl,n) ev) (0,List.replicate al.length false)=some (al.map (hasB ev)):=by
  have hml:(al.map (hasB ev)).length=al.length:=yLm ..;have e0:((0:Int),List.replicate al.length false)=(fun k:Nat=>((k:Int),(al.map (hasB ev)).take k++List.replicate ((al.map (hasB ev)).length-k) false)) 0:=by simp
  refine Eq.trans (congrArg _ e0) (y2D (f:=y4C (p,al,ctrl,n) ev) (fun k:Nat=>((k:Int),(al.map (hasB ev)).take k++List.replicate ((al.map (hasB ev)).length-k) false)) al.length (by omega) (fun k hk=>?_) ?_)
  ·rw [y4C];dsimp only;have hk2:k<((al.map (hasB ev)).take k++List.replicate ((al.map (hasB ev)).length-k) false).length:=by simp;omega
   rw [iP (by simp;omega),yb hk,yOb,y2v he ie,yOb,yb hk2,yOb,upd,iP ⟨by omega,by omega⟩,yOb,yTn,
    show(k:Int)+1=((k+1:Nat):Int) by omega,W_nat (by omega),show hasB ev al[k]=(al.map (hasB ev))[k]'(by rw [hml];exact hk) by simp,yjB (by rw [hml];exact hk)]
  ·rw [y4C];dsimp only;rw [iN (by simp),hml,Nat.sub_self,List.take_of_length_le (by omega),List.replicate_zero,List.append_nil]
 rw [y7o];dsimp only;rw [yjA he ha ie ia hs hb,yOb,iN (by simp),y8R (by omega) (by omega),yOb,yTn,hi];rfl
theorem yim{x y z:List Bool}(h:x.length+y.length+z.length≤100000):y6w [x,y,z]=some (x++y++z):=by
 have h1:iter (y2l [x,y,z]) (0,0)=some ((x.length+y.length+z.length:Nat):Int):=by
  refine y3r (n:=4) (by omega) ?_;have hn:∀(i:Nat) (k:Nat) (l:List Bool),[x,y,z][i]? =some l→k+l.length≤100000→i<3→y2l [x,y,z] ((i:Int),(k:Int))=some (.inl (((i+1:Nat):Int),((k+l.length:Nat):Int))):=fun i k l hl hk hi=>by
   rw [y2l];dsimp only;rw [iP (by simp;omega),y7O,hl,yOb,show(k:Int)+(l.length:Int)=((k+l.length:Nat):Int) by omega,W_nat (by omega),iN (by simp;omega),y6W];dsimp only;rw [show (i:Int)+1=((i+1:Nat):Int) by omega,W_nat (by omega)]
  rw [yc,show y2l [x,y,z] (0,0)=_ from hn 0 0 x rfl (by omega) (by omega)];dsimp only;rw [yc,hn (0+1) (0+x.length) y rfl (by omega) (by omega)];dsimp only;rw [yc,hn (0+1+1) (0+x.length+y.length) z rfl (by omega) (by omega)];dsimp only;rw [yc,y2l,iN (by simp)];show some ((0+x.length+y.length+z.length:Nat):Int)=_;rw [yNz]
 have h2:iter (y2k [x,y,z]) (0,([]:List Bool))=some (x++y++z):=by
  refine y3r (n:=4) (by omega) ?_;have hn:∀(i:Nat) (k l:List Bool),[x,y,z][i]? =some l→k.length+l.length≤100000→i<3→y2k [x,y,z] ((i:Int),k)=some (.inl (((i+1:Nat):Int),k++l)):=fun i k l hl hk hi=>by
   rw [y2k];dsimp only;rw [iP (by simp;omega),y7O,hl,yOb,yg (by omega),yOb,show(i:Int)+1=((i+1:Nat):Int) by omega,W_nat (by omega)]
  rw [yc,show y2k [x,y,z] (0,[])=_ from hn 0 [] x rfl (by simp;omega) (by omega)];dsimp only;rw [yc,hn (0+1) ([]++x) y rfl (by simp;omega) (by omega)];dsimp only;rw [yc,hn (0+1+1) ([]++x++y) z rfl (by simp;omega) (by omega)];dsimp only;rw [yc,y2k,iN (by simp)];rfl
 rw [y6w,h1,yOb,y5J,iP ⟨rfl,by omega,by omega⟩,yOb,h2];rfl
theorem yjC{m c n:Nat}{start:List Bool}{L:List Ins}(h:PrgIn m c n start L){inp out mem:List Bool}(hi:inp.length=m)(ho:out.length=c)(hm:mem.length=n):
  y6R (prgP m c n start L) (out,mem) inp=some (inp++out++mem,0):=by
 have h1:=h.hm;have h2:=h.hc;have h3:=h.hn;rw [y6R,ydT h,yOb,iN (by simp),iN (by simp [prgP,hi,ho,hm]),yim (by show inp.length+out.length+mem.length≤_;omega)];rfl
theorem yin{m c n:Nat}{start:List Bool}{L:List Ins}(h:PrgIn m c n start L){T}(hT:y1i=some T){i:Nat}(hi:i<L.length){acc:Bool}{xs:LI}{b:List Bool}(hx:xs.length≤i)(hb:b.length=m+c+n):
  y1O (prgP m c n start L) T (b,(i:Int),acc,xs)=some (.inl ((y4b L[i] i acc b).2.2,((y4b L[i] i acc b).1:Int),(y4b L[i] i acc b).2.1,xs++[(i:Int)])):=by
 have hlen:=h.len;have hk:=h.ok i L[i] (yGe hi);obtain⟨T',e,hT',hl,he,hcase⟩:=yfQ hk.op.1 hk.op.2;rw [hT] at hT';cases hT';have hop:=hk.op;have hat:idx (prgP m c n start L).2.2.2.2 (i:Int)=some (insP L[i]):=by
  rw [yb (by simpa [prgP] using hi)];simp [prgP]
 have hinc:W ((i:Int)+1)=((i+1:Nat):Int):=by rw [show (i:Int)+1=((i+1:Nat):Int) by omega,W_nat (by omega)]
 rw [y1O];dsimp only;rw [iP (by simp [prgP];omega),yg (by simp;omega),yOb,hat,yOb,show idx T (W ((insP L[i]).1-1))=some e from he,yOb,hinc];have hbit:L[i].op≤10→idx b (insP L[i]).2=some (b.getD L[i].arg.toNat false):=fun h10=>by
  have h1:=hk.bit h10;show idx b L[i].arg=_;rw [show L[i].arg=(L[i].arg.toNat:Int) by omega,yb (by omega),yTn,yGd,yGe (by omega)];rfl
 rcases hcase with ⟨h1,h2,h3,f,hf,hf2⟩|⟨h1,h1',h2,h3,f,hf,hf2⟩|⟨h1,h2,h3,f,hf,hf2⟩
 ·rw [iP (by rw [hf];rfl),hbit (by omega),yOb,hf,yOb,hf2 _ _ L[i].arg,yOb];have e1:y8j L[i] i acc=i+1:=by rw [y8j,iP ⟨hop.1,by omega⟩]
  have e2:y7N L[i] acc b=b:=by
   rw [y7N,iN (by omega),iN (by omega),iN (by omega),iN (by omega)]
  simp only [y4b,e1,e2]
 ·have h10:=hk.bit h1';rw [iN (by rw [h2];simp),iP (by rw [hf];rfl),hbit h1',yOb,hf,yOb,hf2,yOb,yOb];have e1:y8j L[i] i acc=i+1:=by rw [y8j,iP ⟨hop.1,by omega⟩]
  have e2:∀v,yb3 L[i] acc v=acc:=fun v=>by
   rw [yb3,iN (by omega),iN (by omega),iN (by omega),iN (by omega),iN (by omega),iN (by omega)]
  have e3:=yhq h1 h1' L[i].arg acc b;rw [show upd b (insP L[i]).2 (stB L[i].op acc (b.getD L[i].arg.toNat false))=some (y7N L[i] acc b) from by
   rw [show y7N L[i] acc b=_ from e3];exact iP ⟨h10.1,by show L[i].arg<_;omega⟩,yOb]
  simp only [y4b,e1,e2]
 ·have hj:=hk.jump h1;rw [iN (by rw [h2];simp),iN (by rw [h3];simp),hf,yOb,hf2,yOb];have e2:∀v,yb3 L[i] acc v=acc:=fun v=>by
   rw [yb3,iN (by omega),iN (by omega),iN (by omega),iN (by omega),iN (by omega),iN (by omega)]
  have e3:y7N L[i] acc b=b:=by
   rw [y7N,iN (by omega),iN (by omega),iN (by omega),iN (by omega)]
  have e1:((y8j L[i] i acc:Nat):Int)=if(if L[i].op=11 then true else if L[i].op=12 then acc else !acc)=true then L[i].arg else((i+1:Nat):Int):=by
   rw [y8j,iN (by omega)];have ha:(L[i].arg.toNat:Int)=L[i].arg:=by omega
   by_cases h11:L[i].op=11
   ·rw [iP h11,iP h11,iP rfl,ha]
   ·rw [iN h11,iN h11];by_cases h12:L[i].op=12
    ·rw [iP h12,iP h12];cases acc
     ·rfl
     ·rw [iP rfl,iP rfl,ha]
    ·rw [iN h12,iN h12];cases acc
     ·show ((if false=true then i+1 else L[i].arg.toNat:Nat):Int)=_;rw [iN (by simp)];exact ha
     ·rfl
  simp only [y4b,e2,e3,e1];generalize (if L[i].op=11 then true else if L[i].op=12 then acc else !acc)=q;cases q <;> rfl
theorem PrgIn.fwd{m c n:Nat}{start:List Bool}{L:List Ins}(h:PrgIn m c n start L):Fwd L:=fun i x hx ho=>by
 have hk:=h.ok i x hx;have:=hk.op;exact(hk.jump (by omega)).1
theorem yg8(x:Ins)(acc:Bool)(b:List Bool):(y7N x acc b).length=b.length:=by
 unfold y7N;split
 ·simp
 ·split
  ·simp
  ·split
   ·simp
   ·split <;> simp
theorem ykF{m c n:Nat}{start:List Bool}{L:List Ins}(h:PrgIn m c n start L){T}(hT:y1i=some T):∀(f i:Nat) (acc:Bool) (xs:LI) (b:List Bool),L.length≤i+f→xs.length≤i→b.length=m+c+n→
  (yo L i acc b).length=b.length∧∃ys,iterF (y1O (prgP m c n start L) T) (f+1) (b,(i:Int),acc,xs)=some (yo L i acc b,ys):=by
 intro f
 induction f with
 | zero=>
  intro i acc xs b h1 h2 h3;rw [ybB (by omega)];refine⟨rfl,xs,?_⟩;rw [yc,y1O];dsimp only;rw [iN (by simp [prgP];omega)]
 | succ f ih=>
  intro i acc xs b h1 h2 h3;by_cases hi:i<L.length
  ·have hx:L[i]? =some L[i]:=yGe hi;have hg:=ybA h.fwd hx acc b;have hl:(y4b L[i] i acc b).2.2.length=b.length:=yg8 ..;obtain⟨e1,ys,e2⟩:=ih (y4b L[i] i acc b).1 (y4b L[i] i acc b).2.1 (xs++[(i:Int)]) (y4b L[i] i acc b).2.2 (by omega) (by simp;omega) (by omega);rw [y5u h.fwd hx,yc,yin h hT hi h2 h3];exact⟨by omega,ys,e2⟩
  ·rw [ybB (by omega)];refine⟨rfl,xs,?_⟩;rw [yc,y1O];dsimp only;rw [iN (by simp [prgP];omega)]
theorem yjD :∃T,y1i=some T:=by
 obtain⟨T,_,h,_⟩:=yfQ (op:=1) (by omega) (by omega);exact⟨T,h⟩
theorem yjE{m c n:Nat}{start:List Bool}{L:List Ins}(h:PrgIn m c n start L){b:List Bool}(hb:b.length=m+c+n):(yo L 0 false b).length=b.length∧∃ys,y7e (prgP m c n start L) b=some (ys,yo L 0 false b):=by
 obtain⟨T,hT⟩:=yjD;obtain⟨h1,ys,h2⟩:=ykF h hT L.length 0 false [] b (by omega) (by simp) hb;have h5:=h.len;refine⟨h1,ys,?_⟩;rw [y7e,hT,yOb,show iter (y1O (prgP m c n start L) T) (b,0,false,([]:LI))=_ from y3r (by omega) h2];rfl
theorem yio{m c n:Nat}{start:List Bool}{L:List Ins}(h:PrgIn m c n start L){b:List Bool}(hb:b.length=m+c+n):y6S (prgP m c n start L) b=some ((b.drop m).take c,b.drop (m+c)):=by
 have h1:=h.hm;have h2:=h.hc;have h3:=h.hn;rw [y6S];dsimp only [prgP];rw [show (m:Int)+c=((m+c:Nat):Int) by omega,W_nat (by omega),slc3,iP ⟨by omega,by omega,by omega,by omega⟩,yOb,slc3,iP ⟨by omega,by omega,by omega,by omega⟩,yOb,
  yTn,yTn,yTn,List.drop_take,List.take_of_length_le (yNr _),show m+c-m=c by omega]
theorem yjF{m c n:Nat}{start:List Bool}{L:List Ins}(h:PrgIn m c n start L){inp out mem:List Bool}(hi:inp.length=m)(ho:out.length=c)(hm:mem.length=n):
  y5K (prgP m c n start L) (out,mem) inp=some ((((yo L 0 false (inp++out++mem)).drop m).take c,(yo L 0 false (inp++out++mem)).drop (m+c)),0):=by
 have hb:(inp++out++mem).length=m+c+n:=by simp;omega
 obtain⟨h1,ys,h2⟩:=yjE h hb;rw [y5K,yjC h hi ho hm,yOb,iN (by simp)];dsimp only;rw [h2,yOb];dsimp only;rw [yio h (by omega)];rfl
section
variable{a:Aut}{ctrl:LI}{n:Nat}
theorem ygS(h:GenIn a ctrl n)(ia:Inc a.al)(ic:Inc ctrl):PrgIn a.al.length (ctrl.length+1) (n+1) (true::List.replicate n false) (genP a ctrl):=by
 have h0:=h.n0;have h1:=h.n1;have h2:=h.es;have h3:=h.al;have h4:=h.ct;have h5:=h.hn;have h6:=yjn ia ic (a:=a);exact⟨by omega,by omega,by omega,by simp,by omega,ykx h5 h.ed⟩
theorem yjG(h:GenIn a ctrl n)(ia:Inc a.al)(ic:Inc ctrl){ev:LI}(ie:Inc ev)(hl:ev.length<4294967296)(he:yv 32 none ev=0)(hs:subB ev a.al=true){out mem:List Bool}(ho:out.length=ctrl.length+1)(hm:mem.length=n+1):
  y7f (codeP a ctrl n) (out,mem) ev=some ((((yo (genP a ctrl) 0 false (a.al.map (hasB ev)++out++mem)).drop a.al.length).take (ctrl.length+1),(yo (genP a ctrl) 0 false (a.al.map (hasB ev)++out++mem)).drop (a.al.length+(ctrl.length+1))),0):=by
 have h3:=h.al;rw [y7f,codeP,yil (by omega) hl ia ie he hs,yOb,iN (by simp)];show(y5K (prgP a.al.length (ctrl.length+1) (n+1) (true::List.replicate n false) (genP a ctrl)) (out,mem) (a.al.map (hasB ev))).bind (fun r=>some r)=_;rw [yjF (ygS h ia ic) (by simp) ho hm];rfl
theorem yeq{out mem:List Bool}(ho:out.length=ctrl.length+1)(hm:mem.length=n+1):y5Q (codeP a ctrl n) (out,mem)=some 0:=by
 rw [y5Q,iN (by simp [codeP,ho,hm])]
theorem yhr(h:GenIn a ctrl n){out mem:List Bool}(ho:out.length=ctrl.length+1)(hm:mem.length=n+1):y7g (codeP a ctrl n) (out,mem)=some (out.getD ctrl.length false,0):=by
 rw [y7g,yeq ho hm,yOb,iN (by simp),show idx (out,mem).1 ((codeP a ctrl n).2.2.1.length:Int)=some (out[ctrl.length]'(by omega)) from yb (xs:=out) (i:=ctrl.length) (by omega),yOb,yGd,yGe (by omega)];rfl
theorem yhs(h:GenIn a ctrl n){out mem:List Bool}(ho:out.length=ctrl.length+1)(hm:mem.length=n+1){q:Int→Bool}(hq:∀k,k<ctrl.length→out.getD k false=q (ctrl.getD k 0)):
  y4h (codeP a ctrl n) (out,mem)=some (ctrl.filter q,0):=by
 have h4:=h.ct;have hi:iter (y4g (codeP a ctrl n) (out,mem)) (0,([]:LI))=some (ctrl.filter q):=by
  have e0:((0:Int),([]:LI))=(fun k:Nat=>((k:Int),(ctrl.take k).filter q)) 0:=by simp
  refine Eq.trans (congrArg _ e0) (y2D (f:=y4g (codeP a ctrl n) (out,mem)) (fun k:Nat=>((k:Int),(ctrl.take k).filter q)) ctrl.length (by omega) (fun k hk=>?_) ?_)
  ·rw [y4g];dsimp only;have ht:(ctrl.take (k+1)).filter q=(ctrl.take k).filter q++(if q ctrl[k] then [ctrl[k]] else []):=by
    rw [yTs hk,List.filter_append];cases hc:q ctrl[k] <;> simp [hc]
   have hk3:out[k]'(by omega)=q ctrl[k]:=by
    have:=hq k hk;rwa [yGd,yGe (by omega),yGd,yGe hk] at this
   have hlen:((ctrl.take k).filter q).length≤32:=Nat.le_trans (List.length_filter_le ..) (by simp;omega);rw [iP (show decide ((k:Int)<((codeP a ctrl n).2.2.1.length:Int))=true from decide_eq_true (show (k:Int)<(ctrl.length:Int) by omega)),show idx (codeP a ctrl n).2.2.1 (k:Int)=some ctrl[k] from yb hk,yOb,yb (by omega),yOb,hk3,ht];cases hc:q ctrl[k] with
   | true=>
    rw [iP rfl,yg (by simp;omega),yOb,y4f,show(k:Int)+1=((k+1:Nat):Int) by omega,W_nat (by omega)];rfl
   | false=>
    rw [iN (by simp),y4f,show(k:Int)+1=((k+1:Nat):Int) by omega,W_nat (by omega),iN (by simp),List.append_nil]
  ·rw [y4g];dsimp only;rw [iN (show ¬decide ((ctrl.length:Int)<((codeP a ctrl n).2.2.1.length:Int))=true from by rw [decide_eq_true_eq];show ¬(ctrl.length:Int)<(ctrl.length:Int);omega),List.take_of_length_le (yNr _)]
 rw [y4h,yeq ho hm,yOb,iN (by simp),hi];rfl
theorem yip(h:GenIn a ctrl n){out mem:List Bool}(ho:out.length=ctrl.length+1)(hm:mem.length=n+1){s:Nat}(hs:s<n)(hq:∀k,k<n→mem.getD k false=decide (k=s)):
  y7D (codeP a ctrl n) (out,mem)=some ((s:Int),0):=by
 have h1:=h.n1;have hl:(mem.take n).length=n:=by simp;omega
 have hi:iter (y5h (mem.take n)) (0,0,0)=some (1,(s:Int)):=by
  have e0:((0:Int),(0:Int),(0:Int))=(fun k:Nat=>((k:Int),(if s<k then 1 else 0:Int),(if s<k then(s:Int) else 0))) 0:=by simp
  refine Eq.trans (congrArg _ e0) (y2D (f:=y5h (mem.take n)) (fun k:Nat=>((k:Int),(if s<k then 1 else 0:Int),(if s<k then(s:Int) else 0))) n (by omega) (fun k hk=>?_) ?_)
  ·rw [y5h];dsimp only;have hk3:(mem.take n)[k]'(by omega)=decide (k=s):=by
    have:=hq k hk;rw [List.getElem_take];rwa [yGd,yGe (by omega)] at this
   rw [iP (by rw [hl];simp;omega),yb (by omega),yOb,hk3];by_cases hks:k=s
   ·subst hks;rw [iP (by simp),iN (by omega),iN (by omega),iP (by omega),iP (by omega),y5g,show(k:Int)+1=((k+1:Nat):Int) by omega,W_nat (by omega)];rfl
   ·rw [iN (by simpa using hks),y5g,show(k:Int)+1=((k+1:Nat):Int) by omega,W_nat (by omega)];by_cases hsk:s<k
    ·rw [iP hsk,iP hsk,iP (by omega),iP (by omega)]
    ·rw [iN hsk,iN hsk,iN (by omega),iN (by omega)]
  ·rw [y5h];dsimp only;rw [iN (by rw [hl];simp),iP hs,iP hs]
 rw [y7D,yeq ho hm,yOb,iN (by simp),show slc (out,mem).2 0 (codeP a ctrl n).2.2.2=some (mem.take n) from by
  show slc mem 0 (n:Int)=_;rw [slc,iP ⟨by omega,by omega,by omega⟩];simp,yOb,hi,yOb,iN (by simp)]
end
structure Shows (a:Aut) (ctrl:LI) (n:Nat) (s:Nat) (al:Bool) (st:List Bool×List Bool):Prop where
 ho:st.1.length=ctrl.length+1
 hm:st.2.length=n+1
 hs:s<n
 hq:∀k,k<n→st.2.getD k false=decide (k=s)
 ha:st.1.getD ctrl.length false=al
theorem yjH{us vs:LI}(h:subB us vs=true):∀x∈us,x∈vs:=fun x hx=>ya.1 (yAt.1 h x hx)
theorem yiq{a:Aut}{ctrl:LI}{n:Nat}(h:GenIn a ctrl n)(ia:Inc a.al)(ic:Inc ctrl){ev:LI}(ie:Inc ev)(hl:ev.length<4294967296)(he:yv 32 none ev=0)(hsub:subB ev a.al=true){st:List Bool×List Bool}{s:Nat}{al:Bool}(hv:Shows a ctrl n s al st):
  ∃st',y7f (codeP a ctrl n) st ev=some (st',0)∧Shows a ctrl n (ev.foldl (y6b a.es) (s,al)).1 (ev.foldl (y6b a.es) (s,al)).2 st'∧
   ∀k,k<ctrl.length→st'.1.getD k false=(stepF a.es (ev.foldl (y6b a.es) (s,al)).1 (ctrl.getD k 0)).isSome:=by
 have h1:=yjG h ia ic ie hl he hsub (out:=st.1) (mem:=st.2) hv.ho hv.hm;have v0:=yky (m:=a.al.length) (inp:=a.al.map (hasB ev)) (by simp) hv.ho hv.hm hv.hq hv.ha;obtain⟨v1,v2,v3⟩:=yjm h.hn h.ed ia ie (yjH hsub) hv.hs v0;refine⟨_,h1,⟨v1.out.1,v1.mem.1,v2,v1.mem.2,v1.out.2.1⟩,fun k hk=>?_⟩;rw [←v3 k hk];exact v1.out.2.2 k (by omega)
theorem Shows.start{a:Aut}{ctrl:LI}{n:Nat}(h0:0<n):Shows a ctrl n 0 false (List.replicate (ctrl.length+1) false,true::List.replicate n false):=by
 refine⟨by simp,by simp,h0,fun k hk=>?_,?_⟩
 ·cases k with
  | zero=>rfl
  | succ k=>
   show(true::List.replicate n false).getD (k+1) false=_;rw [List.getD_cons_succ,yGd,List.getElem?_replicate];split <;> simp
 ·show (List.replicate (ctrl.length+1) false).getD ctrl.length false=_;rw [yGd,List.getElem?_replicate];split <;> rfl
theorem yir{a:Aut}{ctrl:LI}{n:Nat}(h:GenIn a ctrl n)(ia:Inc a.al)(ic:Inc ctrl):y5f (codeP a ctrl n).1=some ((List.replicate (ctrl.length+1) false,true::List.replicate n false),0):=yjx (ygS h ia ic)
theorem ykG :y5R=some true:=by kernel_rfl
theorem yer{xs:List (Int×Int×Int)}{p:(Int×Int×Int)→Option Bool}{q:(Int×Int×Int)→Bool}(hl:xs.length≤1000000)(hp:∀x,p x=some (q x)):
  ∃k,yE xs p=some k∧((k= -1∧xs.find? q=none)∨∃(i:Nat) (h:i<xs.length),k=(i:Int)∧xs.find? q=some xs[i]):=by
 obtain⟨o,h1,h2⟩:=ye (f:=y1v xs p) (fun i s=>s=(i:Int)∧i≤xs.length∧xs.find? q=(xs.drop i).find? q) (fun o=>(o= .inl ()∧xs.find? q=none)∨∃(i:Nat) (h:i<xs.length),o= .inr (i:Int)∧xs.find? q=some xs[i]) xs.length 0 (by omega) (fun i s hi ⟨e1,_,e2⟩=>by
  subst e1;rw [yDc hi] at e2;cases hq:q xs[i] with
  | true=>
   right;refine⟨_,?_,.inr ⟨i,hi,rfl,by rw [e2,List.find?_cons_of_pos hq]⟩⟩;rw [y1v,iP (ct_lt hi),yb hi,yOb,hp,hq,yOb,iP rfl]
  | false=>
   left;refine⟨((i+1:Nat):Int),?_,rfl,by omega,by rw [e2,List.find?_cons_of_neg (by rw [hq];simp)]⟩;rw [y1v,iP (ct_lt hi),yb hi,yOb,hp,hq,yOb,iN (by simp),nxt (by omega)]) (fun s ⟨e1,_,e2⟩=>by
  subst e1;rw [List.drop_length] at e2;exact⟨_,by rw [y1v,iN ct_ge],.inl ⟨rfl,e2⟩⟩) (yZl _) 0 ⟨rfl,yZl _,rfl⟩
 rw [yE,h1,yOb];rcases h2 with ⟨rfl,g⟩|⟨i,hi,rfl,g⟩
 ·exact ⟨_,rfl,.inl ⟨rfl,g⟩⟩
 ·exact ⟨_,rfl,.inr ⟨i,hi,rfl,g⟩⟩
theorem ydv{b:BenT}{n:Nat}(hP:Right b.1.1 n)(e:Int):y1N b e=some ((st1 b.1.1 b.2.2.1 e).getD (-1)):=by
 obtain⟨k,h1,h2⟩:=yer (xs:=b.1.1.2.2.2) (p:=y2s (some b) e) (q:=fun x=>x.1==b.2.2.1&&x.2.1==e) hP.l3 (fun x=>by
  rw [y2s,yOb];by_cases hx:(x.1==b.2.2.1)=true
  ·rw [iP hx,y1D,hx,Bool.true_and]
  ·rw [iN hx,y1D];simp only [Bool.not_eq_true] at hx;rw [hx,Bool.false_and])
 rw [y1N,h1,yOb];unfold st1;rcases h2 with ⟨rfl,g⟩|⟨i,hi,rfl,g⟩
 ·rw [g,iP (by simp)];rfl
 ·rw [g,iN (by simp),yOb,yb hi,yOb];rfl
theorem yet{b:BenT}{n:Nat}(hP:Right b.1.1 n)(e:Int):y2y b e=some ((st1 b.1.1 b.2.2.1 e).isSome,(b.1,b.2.1,(st1 b.1.1 b.2.2.1 e).getD b.2.2.1,b.2.2.2)):=by
 rw [y2y,ydv hP,yOb];cases hs:st1 b.1.1 b.2.2.1 e with
 | none=>
  rw [iN (by simp),y2I];rfl
 | some t=>
  have ht:=((hP.es _ ((y7l hP).1 hs)).2.2.1:(0:Int)≤t);rw [iP (by simpa using ht),y2I];simp [ht]
def trF(P:AutT)(c:Int):LI→Int→Bool→LI→Int×Bool×LI
 | [],s,ok,out=>(s,ok,out)
 | e::l,s,ok,out=>match st1 P s e with
  | none=>trF P c l s ok out
  | some t=>trF P c l t (ok&&(st1 P t c).isSome) (out++[e])
theorem ydU{P:AutT}{n:Nat}(hP:Right P n)(s e:Int):decide ((st1 P s e).getD (-1)≥0)=(st1 P s e).isSome:=by
 cases hs:st1 P s e with
 | none=>rfl
 | some t=>
  have ht:=((hP.es _ ((y7l hP).1 hs)).2.2.1:(0:Int)≤t);simpa using ht
theorem yis{b:BenT}{n:Nat}(hP:Right b.1.1 n){l:LI}(hl:l.length≤1000000)(c:Int):
  y4W b l c=some ((trF b.1.1 c l b.2.2.1 (c != -1) []).2.2,(trF b.1.1 c l b.2.2.1 (c != -1) []).2.1,(b.1,b.2.1,(trF b.1.1 c l b.2.2.1 (c != -1) []).1,b.2.2.2)):=by
 obtain⟨o,h1,h2⟩:=ye (f:=y3W l c) (fun i s=>s.2.1=(i:Int)∧s.1.1=b.1∧s.1.2.1=b.2.1∧s.1.2.2.2=b.2.2.2∧s.2.2.2.length≤i∧trF b.1.1 c l b.2.2.1 (c != -1) []=trF b.1.1 c (l.drop i) s.1.2.2.1 s.2.2.1 s.2.2.2) (fun o=>o=((b.1,b.2.1,(trF b.1.1 c l b.2.2.1 (c != -1) []).1,b.2.2.2),(trF b.1.1 c l b.2.2.1 (c != -1) []).2)) l.length 0 (by omega) (fun i s hi ⟨e1,e2,e3,e4,e5,e6⟩=>by
  obtain⟨⟨b1,b2,b3,b4⟩,j,ok,out⟩:=s;dsimp only at e1 e2 e3 e4 e5 e6;subst e1 e2 e3 e4;left;rw [yDc hi,trF] at e6;have ht:=yet (b:=(b.1,b.2.1,b3,b.2.2.2)) hP l[i];dsimp only at ht;rw [y3W,iP (ct_lt hi),yb hi,yOb,ht,yOb];cases hs:st1 b.1.1 b3 l[i] with
  | none=>
   rw [hs] at e6;refine⟨((b.1,b.2.1,b3,b.2.2.2),((i+1:Nat):Int),ok,out),?_,rfl,rfl,rfl,rfl,Nat.le_succ_of_le e5,e6⟩;rw [iN (by simp),y1w,nxt (by omega)];rfl
  | some t=>
   rw [hs] at e6;refine⟨((b.1,b.2.1,t,b.2.2.2),((i+1:Nat):Int),(ok&&(st1 b.1.1 t c).isSome),out++[l[i]]),?_,rfl,rfl,rfl,rfl,by simp;omega,e6⟩;have hld:=ydv (b:=(b.1,b.2.1,t,b.2.2.2)) hP c;dsimp only at hld;rw [iP (by rfl),yg (by simp;omega),yOb,Option.getD_some];cases ok with
   | true=>rw [iP rfl,hld,yOb,yOb,y1w,ydU hP,nxt (by omega),Bool.true_and]
   | false=>rw [iN (by simp),yOb,y1w,nxt (by omega),Bool.false_and]) (fun s ⟨e1,e2,e3,e4,e5,e6⟩=>by
  obtain⟨⟨b1,b2,b3,b4⟩,j,ok,out⟩:=s;dsimp only at e1 e2 e3 e4 e5 e6;subst e1 e2 e3 e4;rw [List.drop_length,trF] at e6;exact⟨_,by rw [y3W,iN ct_ge],by rw [e6]⟩) (yZl _) (b,0,(c != -1),[]) ⟨rfl,rfl,rfl,rfl,yNr _,rfl⟩
 rw [y4W,h1,yOb,h2]
theorem has55{xs:LI}(hl:xs.length≤1000000)(x:Int):y5j xs x=some (hasB xs x):=by
 obtain⟨o,h1,h2⟩:=ye (f:=y3P xs x) (fun i s=>s=(i:Int)∧∀j (h:j<xs.length),j<i→xs[j]≠x) (fun o=>(o= .inl ()∧x∉xs)∨(o= .inr ()∧x∈xs)) xs.length 0 (by omega) (fun i s hi ⟨e1,e2⟩=>by
  subst e1;by_cases he:xs[i]=x
  ·right;refine⟨_,?_,.inr ⟨rfl,he▸yGm hi⟩⟩;rw [y3P,iP (ct_lt hi),yb hi,yOb,iP (by simpa using he)]
  ·left;refine⟨((i+1:Nat):Int),?_,rfl,fun j h hj=>?_⟩
   ·rw [y3P,iP (ct_lt hi),yb hi,yOb,iN (by simpa using he),nxt (by omega)]
   ·by_cases e:j=i
    ·subst e;exact he
    ·exact e2 j h (by omega)) (fun s ⟨e1,e2⟩=>by
  subst e1;refine⟨_,by rw [y3P,iN ct_ge],.inl ⟨rfl,fun hm=>?_⟩⟩;obtain⟨j,hj,e⟩:=List.mem_iff_getElem.1 hm;exact e2 j hj hj e) (yZl _) 0 ⟨rfl,fun j h hj=>by omega⟩
 rw [y5j,h1,yOb];rcases h2 with ⟨rfl,g⟩|⟨rfl,g⟩
 ·have:hasB xs x=false:=by
   cases hb:hasB xs x with
   | false=>rfl
   | true=>exact absurd (ya.1 hb) g
  rw [this]
 ·rw [ya.2 g]
def hnS(S:AutT)(x:Int×Bool)(e:Int):Int×Bool:=match st1 S x.1 e with
 | none=>(x.1,true)
 | some t=>(t,x.2)
def imL(S:AutT)(im:LI)(k:Nat):LI:=((List.range k).map fun i:Nat=>(i:Int)).filter fun e=>hasB im e&&hasB S.1 e
theorem yfR{S:AutT}{n:Nat}(hS:Right S n)(s:Nat)(e:Int):(stepF (toAut S).es s e).map (fun t:Nat=>(t:Int))=st1 S (s:Int) e:=by
 unfold stepF st1;show((((S.2.2.2.map toEd).find? _).map _).map _)=_;rw [List.find?_map];cases h:S.2.2.2.find? fun x=>x.1==(s:Int)&&x.2.1==e with
 | none=>
  have h':S.2.2.2.find? ((fun x:Ed=>x.f==(s:Int)&&x.e==e)∘toEd)=none:=h;rw [h'];rfl
 | some x=>
  have h':S.2.2.2.find? ((fun x:Ed=>x.f==(s:Int)&&x.e==e)∘toEd)=some x:=h;have:=(hS.es x (List.mem_of_find?_eq_some h)).2.2.1;rw [h'];show some (((x.2.2).toNat:Nat):Int)=some x.2.2;rw [Int.toNat_of_nonneg this]
theorem yeu{S:AutT}{n:Nat}(hS:Right S n):∀(ev:LI) (s:Nat) (al:Bool),(ev.foldl (hnS S) ((s:Int),al))=(((ev.foldl (y6b (toAut S).es) (s,al)).1:Int),(ev.foldl (y6b (toAut S).es) (s,al)).2)
 | [],_,_=>rfl
 | e::ev,s,al=>by
  rw [List.foldl_cons,List.foldl_cons,hnS,y6b];dsimp only;have h:=yfR hS s e;cases hs:stepF (toAut S).es s e with
  | none=>
   rw [hs] at h;rw [←h];exact yeu hS ev s true
  | some t=>
   rw [hs] at h;rw [←h];exact yeu hS ev t al
end
end Go.Proofs.YtfdeiphkmjdifaaGreatDoor
