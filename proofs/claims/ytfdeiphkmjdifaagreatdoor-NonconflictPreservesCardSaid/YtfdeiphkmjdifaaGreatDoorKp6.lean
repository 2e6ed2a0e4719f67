/- Parts of the proof, without what nothing here names. -/
import Derived.Test.YtfdeiphkmjdifaaGreatDoorKp5
namespace Go.Proofs.YtfdeiphkmjdifaaGreatDoor
section
open Go Go.RowKit
noncomputable section
theorem W_of{x:Int}(h0: -9223372036854775808≤x)(h1:x<9223372036854775808):W x=x:=IntWalk.i64_in _ (by omega)
theorem W_nat{k:Nat}(h:k<9223372036854775808):W (k:Int)=k:=W_of (by omega) (by omega)
theorem yd{α:Type}{xs:List α}{i:Nat}(h:i<xs.length):idx xs (i:Int)=some xs[i]:=by rw [ygT,yGe h]
theorem y5D{S O:Type}{f:S→Option (S⊕O)}{s:S}{o:O}{n:Nat}(hn:n≤18446744073709551616)(h:iterF f n s=some o):iter f s=some o:=by
 have mono:∀(n m:Nat) (s:S),n≤m→iterF f n s=some o→iterF f m s=some o:=by
  intro n
  induction n with
  | zero=>intro m s _ h;cases h
  | succ n ih=>
   intro m s hm h;obtain⟨k,rfl⟩:∃k,m=k+1:=⟨m-1,by omega⟩;rw [yp] at h ⊢;split at h
   ·cases h
   ·rename_i h1;exact ih k _ (by omega) h
   ·rename_i h1;exact h
 exact mono n _ s hn h
theorem yg{S O:Type}{f:S→Option (S⊕O)}(P:Nat→S→Prop)(Q:O→Prop):∀(n i:Nat),n<i+18446744073709551616→(∀i s,i<n→P i s→(∃s',f s=some (.inl s')∧P (i+1) s')∨∃o,f s=some (.inr o)∧Q o)→(∀s,P n s→∃o,f s=some (.inr o)∧Q o)→i≤n→
  ∀s,P i s→∃o,iter f s=some o∧Q o:=by
 have key:∀(n:Nat),(∀i s,i<n→P i s→(∃s',f s=some (.inl s')∧P (i+1) s')∨∃o,f s=some (.inr o)∧Q o)→(∀s,P n s→∃o,f s=some (.inr o)∧Q o)→∀(j i:Nat),i+j=n→∀s,P i s→∃o,iterF f (j+1) s=some o∧Q o:=by
  intro n step fin j
  induction j with
  | zero=>
   intro i hi s h;obtain rfl:i=n:=by omega
   obtain⟨o,h1,h2⟩:=fin s h;exact⟨o,by rw [yp,h1],h2⟩
  | succ j ih=>
   intro i hi s h;rcases step i s (by omega) h with ⟨s',h1,h2⟩|⟨o,h1,h2⟩
   ·obtain ⟨o,h3,h4⟩:=ih (i+1) (by omega) s' h2;exact⟨o,by rw [yp,h1];exact h3,h4⟩
   ·exact ⟨o,by rw [yp,h1],h2⟩
 intro n i hn step fin hi s h;obtain⟨o,h1,h2⟩:=key n step fin (n-i) i (by omega) s h;exact⟨o,y5D (by omega) h1,h2⟩
theorem nxt{i:Nat}(h:i<4611686018427387904):W ((i:Int)+1)=((i+1:Nat):Int):=by rw [show (i:Int)+1=((i+1:Nat):Int) by omega,W_nat (by omega)]
theorem ct_lt{i n:Nat}(h:i<n):decide ((i:Int)<(n:Int))=true:=by simp;omega
theorem ct_ge{n:Nat}:¬decide ((n:Int)<(n:Int))=true:=by simp
theorem yaA{xs:LI}(h:xs.length≤4294967296):yk xs=some xs:=by
 rw [yk,yeF (by simpa using h)];rfl
def errO(e:Int):Unit⊕Int:=if e=0 then .inl () else .inr e
theorem ydy{xs:LI}{n:Int}(hl:xs.length<4611686018427387904):∀(j i:Nat),i+j=xs.length→
  iterF (y1Y xs n) (j+1) (i:Int)=some (errO (yj n (y3o xs i) (xs.drop i))):=by
 intro j
 induction j with
 | zero=>
  intro i hi;have e:xs.drop i= []:=List.drop_of_length_le (by omega);rw [yp,y1Y,iN (by simp;omega),e];rfl
 | succ j ih=>
  intro i hi;have hlt:i<xs.length:=by omega
  rw [yp,y1Y,iP (by simp;omega),yd hlt,yOb];by_cases h1:xs[i]<0∨n≤xs[i]
  ·rw [iP (by simpa using h1),yaj hlt h1];rfl
  ·rw [iN (by simpa using h1)];by_cases h0:0<i
   ·rw [iP (by simp;omega),show(i:Int)-1=((i-1:Nat):Int) by omega,W_nat (by omega),yd (show i-1<xs.length by omega),yOb,yOb];by_cases h2:xs[i]≤xs[i-1]
    ·rw [iP (by simpa using h2),yak hlt h1 h0 h2];rfl
    ·rw [iN (by simpa using h2),show(i:Int)+1=((i+1:Nat):Int) by omega,W_nat (by omega),y6c hlt h1 (fun _=>by omega)];exact ih (i+1) (by omega)
   ·rw [iN (by simp;omega),yOb,iN (by simp),show(i:Int)+1=((i+1:Nat):Int) by omega,W_nat (by omega),y6c hlt h1 (fun h=>absurd h h0)];exact ih (i+1) (by omega)
theorem yac{xs:LI}{n:Int}(hl:xs.length<4611686018427387904):y1d xs n=some (yj n none xs):=by
 have h:iter (y1Y xs n) 0=some (errO (yj n none xs)):=y5D (by omega) (ydy (n:=n) hl xs.length 0 (by omega));rw [y1d,h,yOb];by_cases h0:yj n none xs=0
 ·rw [h0];rfl
 ·rw [errO,iN h0]
theorem ygh{xs:LI}{x:Int}(hl:xs.length<4611686018427387904):∀(j i:Nat),i+j=xs.length→
  ∃o,iterF (y2B xs x) (j+1) (i:Int)=some o∧((o= .inl ()∧x∉xs.drop i)∨∃k:Nat,i≤k∧o= .inr (k:Int)∧x∈xs.drop i):=by
 intro j
 induction j with
 | zero=>
  intro i hi;have e:xs.drop i= []:=List.drop_of_length_le (by omega);refine⟨.inl (),?_,.inl ⟨rfl,by rw [e];simp⟩⟩;rw [yp,y2B,iN (by simp;omega)]
 | succ j ih=>
  intro i hi;have hlt:i<xs.length:=by omega
  rw [yp,y2B,iP (by simp;omega),yd hlt,yOb];by_cases h1:x=xs[i]
  ·rw [iP (by simpa using h1)];exact⟨_,rfl,.inr ⟨i,yNr _,rfl,by rw [yDc hlt,h1];exact yMc⟩⟩
  ·rw [iN (by simpa using h1),show(i:Int)+1=((i+1:Nat):Int) by omega,W_nat (by omega)];obtain⟨o,h2,h3⟩:=ih (i+1) (by omega);refine⟨o,h2,?_⟩;rw [yDc hlt];rcases h3 with ⟨h4,h5⟩|⟨k,h4,h5,h6⟩
   ·exact .inl ⟨h4,fun hc=>(yMo.1 hc).elim h1 h5⟩
   ·exact .inr ⟨k,by omega,h5,yMm _ h6⟩
theorem y4w{xs:LI}{x:Int}(hl:xs.length<4611686018427387904):ym xs x=some (hasB xs x):=by
 obtain⟨o,h1,h2⟩:=ygh (x:=x) hl xs.length 0 (by omega);have h:iter (y2B xs x) 0=some o:=y5D (by omega) h1;rw [ym,y4S,h,yOb];rcases h2 with ⟨rfl,h4⟩|⟨k,_,rfl,h4⟩
 ·rw [y5G.2 (by simpa using h4)];rfl
 ·rw [yo.2 (by simpa using h4)];show some (decide ((k:Int)≥0))=some true;simp
def edP(x:Ed):Int×Int×Int:=(x.f,x.e,x.t)
def autP(a:Aut):LI×Int×LI×List (Int×Int×Int):=(a.al,a.n,a.ms,a.es.map edP)
def prevE(es:List Ed)(k:Nat):Option Ed:=if k=0 then none else es[k-1]?
theorem ydz{al:LI}{n:Int}{es:List Ed}{k:Nat}(hk:k<es.length):edErr al n (prevE es k) (es.drop k)=
  if(es[k].f<0∨n≤es[k].f∨es[k].t<0∨n≤es[k].t) then 2 else if hasB al es[k].e=false then 9 else if(∃q,prevE es k=some q∧(es[k].f<q.f∨(es[k].f=q.f∧es[k].e≤q.e))) then 5 else edErr al n (prevE es (k+1)) (es.drop (k+1)):=by
 rw [yDc hk,edErr];congr 3;simp [prevE,yGe hk]
theorem ygi{a:Aut}(hl:a.es.length<4611686018427387904)(hal:a.al.length<4611686018427387904):∀(j i:Nat),i+j=a.es.length→
  iterF (y1w (autP a)) (j+1) (i:Int)=some (errO (edErr a.al a.n (prevE a.es i) (a.es.drop i))):=by
 have hlen:(autP a).2.2.2.length=a.es.length:=by simp [autP]
 have hat:∀(i:Nat) (h:i<a.es.length),idx (autP a).2.2.2 (i:Int)=some (edP a.es[i]):=fun i h=>by
  rw [yd (by rw [hlen];exact h)];simp [autP]
 intro j
 induction j with
 | zero=>
  intro i hi;have e:a.es.drop i= []:=List.drop_of_length_le (by omega);rw [yp,y1w,iN (by rw [hlen];simp;omega),e];rfl
 | succ j ih=>
  intro i hi;have hlt:i<a.es.length:=by omega
  have hnext:y1v (i:Int)=some (.inl ((i+1:Nat):Int)):=by
   rw [y1v,show(i:Int)+1=((i+1:Nat):Int) by omega,W_nat (by omega)]
  rw [yp,y1w,iP (by rw [hlen];simp;omega),hat i hlt,yOb,ydz hlt];by_cases h1:a.es[i].f<0∨a.n≤a.es[i].f∨a.es[i].t<0∨a.n≤a.es[i].t
  ·rw [iP (by simp only [Bool.or_eq_true,decide_eq_true_eq];show((a.es[i].f<0∨a.es[i].f≥a.n)∨a.es[i].t<0)∨a.es[i].t≥a.n;omega),iP h1];rfl
  ·rw [iN (by simp only [Bool.or_eq_true,decide_eq_true_eq];show ¬(((a.es[i].f<0∨a.es[i].f≥a.n)∨a.es[i].t<0)∨a.es[i].t≥a.n);omega),iN h1];rw [show ym (autP a).1 (edP a.es[i]).2.1=some (hasB a.al a.es[i].e) from y4w hal,yOb];cases h2:hasB a.al a.es[i].e with
   | false=>rfl
   | true=>
    rw [iN (show ¬(!true)=true by simp),iN (show ¬(true=false) by simp)];by_cases h0:i=0
    ·subst h0;rw [iP (by simp),hnext,iN (by rintro⟨q,hq,_⟩;simp [prevE] at hq)];exact ih 1 (by omega)
    ·have hp:prevE a.es i=some a.es[i-1]:=by rw [prevE,iN h0,yGe (by omega)]
     rw [iN (by simp;omega),show(i:Int)-1=((i-1:Nat):Int) by omega,W_nat (by omega),hat (i-1) (by omega),yOb];by_cases h3:a.es[i].f<a.es[i-1].f∨(a.es[i].f=a.es[i-1].f∧a.es[i].e≤a.es[i-1].e)
     ·rw [iP (by simp only [Bool.or_eq_true,yAe,decide_eq_true_eq,beq_iff_eq];exact h3),iP ⟨_,hp,h3⟩];rfl
     ·rw [iN (by simp only [Bool.or_eq_true,yAe,decide_eq_true_eq,beq_iff_eq];exact h3),hnext,iN (by rintro⟨q,hq,h4⟩;rw [hp] at hq;cases hq;exact h3 h4)];exact ih (i+1) (by omega)
theorem ygj{a:Aut}(hl:a.es.length<4611686018427387904)(hal:a.al.length<4611686018427387904)(hms:a.ms.length<4611686018427387904):y2V (autP a)=some a.err:=by
 have h:iter (y1w (autP a)) 0=some (errO (edErr a.al a.n none a.es)):=y5D (by omega) (ygi hl hal a.es.length 0 (by omega));have he:y3l (autP a)=some (edErr a.al a.n none a.es):=by
  rw [y3l,h,yOb];by_cases h0:edErr a.al a.n none a.es=0
  ·rw [h0];rfl
  ·rw [errO,iN h0]
 rw [y2V,show y1d (autP a).1 32=some (yj 32 none a.al) from yac hal,yOb,Aut.err];by_cases h1:(yj 32 none a.al != 0)=true
 ·rw [iP h1,iP h1]
 ·rw [iN h1,iN h1];by_cases h2:a.n<0
  ·rw [iP (show decide ((autP a).2.1<0)=true from decide_eq_true h2),iP h2]
  ·rw [iN (show ¬decide ((autP a).2.1<0)=true from fun e=>h2 (of_decide_eq_true e)),iN h2];by_cases h3:4096<a.n
   ·rw [iP (show decide ((autP a).2.1>4096)=true from decide_eq_true h3),iP h3]
   ·rw [iN (show ¬decide ((autP a).2.1>4096)=true from fun e=>h3 (of_decide_eq_true e)),iN h3,show y1d (autP a).2.2.1 (autP a).2.1=some (yj a.n none a.ms) from yac hms,yOb];by_cases h4:(yj a.n none a.ms != 0)=true
    ·rw [iP h4,iP h4]
    ·rw [iN h4,iN h4,he];rfl
abbrev Inc(xs:LI):Prop:=xs.Pairwise (· < ·)
theorem ydY{i j:Nat}(h:i+j<9223372036854775808):W ((IntKind.u64.wrap (W ((i:Int)+(j:Int)))).fdiv (2 ^ (min (1:Int).toNat 64)))=(((i+j)/2:Nat):Int):=by
 rw [W_of (x:=(i:Int)+j) (by omega) (by omega),IntWalk.u64_in _ (by omega),show(2:Int) ^ (min (1:Int).toNat 64)=2 from rfl,Int.fdiv_eq_ediv_of_nonneg _ (by omega),W_of (by omega) (by omega)];omega
theorem yhd(x y:Int):y5a x y=some (decide (x<y)):=by
 rw [y5a,show y1s x=some false by rw [y1s];simp,yOb,iN (by simp),yOb,Bool.false_or]
theorem yhP{xs:LI}{t:Int}(hl:xs.length<4294967296)(hs:Inc xs):∀(f i j:Nat),j≤i+f→i≤j→j≤xs.length→(∀k (h:k<xs.length),k<i→xs[k]<t)→(∀k (h:k<xs.length),j≤k→t≤xs[k])→
  ∃p:Nat,iterF (yX xs t) (f+1) ((j:Int),(i:Int))=some (p:Int)∧p≤xs.length∧(∀k (h:k<xs.length),k<p→xs[k]<t)∧(∀k (h:k<xs.length),p≤k→t≤xs[k]):=by
 intro f
 induction f with
 | zero=>
  intro i j h1 h2 h3 h4 h5;refine⟨i,?_,by omega,h4,fun k h hk=>h5 k h (by omega)⟩;rw [yp,yX,iN (by simp;omega)]
 | succ f ih=>
  intro i j h1 h2 h3 h4 h5;rw [yp,yX];dsimp only;by_cases hij:i<j
  ·have hm:(i+j)/2<xs.length:=by omega
   rw [iP (by simp;omega),ydY (by omega),yd hm,yOb,yhd,yOb];have mono:∀(a b:Nat) (ha:a<xs.length) (hb:b<xs.length),a≤b→xs[a]≤xs[b]:=fun a b ha hb hab=>by
    rcases Nat.lt_or_ge a b with h|h
    ·exact Int.le_of_lt (yPg.1 hs a b ha hb h)
    ·have:a=b:=by omega
     subst this;exact Int.le_refl _
   by_cases hc:xs[(i+j)/2]<t
   ·rw [iP (decide_eq_true hc),show(((i+j)/2:Nat):Int)+1=(((i+j)/2+1:Nat):Int) by omega,W_nat (by omega)];exact ih _ j (by omega) (by omega) h3 (fun k h hk=>by have:=mono k _ h hm (by omega);omega) h5
   ·rw [iN (by simpa using hc)];exact ih i _ (by omega) (by omega) (by omega) h4 (fun k h hk=>by have:=mono _ k hm h hk;omega)
  ·rw [iN (by simp;omega)];exact⟨i,rfl,by omega,h4,fun k h hk=>h5 k h (by omega)⟩
theorem y4n{xs:LI}{t:Int}(hl:xs.length<4294967296)(hs:Inc xs):yl xs t=some (hasB xs t):=by
 obtain⟨p,hp,hle,hlo,hhi⟩:=yhP (t:=t) hl hs xs.length 0 xs.length (by omega) (by omega) (by omega) (fun k h hk=>absurd hk (by omega)) (fun k h hk=>absurd hk (by omega));have hi:iter (yX xs t) ((xs.length:Int),0)=some (p:Int):=y5D (by omega) hp;rw [yl,y3z,hi,yOb];by_cases hlt:p<xs.length
 ·rw [iP (by simpa using hlt),yd hlt,yOb];by_cases he:xs[p]=t
  ·rw [iP (by simpa using he)];show some true=_;rw [yo.2 (he▸yGm hlt)]
  ·rw [iN (by simpa using he),yOb,show y3p xs[p]=some false by rw [y3p];simp,yOb,iN (by simp)];show some false=_;rw [y5G.2];intro hm;obtain⟨k,hk,hk2⟩:=List.getElem_of_mem hm;rcases Nat.lt_trichotomy k p with h|h|h
   ·have:=hlo k hk h;omega
   ·subst h;exact he hk2
   ·have:=hhi p hlt (yNr _);have:=yPg.1 hs p k hlt hk h;omega
 ·rw [iN (by simpa using hlt)];show some false=_;rw [y5G.2];intro hm;obtain⟨k,hk,hk2⟩:=List.getElem_of_mem hm;have:=hlo k hk (by omega);omega
theorem y9D{n:Int}:∀{p:Option Int} {xs:LI},xs.Pairwise (· < ·)→(∀x∈xs,0≤x∧x<n)→(∀q,p=some q→∀x∈xs,q<x)→yj n p xs=0
 | _,[],_,_,_=>rfl
 | p,x::xs,h,hr,hp=>by
  obtain⟨h1,h2⟩:=yPc.1 h;have h3:=hr x (yMc ..);rw [yj,iN (by omega),iN ?_]
  ·exact y9D h2 (fun y hy=>hr y (yMm _ hy)) (fun q hq y hy=>by cases hq;exact h1 y hy)
  ·rintro ⟨q,hq,hle⟩;have:=hp q hq x (yMc ..);omega
theorem ycX{al:LI}{n:Int}:∀{p:Option Ed} {es:List Ed},ycW es→(∀x∈es,0≤x.f∧x.f<n∧0≤x.t∧x.t<n∧hasB al x.e=true)→(∀q,p=some q→∀x∈es,edLt q x)→edErr al n p es=0
 | _,[],_,_,_=>rfl
 | p,x::xs,h,hr,hp=>by
  obtain⟨h1,h2⟩:=yPc.1 h;have h3:=hr x (yMc ..);rw [edErr,iN (by omega),iN (by rw [h3.2.2.2.2];simp),iN ?_]
  ·exact ycX h2 (fun y hy=>hr y (yMm _ hy)) (fun q hq y hy=>by cases hq;exact h1 y hy)
  ·rintro ⟨q,hq,hle⟩;have:=hp q hq x (yMc ..);unfold edLt at this;omega
theorem yet(a:AutT):autP (toAut a)=a:=by
 obtain⟨x,y,z,es⟩:=a;simp only [autP,toAut,List.map_map];rw [show (edP∘toEd)=id from rfl,List.map_id]
structure Right (a:AutT) (n:Nat):Prop where
 nn:a.2.1=(n:Int)
 nl:n≤4096
 ali:Inc a.1
 alr:∀x∈a.1,0≤x∧x<32
 msi:Inc a.2.2.1
 msr:∀x∈a.2.2.1,0≤x∧x<(n:Int)
 es:∀x∈a.2.2.2,0≤x.1∧x.1<(n:Int)∧0≤x.2.2∧x.2.2<(n:Int)∧x.2.1∈a.1
 so:a.2.2.2.Pairwise fun x y=>x.1<y.1∨(x.1=y.1∧x.2.1<y.2.1)
 l1:a.1.length≤1000000
 l2:a.2.2.1.length≤1000000
 l3:a.2.2.2.length≤1000000
namespace Right
variable{a:AutT}{n:Nat}
theorem sorted(h:Right a n):ycW (a.2.2.2.map toEd):=by
 unfold ycW;rw [List.pairwise_map];exact h.so
theorem evs(h:Right a n):EvEs (a.2.2.2.map toEd):=fun x hx=>by
 obtain⟨y,hy,rfl⟩:=List.mem_map.1 hx;exact h.alr _ (h.es y hy).2.2.2.2
theorem err(h:Right a n):(toAut a).err=0:=by
 have h1:yj 32 none (toAut a).al=0:=y9D h.ali h.alr (fun q hq=>by cases hq);have hn:(toAut a).n=n:=h.nn;have h2:yj (toAut a).n none (toAut a).ms=0:=by rw [hn];exact y9D h.msi h.msr (fun q hq=>by cases hq)
 have h3:edErr (toAut a).al (toAut a).n none (toAut a).es=0:=by
  rw [hn];refine ycX h.sorted (fun x hx=>?_) (fun q hq=>by cases hq);obtain⟨y,hy,rfl⟩:=List.mem_map.1 hx;have:=h.es y hy;exact⟨this.1,this.2.1,this.2.2.1,this.2.2.2.1,yo.2 this.2.2.2.2⟩
 have:=h.nl;unfold Aut.err;rw [h1,if_neg (by decide),if_neg (by rw [hn];omega),if_neg (by rw [hn];omega),h2,if_neg (by decide),h3]
theorem check(h:Right a n):y2V a=some 0:=by
 have h1:=h.l1;have h2:=h.l2;have h3:=h.l3;have:=ygj (a:=toAut a) (by simp [toAut];omega) (by simp [toAut];omega) (by simp [toAut];omega);rwa [yet,h.err] at this
end Right
theorem y5q{α:Type}(a:α)(us:List α):idx (a::us) 0=some a:=rfl
theorem y8w{α:Type}(a:α)(us:List α):slc (a::us) 1 ((a::us).length:Int)=some us:=by
 rw [slc,if_pos ⟨by omega,by simp;omega,by omega⟩];simp
theorem y6t :∀(N:Nat) (l:List Nat),l.Nodup→(∀x∈l,x<N)→l.length≤N
 | 0,[],_,_=>Nat.le_refl _
 | 0,x::l,_,h=>absurd (h x (List.mem_cons_self ..)) (by omega)
 | N+1,l,hn,h=>by
  by_cases hm:N∈l
  ·have h1:=y6t N (l.erase N) (hn.erase N) (fun x hx=>by
    have h2:=(hn.mem_erase_iff).1 hx;have:=h x h2.2;omega)
   rw [List.length_erase_of_mem hm] at h1;omega
  ·have h1:=y6t N l hn (fun x hx=>by
    have:=h x hx;have:x≠N:=fun e=>hm (e▸hx);omega)
   omega
theorem y9T.snoc{es:List Ed}:∀{k:Nat} {x:Int} {e:Ed},e∈es→y9T es [e.f] k x→y9T es [e.t] (k+1) x
 | 0,x,e,he,h=>⟨e,he,(yMs.1 h).symm,yMs.2 rfl⟩
 | k+1,x,e,he,⟨y,hy,h1,h2⟩=>⟨y,hy,h1,h2.snoc he⟩
def dd{α:Type}[DecidableEq α]:List α→List α
 | []=> []
 | [x]=> [x]
 | x::y::l=>if x=y then dd (y::l) else x::dd (y::l)
section
variable{α:Type}[DecidableEq α]
theorem ydZ(x y:α):∀l:List α,dd (l++[x,y])=if x=y then dd (l++[x]) else dd (l++[x])++[y]
 | []=>by simp only [List.nil_append,dd];split <;> simp_all
 | [z]=>by
  show dd (z::x::[y])=if x=y then dd [z,x] else dd [z,x]++[y]
  simp only [dd];by_cases h1:z=x <;> by_cases h2:x=y <;> simp [h1,h2]
 | z::w::l=>by
  have ih:=ydZ x y (w::l);show dd (z::w::(l++[x,y]))=if x=y then dd (z::w::(l++[x])) else dd (z::w::(l++[x]))++[y]
  have ih:dd (w::(l++[x,y]))=if x=y then dd (w::(l++[x])) else dd (w::(l++[x]))++[y]:=ih
  simp only [dd,ih];by_cases h1:z=w <;> by_cases h2:x=y <;> simp [h1,h2]
theorem ybE{xs:List α}{k:Nat}(h:k+1<xs.length):dd (xs.take (k+2))=if xs[k]=xs[k+1] then dd (xs.take (k+1)) else dd (xs.take (k+1))++[xs[k+1]]:=by
 have h1:xs.take (k+1)=xs.take k++[xs[k]]:=by rw [yTs]
 have h2:xs.take (k+2)=xs.take k++[xs[k],xs[k+1]]:=by rw [yTs h,h1,List.append_assoc];rfl
 rw [h2,h1,ydZ]
theorem ygk{xs:List α}(h:0<xs.length):dd (xs.take 1)=xs.take 1:=by
 cases xs with
 | nil=>simp at h
 | cons x l=>rfl
theorem ybF{xs:List α}:∀{k:Nat},k≤xs.length→(∀i (h:i+1<xs.length),i+1<k→xs[i]≠xs[i+1])→dd (xs.take k)=xs.take k
 | 0,_,_=>rfl
 | 1,h,_=>ygk (by omega)
 | k+2,h,hn=>by
  rw [ybE (by omega),if_neg (hn k (by omega) (by omega)),ybF (k:=k+1) (by omega) fun i h1 h2=>hn i h1 (by omega),yTs (i:=k+1) (by omega)]
theorem yb5 :∀{xs:List α} {x:α},x∈dd xs↔x∈xs
 | [],_=>Iff.rfl
 | [_],_=>Iff.rfl
 | y::z::l,x=>by
  have ih:=yb5 (xs:=z::l) (x:=x);unfold dd;split
  ·rename_i e;subst e;rw [ih];simp
  ·rw [List.mem_cons,ih,List.mem_cons (a:=x) (b:=y)]
theorem y9E :∀(xs:List α),(dd xs).length≤xs.length
 | []=>Nat.le_refl _
 | [_]=>Nat.le_refl _
 | y::z::l=>by
  have ih:=y9E (z::l);unfold dd;split
  ·simp only [List.length_cons] at *;omega
  ·simp only [List.length_cons] at *;omega
/-! The loops, for any elements. -/
def cpL2(k:Int)(st:List α×Int×Int):Option ((List α×Int×Int)⊕(List α×Int)):=
 if decide (st.2.1<((st.1.length-k.toNat:Nat):Int))=true then
  (idxV st.1 k.toNat st.2.1).bind fun x=>(idxV st.1 k.toNat (W (st.2.1-1))).bind fun y=>
  if x≠y then(idxV st.1 k.toNat st.2.1).bind fun z=>(idx st.1 st.2.2).bind fun _=>(upd st.1 st.2.2 z).bind fun l=>some (.inl (l,W (st.2.1+1),W (st.2.2+1)))
  else some (.inl (st.1,W (st.2.1+1),st.2.2))
 else some (.inr (st.1,st.2.2))
def cpL1(z0:α)(p0:List α)(st:Int):Option (Int⊕(Unit⊕List α)):=
 if decide (st<(p0.length:Int))=true then
  (idx p0 st).bind fun x=>(idx p0 (W (st-1))).bind fun y=>
  if x=y then(slc p0 st (p0.length:Int)).bind fun _=>(iter (cpL2 st) (p0,1,st)).bind fun o=>(slc o.1 o.2 (o.1.length:Int)).bind fun _=>
   (slc (o.1.take o.2.toNat++List.replicate (o.1.length-o.2.toNat) z0) 0 o.2).bind fun x=>some (.inr (.inr x))
  else some (.inl (W (st+1)))
 else some (.inr (.inl ()))
def cpL(z0:α)(p0:List α):Option (List α):=
 if decide ((p0.length:Int)<2)=true then some p0
 else(iter (cpL1 z0 p0) 1).bind fun o=>match o with
  | .inl _=>some p0
  | .inr u=>some u
end
theorem y9F{α:Type}{xs:List α}{i j:Nat}(h1:i≤j)(h2:j≤xs.length):slc xs (i:Int) (j:Int)=some ((xs.take j).drop i):=by
 unfold slc;rw [if_pos (by omega)];simp
section
variable{α:Type}[DecidableEq α]
omit [DecidableEq α] in
theorem ye0{xs:List α}{k j:Nat}(h:k+j<xs.length):idxV xs k (j:Int)=some xs[k+j]:=by
 unfold idxV;rw [if_pos (by omega),show((k:Nat):Int)+(j:Int)=((k+j:Nat):Int) by omega,yd h]
theorem ygl{xs:List α}(hl:xs.length≤4294967296){k:Nat}(hkn:k<xs.length)(hd:dd (xs.take (k+1))=xs.take k):∃(row:List α) (m:Nat),iter (cpL2 (k:Int)) (xs,1,(k:Int))=some (row,(m:Int))∧row.length=xs.length∧m≤xs.length∧row.take m=dd xs:=by
 obtain⟨o,h1,row,m,rfl,h2,h3,h4⟩:=yg (f:=cpL2 (k:Int))
  (fun j (st:List α×Int×Int)=>∃(row:List α) (m:Nat),st=(row,((j+1:Nat):Int),(m:Int))∧row.length=xs.length∧m≤k+j∧row.take m=dd (xs.take (k+j+1))∧∀i,k+j≤i→row[i]? =xs[i]?)
  (fun o=>∃(row:List α) (m:Nat),o=(row,(m:Int))∧row.length=xs.length∧m≤xs.length∧row.take m=dd xs)
  (xs.length-k-1) 0 (by omega) (fun j st hj ⟨row,m,e,g1,g2,g3,g4⟩=>by
   subst e;have hx:idxV row k (((j+1:Nat):Int))=some xs[k+j+1]:=by
    rw [ye0 (by omega)];have:=g4 (k+(j+1)) (by omega);rw [yGe (by omega),yGe (by omega)] at this;rw [Option.some.inj this];rfl
   have hy:idxV row k (W (((j+1:Nat):Int)-1))=some xs[k+j]:=by
    rw [show ((j+1:Nat):Int)-1=(j:Int) by omega,W_nat (by omega),ye0 (by omega)];have:=g4 (k+j) (by omega);rw [yGe (by omega),yGe (by omega)] at this;rw [Option.some.inj this]
   have hdd:=ybE (xs:=xs) (k:=k+j) (by omega);refine .inl ?_;unfold cpL2;rw [if_pos (by simp;omega)];simp only [Int.toNat_natCast,hx,hy,yOb];by_cases he:xs[k+j]=xs[k+j+1]
   ·rw [if_neg (by simpa using he.symm)];refine⟨_,rfl,row,m,?_,g1,by omega,?_,fun i hi=>g4 i (by omega)⟩
    ·simp only [nxt (show j+1<4611686018427387904 by omega)]
    ·rw [g3];rw [if_pos he] at hdd;exact hdd.symm
   ·rw [if_pos (fun e=>he e.symm),yd (show m<row.length by omega),yOb];have hu:upd row (m:Int) xs[k+j+1]=some (row.set m xs[k+j+1]):=by unfold upd;rw [if_pos (by omega)];simp
    rw [hu,yOb];refine⟨_,rfl,row.set m xs[k+j+1],m+1,?_,by simpa using g1,by omega,?_,fun i hi=>?_⟩
    ·simp only [nxt (show j+1<4611686018427387904 by omega),nxt (show m<4611686018427387904 by omega)]
    ·rw [if_neg he] at hdd;rw [show k+(j+1)+1=k+j+2 by omega,hdd,←g3,yTs (by simp;omega),List.getElem_set_self];congr 1;rw [List.take_set];exact List.set_eq_of_length_le (by rw [List.length_take];omega)
    ·rw [List.getElem?_set_ne (by omega)];exact g4 i (by omega))
  (fun st ⟨row,m,e,g1,g2,g3,_⟩=>by
   subst e;refine⟨_,?_,row,m,rfl,g1,by omega,?_⟩
   ·unfold cpL2;rw [if_neg (by simp;omega)]
   ·rw [g3,show k+(xs.length-k-1)+1=xs.length by omega,List.take_length])
  (by omega) (xs,1,(k:Int)) ⟨xs,k,rfl,rfl,by omega,hd.symm,fun _ _=>rfl⟩
 exact⟨row,m,h1,h2,h3,h4⟩
theorem cp_eq(z0:α){xs:List α}(hl:xs.length≤4294967296):cpL z0 xs=some (dd xs):=by
 unfold cpL;by_cases h2:xs.length<2
 ·rw [if_pos (by simp;omega)]
  match xs,h2 with
  | [],_=>rfl
  | [_],_=>rfl
 rw [if_neg (by simp;omega)];obtain⟨o,h1,ho⟩:=yg (f:=cpL1 z0 xs)
  (fun j (st:Int)=>st=((j+1:Nat):Int)∧∀i (h:i+1<xs.length),i+1<j+1→xs[i]≠xs[i+1])
  (fun o=>o= .inl ()∧dd xs=xs∨o= .inr (dd xs)) (xs.length-1) 0 (by omega) (fun j st hj ⟨e,hn⟩=>by
   subst e;have hx:idx xs (((j+1:Nat):Int))=some xs[j+1]:=yd (by omega);have hy:idx xs (W (((j+1:Nat):Int)-1))=some xs[j]:=by rw [show ((j+1:Nat):Int)-1=(j:Int) by omega,W_nat (by omega),yd (by omega)]
   unfold cpL1;rw [if_pos (by simp;omega),hx,hy];simp only [yOb];by_cases he:xs[j+1]=xs[j]
   ·right;have hd:dd (xs.take (j+1+1))=xs.take (j+1):=by
     rw [ybE (by omega),if_pos he.symm];exact ybF (by omega) fun i h h'=>hn i h (by omega)
    obtain⟨row,m,k1,k2,k3,k4⟩:=ygl hl (k:=j+1) (by omega) hd;have hs1:slc xs (((j+1:Nat):Int)) (xs.length:Int)=some ((xs.take xs.length).drop (j+1)):=y9F (by omega) (Nat.le_refl _);have hs2:slc row (m:Int) (row.length:Int)=some ((row.take row.length).drop m):=y9F (by omega) (Nat.le_refl _);have hs3:slc (row.take m++List.replicate (row.length-m) z0) ((0:Nat):Int) (m:Int)=some (((row.take m++List.replicate (row.length-m) z0).take m).drop 0):=y9F (by omega) (by simp;omega);rw [if_pos he,hs1,yOb,k1,yOb];simp only [Int.toNat_natCast];rw [hs2,yOb];have hs3':=hs3;simp only [Int.natCast_zero] at hs3';rw [hs3',yOb];refine⟨_,rfl,.inr ?_⟩;rw [List.drop_zero,List.take_append_of_le_length (by simp;omega),List.take_of_length_le (by simp;omega),k4]
   ·left;rw [if_neg he];refine⟨_,rfl,?_,fun i h h'=>?_⟩
    ·rw [nxt (by omega)]
    ·by_cases hij:i=j
     ·subst hij;exact fun e=>he e.symm
     ·exact hn i h (by omega))
  (fun st ⟨e,hn⟩=>by
   subst e;refine⟨.inl (),?_,.inl ⟨rfl,?_⟩⟩
   ·unfold cpL1;rw [if_neg (by simp;omega)]
   ·have:=ybF (xs:=xs) (k:=xs.length) (Nat.le_refl _) fun i h h'=>hn i h (by omega);rwa [List.take_length] at this)
  (by omega) 1 ⟨rfl,fun i h h'=>by omega⟩
 rw [h1,yOb];rcases ho with ⟨rfl,hd⟩|rfl
 ·show some xs=_;rw [hd]
 ·rfl
end
theorem y8d{xs:List Int}(hl:xs.length≤4294967296):y1S xs=some (dd xs):=by
 rw [←cp_eq (0:Int) hl];have h2:∀k,y3Q k=cpL2 k:=fun k=>funext fun st=>by
  unfold y3Q cpL2 y2Y;simp only [bne_iff_ne,ne_eq]
 have h1:y3R xs=cpL1 0 xs:=funext fun st=>by
  unfold y3R cpL1;simp only [h2,beq_iff_eq]
 unfold y1S cpL;rw [h1];split
 ·rfl
 ·congr 1;funext o;cases o <;> rfl
theorem yad{xs:List (Int×Int)}(hl:xs.length≤4294967296):yG xs=some (dd xs):=by
 rw [←cp_eq ((0:Int),(0:Int)) hl];have h2:∀k,y2I k=cpL2 k:=fun k=>funext fun st=>by
  unfold y2I cpL2 y1j;simp only [Bool.not_eq_true',beq_eq_false_iff_ne,ne_eq]
 have h1:y2J xs=cpL1 ((0:Int),(0:Int)) xs:=funext fun st=>by
  unfold y2J cpL1;simp only [h2,beq_iff_eq]
 unfold yG cpL;rw [h1];split
 ·rfl
 ·congr 1;funext o;cases o <;> rfl
theorem y9U(a b:Int):yr a b=some (if a<b then -1 else if a>b then 1 else 0):=by
 have hn:∀x,y1s x=some false:=fun x=>by rw [y1s];simp
 rw [yr,hn,yOb,hn,yOb,if_neg (by simp),if_neg (by simp)];by_cases h1:a<b
 ·rw [if_pos (by simpa using h1),if_pos h1]
 ·rw [if_neg (by simpa using h1),if_neg h1];by_cases h2:a>b
  ·rw [if_pos (by simpa using h2),if_pos h2]
  ·rw [if_neg (by simpa using h2),if_neg h2]
def cmpG :List Int→List Int→Int
 | [],[]=>0
 | [],_::_=> -1
 | _::_,[]=>1
 | a::u,b::v=>if a<b then -1 else if a>b then 1 else cmpG u v
theorem yhe{u v:List Int}(hb:u.length≤4294967296)(hv:v.length≤4294967296):y2N u v=some (cmpG u v):=by
 obtain⟨o,h1,h2⟩:=yg (f:=y3a u v) (fun i s=>s=(i:Int)∧i≤v.length∧cmpG u v=cmpG (u.drop i) (v.drop i)) (fun o=>(match o with
   | .inl _=>(if decide ((u.length:Int)<(v.length:Int))=true then -1 else 0)
   | .inr r=>r)=cmpG u v) u.length 0 (by omega) (fun i s hi ⟨e1,g0,g1⟩=>by
   subst e1;rw [y3a,if_pos (ct_lt hi),yd hi,yOb];by_cases hi2:v.length≤i
   ·rw [if_pos (by simp;omega)];refine .inr ⟨_,rfl,?_⟩;rw [List.drop_eq_getElem_cons hi,List.drop_of_length_le hi2] at g1;exact g1.symm
   have hi2:i<v.length:=by omega
   rw [List.drop_eq_getElem_cons hi,List.drop_eq_getElem_cons hi2,cmpG] at g1;rw [if_neg (by simp;omega),yd hi2,yOb,y9U,yOb];by_cases h1:u[i]<v[i]
   ·rw [if_pos h1] at g1 ⊢;rw [if_pos (by rfl)];exact .inr ⟨_,rfl,g1.symm⟩
   ·rw [if_neg h1] at g1 ⊢;by_cases h2:u[i]>v[i]
    ·rw [if_pos h2] at g1 ⊢;rw [if_pos (by rfl)];exact .inr ⟨_,rfl,g1.symm⟩
    ·rw [if_neg h2] at g1 ⊢;rw [if_neg (by simp)];exact .inl ⟨_,rfl,nxt (by omega),by omega,g1⟩)
  (fun s ⟨e1,g0,g1⟩=>by
   subst e1;rw [y3a,if_neg ct_ge];refine⟨_,rfl,?_⟩;rw [g1,List.drop_length];by_cases hl:u.length<v.length
   ·rw [List.drop_eq_getElem_cons hl];simp [hl,cmpG]
   ·rw [List.drop_of_length_le (by omega)];simp [hl,cmpG]) (by omega) 0 ⟨rfl,by omega,rfl⟩
 rw [y2N,h1,yOb];cases o with
 | inl _=>
  dsimp only at h2 ⊢;rw [←h2];split <;> rfl
 | inr r=>exact congrArg some h2
def y5Y(l:List Int):Int:=(l.find? fun x=>x != 0).getD 0
theorem or_eq{l:List Int}(hb:l.length≤4294967296):y4f l=some (y5Y l):=by
 obtain⟨o,h1,h2⟩:=yg (f:=y4A l) (fun i s=>s=(i:Int)∧y5Y l=y5Y (l.drop i)) (fun o=>(match o with
   | .inl _=>0
   | .inr r=>r)=y5Y l) l.length 0 (by omega) (fun i s hi ⟨e1,g1⟩=>by
   subst e1;rw [y4A,if_pos (ct_lt hi),yd hi,yOb];rw [List.drop_eq_getElem_cons hi] at g1;unfold y5Y at g1 ⊢;rw [List.find?_cons] at g1;cases hx:l[i] != 0 with
   | true=>
    rw [hx] at g1;rw [if_pos rfl];exact .inr ⟨_,rfl,g1.symm⟩
   | false=>
    rw [hx] at g1;rw [if_neg (by simp)];exact .inl ⟨_,rfl,nxt (by omega),g1⟩)
  (fun s ⟨e1,g1⟩=>by
   subst e1;rw [y4A,if_neg ct_ge];refine⟨_,rfl,?_⟩;rw [g1,List.drop_length];rfl) (by omega) 0 ⟨rfl,rfl⟩
 rw [y4f,h1,yOb];cases o with
 | inl _=>exact congrArg some h2
 | inr r=>exact congrArg some h2
theorem ye1{α:Type}[DecidableEq α]{f:α→α→Option Int}{xs:List α}(lt:α→α→Prop)(hf:∀x∈xs,∀y∈xs,∃z,f x y=some z∧(z<0↔lt x y))(ha:∀x∈xs,∀y∈xs,lt x y→¬lt y x)(he:∀x∈xs,∀y∈xs,¬lt x y→¬lt y x→x=y)(ht:∀x∈xs,∀y∈xs,∀z∈xs,¬lt x y→¬lt y z→¬lt x z):cmpB f xs=true:=by
 have hl:∀x∈xs,∀y∈xs,(ltf f x y=true↔lt x y):=fun x hx y hy=>by
  obtain⟨z,h1,h2⟩:=hf x hx y hy;unfold ltf;rw [h1];simpa using h2
 unfold cmpB;rw [yAt];intro x hx;rw [yAt];intro y hy;obtain⟨z,h1,_⟩:=hf x hx y hy;have hn:∀x∈xs,∀y∈xs,(ltf f x y=false↔ ¬lt x y):=fun x hx y hy=>by rw [←hl x hx y hy];simp
 simp only [Bool.and_eq_true];refine⟨⟨⟨by rw [h1];rfl,?_⟩,?_⟩,?_⟩
 ·cases g1:ltf f x y with
  | false=>rfl
  | true=>
   have:=ha x hx y hy ((hl x hx y hy).1 g1);rw [(hn y hy x hx).2 this];rfl
 ·cases g1:ltf f x y with
  | true=>rfl
  | false=>
   cases g2:ltf f y x with
   | true=>rfl
   | false=>simp [he x hx y hy ((hn x hx y hy).1 g1) ((hn y hy x hx).1 g2)]
 ·rw [yAt];intro w hw;cases g1:ltf f x y with
  | true=>simp
  | false=>
   cases g2:ltf f y w with
   | true=>simp
   | false=>simp [(hn x hx w hw).2 (ht x hx y hy w hw ((hn x hx y hy).1 g1) ((hn y hy w hw).1 g2))]
/-! Pairs. -/
def ltP(p q:Int×Int):Prop:=p.1<q.1∨p.1=q.1∧p.2<q.2
theorem yfn(p q:Int×Int):∃z,yh p q=some z∧(z<0↔ltP p q):=by
 refine⟨cmpG [p.1,p.2] [q.1,q.2],?_,?_⟩
 ·rw [yh,yhe (by simp) (by simp)];rfl
 ·unfold ltP;simp only [cmpG];by_cases h1:p.1<q.1 <;> by_cases h2:p.1>q.1 <;> by_cases h3:p.2<q.2 <;> by_cases h4:p.2>q.2 <;> simp [h1,h2,h3,h4] <;> omega
theorem yfo(xs:List (Int×Int)):cmpB yh xs=true:=ye1 ltP (fun x _ y _=>yfn x y) (fun x _ y _ h=>by unfold ltP at *;omega) (fun x _ y _ h1 h2=>by
  unfold ltP at *;exact Prod.ext (by omega) (by omega)) (fun x _ y _ z _ h1 h2=>by unfold ltP at *;omega)
theorem ycY{xs:List (Int×Int)}(hl:xs.length≤4294967296):yy yh xs=some (srtL (ltf yh) xs):=by
 unfold yy srtF;rw [if_pos ⟨hl,yfo xs⟩]
theorem ygm :y4G=yh:=rfl
abbrev E3 :=Int×Int×Int
abbrev NdT :=List Int×Int×List Int×List Int×List E3
def ltE3(x y:E3):Prop:=x.1<y.1∨x.1=y.1∧(x.2.1<y.2.1∨x.2.1=y.2.1∧x.2.2<y.2.2)
instance (x y:E3):Decidable (ltE3 x y):=by unfold ltE3;infer_instance
theorem y9b(x y:E3):∃z,yb x y=some z∧(z<0↔ltE3 x y)∧(z≥0↔ ¬ltE3 x y):=by
 refine⟨y5Y [if x.1<y.1 then -1 else if x.1>y.1 then 1 else 0,if x.2.1<y.2.1 then -1 else if x.2.1>y.2.1 then 1 else 0,if x.2.2<y.2.2 then -1 else if x.2.2>y.2.2 then 1 else 0],?_,?_⟩
 ·rw [yb,y9U,yOb,y9U,yOb,y9U,yOb,or_eq (by simp)];rfl
 ·have h:∀z:Int,(z<0↔ltE3 x y)→(z<0↔ltE3 x y)∧(z≥0↔ ¬ltE3 x y):=fun z hz=>⟨hz,by rw [←hz];omega⟩;apply h;unfold ltE3 y5Y;by_cases h1:x.1<y.1
  ·simp [h1]
  by_cases h2:x.1>y.1
  ·simp [h1,h2];omega
  have e1:x.1=y.1:=by omega
  by_cases h3:x.2.1<y.2.1
  ·simp [e1,h3]
  by_cases h4:x.2.1>y.2.1
  ·simp [e1,h3,h4];omega
  have e2:x.2.1=y.2.1:=by omega
  by_cases h5:x.2.2<y.2.2
  ·simp [e1,e2,h5]
  by_cases h6:x.2.2>y.2.2
  ·simp [e1,e2,h5,h6]
  ·simp [e1,e2,h5,h6]
theorem tgtC :y3T=yb:=rfl
theorem absC :y3J=yb:=rfl
structure NdOk (a:NdT):Prop where
 al:a.1.Pairwise (· < ·)
 alr:∀x∈a.1,0≤x∧x<32
 n0:0≤a.2.1
 n1:a.2.1≤4096
 ini:a.2.2.1.Pairwise (· < ·)
 inr:∀x∈a.2.2.1,0≤x∧x<a.2.1
 mks:a.2.2.2.1.Pairwise (· < ·)
 mkr:∀x∈a.2.2.2.1,0≤x∧x<a.2.1
 es:a.2.2.2.2.Pairwise ltE3
 esr:∀x∈a.2.2.2.2,0≤x.1∧x.1<a.2.1∧0≤x.2.2∧x.2.2<a.2.1∧(x.2.1= -1∨x.2.1∈a.1)
 la:a.1.length≤1000000
 li:a.2.2.1.length≤1000000
 lm:a.2.2.2.1.length≤1000000
 le:a.2.2.2.2.length≤65536
def tgtL(es:List E3)(s e:Int):List Int:=(es.filter fun x=>x.1==s&&x.2.1==e).map (·.2.2)
theorem yb6{x y z:E3}(h1:ltE3 x y)(h2:ltE3 y z):ltE3 x z:=by unfold ltE3 at *;omega
theorem yhQ{xs:List E3}{t:E3}(hl:xs.length<4294967296)(hs:xs.Pairwise ltE3):∀(f i j:Nat),j≤i+f→i≤j→j≤xs.length→(∀k (h:k<xs.length),k<i→ltE3 xs[k] t)→(∀k (h:k<xs.length),j≤k→¬ltE3 xs[k] t)→
  ∃p:Nat,iterF (yf xs t yb) (f+1) ((j:Int),(i:Int))=some (p:Int)∧p≤xs.length∧(∀k (h:k<xs.length),k<p→ltE3 xs[k] t)∧(∀k (h:k<xs.length),p≤k→¬ltE3 xs[k] t):=by
 intro f
 induction f with
 | zero=>
  intro i j h1 h2 h3 h4 h5;refine⟨i,?_,by omega,h4,fun k h hk=>h5 k h (by omega)⟩;rw [yp,yf,if_neg (by simp;omega)]
 | succ f ih=>
  intro i j h1 h2 h3 h4 h5;rw [yp,yf];dsimp only;by_cases hij:i<j
  ·have hm:(i+j)/2<xs.length:=by omega
   obtain⟨z,hz1,hz2,_⟩:=y9b xs[(i+j)/2] t;rw [if_pos (by simp;omega),ydY (by omega),yd hm,yOb,hz1,yOb];have mono:∀(a b:Nat) (ha:a<xs.length) (hb:b<xs.length),a≤b→xs[a]=xs[b]∨ltE3 xs[a] xs[b]:=fun a b ha hb hab=>by
    rcases Nat.lt_or_ge a b with h|h
    ·exact .inr (List.pairwise_iff_getElem.1 hs a b ha hb h)
    ·have:a=b:=by omega
     subst this;exact .inl rfl
   by_cases hc:z<0
   ·rw [if_pos (decide_eq_true hc),show(((i+j)/2:Nat):Int)+1=(((i+j)/2+1:Nat):Int) by omega,W_nat (by omega)];refine ih _ j (by omega) (by omega) h3 (fun k h hk=>?_) h5;rcases mono k _ h hm (by omega) with he|he
    ·rw [he];exact hz2.1 hc
    ·exact yb6 he (hz2.1 hc)
   ·rw [if_neg (by simpa using hc)];refine ih i _ (by omega) (by omega) (by omega) h4 (fun k h hk hlt=>?_);rcases mono _ k hm h hk with he|he
    ·rw [←he] at hlt;exact hc (hz2.2 hlt)
    ·exact hc (hz2.2 (yb6 he hlt))
  ·rw [if_neg (by simp;omega)];exact⟨i,rfl,by omega,h4,fun k h hk=>h5 k h (by omega)⟩
theorem yfp{xs:List E3}{t:E3}(hl:xs.length<4294967296)(hs:xs.Pairwise ltE3):∃(p:Nat) (b:Bool),yi xs t yb=some ((p:Int),b)∧p≤xs.length∧(∀x∈xs.take p,ltE3 x t)∧(∀x∈xs.drop p,¬ltE3 x t):=by
 obtain⟨p,hp,hle,hlo,hhi⟩:=yhQ (t:=t) hl hs xs.length 0 xs.length (by omega) (by omega) (by omega) (fun k h hk=>absurd hk (by omega)) (fun k h hk=>absurd hk (by omega));have hi:iter (yf xs t yb) ((xs.length:Int),0)=some (p:Int):=y5D (by omega) hp;have h2:(∀x∈xs.take p,ltE3 x t)∧∀x∈xs.drop p,¬ltE3 x t:=by
  refine⟨fun x hx=>?_,fun x hx=>?_⟩
  ·obtain ⟨k,hk,rfl⟩:=List.mem_iff_getElem.1 hx;rw [List.length_take] at hk;rw [List.getElem_take];exact hlo k (by omega) (by omega)
  ·obtain ⟨k,hk,rfl⟩:=List.mem_iff_getElem.1 hx;rw [List.length_drop] at hk;rw [List.getElem_drop];exact hhi _ (by omega) (by omega)
 rw [yi,hi,yOb];by_cases hlt:p<xs.length
 ·obtain ⟨z,hz,_⟩:=y9b xs[p] t;rw [if_pos (by simpa using hlt),yd hlt,yOb,hz,yOb];exact⟨p,_,rfl,hle,h2⟩
 ·rw [if_neg (by simpa using hlt)];exact⟨p,_,rfl,hle,h2⟩
theorem yc4{s e:Int}:∀{l:List E3},l.Pairwise ltE3→(∀x∈l,¬ltE3 x (s,e,-1))→l.takeWhile (fun x=>x.1==s&&x.2.1==e)=l.filter fun x=>x.1==s&&x.2.1==e
 | [],_,_=>rfl
 | x::l,hs,hl=>by
  have hs':=List.pairwise_cons.1 hs;cases hx:x.1==s&&x.2.1==e with
  | true=>
   rw [List.takeWhile_cons,List.filter_cons];simp only [hx,if_true];rw [yc4 hs'.2 fun y hy=>hl y (.tail _ hy)]
  | false=>
   rw [List.takeWhile_cons,List.filter_cons];simp only [hx,Bool.false_eq_true,if_false];symm;rw [List.filter_eq_nil_iff];intro y hy hm;have h1:=hs'.1 y hy;have h2:=hl x (.head _);simp only [Bool.and_eq_true,beq_iff_eq,Bool.and_eq_false_iff,beq_eq_false_iff_ne,ne_eq] at hx hm;unfold ltE3 at h1 h2;dsimp only at h2;omega
theorem ydA{s e:Int}{l:List E3}(h0:∀x∈l,0≤x.2.2)(hl:∀x∈l,ltE3 x (s,e,-1)):l.filter (fun x=>x.1==s&&x.2.1==e)= []:=by
 rw [List.filter_eq_nil_iff];intro y hy hm;have h1:=hl y hy;have h2:=h0 y hy;simp only [Bool.and_eq_true,beq_iff_eq] at hm;unfold ltE3 at h1;dsimp only at h1;omega
theorem yc5{es:List E3}{s e:Int}{p:Nat}(hs:es.Pairwise ltE3)(h0:∀x∈es,0≤x.2.2)(h1:∀x∈es.take p,ltE3 x (s,e,-1))(h2:∀x∈es.drop p,¬ltE3 x (s,e,-1)):tgtL es s e=((es.drop p).takeWhile fun x=>x.1==s&&x.2.1==e).map (·.2.2):=by
 unfold tgtL;rw [yc4 (hs.sublist (List.drop_sublist _ _)) h2]
 conv=>lhs;rw [←List.take_append_drop p es,List.filter_append,ydA (fun x hx=>h0 x ((List.take_sublist _ _).subset hx)) h1,List.nil_append]
theorem y9G{α:Type}{l:List α}{f:α→Bool}{p:Nat}(h:p<l.length):(l.drop p).takeWhile f=if f l[p]=true then l[p]::(l.drop (p+1)).takeWhile f else []:=by
 rw [List.drop_eq_getElem_cons h,List.takeWhile_cons]
theorem ycZ{a:NdT}(ha:NdOk a)(s e:Int):y2C a s e=some (tgtL a.2.2.2.2 s e):=by
 obtain⟨p,b,h1,h2,h3,h4⟩:=yfp (t:=(s,e,-1)) (by have:=ha.le;omega) ha.es;rw [y2C,tgtC,h1,yOb];have hle:=ha.le;rw [yc5 ha.es (fun x hx=>(ha.esr x hx).2.2.1) h3 h4];obtain⟨o,ho,he⟩:=yg (f:=y2M a s e) (fun j (st:List Int×Int)=>∃out,st=(out,((p+j:Nat):Int))∧out.length≤j∧out++((a.2.2.2.2.drop (p+j)).takeWhile fun x=>x.1==s&&x.2.1==e).map (·.2.2)=((a.2.2.2.2.drop p).takeWhile fun x=>x.1==s&&x.2.1==e).map (·.2.2))
  (fun o=>o=((a.2.2.2.2.drop p).takeWhile fun x=>x.1==s&&x.2.1==e).map (·.2.2)) (a.2.2.2.2.length-p) 0 (by omega) (fun j st hj ⟨out,e1,g1,g2⟩=>by
   subst e1;have hp:p+j<a.2.2.2.2.length:=by omega
   rw [y9G hp] at g2;unfold y2M;simp only [ct_lt hp,if_true,yd hp,yOb];cases hx:a.2.2.2.2[p+j].1==s with
   | false=>
    refine .inr ⟨out,by simp,?_⟩;rw [if_neg (by simp [hx]),List.map_nil,List.append_nil] at g2;exact g2
   | true=>
    cases hy:a.2.2.2.2[p+j].2.1==e with
    | false=>
     refine .inr ⟨out,by simp,?_⟩;rw [if_neg (by simp [hy]),List.map_nil,List.append_nil] at g2;exact g2
    | true=>
     refine .inl ⟨(out++[a.2.2.2.2[p+j].2.2],((p+(j+1):Nat):Int)),?_,_,rfl,by simp;omega,?_⟩
     ·have happ:app out [a.2.2.2.2[p+j].2.2]=some (out++[a.2.2.2.2[p+j].2.2]):=by unfold app;rw [if_pos (by simp;omega)]
      have hw:W ((p:Int)+(j:Int)+1)=(p:Int)+(j:Int)+1:=W_of (by omega) (by omega);simp [happ,hw];omega
     ·rw [if_pos (by simp [hx,hy])] at g2;rw [←g2];simp [Nat.add_assoc])
  (fun st ⟨out,e1,g1,g2⟩=>by
   subst e1;have hp:p+(a.2.2.2.2.length-p)=a.2.2.2.2.length:=by omega
   rw [hp] at g2 ⊢;rw [List.drop_length] at g2;refine⟨out,?_,by simpa using g2⟩;unfold y2M;simp) (by omega) ([],(p:Int)) ⟨[],rfl,yZl _,rfl⟩
 rw [ho,he];rfl
theorem yD{α:Type}{xs ys:List α}(h:xs.length+ys.length≤4294967296):app xs ys=some (xs++ys):=by unfold app;rw [if_pos h]
theorem y7r(es:List E3)(s e:Int):(tgtL es s e).length≤es.length:=by
 unfold tgtL;rw [List.length_map];exact List.length_filter_le _ _
theorem y7O{a:NdT}(ha:NdOk a)(s e:Int):yn a s e=some (if e≠ -1∧hasB a.1 e=false then [s] else tgtL a.2.2.2.2 s e):=by
 have hle:=ha.le;have hla:=ha.la;have hloop:iter (y1g a s e) (0,([]:List Int))=some (tgtL a.2.2.2.2 s e):=by
  obtain⟨o,ho,he⟩:=yg (f:=y1g a s e) (fun j (st:Int×List Int)=>st=((j:Int),tgtL (a.2.2.2.2.take j) s e)) (fun o=>o=tgtL a.2.2.2.2 s e) a.2.2.2.2.length 0 (by omega) (fun j st hj e1=>by
    subst e1;refine .inl ⟨_,?_,rfl⟩;have ht:tgtL (a.2.2.2.2.take (j+1)) s e=if(a.2.2.2.2[j].1==s&&a.2.2.2.2[j].2.1==e)=true then tgtL (a.2.2.2.2.take j) s e++[a.2.2.2.2[j].2.2] else tgtL (a.2.2.2.2.take j) s e:=by
     unfold tgtL;rw [yTs hj,List.filter_append,List.map_append];split
     ·rename_i h;rw [List.filter_cons];simp [h]
     ·rename_i h;rw [List.filter_cons];simp [h]
    have hlen:=y7r (a.2.2.2.2.take j) s e;rw [List.length_take] at hlen;unfold y1g;simp only [ct_lt hj,if_true,yd hj,yOb];rw [ht];split
    ·rename_i h;rw [yD (by simp;omega),yOb,y2r];simp only [nxt (show j<4611686018427387904 by omega)]
    ·rw [y2r];simp only [nxt (show j<4611686018427387904 by omega)])
   (fun st e1=>by
    subst e1;refine⟨_,?_,rfl⟩;unfold y1g;simp) (by omega) (0,([]:List Int)) rfl
  rw [ho,he]
 rw [yn];by_cases h1:e= -1
 ·subst h1;simp [hloop]
 ·rw [if_pos (by simpa using h1),y4w (by omega),yOb,yOb];cases h2:hasB a.1 e with
  | true=>simp [hloop]
  | false=>simp [h1]
def ya(xs ys:List Int):List (Int×Int):=xs.flatMap fun x=>ys.map fun y=>(x,y)
theorem y5c(xs ys:List Int):(ya xs ys).length=xs.length*ys.length:=by
 induction xs with
 | nil=>simp [ya]
 | cons x xs ih=>
  unfold ya at *;rw [List.flatMap_cons,List.length_append,ih,List.length_map,List.length_cons,Nat.succ_mul,Nat.add_comm]
theorem y4o{β γ:Type}{xs:List β}(f:Int×List γ→Option ((Int×List γ)⊕List γ))(h:β→γ)(out:List γ)(hl:xs.length+out.length≤4294967296)
  (step:∀j (hj:j<xs.length) (o:List γ),f ((j:Int),o)=(app o [h xs[j]]).bind fun x=>some (.inl (W ((j:Int)+1),x))) (last:∀o:List γ,f ((xs.length:Int),o)=some (.inr o)):iter f (0,out)=some (out++xs.map h):=by
 obtain⟨o,ho,he⟩:=yg (f:=f) (fun j (st:Int×List γ)=>st=((j:Int),out++(xs.take j).map h)) (fun o=>o=out++xs.map h) xs.length 0 (by omega) (fun j st hj e1=>by
   subst e1;refine .inl ⟨_,?_,rfl⟩;rw [step j hj,yD (by simp;omega),yOb,nxt (by omega),yTs hj,List.map_append,List.append_assoc];rfl)
  (fun st e1=>by
   subst e1;exact⟨_,last _,by rw [List.take_length]⟩) (by omega) (0,out) (by simp)
 rw [ho,he]
theorem ygn{ys:List Int}(x:Int)(out:List (Int×Int))(hl:ys.length+out.length≤4294967296):iter (y3m ys x) (0,out)=some (out++ys.map fun y=>(x,y)):=
 y4o _ _ out hl (fun j hj o=>by
  unfold y3m;simp only [ct_lt hj,if_true,yd hj,yOb]) fun o=>by
  unfold y3m;simp
theorem y7P{β γ:Type}{xs:List β}(f:Int×List γ→Option ((Int×List γ)⊕List γ))(h:β→List γ)(out:List γ)(hx:xs.length≤4294967296)(hl:(xs.flatMap h).length+out.length≤4294967296)
  (step:∀j (hj:j<xs.length) (o:List γ),(h xs[j]).length+o.length≤4294967296→f ((j:Int),o)=some (.inl (((j+1:Nat):Int),o++h xs[j]))) (last:∀o:List γ,f ((xs.length:Int),o)=some (.inr o)):iter f (0,out)=some (out++xs.flatMap h):=by
 obtain⟨o,ho,he⟩:=yg (f:=f) (fun j (st:Int×List γ)=>st=((j:Int),out++(xs.take j).flatMap h)) (fun o=>o=out++xs.flatMap h) xs.length 0 (by omega) (fun j st hj e1=>by
   subst e1;have h2:(xs.take (j+1)).flatMap h=(xs.take j).flatMap h++h xs[j]:=by rw [yTs hj,List.flatMap_append];simp
   have h3:((xs.take (j+1)).flatMap h).length≤(xs.flatMap h).length:=by
    conv=>rhs;rw [←List.take_append_drop (j+1) xs,List.flatMap_append,List.length_append]
    omega
   rw [h2,List.length_append] at h3;refine .inl ⟨_,step j hj _ (by simp only [List.length_append];omega),?_⟩;rw [h2,List.append_assoc])
  (fun st e1=>by
   subst e1;exact⟨_,last _,by rw [List.take_length]⟩) (by omega) (0,out) (by simp)
 rw [ho,he]
theorem y5Z{xs ys:List Int}(hx:xs.length≤65536)(hy:ys.length≤65536):yI xs ys=some (ya xs ys):=by
 have hm:xs.length*ys.length≤65536*65536:=Nat.mul_le_mul hx hy;have hc:=y5c xs ys;rw [yI,y7P (y3n xs ys) (fun x=>ys.map fun y=>(x,y)) [] (xs:=xs) (by omega) (by unfold ya at hc;rw [hc];simp;omega) (fun j hj o ho=>by
  unfold y3n;simp only [ct_lt hj,if_true,yd hj,yOb];rw [ygn _ _ (by simpa using ho),yOb,nxt (by omega)]) fun o=>by
  unfold y3n;simp]
 rfl
def tsL(a:NdT)(s e:Int):List Int:=if e≠ -1∧hasB a.1 e=false then [s] else tgtL a.2.2.2.2 s e
theorem y6T{a:NdT}(ha:NdOk a)(s e:Int):(tsL a s e).length≤65536:=by
 unfold tsL;have:=y7r a.2.2.2.2 s e;have:=ha.le;split
 ·simp
 ·omega
def rawL(a b:NdT)(p:Int×Int)(e:Int):List (Int×Int):=
 if e= -1 then ya (tsL a p.1 (-1)) [p.2]++ya [p.1] (tsL b p.2 (-1)) else ya (tsL a p.1 e) (tsL b p.2 e)
theorem yaB{a b:NdT}(ha:NdOk a)(hb:NdOk b)(p:Int×Int)(e:Int):(rawL a b p e).length≤4294967296:=by
 unfold rawL;split
 ·have:=y6T ha p.1 (-1);have:=y6T hb p.2 (-1);rw [List.length_append,y5c,y5c];simp;omega
 ·rw [y5c];exact Nat.mul_le_mul (y6T ha _ _) (y6T hb _ _)
def stpL(a b:NdT)(p:Int×Int)(e:Int):List (Int×Int):=dd (srtL (ltf yh) (rawL a b p e))
theorem yd0{a b:NdT}{p q:Int×Int}{e:Int}:q∈stpL a b p e↔q∈rawL a b p e:=by
 unfold stpL;rw [yb5,(y3q _ _).mem_iff]
theorem yb7{xs:List (Int×Int)}(hl:xs.length≤4294967296):((yy yh xs).bind fun r7=>(yG r7).bind fun r8=>some r8)=some (dd (srtL (ltf yh) xs)):=by
 rw [ycY hl,yOb,yad (by rw [(y3q _ _).length_eq];exact hl),yOb]
theorem ygo{a b:NdT}(ha:NdOk a)(hb:NdOk b)(p:Int×Int){e:Int}(he:e= -1∨e∈a.1∨e∈b.1):y3P a b p e=some (stpL a b p e):=by
 have la:=y7r a.2.2.2.2 p.1 e;have lb:=y7r b.2.2.2.2 p.2 e;have ka:=ha.le;have kb:=hb.le;have hr:=yaB ha hb p e;have hna:=ha.la;have hnb:=hb.la;rw [y3P,ycZ ha,yOb,ycZ hb,yOb,y4n (by omega) ha.al,yOb,y4n (by omega) hb.al,yOb];unfold stpL;by_cases h1:e= -1
 ·subst h1;rw [if_pos (by decide),y5Z (by omega) (by simp),yOb,y5Z (by simp) (by omega),yOb];have hraw:rawL a b p (-1)=ya (tgtL a.2.2.2.2 p.1 (-1)) [p.2]++ya [p.1] (tgtL b.2.2.2.2 p.2 (-1)):=by
   unfold rawL tsL;simp
  rw [yD (by rw [hraw,List.length_append] at hr;exact hr),yOb,←hraw];exact yb7 hr
 ·rw [if_neg (by simpa using h1)];have hraw:rawL a b p e=ya (tsL a p.1 e) (tsL b p.2 e):=by unfold rawL;rw [if_neg h1]
  cases h2:hasB a.1 e with
  | true=>
   have e1:tsL a p.1 e=tgtL a.2.2.2.2 p.1 e:=by unfold tsL;simp [h2]
   cases h3:hasB b.1 e with
   | true=>
    have e2:tsL b p.2 e=tgtL b.2.2.2.2 p.2 e:=by unfold tsL;simp [h3]
    rw [e1,e2] at hraw;rw [if_pos rfl,y5Z (by omega) (by omega),yOb,←hraw];exact yb7 hr
   | false=>
    have e2:tsL b p.2 e= [p.2]:=by unfold tsL;simp [h1,h3]
    rw [e1,e2] at hraw;rw [if_neg (by simp),if_pos rfl,y5Z (by omega) (by simp),yOb,←hraw];exact yb7 hr
  | false=>
   have e1:tsL a p.1 e= [p.1]:=by unfold tsL;simp [h1,h2]
   have h3:hasB b.1 e=true:=by
    rw [yo];rcases he with h|h|h
    ·exact absurd h h1
    ·rw [y5G] at h2;exact absurd h h2
    ·exact h
   have e2:tsL b p.2 e=tgtL b.2.2.2.2 p.2 e:=by unfold tsL;simp [h3]
   rw [e1,e2] at hraw;rw [if_neg (by simp),if_neg (by simp),y5Z (by simp) (by omega),yOb,←hraw];exact yb7 hr
/-! The numbers of pairs. -/
def numb :Nat→List (Int×Int)→List ((Int×Int)×Int)
 | _,[]=> []
 | k,p::l=>(p,(k:Int))::numb (k+1) l
theorem yd1 :∀(k:Nat) (l:List (Int×Int)),(numb k l).length=l.length
 | _,[]=>rfl
 | k,p::l=>by rw [numb,List.length_cons,yd1,List.length_cons]
theorem yd2 :∀(k:Nat) (l:List (Int×Int)),(numb k l).map (·.1)=l
 | _,[]=>rfl
 | k,p::l=>by rw [numb,List.map_cons,yd2]
theorem yd3 :∀(k:Nat) (l:List (Int×Int)) (p:Int×Int),kget (numb k l) p=if p∈l then some (((k+l.idxOf p:Nat):Int)) else none
 | _,[],p=>by simp [numb,kget]
 | k,q::l,p=>by
  have ih:=yd3 (k+1) l p;unfold kget at ih ⊢;rw [numb,List.find?_cons];by_cases h:p=q
  ·subst h;simp
  ·have h':(p==q)=false:=by simpa using h
   simp only [h'];rw [ih];have h2:¬q=p:=fun e=>h e.symm;by_cases hm:p∈l
   ·rw [if_pos hm,if_pos (by simp [hm]),List.idxOf_cons];have h3:(q==p)=false:=by simpa using h2
    rw [h3];simp;omega
   ·rw [if_neg hm,if_neg (by simp [hm,h])]
theorem yc6 :∀(k:Nat) (l:List (Int×Int)) (p:Int×Int),numb k (l++[p])=numb k l++[(p,((k+l.length:Nat):Int))]
 | k,[],p=>by simp [numb]
 | k,q::l,p=>by
  rw [List.cons_append,numb,yc6 (k+1) l p,numb,List.cons_append,List.length_cons];congr 4;omega
theorem yaC{κ:Type}[BEq κ][LawfulBEq κ]{ks:List κ}{k:κ}(h:k∉ks):kidx ks k=ks.length:=by
 unfold kidx;rw [List.findIdx_eq_length];intro x hx;cases he:k==x with
 | false=>rfl
 | true=>exact absurd ((eq_of_beq he)▸hx) h
theorem ygp{l:List (Int×Int)}{p:Int×Int}(h:p∉l):kput (numb 0 l) p (l.length:Int)=numb 0 (l++[p]):=by
 unfold kput;rw [if_neg (by rw [yd2,yaC h,yd1];omega),yc6];simp
def fnd(l:List (Int×Int))(p:Int×Int):Int×List (Int×Int):=if p∈l then((l.idxOf p:Int),l) else((l.length:Int),l++[p])
theorem ye2{l:List (Int×Int)}(hl:l.length<4294967296)(p:Int×Int):y1Z (numb 0 l) l p=some ((fnd l p).1,numb 0 (fnd l p).2,(fnd l p).2):=by
 rw [y1Z,yd3];unfold fnd;by_cases h:p∈l
 ·rw [if_pos h,if_pos h];simp [y2q]
 ·rw [if_neg h,if_neg h];simp only [Option.isSome_none,Bool.not_false,if_true];rw [yD (by simp;omega),yOb,ygp h];rfl
theorem ygq{l:List (Int×Int)}(hl:l.length<4294967296)(p:Int×Int):y3x l p=some (if p∈l then(l.idxOf p:Int) else -1):=by
 obtain⟨o,h1,h2⟩:=yg (f:=y1F l p) (fun i s=>s=(i:Int)∧∀k (h:k<l.length),k<i→l[k]≠p) (fun o=>o=(if p∈l then .inr (l.idxOf p:Int) else .inl ())) l.length 0 (by omega) (fun i s hi ⟨e1,g1⟩=>by
   subst e1;rw [y1F,if_pos (ct_lt hi),yd hi,yOb];by_cases hx:p=l[i]
   ·rw [if_pos (by simpa using hx)];refine .inr ⟨_,rfl,?_⟩;have hm:p∈l:=hx▸yGm hi;rw [if_pos hm];have:l.idxOf p=i:=by
     have hlt:=List.idxOf_lt_length_of_mem hm;have he:=List.getElem_idxOf hlt;rcases Nat.lt_trichotomy (l.idxOf p) i with h|h|h
     ·exact absurd he (g1 _ hlt h)
     ·exact h
     ·exact absurd hx.symm (by
       intro e;have:=List.not_of_lt_findIdx (p:=(· == p)) (xs:=l) (i:=i) h;simp [e] at this)
    rw [this]
   ·rw [if_neg (by simpa using hx)];refine .inl ⟨_,rfl,nxt (by omega),fun k h hk e=>?_⟩;by_cases hki:k=i
    ·subst hki;exact hx e.symm
    ·exact g1 k h (by omega) e)
  (fun s ⟨e1,g1⟩=>by
   subst e1;rw [y1F,if_neg ct_ge];refine⟨_,rfl,?_⟩;rw [if_neg];intro hm;obtain⟨k,hk,e⟩:=List.mem_iff_getElem.1 hm;exact g1 k hk hk e) (by omega) 0 ⟨rfl,fun k h hk=>by omega⟩
 rw [y3x,h1,yOb,h2];by_cases hm:p∈l
 ·rw [if_pos hm,if_pos hm]
 ·rw [if_neg hm,if_neg hm]
def rowS(st:List Int×List (Int×Int))(p:Int×Int):List Int×List (Int×Int):=(st.1++[(fnd st.2 p).1],(fnd st.2 p).2)
def rowF(nx l:List (Int×Int)):List Int×List (Int×Int):=nx.foldl rowS ([],l)
theorem yhf(l:List (Int×Int))(p:Int×Int):∃t,(fnd l p).2=l++t∧∀q∈t,q=p:=by
 unfold fnd;split
 ·exact ⟨[],by simp,by simp⟩
 ·exact ⟨[p],rfl,by simp⟩
theorem yc7(nx l:List (Int×Int))(p:Int×Int):rowF (nx++[p]) l=rowS (rowF nx l) p:=by unfold rowF;rw [List.foldl_append];rfl
theorem y5E :∀(nx:List (Int×Int)) (st:List Int×List (Int×Int)),(nx.foldl rowS st).1.length=st.1.length+nx.length∧∃t,(nx.foldl rowS st).2=st.2++t∧∀q∈t,q∈nx
 | [],st=>⟨rfl,[],by simp,by simp⟩
 | p::nx,st=>by
  obtain⟨h1,t,h2,h3⟩:=y5E nx (rowS st p);obtain⟨u,h4,h5⟩:=yhf st.2 p;refine⟨by rw [List.foldl_cons,h1];simp [rowS];omega,u++t,?_,fun q hq=>?_⟩
  ·rw [List.foldl_cons,h2];show(fnd st.2 p).2++t=_;rw [h4,List.append_assoc]
  ·rcases yMa.1 hq with h|h
   ·rw [h5 q h];exact .head _
   ·exact .tail _ (h3 q h)
theorem y7s(nx l:List (Int×Int)):(rowF nx l).1.length=nx.length:=by
 have:=(y5E nx ([],l)).1;simpa [rowF] using this
theorem yaD(nx l:List (Int×Int)):∃t,(rowF nx l).2=l++t∧∀q∈t,q∈nx:=(y5E nx ([],l)).2
theorem y7Q(nx l:List (Int×Int))(j:Nat):(rowF (nx.take j) l).2.length≤(rowF nx l).2.length:=by
 have h:rowF nx l=(nx.drop j).foldl rowS (rowF (nx.take j) l):=by unfold rowF;rw [←List.foldl_append,List.take_append_drop]
 obtain⟨t,h2,_⟩:=(y5E (nx.drop j) (rowF (nx.take j) l)).2;rw [h,h2,List.length_append];omega
theorem yhg{nx l:List (Int×Int)}(hn:nx.length≤4294967296)(hl:(rowF nx l).2.length≤4096):iter (y1J nx) (0,([]:List Int),numb 0 l,l)=some (.inl ((rowF nx l).1,numb 0 (rowF nx l).2,(rowF nx l).2)):=by
 obtain⟨o,ho,he⟩:=yg (f:=y1J nx) (fun j st=>st=((j:Int),(rowF (nx.take j) l).1,numb 0 (rowF (nx.take j) l).2,(rowF (nx.take j) l).2)) (fun o=>o= .inl ((rowF nx l).1,numb 0 (rowF nx l).2,(rowF nx l).2)) nx.length 0 (by omega) (fun j st hj e1=>by
   subst e1;have hs:rowF (nx.take (j+1)) l=rowS (rowF (nx.take j) l) nx[j]:=by rw [yTs hj,yc7]
   have h1:=y7Q nx l (j+1);have h2:=y7Q nx l j;have h3:=y7s (nx.take j) l;rw [List.length_take] at h3;refine .inl ⟨_,?_,rfl⟩;unfold y1J;simp only [ct_lt hj,if_true,yd hj,yOb];rw [ye2 (by omega),yOb];rw [yD (by simp;omega),yOb];rw [hs] at h1;have h4:(fnd (rowF (nx.take j) l).2 nx[j]).2.length≤(rowF nx l).2.length:=h1;rw [if_neg (by simp;omega),hs,nxt (by omega)];rfl)
  (fun st e1=>by
   subst e1;refine⟨_,?_,rfl⟩;unfold y1J;simp) (by omega) (0,([]:List Int),numb 0 l,l) rfl
 rw [ho,he]
theorem yhh{nx l:List (Int×Int)}(hn:nx.length≤4294967296)(hl:(rowF nx l).2.length≤4096):iter (y1h nx) (0,([]:List Int),l)=some (rowF nx l):=by
 obtain⟨o,ho,he⟩:=yg (f:=y1h nx) (fun j st=>st=((j:Int),(rowF (nx.take j) l).1,(rowF (nx.take j) l).2)) (fun o=>o=rowF nx l) nx.length 0 (by omega) (fun j st hj e1=>by
   subst e1;have hs:rowF (nx.take (j+1)) l=rowS (rowF (nx.take j) l) nx[j]:=by rw [yTs hj,yc7]
   have h1:=y7Q nx l (j+1);have h2:=y7Q nx l j;have h3:=y7s (nx.take j) l;rw [List.length_take] at h3;refine .inl ⟨_,?_,rfl⟩;unfold y1h;simp only [ct_lt hj,if_true,yd hj,yOb];rw [ygq (by omega),yOb,hs];unfold rowS fnd;by_cases hm:nx[j]∈(rowF (nx.take j) l).2
   ·rw [if_pos hm,if_neg (by simp),y2t,yD (by simp;omega),yOb,if_pos hm];simp only [nxt (show j<4611686018427387904 by omega)]
   ·rw [if_neg hm,if_pos (by decide),yD (by simp;omega),yOb,y2t,yD (by simp;omega),yOb,if_neg hm];simp only [nxt (show j<4611686018427387904 by omega)])
  (fun st e1=>by
   subst e1;refine⟨_,?_,rfl⟩;unfold y1h;simp) (by omega) (0,([]:List Int),l) rfl
 rw [ho,he]
def evS(i:Int)(st:List (Int×Int)×List E3)(e:Int)(nx:List (Int×Int)):List (Int×Int)×List E3:=((rowF nx st.1).2,st.2++(isL (rowF nx st.1).1).map fun k=>(i,e,k))
theorem y7t{xs:List Int}(h:xs.length≤4294967296):yC xs=some (isL xs):=by
 unfold yC;rw [if_pos h]
theorem yfq{st:Int×(List KeyT)×(List (Int×Int))×List Int×EdgL}{e:Int}{ks:List Int}{es:List E3}(h:ks.length+es.length≤4294967296):iter (y2O st e ks) (0,es)=some (es++ks.map fun k=>(st.1,e,k)):=
 y4o _ _ es h (fun j hj o=>by
  unfold y2O;simp only [ct_lt hj,if_true,yd hj,yOb]) fun o=>by
  unfold y2O;simp
theorem yfr{st:Int×(List (Int×Int))×List Int×EdgL}{e:Int}{ks:List Int}{es:List E3}(h:ks.length+es.length≤4294967296):iter (y2s st e ks) (0,es)=some (es++ks.map fun k=>(st.1,e,k)):=
 y4o _ _ es h (fun j hj o=>by
  unfold y2s;simp only [ct_lt hj,if_true,yd hj,yOb]) fun o=>by
  unfold y2s;simp
theorem y9H{α:Type}[DecidableEq α]{lt:α→α→Prop}(he:∀x y,¬lt x y→¬lt y x→x=y):∀{l:List α},l.Pairwise (fun a b=>¬lt b a)→(dd l).Pairwise lt
 | [],_=> .nil
 | [_],_=>List.pairwise_singleton _ _
 | x::y::l,h=>by
  have h1:=List.pairwise_cons.1 h;have ih:=y9H he (l:=y::l) h1.2;unfold dd;split
  ·exact ih
  ·rename_i hxy;refine List.Pairwise.cons (fun z hz=>?_) ih;have hz:=yb5.1 hz;refine Classical.byContradiction fun hn=>?_;have hxz:x=z:=he _ _ hn (h1.1 z hz);subst hxz;rcases List.mem_cons.1 hz with e|hz
   ·exact hxy e
   ·exact hxy (he _ _ ((List.pairwise_cons.1 h1.2).1 x hz) (h1.1 y (.head _)))
theorem ltfP{x y:Int×Int}:ltf yh x y=true↔ltP x y:=by
 obtain⟨z,h1,h2⟩:=yfn x y;unfold ltf;rw [h1];simpa using h2
theorem yhi(xs:List (Int×Int)):(srtL (ltf yh) xs).Pairwise fun a b=>¬ltP b a:=
 (y9R (yaw (yfo xs)) xs fun _ h=>h).imp fun h=>by rw [←ltfP];simp [h]
theorem yhj(a b:NdT)(p:Int×Int)(e:Int):(stpL a b p e).Pairwise ltP:=y9H (fun x y h1 h2=>by
 unfold ltP at h1 h2;exact Prod.ext (by omega) (by omega)) (yhi _)
theorem ye3(a b:NdT)(p:Int×Int)(e:Int):(stpL a b p e).Nodup:=(yhj a b p e).imp fun h e=>by subst e;unfold ltP at h;omega
def InG(a b:NdT)(q:Int×Int):Prop:=(0≤q.1∧q.1<a.2.1)∧0≤q.2∧q.2<b.2.1
theorem y2T{xs ys:List Int}{q:Int×Int}:q∈ya xs ys↔q.1∈xs∧q.2∈ys:=by
 unfold ya;simp only [List.mem_flatMap,List.mem_map];constructor
 ·rintro ⟨x,hx,y,hy,rfl⟩;exact⟨hx,hy⟩
 ·rintro ⟨h1,h2⟩;exact⟨_,h1,_,h2,rfl⟩
theorem y4b{es:List E3}{s e t:Int}:t∈tgtL es s e↔(s,e,t)∈es:=by
 unfold tgtL;simp only [List.mem_map,List.mem_filter,Bool.and_eq_true,beq_iff_eq];constructor
 ·rintro ⟨⟨f,v,t⟩,⟨h1,rfl,rfl⟩,rfl⟩;exact h1
 ·intro h;exact⟨_,⟨h,rfl,rfl⟩,rfl⟩
theorem yb8{a:NdT}(ha:NdOk a){s e t:Int}(hs:0≤s∧s<a.2.1)(h:t∈tsL a s e):0≤t∧t<a.2.1:=by
 unfold tsL at h;split at h
 ·rw [yMs.1 h];exact hs
 ·exact ⟨(ha.esr _ (y4b.1 h)).2.2.1,(ha.esr _ (y4b.1 h)).2.2.2.1⟩
theorem yhk{a b:NdT}(ha:NdOk a)(hb:NdOk b){p q:Int×Int}{e:Int}(hp:InG a b p)(h:q∈rawL a b p e):InG a b q:=by
 unfold rawL at h;split at h
 ·rcases yMa.1 h with h|h
  ·have:=y2T.1 h;exact⟨yb8 ha hp.1 this.1,by rw [yMs.1 this.2];exact hp.2⟩
  ·have:=y2T.1 h;exact⟨by rw [yMs.1 this.1];exact hp.1,yb8 hb hp.2 this.2⟩
 ·have:=y2T.1 h;exact⟨yb8 ha hp.1 this.1,yb8 hb hp.2 this.2⟩
theorem y9V{a b:NdT}(ha:NdOk a)(hb:NdOk b){p q:Int×Int}{e:Int}(hp:InG a b p)(h:q∈stpL a b p e):InG a b q:=yhk ha hb hp (yd0.1 h)
theorem yd4{a b:NdT}{l:List (Int×Int)}(hn:l.Nodup)(hl:∀q∈l,InG a b q):l.length≤a.2.1.toNat*b.2.1.toNat:=by
 have h1:=y6t (a.2.1.toNat*b.2.1.toNat) (l.map fun q=>q.1.toNat*b.2.1.toNat+q.2.toNat) ?_ ?_
 ·simpa using h1
 ·unfold List.Nodup;rw [List.pairwise_map];refine List.Pairwise.imp_of_mem (fun {x y} hx hy hne h=>hne ?_) hn;obtain⟨⟨x1,x2⟩,x3,x4⟩:=hl x hx;obtain⟨⟨y1,y2⟩,y3,y4⟩:=hl y hy;have hb:0<b.2.1.toNat:=by omega
  have hx2:x.2.toNat<b.2.1.toNat:=by omega
  have hy2:y.2.toNat<b.2.1.toNat:=by omega
  have e1:x.1.toNat=y.1.toNat:=by
   have:=congrArg (· / b.2.1.toNat) h;simp only [Nat.mul_comm _ b.2.1.toNat,Nat.mul_add_div hb,Nat.div_eq_of_lt hx2,Nat.div_eq_of_lt hy2,Nat.add_zero] at this;exact this
  have e2:x.2.toNat=y.2.toNat:=by
   rw [e1] at h;omega
  exact Prod.ext (by omega) (by omega)
 ·intro k hk;obtain⟨q,hq,rfl⟩:=List.mem_map.1 hk;obtain⟨⟨x1,x2⟩,x3,x4⟩:=hl q hq;have h3:q.1.toNat+1≤a.2.1.toNat:=by omega
  have h4:=Nat.mul_le_mul_right b.2.1.toNat h3;rw [Nat.add_mul,Nat.one_mul] at h4;omega
theorem yaE{a b:NdT}(ha:NdOk a)(hb:NdOk b){p:Int×Int}{e:Int}(hp:InG a b p):(stpL a b p e).length≤a.2.1.toNat*b.2.1.toNat:=yd4 (ye3 a b p e) fun _ h=>y9V ha hb hp h
theorem yhR{l:List (Int×Int)}{p:Int×Int}(h:l.Nodup):(fnd l p).2.Nodup:=by
 unfold fnd;split
 ·exact h
 ·rename_i hn;rw [List.nodup_append];exact⟨h,by simp,fun x hx y hy e=>by rw [yMs.1 hy] at e;exact hn (e▸hx)⟩
theorem yhl{nx l:List (Int×Int)}(h:l.Nodup):(rowF nx l).2.Nodup:=by
 have:∀(nx:List (Int×Int)) (st:List Int×List (Int×Int)),st.2.Nodup→(nx.foldl rowS st).2.Nodup:=by
  intro nx
  induction nx with
  | nil=>intro st h;exact h
  | cons p nx ih=>intro st h;exact ih _ (yhR h)
 exact this nx ([],l) h
def evF(a b:NdT)(i:Int)(p:Int×Int)(ev:List Int)(st:List (Int×Int)×List E3):List (Int×Int)×List E3:=ev.foldl (fun st e=>evS i st e (stpL a b p e)) st
theorem yd5(a b:NdT)(i:Int)(p:Int×Int)(ev:List Int)(e:Int)(st:List (Int×Int)×List E3):evF a b i p (ev++[e]) st=evS i (evF a b i p ev st) e (stpL a b p e):=by unfold evF;rw [List.foldl_append];rfl
theorem ygr(xs:List Int)(y:Int):ya xs [y]=xs.map fun x=>(x,y):=by
 induction xs with
 | nil=>rfl
 | cons x xs ih=>unfold ya at *;rw [List.flatMap_cons,ih];rfl
theorem ygs(x:Int)(ys:List Int):ya [x] ys=ys.map fun y=>(x,y):=by
 unfold ya;simp
structure PsOk (a b:NdT) (l:List (Int×Int)):Prop where
 nd:l.Nodup
 ing:∀q∈l,InG a b q
theorem PsOk.len{a b:NdT}{l:List (Int×Int)}(h:PsOk a b l):l.length≤a.2.1.toNat*b.2.1.toNat:=yd4 h.nd h.ing
theorem PsOk.row{a b:NdT}{l nx:List (Int×Int)}(h:PsOk a b l)(hn:∀q∈nx,InG a b q):PsOk a b (rowF nx l).2:=⟨yhl h.nd,fun q hq=>by
 obtain⟨t,h1,h2⟩:=yaD nx l;rw [h1] at hq;rcases yMa.1 hq with h3|h3
 ·exact h.ing q h3
 ·exact hn q (h2 q h3)⟩
theorem yb9{a b:NdT}(ha:NdOk a)(hb:NdOk b){i:Int}{p:Int×Int}(hp:InG a b p):∀(ev:List Int) {st:List (Int×Int)×List E3},PsOk a b st.1→PsOk a b (evF a b i p ev st).1∧(evF a b i p ev st).2.length≤st.2.length+ev.length*(a.2.1.toNat*b.2.1.toNat)
 | [],st,h=>⟨h,by simp [evF]⟩
 | e::ev,st,h=>by
  have h1:=h.row (nx:=stpL a b p e) fun q hq=>y9V ha hb hp hq;obtain⟨h2,h3⟩:=yb9 ha hb (i:=i) hp ev (st:=evS i st e (stpL a b p e)) h1;refine⟨h2,?_⟩;show(evF a b i p ev (evS i st e (stpL a b p e))).2.length≤_;have h4:(evS i st e (stpL a b p e)).2.length=st.2.length+(stpL a b p e).length:=by
   unfold evS;rw [List.length_append,List.length_map,(y1G _).length_eq,y7s]
  have h5:=yaE ha hb (e:=e) hp;rw [h4] at h3;rw [List.length_cons,Nat.succ_mul];omega
section
variable{a b:NdT}(ha:NdOk a)(hb:NdOk b)(hN:a.2.1.toNat*b.2.1.toNat≤4096)
include ha hb hN
theorem yeu{st0:Int×(List KeyT)×(List (Int×Int))×List Int×EdgL}{p:Int×Int}{ev:List Int}{l:List (Int×Int)}{es:List E3}(hp:InG a b p)(hl:PsOk a b l)(hev:∀e∈ev,e= -1∨e∈a.1∨e∈b.1)(hes:es.length+ev.length*4096≤4294967296):
  iter (y1K a b st0 p ev) (0,numb 0 l,l,es)=some (.inl (numb 0 (evF a b st0.1 p ev (l,es)).1,evF a b st0.1 p ev (l,es))):=by
 obtain⟨o,ho,he⟩:=yg (f:=y1K a b st0 p ev) (fun j st=>st=((j:Int),numb 0 (evF a b st0.1 p (ev.take j) (l,es)).1,(evF a b st0.1 p (ev.take j) (l,es)).1,(evF a b st0.1 p (ev.take j) (l,es)).2)) (fun o=>o= .inl (numb 0 (evF a b st0.1 p ev (l,es)).1,evF a b st0.1 p ev (l,es))) ev.length 0 (by omega) (fun j st hj e1=>by
   subst e1;obtain⟨k1,k2⟩:=yb9 ha hb (i:=st0.1) hp (ev.take j) (st:=(l,es)) hl;have hs:evF a b st0.1 p (ev.take (j+1)) (l,es)=evS st0.1 (evF a b st0.1 p (ev.take j) (l,es)) ev[j] (stpL a b p ev[j]):=by rw [yTs hj,yd5]
   generalize evF a b st0.1 p (ev.take j) (l,es)=S at hs k1 k2;have k3:=k1.row (nx:=stpL a b p ev[j]) fun q hq=>y9V ha hb hp hq;have k4:=k3.len;have k5:=yaE ha hb (e:=ev[j]) hp;have k6:=y7s (stpL a b p ev[j]) S.1;rw [List.length_take] at k2;have k7:min j ev.length*(a.2.1.toNat*b.2.1.toNat)≤ev.length*4096-4096:=by
    have:=Nat.mul_le_mul (show min j ev.length≤ev.length-1 by omega) hN;rw [Nat.sub_mul] at this;omega
   have k8:4096≤ev.length*4096:=Nat.le_mul_of_pos_left _ (by omega);refine .inl ⟨_,?_,rfl⟩;unfold y1K;simp only [ct_lt hj,if_true,yd hj,yOb];rw [ygo ha hb p (hev _ (yGm hj)),yOb,yhg (by omega) (by omega),yOb];simp only;rw [y7t (by omega),yOb,yfq (by rw [(y1G _).length_eq];dsimp only at k2;omega),yOb,nxt (by omega),hs];rfl)
  (fun st e1=>by
   subst e1;refine⟨_,?_,rfl⟩;unfold y1K;simp) (by omega) (0,numb 0 l,l,es) rfl
 rw [ho,he]
omit hN in
theorem yhm(st0:Int×(List (Int×Int))×List Int×EdgL)(st:Int×(List (Int×Int))×EdgL)(p:Int×Int)(ev:List Int)(e:Int)(hj:decide (st.1<(ev.length:Int))=true)(hx:idx ev st.1=some e):yP a b st0 p p ev st=y2u st0 st e (rawL a b p e):=by
 have la:=y6T ha p.1 e;have lb:=y6T hb p.2 e;have hr:=yaB ha hb p e;unfold yP;rw [if_pos hj,hx,yOb];by_cases h1:e= -1
 ·subst h1;have hraw:rawL a b p (-1)=ya (tsL a p.1 (-1)) [p.2]++ya [p.1] (tsL b p.2 (-1)):=by unfold rawL;simp
  rw [if_pos (by decide),show yn a p.1 (-1)=some (tsL a p.1 (-1)) from y7O ha _ _,yOb];rw [y4o (xs:=tsL a p.1 (-1)) (y2w p (tsL a p.1 (-1))) (fun x=>(x,p.2)) [] (by simp;omega) (fun j hj o=>by
   unfold y2w;simp only [ct_lt hj,if_true,yd hj,yOb]) fun o=>by
   unfold y2w;simp]
  rw [yOb,show yn b p.2 (-1)=some (tsL b p.2 (-1)) from y7O hb _ _,yOb];rw [y4o (xs:=tsL b p.2 (-1)) (y2v p (tsL b p.2 (-1))) (fun x=>(p.1,x)) _ (by simp;omega) (fun j hj o=>by
   unfold y2v;simp only [ct_lt hj,if_true,yd hj,yOb]) fun o=>by
   unfold y2v;simp]
  rw [yOb,hraw,ygr,ygs];rfl
 ·have hraw:rawL a b p e=ya (tsL a p.1 e) (tsL b p.2 e):=by unfold rawL;rw [if_neg h1]
  rw [if_neg (by simpa using h1),show yn a p.1 e=some (tsL a p.1 e) from y7O ha _ _,yOb];rw [y7P (xs:=tsL a p.1 e) (y2y b p e (tsL a p.1 e)) (fun x=>(tsL b p.2 e).map fun y=>(x,y)) [] (by omega) (by
   show(ya (tsL a p.1 e) (tsL b p.2 e)).length+0≤_;rw [←hraw];omega) (fun j hj o ho=>by
   unfold y2y;simp only [ct_lt hj,if_true,yd hj,yOb];rw [show yn b p.2 e=some (tsL b p.2 e) from y7O hb _ _,yOb];rw [y4o (xs:=tsL b p.2 e) (y2x (tsL a p.1 e)[j] (tsL b p.2 e)) (fun y=>((tsL a p.1 e)[j],y)) o (by simpa using ho) (fun j hj o=>by
    unfold y2x;simp only [ct_lt hj,if_true,yd hj,yOb]) fun o=>by
    unfold y2x;simp]
   rw [yOb,nxt (by omega)]) fun o=>by
   unfold y2y;simp]
  rw [yOb,hraw];rfl
end
theorem yev{a b:NdT}(ha:NdOk a)(hb:NdOk b)(hN:a.2.1.toNat*b.2.1.toNat≤4096){st0:Int×(List (Int×Int))×List Int×EdgL}{p:Int×Int}{ev:List Int}{l:List (Int×Int)}{es:List E3}(hp:InG a b p)(hl:PsOk a b l)(hes:es.length+ev.length*4096≤4294967296):
  iter (yP a b st0 p p ev) (0,l,es)=some (evF a b st0.1 p ev (l,es)):=by
 obtain⟨o,ho,he⟩:=yg (f:=yP a b st0 p p ev) (fun j st=>st=((j:Int),evF a b st0.1 p (ev.take j) (l,es))) (fun o=>o=evF a b st0.1 p ev (l,es)) ev.length 0 (by omega) (fun j st hj e1=>by
   subst e1;obtain⟨k1,k2⟩:=yb9 ha hb (i:=st0.1) hp (ev.take j) (st:=(l,es)) hl;have hs:evF a b st0.1 p (ev.take (j+1)) (l,es)=evS st0.1 (evF a b st0.1 p (ev.take j) (l,es)) ev[j] (stpL a b p ev[j]):=by rw [yTs hj,yd5]
   rw [yhm ha hb st0 _ p ev ev[j] (ct_lt hj) (yd hj)];generalize evF a b st0.1 p (ev.take j) (l,es)=S at hs k1 k2 ⊢;have k3:=k1.row (nx:=stpL a b p ev[j]) fun q hq=>y9V ha hb hp hq;have k4:=k3.len;have k5:=yaE ha hb (e:=ev[j]) hp;have k6:=y7s (stpL a b p ev[j]) S.1;rw [List.length_take] at k2;have k7:min j ev.length*(a.2.1.toNat*b.2.1.toNat)≤ev.length*4096-4096:=by
    have:=Nat.mul_le_mul (show min j ev.length≤ev.length-1 by omega) hN;rw [Nat.sub_mul] at this;omega
   have k8:4096≤ev.length*4096:=Nat.le_mul_of_pos_left _ (by omega);have hr:=yaB ha hb p ev[j];refine .inl ⟨_,?_,rfl⟩;rw [y2u,ygm,ycY hr,yOb,yad (by rw [(y3q _ _).length_eq];exact hr),yOb];have hrow:=yhh (nx:=stpL a b p ev[j]) (l:=S.1) (by omega) (by omega);unfold stpL at hrow;rw [hrow,yOb];have e2:rowF (dd (srtL (ltf yh) (rawL a b p ev[j]))) S.1=rowF (stpL a b p ev[j]) S.1:=rfl;rw [e2,y7t (by omega),yOb,yfr (by rw [(y1G _).length_eq];dsimp only at k2 ⊢;omega),yOb];simp only [nxt (show j<4611686018427387904 by omega)];rw [hs];rfl)
  (fun st e1=>by
   subst e1;refine⟨evF a b st0.1 p ev (l,es),?_,rfl⟩;rw [List.take_length];unfold yP;simp) (by omega) (0,l,es) rfl
 rw [ho,he]
def prS(a b:NdT)(ev:List Int)(i:Nat)(S:List (Int×Int)×List Int×List E3):List (Int×Int)×List Int×List E3:=
 let p:=S.1.getD i (0,0)
 let r:=evF a b i p ev (S.1,S.2.2)
 (r.1,if(hasB a.2.2.2.1 p.1&&hasB b.2.2.2.1 p.2)=true then S.2.1++[(i:Int)] else S.2.1,r.2)
def prN(a b:NdT)(ev:List Int)(l:List (Int×Int)):Nat→List (Int×Int)×List Int×List E3
 | 0=>(l,[],[])
 | i+1=>prS a b ev i (prN a b ev l i)
section
variable{a b:NdT}(ha:NdOk a)(hb:NdOk b)(hN:a.2.1.toNat*b.2.1.toNat≤4096){ev:List Int}{l:List (Int×Int)}(hl:PsOk a b l)
include ha hb hl
theorem yba :∀i,(∀j,j<i→j<(prN a b ev l j).1.length)→PsOk a b (prN a b ev l i).1∧(prN a b ev l i).2.1.length≤i∧(prN a b ev l i).2.2.length≤i*(ev.length*(a.2.1.toNat*b.2.1.toNat))
 | 0,_=>⟨hl,Nat.le_refl _,by simp [prN]⟩
 | i+1,h=>by
  obtain⟨h1,h2,h3⟩:=yba i fun j hj=>h j (by omega);have hi:=h i (by omega);unfold prN;generalize prN a b ev l i=S at h1 h2 h3 hi;have hp:S.1.getD i (0,0)=S.1[i]:=by rw [List.getD_eq_getElem?_getD,yGe hi];rfl
  obtain⟨k1,k2⟩:=yb9 ha hb (i:=(i:Int)) (h1.ing _ (yGm hi)) ev (st:=(S.1,S.2.2)) h1;unfold prS;rw [hp];refine⟨k1,?_,?_⟩
  ·dsimp only;split
   ·rw [List.length_append];simp;omega
   ·omega
  ·dsimp only at k2 ⊢;rw [Nat.succ_mul];omega
theorem yhn :∃n,n≤a.2.1.toNat*b.2.1.toNat∧(∀j,j<n→j<(prN a b ev l j).1.length)∧(prN a b ev l n).1.length≤n:=by
 refine Classical.byContradiction fun hn=>?_;have:∀i,i≤a.2.1.toNat*b.2.1.toNat+1→∀j,j<i→j<(prN a b ev l j).1.length:=by
  intro i
  induction i with
  | zero=>intro _ j hj;omega
  | succ i ih=>
   intro hi j hj;by_cases hji:j=i
   ·subst hji;refine Classical.byContradiction fun hlt=>hn ⟨j,by omega,ih (by omega),by omega⟩
   ·exact ih (by omega) j (by omega)
 have h1:=this _ (Nat.le_refl _);have h2:=h1 (a.2.1.toNat*b.2.1.toNat) (by omega);have h3:=(yba ha hb hl (ev:=ev) (a.2.1.toNat*b.2.1.toNat) fun j hj=>h1 j (by omega)).1.len;omega
end
section
variable{a b:NdT}(ha:NdOk a)(hb:NdOk b)(hN:a.2.1.toNat*b.2.1.toNat≤4096){un:List Int}(hu:un.length≤64){l:List (Int×Int)}(hl:PsOk a b l)
include ha hb hN hu hl
theorem yfs{n:Nat}(hn:n≤4096)(hj:∀j,j<n→j<(prN a b (-1::un) l j).1.length){i:Nat}(hi:i<n):∃p,(prN a b (-1::un) l i).1[i]? =some p∧InG a b p∧PsOk a b (prN a b (-1::un) l i).1∧(prN a b (-1::un) l i).2.1.length≤4096∧(prN a b (-1::un) l i).2.2.length≤65*4096*4096:=by
 obtain⟨h1,h2,h3⟩:=yba ha hb hl (ev:= -1::un) i fun j hj'=>hj j (by omega);have hlt:=hj i hi;refine⟨_,yGe hlt,h1.ing _ (yGm hlt),h1,by omega,Nat.le_trans h3 ?_⟩;have h4:(-1::un).length*(a.2.1.toNat*b.2.1.toNat)≤65*4096:=Nat.mul_le_mul (by simp;omega) hN
 calc i*((-1::un).length*(a.2.1.toNat*b.2.1.toNat))≤4096*(65*4096):=Nat.mul_le_mul (by omega) h4
  _=65*4096*4096:=by omega
theorem yew(hun:∀e∈un,e∈a.1∨e∈b.1){n:Nat}(hn:n≤4096)(hj:∀j,j<n→j<(prN a b (-1::un) l j).1.length)(he:(prN a b (-1::un) l n).1.length≤n):
  iter (y2P a b un) (0,numb 0 l,l,([]:List Int),([]:List E3))=some (.inl (prN a b (-1::un) l n)):=by
 refine yct (fun i=>((i:Int),numb 0 (prN a b (-1::un) l i).1,prN a b (-1::un) l i)) n (by omega) (fun i hi=>?_) ?_
 ·obtain ⟨p,hp,k1,k2,k3,k4⟩:=yfs ha hb hN hu hl hn hj hi;have hlt:=hj i hi;have hget:(prN a b (-1::un) l i).1.getD i (0,0)=p:=by rw [List.getD_eq_getElem?_getD,hp];rfl
  have hs:prN a b (-1::un) l (i+1)=prS a b (-1::un) i (prN a b (-1::un) l i):=rfl;rw [hs];unfold prS;rw [hget];generalize prN a b (-1::un) l i=S at hp k2 k3 k4 hlt;have hx:S.1[i]=p:=by rw [yGe hlt] at hp;exact Option.some.inj hp
  unfold y2P;simp only [ct_lt hlt,if_true,yd hlt,yOb,hx];have hma:=ha.lm;have hmb:=hb.lm;rw [y4n (by omega) ha.mks,yOb];have hb2:(if hasB a.2.2.2.1 p.1=true then(yl b.2.2.2.1 p.2).bind fun r=>some r else some false)=some (hasB a.2.2.2.1 p.1&&hasB b.2.2.2.1 p.2):=by
   rw [y4n (by omega) hb.mks];cases hasB a.2.2.2.1 p.1 <;> simp
  rw [hb2,yOb];have hev:∀mk:List Int,y1L a b un ((i:Int),numb 0 S.1,S) p mk=some (.inl (((i+1:Nat):Int),numb 0 (evF a b i p (-1::un) (S.1,S.2.2)).1,(evF a b i p (-1::un) (S.1,S.2.2)).1,mk,(evF a b i p (-1::un) (S.1,S.2.2)).2)):=fun mk=>by
   rw [y1L,yD (by simp;omega),yOb];have:=yeu ha hb hN (st0:=((i:Int),numb 0 S.1,S)) (p:=p) (ev:= -1::un) (l:=S.1) (es:=S.2.2) k1 k2 (fun e he=>by
    rcases List.mem_cons.1 he with h|h
    ·exact .inl h
    ·exact .inr (hun e h)) (by simp;omega)
   rw [show ([-1]:List Int)++un= -1::un from rfl,this,yOb];simp only [nxt (show i<4611686018427387904 by omega)]
  split
  ·rw [yD (by simp;omega),yOb,hev]
  ·rw [hev]
 ·unfold y2P;rw [if_neg (by simp;omega)]
theorem yex{n:Nat}(hn:n≤4096)(hj:∀j,j<n→j<(prN a b (-1::un) l j).1.length)(he:(prN a b (-1::un) l n).1.length≤n):
  iter (y2A a b un) (0,l,([]:List Int),([]:List E3))=some (prN a b (-1::un) l n):=by
 refine yct (fun i=>((i:Int),prN a b (-1::un) l i)) n (by omega) (fun i hi=>?_) ?_
 ·obtain ⟨p,hp,k1,k2,k3,k4⟩:=yfs ha hb hN hu hl hn hj hi;have hlt:=hj i hi;have hget:(prN a b (-1::un) l i).1.getD i (0,0)=p:=by rw [List.getD_eq_getElem?_getD,hp];rfl
  have hs:prN a b (-1::un) l (i+1)=prS a b (-1::un) i (prN a b (-1::un) l i):=rfl;rw [hs];unfold prS;rw [hget];generalize prN a b (-1::un) l i=S at hp k2 k3 k4 hlt;have hx:S.1[i]=p:=by rw [yGe hlt] at hp;exact Option.some.inj hp
  unfold y2A;simp only [ct_lt hlt,if_true,yd hlt,yOb,hx];have hma:=ha.lm;have hmb:=hb.lm;rw [y4w (by omega),yOb];have hb2:(if hasB a.2.2.2.1 p.1=true then(ym b.2.2.2.1 p.2).bind fun r=>some r else some false)=some (hasB a.2.2.2.1 p.1&&hasB b.2.2.2.1 p.2):=by
   rw [y4w (by omega)];cases hasB a.2.2.2.1 p.1 <;> simp
  rw [hb2,yOb];have hev:∀mk:List Int,y2z a b un ((i:Int),S) p p mk=some (.inl (((i+1:Nat):Int),(evF a b i p (-1::un) (S.1,S.2.2)).1,mk,(evF a b i p (-1::un) (S.1,S.2.2)).2)):=fun mk=>by
   rw [y2z,yD (by simp;omega),yOb];have:=yev ha hb hN (st0:=((i:Int),S)) (p:=p) (ev:= -1::un) (l:=S.1) (es:=S.2.2) k1 k2 (by simp;omega);rw [show ([-1]:List Int)++un= -1::un from rfl,this,yOb];simp only [nxt (show i<4611686018427387904 by omega)]
  split
  ·rw [yD (by simp;omega),yOb,hev]
  ·rw [hev]
 ·unfold y2A;rw [if_neg (by simp;omega)]
end
def numsL(n:Nat):List Int:=(List.range n).map fun i:Nat=>(i:Int)
theorem ybb(n:Nat):numsL (n+1)=numsL n++[(n:Int)]:=by unfold numsL;rw [List.range_succ,List.map_append];rfl
theorem y9I(n:Nat):(numsL n).length=n:=by simp [numsL]
theorem yhS{ys:List Int}(x:Int)(l:List (Int×Int))(hl:ys.length+l.length≤4096):iter (yz ([],0,ys,[],[]) x) (0,l,numsL l.length)=some (l++ys.map (fun y=>(x,y)),numsL (l.length+ys.length)):=by
 obtain⟨o,ho,he⟩:=yg (f:=yz ([],0,ys,[],[]) x) (fun j st=>st=((j:Int),l++(ys.take j).map (fun y=>(x,y)),numsL (l.length+j))) (fun o=>o=(l++ys.map (fun y=>(x,y)),numsL (l.length+ys.length))) ys.length 0 (by omega) (fun j st hj e1=>by
   subst e1;refine .inl ⟨_,?_,rfl⟩;unfold yz;simp only [ct_lt hj,if_true,yd hj,yOb];rw [yD (by simp [y9I];omega),yOb,yD (by simp;omega),yOb,nxt (by omega)];have h1:(l++(ys.take j).map fun y=>(x,y)).length=l.length+j:=by simp;omega
   rw [h1,show l.length+(j+1)=(l.length+j)+1 by omega,ybb,yTs hj,List.map_append,List.append_assoc];rfl)
  (fun st e1=>by
   subst e1;refine⟨_,?_,rfl⟩;unfold yz;simp) (by omega) (0,l,numsL l.length) (by simp)
 rw [ho,he]
theorem ygt{a b:NdT}(h:a.2.2.1.length*b.2.2.1.length≤4096)(h2:a.2.2.1.length≤1000000):iter (y1i a b) (0,([]:List (Int×Int)),([]:List Int))=some (ya a.2.2.1 b.2.2.1,numsL (ya a.2.2.1 b.2.2.1).length):=by
 obtain⟨o,ho,he⟩:=yg (f:=y1i a b) (fun j st=>st=((j:Int),ya (a.2.2.1.take j) b.2.2.1,numsL (ya (a.2.2.1.take j) b.2.2.1).length)) (fun o=>o=(ya a.2.2.1 b.2.2.1,numsL (ya a.2.2.1 b.2.2.1).length)) a.2.2.1.length 0 (by omega) (fun j st hj e1=>by
   subst e1;refine .inl ⟨_,?_,rfl⟩;have hs:ya (a.2.2.1.take (j+1)) b.2.2.1=ya (a.2.2.1.take j) b.2.2.1++b.2.2.1.map fun y=>(a.2.2.1[j],y):=by
    unfold ya;rw [yTs hj,List.flatMap_append];simp
   have hb:b.2.2.1.length+(ya (a.2.2.1.take j) b.2.2.1).length≤4096:=by
    rw [y5c,List.length_take,Nat.min_eq_left (by omega)];have:=Nat.mul_le_mul_right b.2.2.1.length (show j+1≤a.2.2.1.length by omega);rw [Nat.succ_mul] at this;omega
   unfold y1i;simp only [ct_lt hj,if_true,yd hj,yOb];have:=yhS (ys:=b.2.2.1) a.2.2.1[j] (ya (a.2.2.1.take j) b.2.2.1) hb;have e2:yz b a.2.2.1[j]=yz ([],0,b.2.2.1,[],[]) a.2.2.1[j]:=rfl;rw [e2,this,yOb,nxt (by omega),hs,List.length_append,List.length_map])
  (fun st e1=>by
   subst e1;refine⟨(ya a.2.2.1 b.2.2.1,numsL (ya a.2.2.1 b.2.2.1).length),?_,rfl⟩;rw [List.take_length];unfold y1i;simp) (by omega) (0,[],[]) rfl
 rw [ho,he]
theorem ygu{r:List (Int×Int)}(hn:r.Nodup)(hl:r.length≤4096):iter (y1M r) (0,([]:List KeyT),([]:List (Int×Int)),([]:List Int))=some (.inl (numb 0 r,r,numsL r.length)):=by
 obtain⟨o,ho,he⟩:=yg (f:=y1M r) (fun j st=>st=((j:Int),numb 0 (r.take j),r.take j,numsL j)) (fun o=>o= .inl (numb 0 r,r,numsL r.length)) r.length 0 (by omega) (fun j st hj e1=>by
   subst e1;refine .inl ⟨_,?_,rfl⟩;have hlen:(r.take j).length=j:=by rw [List.length_take];omega
   have hm:r[j]∉r.take j:=fun hm=>by
    obtain⟨k,hk,e⟩:=List.mem_iff_getElem.1 hm;rw [List.getElem_take] at e;exact List.pairwise_iff_getElem.1 hn k j (by omega) hj (by omega) e
   have hf:fnd (r.take j) r[j]=((j:Int),r.take (j+1)):=by
    unfold fnd;rw [if_neg hm,hlen,yTs hj]
   unfold y1M;simp only [ct_lt hj,if_true,yd hj,yOb];rw [ye2 (by omega),yOb,hf];simp only;rw [yD (by simp [y9I];omega),yOb,if_neg (by simp;omega),nxt (by omega),ybb])
  (fun st e1=>by
   subst e1;refine⟨.inl (numb 0 r,r,numsL r.length),?_,rfl⟩;rw [List.take_length];unfold y1M;simp) (by omega) (0,[],[],[]) rfl
 rw [ho,he]
theorem yft{xs ys:List Int}(h:xs.length+ys.length≤1000000):y4l xs ys=some (dd (isL (xs++ys))):=by
 rw [y4l,yk,yD (by simp;omega),yOb,yOb,List.nil_append,yD (by omega),yOb,y7t (by simp;omega),yOb,y8d (by rw [(y1G _).length_eq];simp;omega),yOb]
theorem y4X(xs:List Int):(dd (isL xs)).Pairwise (· < ·):=y9H (lt:=fun a b:Int=>a<b) (fun x y h1 h2=>by omega) ((yaZ xs).imp fun h=>by omega)
theorem y6u{xs:List Int}{x:Int}:x∈dd (isL xs)↔x∈xs:=by rw [yb5,(y1G xs).mem_iff]
def mg(kp:Bool→Bool→Bool):List Int→List Int→List Int
 | [],[]=> []
 | [],b::vs=>if kp false true=true then b::mg kp [] vs else mg kp [] vs
 | a::us,[]=>if kp true false=true then a::mg kp us [] else mg kp us []
 | a::us,b::vs=>if a<b then(if kp true false=true then a::mg kp us (b::vs) else mg kp us (b::vs)) else if b<a then(if kp false true=true then b::mg kp (a::us) vs else mg kp (a::us) vs) else(if kp true true=true then b::mg kp us vs else mg kp us vs)
termination_by us vs=>us.length+vs.length
theorem y8x{kp:Bool→Bool→Bool}{h:Int}{us vs us' vs' r:List Int}{bu bv:Bool}(hr:Inc r∧∀x,x∈r↔((x∈us'∨x∈vs')∧kp (hasB us' x) (hasB vs' x)=true))
  (hu:∀x,x∈us↔(x=h∧bu=true)∨x∈us') (hv:∀x,x∈vs↔(x=h∧bv=true)∨x∈vs') (gu:∀x∈us',h<x) (gv:∀x∈vs',h<x) (hb:bu=true∨bv=true):
  Inc (if kp bu bv=true then h::r else r)∧∀x,x∈(if kp bu bv=true then h::r else r)↔((x∈us∨x∈vs)∧kp (hasB us x) (hasB vs x)=true):=by
 have e1:hasB us h=bu:=by
  rw [Bool.eq_iff_iff,yo,hu];exact⟨fun e=>e.elim (fun e=>e.2) (fun e=>by have:=gu _ e;omega),fun e=> .inl ⟨rfl,e⟩⟩
 have e2:hasB vs h=bv:=by
  rw [Bool.eq_iff_iff,yo,hv];exact⟨fun e=>e.elim (fun e=>e.2) (fun e=>by have:=gv _ e;omega),fun e=> .inl ⟨rfl,e⟩⟩
 have e3:∀x,x≠h→hasB us x=hasB us' x:=fun x hx=>by
  rw [Bool.eq_iff_iff,yo,yo,hu];exact⟨fun e=>e.elim (fun e=>absurd e.1 hx) id,.inr⟩
 have e4:∀x,x≠h→hasB vs x=hasB vs' x:=fun x hx=>by
  rw [Bool.eq_iff_iff,yo,yo,hv];exact⟨fun e=>e.elim (fun e=>absurd e.1 hx) id,.inr⟩
 have hgt:∀x∈r,h<x:=fun x hx=>((hr.2 x).1 hx).1.elim (gu x) (gv x);have hne:∀x,x≠h→(x∈r↔((x∈us∨x∈vs)∧kp (hasB us x) (hasB vs x)=true)):=fun x hx=>by
  rw [hr.2 x,e3 x hx,e4 x hx,hu,hv];constructor
  ·rintro ⟨h1|h1,h2⟩
   ·exact ⟨.inl (.inr h1),h2⟩
   ·exact ⟨.inr (.inr h1),h2⟩
  ·rintro ⟨(h1|h1)|(h1|h1),h2⟩
   ·exact absurd h1.1 hx
   ·exact ⟨.inl h1,h2⟩
   ·exact absurd h1.1 hx
   ·exact ⟨.inr h1,h2⟩
 have hh:(h∈us∨h∈vs):=hb.elim (fun e=> .inl ((hu h).2 (.inl ⟨rfl,e⟩))) (fun e=> .inr ((hv h).2 (.inl ⟨rfl,e⟩)));cases hk:kp bu bv with
 | true=>
  rw [if_pos rfl];refine⟨List.pairwise_cons.2 ⟨hgt,hr.1⟩,fun x=>?_⟩;rw [List.mem_cons];by_cases hx:x=h
  ·subst hx;exact⟨fun _=>⟨hh,by rw [e1,e2,hk]⟩,fun _=> .inl rfl⟩
  ·rw [←hne x hx];exact⟨fun e=>e.resolve_left hx,.inr⟩
 | false=>
  rw [if_neg (by simp)];refine⟨hr.1,fun x=>?_⟩;by_cases hx:x=h
  ·subst hx;refine⟨fun e=>absurd (hgt x e) (by omega),fun e=>?_⟩;rw [e1,e2,hk] at e;cases e.2
  ·exact hne x hx
theorem y6a(kp:Bool→Bool→Bool):∀(us vs:List Int),Inc us→Inc vs→Inc (mg kp us vs)∧∀x,x∈mg kp us vs↔((x∈us∨x∈vs)∧kp (hasB us x) (hasB vs x)=true)
 | [],[],_,_=>by
  rw [mg];exact⟨List.Pairwise.nil,fun x=>⟨fun h=>(by cases h),fun h=>(by rcases h.1 with h|h <;> cases h)⟩⟩
 | [],b::vs,_,hv=>by
  obtain⟨v1,v2⟩:=List.pairwise_cons.1 hv;rw [mg];exact y8x (bu:=false) (bv:=true) (y6a kp [] vs List.Pairwise.nil v2) (fun x=>by simp) (fun x=>by simp) (fun x hx=>by cases hx) v1 (.inr rfl)
 | a::us,[],hu,_=>by
  obtain⟨u1,u2⟩:=List.pairwise_cons.1 hu;rw [mg];exact y8x (bu:=true) (bv:=false) (y6a kp us [] u2 List.Pairwise.nil) (fun x=>by simp) (fun x=>by simp) u1 (fun x hx=>by cases hx) (.inl rfl)
 | a::us,b::vs,hu,hv=>by
  obtain⟨u1,u2⟩:=List.pairwise_cons.1 hu;obtain⟨v1,v2⟩:=List.pairwise_cons.1 hv;rw [mg];by_cases h1:a<b
  ·rw [if_pos h1];refine y8x (bu:=true) (bv:=false) (y6a kp us (b::vs) u2 hv) (fun x=>by simp) (fun x=>by simp) u1 (fun x hx=>?_) (.inl rfl);rcases List.mem_cons.1 hx with rfl|hx
   ·exact h1
   ·have:=v1 x hx;omega
  ·rw [if_neg h1];by_cases h2:b<a
   ·rw [if_pos h2];refine y8x (bu:=false) (bv:=true) (y6a kp (a::us) vs hu v2) (fun x=>by simp) (fun x=>by simp) (fun x hx=>?_) v1 (.inr rfl);rcases List.mem_cons.1 hx with rfl|hx
    ·exact h2
    ·have:=u1 x hx;omega
   ·obtain rfl:a=b:=by omega
    rw [if_neg h2];exact y8x (bu:=true) (bv:=true) (y6a kp us vs u2 v2) (fun x=>by simp) (fun x=>by simp) u1 v1 (.inl rfl)
termination_by us vs=>us.length+vs.length
theorem yey{kp:Bool→Bool→Bool}{f:Bool→Bool→Option Bool}(hf:∀a b,f a b=some (kp a b)){out us vs:List Int}(hl:out.length≤4000000)(hne:0<us.length+vs.length):
  ∃o u v,y1p f (out,us,vs)=some (.inl (o,u,v))∧o++mg kp u v=out++mg kp us vs∧o.length≤out.length+1∧u.length+v.length+1≤us.length+vs.length:=by
 have ho:∀a:Int,app out ([a]:List Int)=some (out++[a]):=fun a=>yeF (by simp;omega);have fin:∀(bu bv:Bool) (h:Int) (u v:List Int),∃o,y3e f (out,us,vs) bu bv u v h=some (.inl (o,u,v))∧o++mg kp u v=out++(if kp bu bv=true then h::mg kp u v else mg kp u v)∧o.length≤out.length+1:=fun bu bv h u v=>by
  rw [y3e,hf,yOb];dsimp only;cases kp bu bv with
  | true=>rw [if_pos rfl,ho,yOb];exact⟨_,rfl,by simp,by simp⟩
  | false=>rw [if_neg (by simp)];exact⟨_,rfl,by simp,by omega⟩
 cases us with
 | nil=>
  cases vs with
  | nil=>simp at hne
  | cons b vs=>
   obtain⟨o,h1,h2,h3⟩:=fin false true b [] vs;refine⟨o,[],vs,?_,by rw [h2,mg],h3,by simp⟩;rw [y1p];dsimp only;rw [if_pos (by simp),if_neg (by simp),y1o];dsimp only;rw [if_pos (by simp),if_pos (by simp),yU,if_neg (by simp),yT,if_pos rfl];dsimp only;rw [y5q,yOb,y8w,yOb];exact h1
 | cons a us=>
  cases vs with
  | nil=>
   obtain⟨o,h1,h2,h3⟩:=fin true false a us [];refine⟨o,us,[],?_,by rw [h2,mg],h3,by simp⟩;rw [y1p];dsimp only;rw [if_pos (by simp),if_pos (by simp),if_pos (by simp),y1o];dsimp only;rw [if_neg (by simp),yU,if_pos rfl];dsimp only;rw [y5q,yOb,y8w,yOb,yT,if_neg (by simp)];exact h1
  | cons b vs=>
   have e0:y1p f (out,a::us,b::vs)=yU f (out,a::us,b::vs) (decide (a≤b)) (decide (b≤a)):=by
    rw [y1p];dsimp only;rw [if_pos (by simp),if_pos (by simp),if_neg (by simp;omega),y5q,yOb,y5q,yOb,y1o];dsimp only;rw [if_pos (by simp),if_neg (by simp;omega),y5q,yOb,y5q,yOb]
   rw [e0,yU];dsimp only;by_cases h1:a<b
   ·obtain ⟨o,g1,g2,g3⟩:=fin true false a us (b::vs);refine⟨o,us,b::vs,?_,by rw [g2,mg,if_pos h1],g3,by simp;omega⟩;rw [show decide (a≤b)=true by simp;omega,show decide (b≤a)=false by simp;omega,if_pos rfl,y5q,yOb,y8w,yOb,yT,if_neg (by simp)];exact g1
   ·by_cases h2:b<a
    ·obtain ⟨o,g1,g2,g3⟩:=fin false true b (a::us) vs;refine⟨o,a::us,vs,?_,by rw [g2,mg,if_neg h1,if_pos h2],g3,by simp;omega⟩;rw [show decide (a≤b)=false by simp;omega,show decide (b≤a)=true by simp;omega,if_neg (by simp),yT,if_pos rfl];dsimp only;rw [y5q,yOb,y8w,yOb];exact g1
    ·obtain ⟨o,g1,g2,g3⟩:=fin true true b us vs;refine⟨o,us,vs,?_,by rw [g2,mg,if_neg h1,if_neg h2],g3,by simp;omega⟩;rw [show decide (a≤b)=true by simp;omega,show decide (b≤a)=true by simp;omega,if_pos rfl,y5q,yOb,y8w,yOb,yT,if_pos rfl];dsimp only;rw [y5q,yOb,y8w,yOb];exact g1
theorem yd6{kp:Bool→Bool→Bool}{f:Bool→Bool→Option Bool}(hf:∀a b,f a b=some (kp a b)){us vs:List Int}(hu:us.length≤1000000)(hv:vs.length≤1000000):y3i us vs f=some (mg kp us vs):=by
 obtain⟨o,h1,h2⟩:=yg (f:=y1p f) (fun i s=>s.1++mg kp s.2.1 s.2.2=mg kp us vs∧s.1.length≤i∧s.2.1.length+s.2.2.length+i≤us.length+vs.length) (fun o=>o=mg kp us vs) (us.length+vs.length) 0 (by omega) (fun i s hi ⟨g1,g0,g2⟩=>by
   obtain⟨out,u,v⟩:=s;dsimp only at g1 g0 g2;by_cases hne:0<u.length+v.length
   ·obtain ⟨o,u',v',e,g3,g5,g4⟩:=yey hf (out:=out) (by omega) hne;exact .inl ⟨_,e,by rw [←g1];exact g3,by dsimp only;omega,by dsimp only;omega⟩
   ·have e1:u= []:=List.eq_nil_of_length_eq_zero (by omega);have e2:v= []:=List.eq_nil_of_length_eq_zero (by omega);subst e1;subst e2;rw [mg,List.append_nil] at g1;exact .inr ⟨out,rfl,g1⟩) (fun s ⟨g1,g0,g2⟩=>by
   obtain⟨out,u,v⟩:=s;dsimp only at g1 g2;have e1:u= []:=List.eq_nil_of_length_eq_zero (by omega);have e2:v= []:=List.eq_nil_of_length_eq_zero (by omega);subst e1;subst e2;rw [mg,List.append_nil] at g1;exact⟨out,rfl,g1⟩) (yZl _) ([],us,vs) ⟨rfl,by simp,by dsimp only;omega⟩
 rw [y3i,h1,h2];rfl
theorem yfu{us vs:List Int}(hu:us.length≤1000000)(hv:vs.length≤1000000):y3j us vs=some (mg (fun a b=>a||b) us vs):=by
 rw [y3j,yd6 (f:=y4T) (kp:=fun a b=>a||b) (fun a b=>rfl) hu hv];rfl
theorem y9W{xs:List Int}{n:Int}(hi:xs.Pairwise (· < ·))(hr:∀x∈xs,0≤x∧x<n)(hl:xs.length≤1000000):y1n xs n=some 0:=by
 obtain⟨o,ho,he⟩:=yg (f:=y3k xs n) (fun j st=>st=(j:Int)) (fun o=>o= .inl ()) xs.length 0 (by omega) (fun j st hj e1=>by
   subst e1;refine .inl ⟨_,?_,rfl⟩;have h1:=hr _ (yGm hj);unfold y3k;rw [if_pos (ct_lt hj),yd hj,yOb,if_neg (by simp;omega)];by_cases h0:j=0
   ·subst h0;rw [if_neg (by simp),yOb,if_neg (by simp)];rfl
   ·rw [if_pos (by simp;omega),show(j:Int)-1=((j-1:Nat):Int) by omega,W_nat (by omega),yd (show j-1<xs.length by omega),yOb,yOb];have h2:=List.pairwise_iff_getElem.1 hi (j-1) j (by omega) hj (by omega);rw [if_neg (by simpa using h2),nxt (by omega)])
  (fun st e1=>by
   subst e1;refine⟨.inl (),?_,rfl⟩;unfold y3k;rw [if_neg ct_ge]) (by omega) 0 rfl
 rw [y1n,ho,he];rfl
theorem y5R{a:NdT}(ha:NdOk a):yx a=some 0:=by
 have hn0:=ha.n0;have hn1:=ha.n1;have hle:=ha.le;have hla:=ha.la;have h1:iter (yw a) 0=some (.inl ()):=y5D (n:=3) (by omega) (by
  have e0:yw a 0=some (.inl 1):=by
   unfold yw;rw [if_pos (by decide),show idx [a.2.2.1,a.2.2.2.1] 0=some a.2.2.1 from rfl,yOb,y9W ha.ini ha.inr ha.li];rfl
  have e1:yw a 1=some (.inl 2):=by
   unfold yw;rw [if_pos (by decide),show idx [a.2.2.1,a.2.2.2.1] 1=some a.2.2.2.1 from rfl,yOb,y9W ha.mks ha.mkr ha.lm];rfl
  have e2:yw a 2=some (.inr (.inl ())):=rfl;rw [yp,e0];dsimp only;rw [yp,e1];dsimp only;rw [yp,e2])
 obtain⟨o,ho,he⟩:=yg (f:=y2h a) (fun j st=>st=(j:Int)) (fun o=>o= .inl ()) a.2.2.2.2.length 0 (by omega) (fun j st hj e1=>by
   subst e1;refine .inl ⟨_,?_,rfl⟩;obtain⟨g1,g2,g3,g4,g5⟩:=ha.esr _ (yGm hj);unfold y2h;rw [if_pos (ct_lt hj),yd hj,yOb,if_neg (by simp;omega)];have hc:(if (a.2.2.2.2[j].2.1 != -1)=true then(yl a.1 a.2.2.2.2[j].2.1).bind fun r51=>some (!r51) else some false)=some false:=by
    rcases g5 with h|h
    ·rw [if_neg (by simp [h])]
    ·split
     ·rw [y4n (by omega) ha.al,yo.2 h];rfl
     ·rfl
   rw [hc,yOb,if_neg (by simp)];by_cases h0:j=0
   ·subst h0;rw [if_neg (by simp)];rfl
   ·rw [if_pos (by simp;omega),show(j:Int)-1=((j-1:Nat):Int) by omega,W_nat (by omega),yd (show j-1<a.2.2.2.2.length by omega),yOb];have h2:=List.pairwise_iff_getElem.1 ha.es (j-1) j (by omega) hj (by omega);obtain⟨z,z1,z2,z3⟩:=y9b a.2.2.2.2[j-1] a.2.2.2.2[j];rw [z1,yOb,y2g,if_neg (by
     have:=z2.2 h2;simp;omega),nxt (by omega)])
  (fun st e1=>by
   subst e1;refine⟨.inl (),?_,rfl⟩;unfold y2h;rw [if_neg ct_ge]) (by omega) 0 rfl
 rw [yx,if_neg (by simp;omega),if_neg (by simp;omega),y9W ha.al ha.alr ha.la,yOb,if_neg (by simp),h1,yOb,ho,he];rfl
theorem incE :∀{xs ys:List Int},Inc xs→Inc ys→(∀x,x∈xs↔x∈ys)→xs=ys
 | [],[],_,_,_=>rfl
 | [],y::ys,_,_,h=>by have:=(h y).2 (List.mem_cons_self ..);cases this
 | x::xs,[],_,_,h=>by have:=(h x).1 (List.mem_cons_self ..);cases this
 | x::xs,y::ys,hx,hy,h=>by
  obtain⟨x1,x2⟩:=List.pairwise_cons.1 hx;obtain⟨y1,y2⟩:=List.pairwise_cons.1 hy;have e:x=y:=by
   rcases List.mem_cons.1 ((h x).1 (List.mem_cons_self ..)) with h1|h1
   ·exact h1
   ·rcases List.mem_cons.1 ((h y).2 (List.mem_cons_self ..)) with h2|h2
    ·exact h2.symm
    ·have:=x1 y h2;have:=y1 x h1;omega
  subst e;rw [incE x2 y2 (fun z=>?_)];constructor
  ·intro hz;rcases List.mem_cons.1 ((h z).1 (List.mem_cons_of_mem _ hz)) with h1|h1
   ·have:=x1 z hz;omega
   ·exact h1
  ·intro hz;rcases List.mem_cons.1 ((h z).2 (List.mem_cons_of_mem _ hz)) with h1|h1
   ·have:=y1 z hz;omega
   ·exact h1
theorem yez{xs ys:List Int}(hx:xs.Pairwise (· < ·))(hy:ys.Pairwise (· < ·))(lx:xs.length≤1000000)(ly:ys.length≤1000000):y3j xs ys=some (dd (isL (xs++ys))):=by
 rw [yfu lx ly];obtain⟨h1,h2⟩:=y6a (fun a b=>a||b) xs ys hx hy;rw [incE h1 (y4X _) fun x=>by
  rw [h2,y6u,yMa];constructor
  ·exact fun h=>h.1
  ·intro h;refine⟨h,?_⟩;rcases h with h|h
   ·rw [yo.2 h];rfl
   ·rw [yo.2 h];simp]
theorem yc8{xs ys:List Int}(hx:xs.Nodup)(hy:ys.Nodup):(ya xs ys).Nodup:=by
 induction xs with
 | nil=>exact .nil
 | cons x xs ih=>
  have h:=List.nodup_cons.1 hx;have e:ya (x::xs) ys=ys.map (fun y=>(x,y))++ya xs ys:=by unfold ya;rw [List.flatMap_cons]
  rw [e,List.nodup_append];refine⟨?_,ih h.2,fun p hp q hq e=>?_⟩
  ·unfold List.Nodup;rw [List.pairwise_map];exact hy.imp fun hne e=>hne (congrArg Prod.snd e)
  ·subst e;obtain⟨y,_,rfl⟩:=List.mem_map.1 hp;exact h.1 (y2T.1 hq).1
theorem yeA{a b:NdT}(ha:NdOk a)(hb:NdOk b)(hN:a.2.1.toNat*b.2.1.toNat≤4096)(lu:a.1.length+b.1.length≤64):∃n,n≤4096∧(∀j,j<n→j<(prN a b (-1::dd (isL (a.1++b.1))) (ya a.2.2.1 b.2.2.1) j).1.length)∧(prN a b (-1::dd (isL (a.1++b.1))) (ya a.2.2.1 b.2.2.1) n).1.length≤n∧
  PsOk a b (ya a.2.2.1 b.2.2.1)∧
  y3d a b=some ((dd (isL (a.1++b.1)),((prN a b (-1::dd (isL (a.1++b.1))) (ya a.2.2.1 b.2.2.1) n).1.length:Int),numsL (ya a.2.2.1 b.2.2.1).length,(prN a b (-1::dd (isL (a.1++b.1))) (ya a.2.2.1 b.2.2.1) n).2),(prN a b (-1::dd (isL (a.1++b.1))) (ya a.2.2.1 b.2.2.1) n).1)∧
  yK a b=some ((dd (isL (a.1++b.1)),((prN a b (-1::dd (isL (a.1++b.1))) (ya a.2.2.1 b.2.2.1) n).1.length:Int),numsL (ya a.2.2.1 b.2.2.1).length,(prN a b (-1::dd (isL (a.1++b.1))) (ya a.2.2.1 b.2.2.1) n).2),(prN a b (-1::dd (isL (a.1++b.1))) (ya a.2.2.1 b.2.2.1) n).1,0):=by
 have na:a.2.2.1.Nodup:=ha.ini.imp fun h=>by omega
 have nb:b.2.2.1.Nodup:=hb.ini.imp fun h=>by omega
 have hps:PsOk a b (ya a.2.2.1 b.2.2.1):=⟨yc8 na nb,fun q hq=>⟨ha.inr _ (y2T.1 hq).1,hb.inr _ (y2T.1 hq).2⟩⟩;have hlen:=hps.len;have hu:(dd (isL (a.1++b.1))).length≤64:=by
  have:=y9E (isL (a.1++b.1));rw [(y1G _).length_eq,List.length_append] at this;omega
 have hcl:=y5c a.2.2.1 b.2.2.1;obtain⟨n,h1,h2,h3⟩:=yhn ha hb hps (ev:= -1::dd (isL (a.1++b.1)));have li:=ha.li;have lj:=hb.li;have hla:=ha.la;have hlb:=hb.la;refine⟨n,by omega,h2,h3,hps,?_,?_⟩
 ·rw [y3d,yft (by omega),yOb,ygt (by omega) (by omega),yOb,yex ha hb hN hu hps (by omega) h2 h3,yOb]
 ·have hc1:iter (yH a b) 0=some (.inl ()):=y5D (n:=3) (by omega) (by
   have e0:yH a b 0=some (.inl 1):=by
    unfold yH;rw [if_pos (by decide),show idx [a,b] 0=some a from rfl,yOb,y5R ha];rfl
   have e1:yH a b 1=some (.inl 2):=by
    unfold yH;rw [if_pos (by decide),show idx [a,b] 1=some b from rfl,yOb,y5R hb];rfl
   have e2:yH a b 2=some (.inr (.inl ())):=rfl;rw [yp,e0];dsimp only;rw [yp,e1];dsimp only;rw [yp,e2])
  have hia:a.2.2.1.length≤4096:=by
   have h4:(a.2.2.1.map Int.toNat).length≤a.2.1.toNat:=y6t _ _ (by
    unfold List.Nodup;rw [List.pairwise_map];exact List.Pairwise.imp_of_mem (fun {x y} hx hy h e=>by
     have:=ha.inr x hx;have:=ha.inr y hy;omega) ha.ini) (fun k hk=>by
    obtain⟨x,hx,rfl⟩:=List.mem_map.1 hk;have:=ha.inr x hx;omega)
   have:=ha.n1;rw [List.length_map] at h4;omega
  have hib:b.2.2.1.length≤4096:=by
   have h4:(b.2.2.1.map Int.toNat).length≤b.2.1.toNat:=y6t _ _ (by
    unfold List.Nodup;rw [List.pairwise_map];exact List.Pairwise.imp_of_mem (fun {x y} hx hy h e=>by
     have:=hb.inr x hx;have:=hb.inr y hy;omega) hb.ini) (fun k hk=>by
    obtain⟨x,hx,rfl⟩:=List.mem_map.1 hk;have:=hb.inr x hx;omega)
   have:=hb.n1;rw [List.length_map] at h4;omega
  rw [yK,hc1,yOb];simp only;rw [yez ha.al hb.al ha.la hb.la,yOb,y5Z (by omega) (by omega),yOb,ygu (yc8 na nb) (by omega),yOb];simp only;rw [yew ha hb hN hu hps (fun e he=>yMa.1 (y6u.1 he)) (by omega) h2 h3,yOb]
theorem y6v{l t:List (Int×Int)}{p:Int×Int}(h:p∈l):(l++t).idxOf p=l.idxOf p:=by
 rw [List.idxOf_append,if_pos h]
theorem ye4(l:List (Int×Int))(p:Int×Int):p∈(fnd l p).2∧((fnd l p).2.idxOf p:Int)=(fnd l p).1:=by
 unfold fnd;split
 ·rename_i h;exact⟨h,rfl⟩
 ·rename_i h;refine⟨by simp,?_⟩;rw [List.idxOf_append,if_neg h];simp
theorem yc9 :∀(nx:List (Int×Int)) (st:List Int×List (Int×Int)),(nx.foldl rowS st).1=st.1++nx.map fun p=>((nx.foldl rowS st).2.idxOf p:Int)
 | [],st=>by simp
 | p::nx,st=>by
  have ih:=yc9 nx (rowS st p);obtain⟨t,h1,_⟩:=(y5E nx (rowS st p)).2;obtain⟨h2,h3⟩:=ye4 st.2 p;rw [List.foldl_cons,ih,List.map_cons,h1];show st.1++[(fnd st.2 p).1]++_=_;have h4:(rowS st p).2=(fnd st.2 p).2:=rfl;rw [h4,y6v h2,h3,List.append_assoc];rfl
theorem y6w :∀(nx:List (Int×Int)) (st:List Int×List (Int×Int)),∀p∈nx,p∈(nx.foldl rowS st).2
 | q::nx,st,p,h=>by
  rcases List.mem_cons.1 h with rfl|h
  ·obtain ⟨t,h1,_⟩:=(y5E nx (rowS st p)).2;rw [List.foldl_cons,h1];exact List.mem_append_left _ (ye4 st.2 p).1
  ·exact y6w nx _ p h
theorem yaF(nx l:List (Int×Int)):(rowF nx l).1=nx.map fun p=>((rowF nx l).2.idxOf p:Int):=by
 have:=yc9 nx ([],l);rw [List.nil_append] at this;exact this
theorem ygv{nx l:List (Int×Int)}(hn:nx.Nodup):(isL (rowF nx l).1).Pairwise (· < ·)∧∀k∈isL (rowF nx l).1,0≤k∧k<((rowF nx l).2.length:Int):=by
 have hnd:(rowF nx l).1.Nodup:=by
  rw [yaF];unfold List.Nodup;rw [List.pairwise_map];refine List.Pairwise.imp_of_mem (fun {x y} hx hy hne e=>hne ?_) hn;have hx:=y6w nx ([],l) x hx;have hy:=y6w nx ([],l) y hy;have e2:(rowF nx l).2.idxOf x=(rowF nx l).2.idxOf y:=by omega
  have h1:=List.getElem_idxOf (List.idxOf_lt_length_of_mem hx);have h2:=List.getElem_idxOf (List.idxOf_lt_length_of_mem hy);rw [←h1,←h2];congr 1
 refine⟨?_,fun k hk=>?_⟩
 ·have h1:=yaZ (rowF nx l).1;have h2:(isL (rowF nx l).1).Nodup:=(y1G _).nodup_iff.2 hnd;exact h1.imp₂ (fun _ _ h h'=>by omega) h2
 ·rw [(y1G _).mem_iff,yaF] at hk;obtain⟨p,hp,rfl⟩:=List.mem_map.1 hk;have:=List.idxOf_lt_length_of_mem (y6w nx ([],l) p hp);exact⟨by omega,by show(((rowF nx l).2.idxOf p:Nat):Int)<_;have h3:(rowF nx l).2.idxOf p<(rowF nx l).2.length:=this;omega⟩
theorem y9J(a b:NdT)(i:Int)(p:Int×Int):∀(ev:List Int) (st:List (Int×Int)×List E3),ev.Pairwise (· < ·)→∃new,(evF a b i p ev st).2=st.2++new∧new.Pairwise ltE3∧(∀x∈new,x.1=i∧x.2.1∈ev∧0≤x.2.2∧x.2.2<((evF a b i p ev st).1.length:Int))∧∃t,(evF a b i p ev st).1=st.1++t
 | [],st,_=>⟨[],by simp [evF],.nil,by simp,[],by simp [evF]⟩
 | e::ev,st,h=>by
  have hp:=List.pairwise_cons.1 h;obtain⟨new,h1,h2,h3,t,h4⟩:=y9J a b i p ev (evS i st e (stpL a b p e)) hp.2;obtain⟨u,h5,_⟩:=yaD (stpL a b p e) st.1;obtain⟨k1,k2⟩:=ygv (l:=st.1) (ye3 a b p e);have e1:evF a b i p (e::ev) st=evF a b i p ev (evS i st e (stpL a b p e)):=rfl;have e2:(evS i st e (stpL a b p e)).2=st.2++(isL (rowF (stpL a b p e) st.1).1).map fun k=>(i,e,k):=rfl;have e3:(evS i st e (stpL a b p e)).1=(rowF (stpL a b p e) st.1).2:=rfl;refine⟨(isL (rowF (stpL a b p e) st.1).1).map (fun k=>(i,e,k))++new,?_,?_,fun x hx=>?_,u++t,?_⟩
  ·rw [e1,h1,e2,List.append_assoc]
  ·rw [List.pairwise_append];refine⟨?_,h2,fun x hx y hy=>?_⟩
   ·rw [List.pairwise_map];exact k1.imp fun h=>by unfold ltE3;simp;exact h
   ·obtain ⟨k,_,rfl⟩:=List.mem_map.1 hx;obtain⟨g1,g2,_⟩:=h3 y hy;have:=hp.1 _ g2;unfold ltE3;dsimp only;omega
  ·rw [e1];rcases yMa.1 hx with hx|hx
   ·obtain ⟨k,hk,rfl⟩:=List.mem_map.1 hx;have:=k2 k hk;refine⟨rfl,.head _,this.1,?_⟩;rw [h4,e3,List.length_append];dsimp only;omega
   ·obtain ⟨g1,g2,g3⟩:=h3 x hx;exact⟨g1,.tail _ g2,g3⟩
  ·rw [e1,h4,e3,h5,List.append_assoc]
end
end
section
inductive Star {S:Type} (R:S→S→Prop):S→S→Prop
 | refl (s:S):Star R s s
 | tail {s t u:S}:Star R s t→R t u→Star R s u
namespace Star
variable{S T:Type}{R:S→S→Prop}{s t u:S}
theorem one(h:R s t):Star R s t:= .tail (.refl _) h
theorem trans(h:Star R s t)(h2:Star R t u):Star R s u:=by
 induction h2 with
 | refl=>exact h
 | tail _ g ih=>exact .tail ih g
theorem head(h:R s t)(h2:Star R t u):Star R s u:=(one h).trans h2
theorem map{Q:T→T→Prop}(f:S→T)(hf:∀a b,R a b→Q (f a) (f b))(h:Star R s t):Star Q (f s) (f t):=by
 induction h with
 | refl=>exact .refl _
 | tail _ g ih=>exact .tail ih (hf _ _ g)
theorem mono{Q:S→S→Prop}(hf:∀a b,R a b→Q a b)(h:Star R s t):Star Q s t:=h.map id hf
end Star
structure Lts (S:Type) where
 ini:S→Prop
 fin:S→Prop
 st:Int→S→S→Prop
 ev:Int→Prop
namespace Lts
variable{S S' T U:Type}
def nxt1(L:Lts S)(s t:S):Prop:=∃e,L.st e s t
def Wf(L:Lts S):Prop:=(∀e s t,L.st e s t→e= -1∨L.ev e)∧¬L.ev (-1)
def rch(L:Lts S)(s:S):Prop:=∃i,L.ini i∧Star L.nxt1 i s
def NB(L:Lts S):Prop:=∀s,L.rch s→∃t,Star L.nxt1 s t∧L.fin t
def par(L:Lts S)(Q:Lts T):Lts (S×T) where
 ini p:=L.ini p.1∧Q.ini p.2
 fin p:=L.fin p.1∧Q.fin p.2
 ev e:=L.ev e∨Q.ev e
 st e p q:=(e= -1∧((L.st e p.1 q.1∧q.2=p.2)∨(Q.st e p.2 q.2∧q.1=p.1)))∨
  (e≠ -1∧((L.ev e∧Q.ev e∧L.st e p.1 q.1∧Q.st e p.2 q.2)∨(L.ev e∧¬Q.ev e∧L.st e p.1 q.1∧q.2=p.2)∨(¬L.ev e∧Q.ev e∧Q.st e p.2 q.2∧q.1=p.1)))
def tau(L:Lts S):S→S→Prop:=Star (L.st (-1))
def wk(L:Lts S)(e:Int)(s t:S):Prop:=(e= -1∧L.tau s t)∨(e≠ -1∧∃a b,L.tau s a∧L.st e a b∧L.tau b t)
theorem yfv{L:Lts S}{e:Int}{s t:S}(h:L.st e s t):L.wk e s t:=by
 by_cases he:e= -1
 ·exact .inl ⟨he,.one (he▸h)⟩
 ·exact .inr ⟨he,_,_,.refl _,h,.refl _⟩
structure WSim (L:Lts S) (L':Lts S') (R:S→S'→Prop):Prop where
 ini:∀s,L.ini s→∃s',L'.ini s'∧R s s'
 st:∀e s s' t,R s s'→L.st e s t→∃t',L'.wk e s' t'∧R t t'
 fin:∀s s',R s s'→L.fin s→∃t',L'.tau s' t'∧L'.fin t'
theorem y6U{L:Lts S}{Q:Lts T}{s t:S}(q:T)(h:L.tau s t):Star (par L Q).nxt1 (s,q) (t,q):=
 Star.map (fun x=>(x,q)) (fun _ _ g=>⟨-1,.inl ⟨rfl,.inl ⟨g,rfl⟩⟩⟩) h
theorem WSim.path{L:Lts S}{L':Lts S'}{R:S→S'→Prop}(h:WSim L L' R)(hev:∀e,L.ev e↔L'.ev e){Q:Lts T}{p p2:S×T}(hp:Star (par L Q).nxt1 p p2){s':S'}(hr:R p.1 s'):
  ∃t',Star (par L' Q).nxt1 (s',p.2) (t',p2.2)∧R p2.1 t':=by
 induction hp with
 | refl=>exact⟨s',.refl _,hr⟩
 | tail _ g ih=>
  obtain⟨t',h1,h2⟩:=ih;obtain⟨e,g⟩:=g;rename_i t u _;obtain⟨t1,t2⟩:=t;obtain⟨u1,u2⟩:=u;rcases g with ⟨rfl,⟨g1,g2⟩|⟨g1,g2⟩⟩|⟨he,⟨k1,k2,g1,g2⟩|⟨k1,k2,g1,g2⟩|⟨k1,k2,g1,g2⟩⟩ <;> simp only at g1 g2 h1 h2 ⊢
  ·subst g2;obtain⟨u',w,h3⟩:=h.st _ _ _ _ h2 g1;rcases w with ⟨_,w⟩|⟨w,_⟩
   ·exact ⟨u',h1.trans (y6U _ w),h3⟩
   ·exact absurd rfl w
  ·subst g2;exact⟨t',.tail h1 ⟨-1,.inl ⟨rfl,.inr ⟨g1,rfl⟩⟩⟩,h2⟩
  ·obtain ⟨u',w,h3⟩:=h.st _ _ _ _ h2 g1;rcases w with ⟨w,_⟩|⟨_,a,b,w1,w2,w3⟩
   ·exact absurd w he
   ·exact ⟨u',((h1.trans (y6U _ w1)).tail ⟨e,.inr ⟨he,.inl ⟨(hev e).1 k1,k2,w2,g2⟩⟩⟩).trans (y6U _ w3),h3⟩
  ·subst g2;obtain⟨u',w,h3⟩:=h.st _ _ _ _ h2 g1;rcases w with ⟨w,_⟩|⟨_,a,b,w1,w2,w3⟩
   ·exact absurd w he
   ·exact ⟨u',((h1.trans (y6U _ w1)).tail (u:=(b,u2)) ⟨e,.inr ⟨he,.inr (.inl ⟨(hev e).1 k1,k2,w2,rfl⟩)⟩⟩).trans (y6U _ w3),h3⟩
  ·subst g2;exact⟨t',.tail h1 ⟨e,.inr ⟨he,.inr (.inr ⟨fun g=>k1 ((hev e).2 g),k2,g1,rfl⟩)⟩⟩,h2⟩
theorem NB.par_sim{L:Lts S}{L':Lts S'}{R:S→S'→Prop}(h:WSim L L' R)(h2:WSim L' L fun x y=>R y x)(hev:∀e,L.ev e↔L'.ev e){Q:Lts T}(hn:(par L Q).NB):(par L' Q).NB:=by
 rintro⟨s',q⟩ ⟨⟨i',j⟩,⟨hi,hj⟩,hp⟩;obtain⟨i,hi',hr⟩:=h2.ini _ hi;obtain⟨s,h3,h4⟩:=h2.path (fun e=>(hev e).symm) hp hr;obtain⟨⟨t,q2⟩,h5,m1,m2⟩:=hn (s,q) ⟨(i,j),⟨hi',hj⟩,h3⟩;obtain⟨t',h6,h7⟩:=h.path hev h5 h4;obtain⟨t'',h8,h9⟩:=h.fin _ _ h7 m1;exact⟨(t'',q2),h6.trans (y6U _ h8),h9,m2⟩
structure WBis (L:Lts S) (L':Lts S') (R:S→S'→Prop):Prop where
 f:WSim L L' R
 b:WSim L' L fun x y=>R y x
 ev:∀e,L.ev e↔L'.ev e
theorem WBis.nb{L:Lts S}{L':Lts S'}{R:S→S'→Prop}(h:WBis L L' R)(Q:Lts T):(par L Q).NB↔(par L' Q).NB:=
 ⟨fun hn=>hn.par_sim h.f h.b h.ev,fun hn=>hn.par_sim h.b h.f fun e=>(h.ev e).symm⟩
structure Same (A:Lts S) (B:Lts T) (R:S→T→Prop):Prop where
 i1:∀s,A.ini s→∃t,B.ini t∧R s t
 i2:∀t,B.ini t→∃s,A.ini s∧R s t
 s1:∀s t s',R s t→A.nxt1 s s'→∃t',B.nxt1 t t'∧R s' t'
 s2:∀s t t',R s t→B.nxt1 t t'→∃s',A.nxt1 s s'∧R s' t'
 m:∀s t,R s t→(A.fin s↔B.fin t)
theorem Same.symm{A:Lts S}{B:Lts T}{R:S→T→Prop}(h:Same A B R):Same B A fun x y=>R y x:=
 ⟨h.i2,h.i1,fun s t s' hr=>h.s2 t s s' hr,fun s t t' hr=>h.s1 t s t' hr,fun s t hr=>(h.m t s hr).symm⟩
theorem Same.path{A:Lts S}{B:Lts T}{R:S→T→Prop}(h:Same A B R){s s2:S}(hp:Star A.nxt1 s s2){t:T}(hr:R s t):∃t2,Star B.nxt1 t t2∧R s2 t2:=by
 induction hp with
 | refl=>exact⟨t,.refl _,hr⟩
 | tail _ g ih=>
  obtain⟨t',h1,h2⟩:=ih;obtain⟨t2,h3,h4⟩:=h.s1 _ _ _ h2 g;exact⟨t2,.tail h1 h3,h4⟩
theorem Same.nb1{A:Lts S}{B:Lts T}{R:S→T→Prop}(h:Same A B R)(hn:A.NB):B.NB:=by
 rintro t ⟨i,hi,hp⟩;obtain⟨i',hi',hr⟩:=h.i2 _ hi;obtain⟨s,h1,h2⟩:=h.symm.path hp hr;obtain⟨s2,h3,h4⟩:=hn s ⟨i',hi',h1⟩;obtain⟨t2,h5,h6⟩:=h.path h3 h2;exact⟨t2,h5,(h.m _ _ h6).1 h4⟩
theorem Same.nb{A:Lts S}{B:Lts T}{R:S→T→Prop}(h:Same A B R):A.NB↔B.NB:=⟨h.nb1,h.symm.nb1⟩
structure Lab (A:Lts S) (B:Lts T) (R:S→T→Prop):Prop where
 i1:∀s,A.ini s→∃t,B.ini t∧R s t
 i2:∀t,B.ini t→∃s,A.ini s∧R s t
 s1:∀e s t s',R s t→A.st e s s'→∃t',B.st e t t'∧R s' t'
 s2:∀e s t t',R s t→B.st e t t'→∃s',A.st e s s'∧R s' t'
 m:∀s t,R s t→(A.fin s↔B.fin t)
 ev:∀e,A.ev e↔B.ev e
theorem Lab.same{A:Lts S}{B:Lts T}{R:S→T→Prop}(h:Lab A B R):Same A B R:=
 ⟨h.i1,h.i2,fun s t s' hr ⟨e,g⟩=>by obtain⟨t',h1,h2⟩:=h.s1 e s t s' hr g;exact⟨t',⟨e,h1⟩,h2⟩,fun s t t' hr ⟨e,g⟩=>by obtain⟨s',h1,h2⟩:=h.s2 e s t t' hr g;exact⟨s',⟨e,h1⟩,h2⟩,h.m⟩
def unit :Lts (List Int) where
 ini v:=v= []
 fin v:=v= []
 st _ _ _:=False
 ev _:=False
/-! Tuples. -/
end Lts
namespace Lts
def mks(L:Lts Int)(s:Int):Prop:=∃m,L.tau s m∧L.fin m
def lab(L:Lts Int)(e:Int):Prop:=e= -1∨L.ev e
structure In (L:Lts Int) (V:Int→Prop):Prop where
 i:∀s,L.ini s→V s
 m:∀s,L.fin s→V s
 s:∀e s t,L.st e s t→V s∧V t
 wf:L.Wf
theorem In.tau{L:Lts Int}{V:Int→Prop}(h:L.In V){s t:Int}(hs:V s)(hp:L.tau s t):V t:=by
 induction hp with
 | refl=>exact hs
 | tail _ g _=>exact(h.s _ _ _ g).2
theorem In.wk{L:Lts Int}{V:Int→Prop}(h:L.In V){e s t:Int}(hs:V s)(hp:L.wk e s t):V t:=by
 rcases hp with ⟨_,hp⟩|⟨_,a,b,h1,h2,h3⟩
 ·exact h.tau hs hp
 ·exact h.tau (h.s _ _ _ h2).2 h3
structure Stb (L:Lts Int) (V:Int→Prop) (P:Int→Int→Prop):Prop where
 sy:∀s t,V s→V t→P s t→P t s
 m:∀s t,V s→V t→P s t→L.mks s→L.mks t
 w:∀s t,V s→V t→P s t→∀e,L.lab e→∀s',L.wk e s s'→∃t',L.wk e t t'∧P s' t'
def Crs(L:Lts Int)(V:Int→Prop)(c:Int→Int):Prop:=∀P,Stb L V P→∀s t,V s→V t→P s t→c s=c t
structure Abs (L:Lts Int) (c:Int→Int) (B:Lts Int):Prop where
 i:∀x,B.ini x↔ ∃s,L.ini s∧c s=x
 m:∀x,B.fin x↔ ∃s,L.fin s∧c s=x
 ev:∀e,B.ev e↔L.ev e
 s:∀e x y,B.st e x y↔ ∃s t,L.st e s t∧c s=x∧c t=y∧(e≠ -1∨x≠y)
section
variable{L B:Lts Int}{V:Int→Prop}{c:Int→Int}
theorem Abs.tau(h:Abs L c B){s t:Int}(hp:L.tau s t):B.tau (c s) (c t):=by
 induction hp with
 | refl=>exact .refl _
 | tail _ g ih=>
  rename_i a b _;by_cases hc:c a=c b
  ·rw [←hc];exact ih
  ·exact ih.tail ((h.s _ _ _).2 ⟨a,b,g,rfl,rfl,.inr hc⟩)
theorem Abs.wk(h:Abs L c B){e s t:Int}(hp:L.wk e s t):B.wk e (c s) (c t):=by
 rcases hp with ⟨he,hp⟩|⟨he,a,b,h1,h2,h3⟩
 ·exact .inl ⟨he,h.tau hp⟩
 ·exact .inr ⟨he,_,_,h.tau h1,(h.s _ _ _).2 ⟨a,b,h2,rfl,rfl,.inl he⟩,h.tau h3⟩
theorem y7R{s t u:Int}(h:L.tau s t)(h2:L.tau t u):L.tau s u:=Star.trans h h2
theorem Abs.step(h:Abs L c B)(hV:L.In V)(hS:Stb L V fun s t=>c s=c t){e s x:Int}(hs:V s)(hp:B.st e (c s) x):∃t,L.wk e s t∧c t=x:=by
 obtain⟨s1,t1,h1,h2,rfl,_⟩:=(h.s _ _ _).1 hp;obtain⟨t,h3,h4⟩:=hS.w s1 s (hV.s _ _ _ h1).1 hs h2 e (hV.wf.1 _ _ _ h1) t1 (yfv h1);exact⟨t,h3,h4.symm⟩
theorem Abs.tauB(h:Abs L c B)(hV:L.In V)(hS:Stb L V fun s t=>c s=c t){s x:Int}(hs:V s)(hp:B.tau (c s) x):∃t,L.tau s t∧c t=x:=by
 generalize hy:c s=y at hp
 induction hp with
 | refl=>exact⟨s,.refl _,hy⟩
 | tail _ g ih=>
  obtain⟨a,h1,rfl⟩:=ih;obtain⟨t,h2,h3⟩:=h.step hV hS (hV.tau hs h1) g;rcases h2 with ⟨_,h2⟩|⟨h2,_⟩
  ·exact ⟨t,y7R h1 h2,h3⟩
  ·exact absurd rfl h2
theorem Abs.wkB(h:Abs L c B)(hV:L.In V)(hS:Stb L V fun s t=>c s=c t){e s x:Int}(hs:V s)(hp:B.wk e (c s) x):∃t,L.wk e s t∧c t=x:=by
 rcases hp with ⟨he,hp⟩|⟨he,a,b,h1,h2,h3⟩
 ·obtain ⟨t,g1,g2⟩:=h.tauB hV hS hs hp;exact⟨t,.inl ⟨he,g1⟩,g2⟩
 ·obtain ⟨t1,g1,rfl⟩:=h.tauB hV hS hs h1;obtain⟨t2,g2,rfl⟩:=h.step hV hS (hV.tau hs g1) h2;have hv2:=hV.wk (hV.tau hs g1) g2;obtain⟨t3,g3,g4⟩:=h.tauB hV hS hv2 h3;rcases g2 with ⟨g2,_⟩|⟨_,p,q,k1,k2,k3⟩
  ·exact absurd g2 he
  ·exact ⟨t3,.inr ⟨he,p,q,y7R g1 k1,k2,y7R k3 g3⟩,g4⟩
theorem Abs.mks(h:Abs L c B)(hV:L.In V)(hS:Stb L V fun s t=>c s=c t){s:Int}(hs:V s):B.mks (c s)↔L.mks s:=by
 constructor
 ·rintro ⟨m,h1,h2⟩;obtain⟨t,h3,rfl⟩:=h.tauB hV hS hs h1;obtain⟨u,h4,h5⟩:=(h.m _).1 h2;obtain⟨w,h6,h7⟩:=hS.m u t (hV.m _ h4) (hV.tau hs h3) h5 ⟨u,.refl _,h4⟩;exact⟨w,y7R h3 h6,h7⟩
 ·rintro ⟨m,h1,h2⟩;exact⟨c m,h.tau h1,(h.m _).2 ⟨m,h2,rfl⟩⟩
theorem Abs.bis(h:Abs L c B)(hV:L.In V)(hS:Stb L V fun s t=>c s=c t):WBis L B fun s x=>V s∧x=c s where
 ev e:=(h.ev e).symm
 f:=⟨fun s hs=>⟨c s,(h.i _).2 ⟨s,hs,rfl⟩,hV.i s hs,rfl⟩,fun e s x t hr hst=>by
   obtain⟨_,rfl⟩:=hr;exact⟨c t,h.wk (yfv hst),(hV.s _ _ _ hst).2,rfl⟩,
  fun s x hr hm=>by
   obtain⟨_,rfl⟩:=hr;exact⟨c s,.refl _,(h.m _).2 ⟨s,hm,rfl⟩⟩⟩
 b:=⟨fun x hx=>by
   obtain⟨s,hs,rfl⟩:=(h.i _).1 hx;exact⟨s,hs,hV.i s hs,rfl⟩,
  fun e x s y hr hst=>by
   obtain⟨hs,rfl⟩:=hr;obtain⟨t,h1,rfl⟩:=h.step hV hS hs hst;exact⟨t,h1,hV.wk hs h1,rfl⟩,
  fun x s hr hm=>by
   obtain⟨hs,rfl⟩:=hr;obtain⟨m,h1,h2⟩:=(h.mks hV hS hs).1 ⟨c s,.refl _,hm⟩;exact⟨m,h1,h2⟩⟩
theorem Abs.fine{W:Int→Prop}(h:Abs L c B)(hV:L.In V)(hS:Stb L V fun s t=>c s=c t)(hC:Crs L V c)(hW:∀s,V s→W (c s)){P:Int→Int→Prop}(hP:Stb B W P){s t:Int}(hs:V s)(ht:V t)(hst:P (c s) (c t)):c s=c t:=by
 refine hC (fun s t=>P (c s) (c t)) ⟨fun s t hs ht g=>hP.sy _ _ (hW _ hs) (hW _ ht) g,fun s t hs ht g hm=>?_,fun s t hs ht g e he s' hw=>?_⟩ s t hs ht hst
 ·exact (h.mks hV hS ht).1 (hP.m _ _ (hW _ hs) (hW _ ht) g ((h.mks hV hS hs).2 hm))
 ·obtain ⟨x,h1,h2⟩:=hP.w _ _ (hW _ hs) (hW _ ht) g e (he.imp id (h.ev e).2) _ (h.wk hw);obtain⟨t',h3,rfl⟩:=h.wkB hV hS ht h1;exact⟨t',h3,h2⟩
end
end Lts
def yL(c:List Int):Prop:=∀(i:Nat) (x:Int),c[i]? =some x→0≤x∧(∀y:Int,0≤y→y<x→∃j,j<i∧c[j]? =some y)∧((∃j,j<i∧c[j]? =some x)∨∀j y,j<i→c[j]? =some y→y<x)
theorem yL.unique{c d:List Int}(hc:yL c)(hd:yL d)(hl:c.length=d.length)(he:∀(i j:Nat) (x y:Int),c[i]? =some x→c[j]? =some y→∀u v,d[i]? =some u→d[j]? =some v→(x=y↔u=v)):c=d:=by
 have key:∀n i:Nat,i<n→c[i]? =d[i]? :=by
  intro n
  induction n with
  | zero=>intro i hi;omega
  | succ n ih=>
   intro i hi;by_cases hlt:i<n
   ·exact ih i hlt
   have hin:i=n:=by omega
   subst hin;by_cases hic:i<c.length
   ·have hid:i<d.length:=by omega
    have e1:=yGe hic;have e2:=yGe hid;rw [e1,e2];generalize c[i]=x at e1;generalize d[i]=u at e2;congr 1;obtain⟨hx0,hx1,hx2⟩:=hc i x e1;obtain⟨hu0,hu1,hu2⟩:=hd i u e2;by_cases hex:∃j,j<i∧c[j]? =some x
    ·obtain ⟨j,hj,g⟩:=hex;have g2:d[j]? =some x:=by rw [←ih j hj];exact g
     exact(he i j x x e1 g u x e2 g2).1 rfl |>.symm
    ·have hx3:=hx2.resolve_left hex;by_cases heu:∃j,j<i∧d[j]? =some u
     ·obtain ⟨j,hj,g⟩:=heu;have g2:c[j]? =some u:=by rw [ih j hj];exact g
      exact absurd ⟨j,hj,by rw [(he i j x u e1 g2 u u e2 g).2 rfl];exact g2⟩ hex
     ·have hu3:=hu2.resolve_left heu;rcases Int.lt_trichotomy x u with h|h|h
      ·obtain ⟨j,hj,g⟩:=hu1 x hx0 h;have:=hx3 j x hj (by rw [ih j hj];exact g);omega
      ·exact h
      ·obtain ⟨j,hj,g⟩:=hx1 u hu0 h;have:=hu3 j u hj (by rw [←ih j hj];exact g);omega
   ·rw [List.getElem?_eq_none (by omega),List.getElem?_eq_none (by omega)]
 exact List.ext_getElem? fun i=>key (i+1) i (by omega)
theorem yL.inj{c:List Int}(hc:yL c)(hi:∀(i j:Nat) (x:Int),c[i]? =some x→c[j]? =some x→i=j):∀(i:Nat),i<c.length→c[i]? =some (i:Int):=by
 have key:∀n i:Nat,i<n→i<c.length→c[i]? =some (i:Int):=by
  intro n
  induction n with
  | zero=>intro i hi;omega
  | succ n ih=>
   intro i hin hl;by_cases hlt:i<n
   ·exact ih i hlt hl
   have hin:i=n:=by omega
   subst hin;have e1:=yGe hl;rw [e1];generalize c[i]=x at e1;obtain⟨h0,h1,h2⟩:=hc i x e1;have h3:∀j,j<i→c[j]? =some (j:Int):=fun j hj=>ih j hj (by omega);rcases h2 with ⟨j,hj,g⟩|h2
   ·have:=hi i j x e1 g;omega
   ·congr 1;rcases Int.lt_trichotomy x i with h|h|h
    ·have hx:c[x.toNat]? =some x:=by rw [h3 x.toNat (by omega)];congr 1;omega
     have:=hi i x.toNat x e1 hx;omega
    ·exact h
    ·obtain ⟨j,hj,g⟩:=h1 i (by omega) h;rw [h3 j hj] at g;simp at g;omega
 exact fun i hl=>key (i+1) i (by omega) hl
end
section
open Go Go.RowKit
variable{a:NdT}{α γ:Type}{al:LI}{td:List α}
def ltsN(a:NdT):Lts Int:=⟨fun s=>s∈a.2.2.1,fun s=>s∈a.2.2.2.1,fun e s t=>(s,e,t)∈a.2.2.2.2,fun e=>e∈a.1⟩
theorem NdOk.wf(ha:NdOk a):(ltsN a).Wf:=⟨fun _ _ _ h=>(ha.esr _ h).2.2.2.2,fun h=>by have:=ha.alr _ h;omega⟩
theorem NdOk.inn(ha:NdOk a):(ltsN a).In fun s=>0≤s∧s<a.2.1:=⟨fun s h=>ha.inr s h,fun s h=>ha.mkr s h,fun e s t h=>by have:=ha.esr _ h;dsimp only at this;omega,ha.wf⟩
theorem ye5(a b:NdT)(i:Int)(p:Int×Int):∀(ev:LI) (st:List (Int×Int)×List E3),(∃t,(evF a b i p ev st).1=st.1++t)∧(∀e∈ev,∀q∈stpL a b p e,q∈(evF a b i p ev st).1)∧
  ∀x:E3,x∈(evF a b i p ev st).2↔x∈st.2∨∃e∈ev,∃q∈stpL a b p e,x=(i,e,((evF a b i p ev st).1.idxOf q:Int))
 | [],st=>⟨⟨[],by simp [evF]⟩,fun e he=>(by cases he),fun x=>by simp [evF]⟩
 | e::ev,st=>by
  obtain⟨⟨t,h1⟩,h2,h3⟩:=ye5 a b i p ev (evS i st e (stpL a b p e));obtain⟨u,h5,_⟩:=yaD (stpL a b p e) st.1;have e1:evF a b i p (e::ev) st=evF a b i p ev (evS i st e (stpL a b p e)):=rfl;have e2:(evS i st e (stpL a b p e)).2=st.2++(isL (rowF (stpL a b p e) st.1).1).map fun k=>(i,e,k):=rfl;have e3:(evS i st e (stpL a b p e)).1=(rowF (stpL a b p e) st.1).2:=rfl;have hm:∀q∈stpL a b p e,q∈(rowF (stpL a b p e) st.1).2:=fun q hq=>y6w (stpL a b p e) ([],st.1) q hq;rw [e1];rw [e3] at h1;refine⟨⟨u++t,by rw [h1,h5,yAa]⟩,fun e' he' q hq=>?_,fun x=>?_⟩
  ·rcases yMo.1 he' with rfl|he'
   ·rw [h1];exact yMl _ (hm q hq)
   ·exact h2 e' he' q hq
  ·rw [h3 x,e2,yMa,yMp];have hix:∀q∈stpL a b p e,(((evF a b i p ev (evS i st e (stpL a b p e))).1.idxOf q:Nat):Int)=(((rowF (stpL a b p e) st.1).2.idxOf q:Nat):Int):=fun q hq=>by rw [h1,y6v (hm q hq)]
   have hrow:∀k,k∈isL (rowF (stpL a b p e) st.1).1↔ ∃q∈stpL a b p e,(((rowF (stpL a b p e) st.1).2.idxOf q:Nat):Int)=k:=fun k=>by
    rw [(y1G _).mem_iff,yaF,yMp]
   constructor
   ·rintro ((h|⟨k,hk,rfl⟩)|⟨e',he',q,hq,rfl⟩)
    ·exact .inl h
    ·obtain ⟨q,hq,rfl⟩:=(hrow k).1 hk;exact .inr ⟨e,.head _,q,hq,by rw [hix q hq]⟩
    ·exact .inr ⟨e',.tail _ he',q,hq,rfl⟩
   ·rintro (h|⟨e',he',q,hq,rfl⟩)
    ·exact .inl (.inl h)
    ·rcases yMo.1 he' with rfl|he'
     ·exact .inl (.inr ⟨_,(hrow _).2 ⟨q,hq,rfl⟩,by rw [hix q hq]⟩)
     ·exact .inr ⟨e',he',q,hq,rfl⟩
theorem yfw{l t:List α}{i:Nat}(h:i<l.length):(l++t)[i]? =l[i]? :=yAl h
structure PrI (a b:NdT) (ev:LI) (i:Nat) (S:List (Int×Int)×LI×List E3):Prop where
 m:∀x:Int,x∈S.2.1↔ ∃(m:Nat) (p:Int×Int),x=m∧m<i∧S.1[m]? =some p∧p.1∈a.2.2.2.1∧p.2∈b.2.2.2.1
 e:∀x:E3,x∈S.2.2↔ ∃(m:Nat) (p q:Int×Int),m<i∧S.1[m]? =some p∧q∈S.1∧x.2.1∈ev∧q∈stpL a b p x.2.1∧x.1=m∧x.2.2=(S.1.idxOf q:Int)
 q:∀(m:Nat) (p:Int×Int),m<i→S.1[m]? =some p→∀e∈ev,∀q∈stpL a b p e,q∈S.1
theorem yfx(a b:NdT)(ev:LI)(l:List (Int×Int)):∀i:Nat,(∀j,j<i→j<(prN a b ev l j).1.length)→PrI a b ev i (prN a b ev l i)
 | 0,_=>⟨fun x=>by simp [prN],fun x=>by simp [prN],fun m p hm=>by omega⟩
 | i+1,h=>by
  have ih:=yfx a b ev l i fun j hj=>h j (by omega);have hi:=h i (by omega);have e0:prN a b ev l (i+1)=prS a b ev i (prN a b ev l i):=rfl;rw [e0];unfold prS;generalize prN a b ev l i=S at ih hi;obtain⟨p0,hp0⟩:∃p,S.1[i]? =some p:=⟨S.1[i],yGe hi⟩;have hd:S.1.getD i (0,0)=p0:=by rw [yGd,hp0];rfl
  rw [hd];obtain⟨⟨t,h1⟩,h2,h3⟩:=ye5 a b (i:Int) p0 ev (S.1,S.2.2);dsimp only at h1 h3 ⊢;generalize evF a b (i:Int) p0 ev (S.1,S.2.2)=r at h1 h2 h3;have hat:∀m:Nat,m≤i→r.1[m]? =S.1[m]? :=fun m hm=>by rw [h1];exact yfw (by omega)
  refine⟨fun x=>?_,fun x=>?_,fun m p hm hp e he q hq=>?_⟩
  ·dsimp only;have hold:x∈S.2.1↔ ∃(m:Nat) (p:Int×Int),x=m∧m<i∧r.1[m]? =some p∧p.1∈a.2.2.2.1∧p.2∈b.2.2.2.1:=by
    rw [ih.m x];constructor
    ·rintro ⟨m,p,h1,h2,h3,h4⟩;exact⟨m,p,h1,h2,by rw [hat m (by omega)];exact h3,h4⟩
    ·rintro ⟨m,p,h1,h2,h3,h4⟩;exact⟨m,p,h1,h2,by rw [←hat m (by omega)];exact h3,h4⟩
   split
   ·rename_i hb;rw [yAe,yo,yo] at hb;rw [yMa,hold,yMs];constructor
    ·rintro (⟨m,p,h1,h2,h3⟩|rfl)
     ·exact ⟨m,p,h1,by omega,h3⟩
     ·exact ⟨i,p0,rfl,by omega,by rw [hat i (by omega)];exact hp0,hb⟩
    ·rintro ⟨m,p,h1,h2,h3⟩;by_cases hm:m<i
     ·exact .inl ⟨m,p,h1,hm,h3⟩
     ·have:m=i:=by omega
      subst this;exact .inr h1
   ·rename_i hb;rw [yAe,yo,yo] at hb;rw [hold];constructor
    ·rintro ⟨m,p,h1,h2,h3⟩;exact⟨m,p,h1,by omega,h3⟩
    ·rintro ⟨m,p,k1,k2,k3,k4⟩;by_cases hm:m<i
     ·exact ⟨m,p,k1,hm,k3,k4⟩
     ·have:m=i:=by omega
      subst this;rw [hat m (by omega),hp0] at k3;cases k3;exact absurd k4 hb
  ·dsimp only;rw [h3 x,ih.e x];constructor
   ·rintro (⟨m,p,q,k1,k2,k3,k4,k5,k6,k7⟩|⟨e,he,q,hq,rfl⟩)
    ·exact ⟨m,p,q,by omega,by rw [hat m (by omega)];exact k2,by rw [h1];exact yMl _ k3,k4,k5,k6,by rw [h1,y6v k3];exact k7⟩
    ·exact ⟨i,p0,q,by omega,by rw [hat i (by omega)];exact hp0,h2 e he q hq,he,hq,rfl,rfl⟩
   ·rintro ⟨m,p,q,k1,k2,k3,k4,k5,k6,k7⟩;by_cases hm:m<i
    ·rw [hat m (by omega)] at k2;have k8:=ih.q m p hm k2 _ k4 q k5;exact .inl ⟨m,p,q,hm,k2,k8,k4,k5,k6,by rw [h1,y6v k8] at k7;exact k7⟩
    ·have:m=i:=by omega
     subst this;rw [hat m (by omega),hp0] at k2;cases k2;exact .inr ⟨_,k4,q,k5,Prod.ext k6 (Prod.ext rfl k7)⟩
  ·by_cases hm':m<i
   ·rw [hat m (by omega)] at hp;rw [h1];exact yMl _ (ih.q m p hm' hp e he q hq)
   ·have:m=i:=by omega
    subst this;rw [hat m (by omega),hp0] at hp;cases hp;exact h2 e he q hq
structure CmpOk (a b c:NdT) (ps:List (Int×Int)):Prop where
 al:c.1=dd (isL (a.1++b.1))
 st:c.2.1=(ps.length:Int)
 nd:ps.Nodup
 ing:∀p∈ps,InG a b p
 ini:∀x:Int,x∈c.2.2.1↔ ∃(m:Nat) (p:Int×Int),x=m∧ps[m]? =some p∧p.1∈a.2.2.1∧p.2∈b.2.2.1
 il:∀p q:Int,p∈a.2.2.1→q∈b.2.2.1→(p,q)∈ps
 m:∀x:Int,x∈c.2.2.2.1↔ ∃(m:Nat) (p:Int×Int),x=m∧ps[m]? =some p∧p.1∈a.2.2.2.1∧p.2∈b.2.2.2.1
 e:∀x:E3,x∈c.2.2.2.2↔ ∃(m k:Nat) (p q:Int×Int),x.1=m∧x.2.2=k∧ps[m]? =some p∧ps[k]? =some q∧(x.2.1= -1∨x.2.1∈c.1)∧q∈stpL a b p x.2.1
 q:∀p∈ps,∀e,(e= -1∨e∈c.1)→∀q∈stpL a b p e,q∈ps
theorem yd7{l:List (Int×Int)}(hn:l.Nodup){k:Nat}{q:Int×Int}(h:l[k]? =some q):l.idxOf q=k:=by
 obtain⟨hk,e⟩:=yGs.1 h;rw [←e];exact hn.idxOf_getElem k hk
theorem yaG{l:List (Int×Int)}{q:Int×Int}(h:q∈l):l[l.idxOf q]? =some q:=by
 have:=List.idxOf_lt_length_of_mem h;rw [yGe this,List.getElem_idxOf]
theorem CmpOk.lab{b c:NdT}{ps:List (Int×Int)}(h:CmpOk a b c ps)(ha:NdOk a)(hb:NdOk b):Lts.Lab (ltsN c) (Lts.par (ltsN a) (ltsN b)) fun i p=>0≤i∧ps[i.toNat]? =some p:=by
 have hev:∀e,e∈c.1↔e∈a.1∨e∈b.1:=fun e=>by rw [h.al,y6u,yMa]
 have hstp:∀(p q:Int×Int) (e:Int),(e= -1∨e∈c.1)→(q∈stpL a b p e↔(Lts.par (ltsN a) (ltsN b)).st e p q):=fun p q e he=>by
  rw [yd0];unfold rawL tsL Lts.par ltsN;dsimp only;by_cases h1:e= -1
  ·subst h1;simp only [if_true,ne_eq,not_true_eq_false,false_and,if_false,yMa,y2T,y4b,yMs,true_and,or_false];constructor
   ·rintro (⟨g1,g2⟩|⟨g1,g2⟩)
    ·exact .inl ⟨g1,g2⟩
    ·exact .inr ⟨g2,g1⟩
   ·rintro (⟨g1,g2⟩|⟨g1,g2⟩)
    ·exact .inl ⟨g1,g2⟩
    ·exact .inr ⟨g2,g1⟩
  ·rw [iN h1,y2T];have hB:∀xs:LI,hasB xs e=false↔e∉xs:=fun xs=>by rw [←yo];simp
   simp only [h1,false_and,false_or,ne_eq,not_false_eq_true,true_and,hB];have hc:e∈a.1∨e∈b.1:=(hev e).1 (he.resolve_left h1);by_cases k1:e∈a.1 <;> by_cases k2:e∈b.1 <;> simp only [k1,k2,not_true_eq_false,not_false_eq_true,if_true,if_false,y4b,yMs,true_and,false_and,or_false,false_or]
   ·constructor
    ·rintro ⟨g1,g2⟩;exact⟨g2,g1⟩
    ·rintro ⟨g1,g2⟩;exact⟨g2,g1⟩
   ·simp [k1,k2] at hc
 exact
  {
   i1:=fun s hs=>by
    obtain⟨m,p,rfl,g1,g2⟩:=(h.ini s).1 hs;exact⟨p,g2,by omega,by rw [yTn];exact g1⟩,
   i2:=fun p hp=>by
    have g:=yaG (h.il p.1 p.2 hp.1 hp.2);exact⟨(ps.idxOf p:Int),(h.ini _).2 ⟨_,p,rfl,g,hp⟩,by omega,by rw [yTn];exact g⟩,
   s1:=fun e s p s' ⟨h0,hr⟩ hst=>by
    obtain⟨m,k,p',q,g1,g2,g3,g4,g5,g6⟩:=(h.e _).1 hst;dsimp only at g1 g2 g5 g6;subst g1;subst g2;rw [yTn,g3] at hr;cases hr;exact⟨q,(hstp p q e g5).1 g6,by omega,by rw [yTn];exact g4⟩,
   s2:=fun e s p q ⟨h0,hr⟩ hst=>by
    have he:e= -1∨e∈c.1:=by
     rcases hst with ⟨h1,_⟩|⟨_,⟨h1,_⟩|⟨h1,_⟩|⟨_,h1,_⟩⟩
     ·exact .inl h1
     ·exact .inr ((hev e).2 (.inl h1))
     ·exact .inr ((hev e).2 (.inl h1))
     ·exact .inr ((hev e).2 (.inr h1))
    have hq:=(hstp p q e he).2 hst;have hqm:=h.q p (List.mem_of_getElem? hr) e he q hq;have g:=yaG hqm;exact⟨(ps.idxOf q:Int),(h.e _).2 ⟨s.toNat,_,p,q,by dsimp only;omega,rfl,hr,g,he,hq⟩,by omega,by rw [yTn];exact g⟩,
   m:=fun s p ⟨h0,hr⟩=>by
    constructor
    ·intro hs;obtain⟨m,p',rfl,g1,g2⟩:=(h.m s).1 hs;rw [yTn,g1] at hr;cases hr;exact g2
    ·intro hp;exact(h.m s).2 ⟨s.toNat,p,by omega,hr,hp⟩,
   ev:=hev }
theorem yd8(a b:NdT){ev:LI}(hev:ev.Pairwise (· < ·))(l:List (Int×Int)):∀i:Nat,
  (prN a b ev l i).2.1.Pairwise (· < ·)∧(∀m∈(prN a b ev l i).2.1,0≤m∧m<(i:Int))∧(prN a b ev l i).2.2.Pairwise ltE3∧
  (∀x∈(prN a b ev l i).2.2,0≤x.1∧x.1<(i:Int)∧x.2.1∈ev∧0≤x.2.2∧x.2.2<((prN a b ev l i).1.length:Int))∧∃t,(prN a b ev l i).1=l++t
 | 0=>⟨.nil,by simp [prN],.nil,by simp [prN],[],by simp [prN]⟩
 | i+1=>by
  obtain⟨h1,h2,h3,h4,t,h5⟩:=yd8 a b hev l i;have e:prN a b ev l (i+1)=prS a b ev i (prN a b ev l i):=rfl;rw [e];unfold prS;generalize prN a b ev l i=S at h1 h2 h3 h4 h5;obtain⟨new,k1,k2,k3,u,k4⟩:=y9J a b (i:Int) (S.1.getD i (0,0)) ev (S.1,S.2.2) hev;refine⟨?_,fun m hm=>?_,?_,fun x hx=>?_,t++u,?_⟩
  ·dsimp only;split
   ·rw [List.pairwise_append];exact⟨h1,List.pairwise_singleton _ _,fun x hx y hy=>by rw [yMs.1 hy];exact(h2 x hx).2⟩
   ·exact h1
  ·dsimp only at hm;split at hm
   ·rcases yMa.1 hm with h|h
    ·have:=h2 m h;omega
    ·rw [yMs.1 h];omega
   ·have:=h2 m hm;omega
  ·dsimp only;rw [k1,List.pairwise_append];refine⟨h3,k2,fun x hx y hy=>?_⟩;have:=h4 x hx;have:=(k3 y hy).1;unfold ltE3;omega
  ·dsimp only at hx k4 ⊢;rw [k1] at hx;rcases yMa.1 hx with hx|hx
   ·obtain ⟨g1,g2,g3,g4,g5⟩:=h4 x hx;refine⟨g1,by omega,g3,g4,?_⟩;rw [k4,yLa];omega
   ·obtain ⟨g1,g2,g3,g4⟩:=k3 x hx;exact⟨by omega,by omega,g2,g3,g4⟩
  ·dsimp only at k4 ⊢;rw [k4,h5,yAa]
theorem yfy(n:Nat):(numsL n).Pairwise (· < ·):=by
 unfold numsL;rw [List.pairwise_map];exact List.pairwise_lt_range.imp fun h=>by omega
theorem yca{n:Nat}{k:Int}(h:k∈numsL n):0≤k∧k<(n:Int):=by
 unfold numsL at h;obtain⟨i,hi,rfl⟩:=yMp.1 h;have:=List.mem_range.1 hi;omega
theorem yeB{b:NdT}(ha:NdOk a)(hb:NdOk b)(hN:a.2.1.toNat*b.2.1.toNat≤4096)(lu:a.1.length+b.1.length≤64):
  ∃(c:NdT) (ps:List (Int×Int)),y3d a b=some (c,ps)∧yK a b=some (c,ps,0)∧CmpOk a b c ps∧(c.2.2.2.2.length≤65536→NdOk c)∧c.2.2.2.2.length≤(a.2.1.toNat*b.2.1.toNat)*((c.1.length+1)*(a.2.1.toNat*b.2.1.toNat)):=by
 obtain⟨n,h1,h2,h3,h4,h5,h6⟩:=yeA ha hb hN lu;have hu0:∀e∈dd (isL (a.1++b.1)),0≤e∧e<32:=fun e he=>by
  rcases yMa.1 (y6u.1 he) with h|h
  ·exact ha.alr e h
  ·exact hb.alr e h
 have hu:(dd (isL (a.1++b.1))).length≤a.1.length+b.1.length:=by
  have:=y9E (isL (a.1++b.1));rw [(y1G _).length_eq,yLa] at this;exact this
 have hev:(-1::dd (isL (a.1++b.1))).Pairwise (· < ·):=List.Pairwise.cons (fun x hx=>by have:=hu0 x hx;omega) (y4X _);obtain⟨k1,k2,k3⟩:=yba ha hb h4 (ev:= -1::dd (isL (a.1++b.1))) n h2;obtain⟨g1,g2,g3,g4,t,g5⟩:=yd8 a b hev (ya a.2.2.1 b.2.2.1) n;have hP:=yfx a b (-1::dd (isL (a.1++b.1))) (ya a.2.2.1 b.2.2.1) n h2;have hn:n≤(prN a b (-1::dd (isL (a.1++b.1))) (ya a.2.2.1 b.2.2.1) n).1.length:=by
  cases n with
  | zero=>omega
  | succ m=>
   have:=h2 m (by omega);have e:prN a b (-1::dd (isL (a.1++b.1))) (ya a.2.2.1 b.2.2.1) (m+1)=prS a b (-1::dd (isL (a.1++b.1))) m (prN a b (-1::dd (isL (a.1++b.1))) (ya a.2.2.1 b.2.2.1) m):=rfl;rw [e];unfold prS;obtain⟨new,_,_,_,u,j4⟩:=y9J a b (m:Int) ((prN a b (-1::dd (isL (a.1++b.1))) (ya a.2.2.1 b.2.2.1) m).1.getD m (0,0)) _ ((prN a b (-1::dd (isL (a.1++b.1))) (ya a.2.2.1 b.2.2.1) m).1,(prN a b (-1::dd (isL (a.1++b.1))) (ya a.2.2.1 b.2.2.1) m).2.2) hev;dsimp only at j4 ⊢;rw [j4,yLa];omega
 have k4:=k1.len;refine⟨_,_,h5,h6,?_,fun hE=>?_,?_⟩
 ·generalize prN a b (-1::dd (isL (a.1++b.1))) (ya a.2.2.1 b.2.2.1) n=S at *;have hlt:∀{m:Nat} {p:Int×Int},S.1[m]? =some p→m<n:=fun h=>by
   have:=(yGs.1 h).1;omega
  exact
   {
    al:=rfl,
    st:=rfl,
    nd:=k1.nd,
    ing:=k1.ing,
    ini:=fun x=>by
     dsimp only;constructor
     ·intro hx;have hm:=yca hx;have hk:x.toNat<(ya a.2.2.1 b.2.2.1).length:=by omega
      have hg:=yGm hk;exact⟨x.toNat,(ya a.2.2.1 b.2.2.1)[x.toNat],by omega,by rw [g5,yfw hk,yGe hk],y2T.1 hg⟩
     ·rintro ⟨m,p,rfl,hp,hq⟩;have hc:=y2T.2 hq;have e1:=yd7 k1.nd hp;rw [g5,y6v hc] at e1;have:=List.idxOf_lt_length_of_mem hc;unfold numsL;exact yMp.2 ⟨m,List.mem_range.2 (by omega),rfl⟩,
    il:=fun p q hp hq=>by
     rw [g5];exact yMl _ (y2T.2 ⟨hp,hq⟩),
    m:=fun x=>by
     dsimp only;rw [hP.m x];constructor
     ·rintro ⟨m,p,h1,_,h3⟩;exact⟨m,p,h1,h3⟩
     ·rintro ⟨m,p,h1,h3⟩;exact⟨m,p,h1,hlt h3.1,h3⟩,
    e:=fun x=>by
     dsimp only;rw [hP.e x];constructor
     ·rintro ⟨m,p,q,j1,j2,j3,j4,j5,j6,j7⟩;exact⟨m,_,p,q,j6,j7,j2,yaG j3,yMo.1 j4,j5⟩
     ·rintro ⟨m,k,p,q,j1,j2,j3,j4,j5,j6⟩;exact⟨m,p,q,hlt j3,j3,List.mem_of_getElem? j4,yMo.2 j5,j6,j1,by rw [yd7 k1.nd j4];exact j2⟩,
    q:=fun p hp e he q hq=>by
     obtain⟨m,hm,e1⟩:=List.mem_iff_getElem.1 hp;exact hP.q m p (by omega) (by rw [yGe hm,e1]) e (yMo.2 he) q hq }
 ·generalize prN a b (-1::dd (isL (a.1++b.1))) (ya a.2.2.1 b.2.2.1) n=S at *;have hc:(ya a.2.2.1 b.2.2.1).length≤S.1.length:=by rw [g5,yLa];omega
  refine⟨y4X _,hu0,by dsimp only;omega,by dsimp only;omega,yfy _,fun x hx=>?_,g1,fun x hx=>?_,g3,fun x hx=>?_,by dsimp only;omega,by dsimp only;rw [y9I];omega,by dsimp only;omega,hE⟩
  ·have:=yca hx;dsimp only;omega
  ·have:=g2 x hx;dsimp only;omega
  ·obtain ⟨j1,j2,j3,j4,j5⟩:=g4 x hx;refine⟨j1,by dsimp only;omega,j4,j5,?_⟩;rcases yMo.1 j3 with h|h
   ·exact .inl h
   ·exact .inr h
 ·dsimp only;have m1:n≤a.2.1.toNat*b.2.1.toNat:=by omega
  rw [yLc] at k3;exact Nat.le_trans k3 (Nat.mul_le_mul_right _ m1)
def bits5(k:Nat):LI:=((List.range 5).filter fun i=>(k >>> i) % 2==1).map fun i:Nat=>(i:Int)
theorem yhT{k:Nat}(h:k<32):y1q (k:Int)=some (bits5 k):=by
 have e:(List.range 32).map (fun k:Nat=>y1q (k:Int))=(List.range 32).map fun k=>some (bits5 k):=by kernel_rfl
 have:=congrArg (fun l=>l[k]?) e;simp only [List.getElem?_map,List.getElem?_range h,Option.map_some,yIj] at this;exact this
theorem y7S(k:Nat):(bits5 k).Pairwise (· < ·):=by
 unfold bits5;rw [List.pairwise_map];exact(List.pairwise_lt_range.filter _).imp fun h=>by omega
theorem ycb{k:Nat}{x:Int}(h:x∈bits5 k):∃i:Nat,x=i∧i<5∧(k >>> i) % 2=1:=by
 unfold bits5 at h;obtain⟨i,hi,rfl⟩:=yMp.1 h;obtain⟨h1,h2⟩:=List.mem_filter.1 hi;exact⟨i,rfl,List.mem_range.1 h1,by simpa using h2⟩
theorem yd9{k n:Nat}(hk:k<2 ^ n){x:Int}(h:x∈bits5 k):0≤x∧x<(n:Int):=by
 obtain⟨i,rfl,_,h2⟩:=ycb h;refine⟨by omega,?_⟩;refine Classical.byContradiction fun hn=>?_;have hi:n≤i:=by omega
 have:k >>> i=0:=by
  rw [Nat.shiftRight_eq_div_pow];exact Nat.div_eq_of_lt (Nat.lt_of_lt_of_le hk (Nat.pow_le_pow_right (by omega) hi))
 rw [this] at h2;omega
theorem y9K(k:Nat):(bits5 k).length≤5:=by
 unfold bits5;rw [yLm];exact Nat.le_trans (List.length_filter_le _ _) (by simp)
theorem yaH{n:Nat}(f:Int×List γ→Option ((Int×List γ)⊕List γ))(h:Nat→List γ)(out:List γ)(hx:n≤4294967296)(hl:((List.range n).flatMap h).length+out.length≤4294967296)
  (step:∀j,j<n→∀(o:List γ),(h j).length+o.length≤4294967296→f ((j:Int),o)=some (.inl (((j+1:Nat):Int),o++h j))) (last:∀o:List γ,f ((n:Int),o)=some (.inr o)):iter f (0,out)=some (out++(List.range n).flatMap h):=
 y7P (xs:=List.range n) f h out (by simpa using hx) hl (fun j hj o ho=>by
  have hj':j<n:=by simpa using hj
  simp only [List.getElem_range] at ho ⊢;exact step j hj' o ho) (by simpa using last)
def mkE(kp:List Bool)(al:LI)(n:Nat):List E3:=(List.range n).flatMap fun i=>(List.range (al.length+1)).flatMap fun k=>(List.range n).flatMap fun j=>
 if kp.getD (0+i*30+k*6+j*1) false=true then [((i:Int),(-1::al).getD k 0,(j:Int))] else []
theorem yho{kp:List Bool}{n:Nat}{x:E3}(h:x∈mkE kp al n):0≤x.1∧x.1<(n:Int)∧0≤x.2.2∧x.2.2<(n:Int)∧(x.2.1= -1∨x.2.1∈al):=by
 unfold mkE at h;simp only [List.mem_flatMap,List.mem_range] at h;obtain⟨i,hi,k,hk,j,hj,h⟩:=h;split at h
 ·rw [yMs.1 h];refine⟨by dsimp only;omega,by dsimp only;omega,by dsimp only;omega,by dsimp only;omega,?_⟩;have:(-1::al).getD k 0∈(-1::al):=by
   rw [yGd,yGe (by simp;omega)];exact yGm _
  exact yMo.1 this
 ·cases h
theorem yhU{kp:List Bool}{n:Nat}(ha:al.Pairwise (· < ·))(h0:∀x∈al,0≤x):(mkE kp al n).Pairwise ltE3:=by
 have hev:(-1::al).Pairwise (· < ·):=List.Pairwise.cons (fun x hx=>by have:=h0 x hx;omega) ha;have hm:∀i k j x,x∈(if kp.getD (0+i*30+k*6+j*1) false=true then [((i:Int),(-1::al).getD k 0,(j:Int))] else [])→x=((i:Int),(-1::al).getD k 0,(j:Int)):=fun i k j x hx=>by
  split at hx
  ·exact yMs.1 hx
  ·cases hx
 unfold mkE;rw [List.pairwise_flatMap];refine⟨fun i _=>?_,List.pairwise_lt_range.imp fun {i i'} hi x hx y hy=>?_⟩
 ·rw [List.pairwise_flatMap];refine⟨fun k _=>?_,List.Pairwise.imp_of_mem (fun {k k'} hk hk' hkk x hx y hy=>?_) List.pairwise_lt_range⟩
  ·rw [List.pairwise_flatMap];refine⟨fun j _=>?_,List.pairwise_lt_range.imp fun {j j'} hj x hx y hy=>?_⟩
   ·split
    ·exact List.pairwise_singleton _ _
    ·exact .nil
   ·rw [hm _ _ _ _ hx,hm _ _ _ _ hy];unfold ltE3;dsimp only;omega
  ·simp only [List.mem_flatMap] at hx hy;obtain⟨j,_,hx⟩:=hx;obtain⟨j',_,hy⟩:=hy;rw [hm _ _ _ _ hx,hm _ _ _ _ hy];rw [List.mem_range] at hk hk';have:=yPg.1 hev k k' (by simp;omega) (by simp;omega) hkk;unfold ltE3;dsimp only;rw [yGd,yGd,yGe (by simp;omega),yGe (by simp;omega)];exact .inr ⟨rfl,.inl this⟩
 ·simp only [List.mem_flatMap] at hx hy;obtain⟨k,_,j,_,hx⟩:=hx;obtain⟨k',_,j',_,hy⟩:=hy;rw [hm _ _ _ _ hx,hm _ _ _ _ hy];unfold ltE3;dsimp only;omega
theorem yda{i n:Nat}(h:i<n):rng (i:Int) n=some ():=by
 unfold rng;rw [iP (by simp;omega)]
section
variable{p0:Int×Int×Int×Int×List E3}{n:Nat}(hn:W (p0.1.tmod 6)=(n:Int))(hn5:n≤5){kp:List Bool}(hk:kp.length=180){al:LI}(hal:al.length≤4)
include hn hn5 hk
theorem mk_l4{i k:Nat}(hi:i<n)(hkk:k<5)(e:Int)(s1 s2:EdgL)(out:List E3)(ho:((List.range n).flatMap fun j=>if kp.getD (0+i*30+k*6+j*1) false=true then [((i:Int),e,(j:Int))] else []).length+out.length≤4294967296):iter (y3b p0 kp ((i:Int),s1) ((k:Int),s2) e) (0,out)=some (out++((List.range n).flatMap fun j=>if kp.getD (0+i*30+k*6+j*1) false=true then [((i:Int),e,(j:Int))] else [])):=by
 refine yaH _ _ out (by omega) ho (fun j hj o ho2=>?_) (fun o=>?_)
 ·unfold y3b;have hx:0+i*30+k*6+j*1<kp.length:=by omega
  simp only [hn,ct_lt hj,if_true,yda (show i<6 by omega),yda hkk,yda (show j<6 by omega),yOb,yTn,yGe hx,yGd,Option.getD_some] at ho2 ⊢;split
  ·rename_i hb;rw [iP hb] at ho2;rw [yD (by simp at ho2 ⊢;omega),yOb,y2c];simp only [nxt (show j<4611686018427387904 by omega)]
  ·rw [y2c,List.append_nil];simp only [nxt (show j<4611686018427387904 by omega)]
 ·unfold y3b;simp only [hn];rw [iN (by simp)]
omit hn hn5 hk in
theorem ybG(i k:Nat)(e:Int):∀m:Nat,((List.range m).flatMap fun j=>if kp.getD (0+i*30+k*6+j*1) false=true then [((i:Int),e,(j:Int))] else []).length≤m:=by
 intro m
 induction m with
 | zero=>simp
 | succ m ih=>
  rw [List.range_succ,List.flatMap_append,yLa];simp only [List.flatMap_cons,List.flatMap_nil,List.append_nil];split
  ·rw [List.length_singleton];omega
  ·rw [List.length_nil];omega
omit hn hn5 hk in
theorem y6V{h:Nat→List γ}{c:Nat}(hc:∀j,(h j).length≤c):∀m,((List.range m).flatMap h).length≤m*c
 | 0=>by simp
 | m+1=>by
  have:=y6V hc m;have:=hc m;rw [List.range_succ,List.flatMap_append,yLa,Nat.succ_mul];simp only [List.flatMap_cons,List.flatMap_nil,List.append_nil];omega
include hal in
theorem mk_l3 {i:Nat} (hi:i<n) (s1:EdgL) (out:List E3) (ho:((List.range (al.length+1)).flatMap fun k=>(List.range n).flatMap fun j=>
  if kp.getD (0+i*30+k*6+j*1) false=true then [((i:Int),(-1::al).getD k 0,(j:Int))] else []).length+out.length≤4294967296):iter (y3c p0 al kp ((i:Int),s1)) (0,out)=some (out++(List.range (al.length+1)).flatMap fun k=>(List.range n).flatMap fun j=>
  if kp.getD (0+i*30+k*6+j*1) false=true then [((i:Int),(-1::al).getD k 0,(j:Int))] else []):=by
 have hs:∀k,((List.range n).flatMap fun j=>if kp.getD (0+i*30+k*6+j*1) false=true then [((i:Int),(-1::al).getD k 0,(j:Int))] else []).length≤n:=fun k=>ybG i k _ n;have hf:=y6V hs (al.length+1);have hm:(al.length+1)*n≤5*5:=Nat.mul_le_mul (by omega) hn5;refine yaH _ _ out (by omega) ho (fun k hkk o ho2=>?_) (fun o=>?_)
 ·unfold y3c;rw [iP (by simp;omega)];by_cases h0:k=0
  ·subst h0;have hz:(-1::al).getD 0 0= -1:=rfl;rw [hz] at ho2 ⊢;rw [iN (by simp),y2d];simp only;rw [mk_l4 hn hn5 hk hi (by omega) _ _ _ _ ho2,yOb];simp only [nxt (show 0<4611686018427387904 by omega)]
  ·rw [iP (by simp;omega)];have he:(-1::al).getD k 0=al[k-1]:=by
    rw [yGd,yGe (by simp;omega),Option.getD_some,List.getElem_cons];rw [dif_neg h0]
   rw [he] at ho2 ⊢;simp only;rw [show (k:Int)-1=((k-1:Nat):Int) by omega,W_nat (by omega),yd (show k-1<al.length by omega),yOb,y2d,mk_l4 hn hn5 hk hi (by omega) _ _ _ _ ho2,yOb];simp only [nxt (show k<4611686018427387904 by omega)]
 ·unfold y3c;rw [iN (by simp;omega)]
include hal in
theorem mk_l2 :iter (y2e p0 al kp) (0,([]:List E3))=some (mkE kp al n):=by
 have hs:∀i k,((List.range n).flatMap fun j=>if kp.getD (0+i*30+k*6+j*1) false=true then [((i:Int),(-1::al).getD k 0,(j:Int))] else []).length≤n:=fun i k=>ybG i k _ n;have hf:∀i,((List.range (al.length+1)).flatMap fun k=>(List.range n).flatMap fun j=>if kp.getD (0+i*30+k*6+j*1) false=true then [((i:Int),(-1::al).getD k 0,(j:Int))] else []).length≤25:=fun i=>Nat.le_trans (y6V (hs i) (al.length+1)) (Nat.mul_le_mul (show al.length+1≤5 by omega) hn5);have hg:=y6V hf n;have:=yaH (n:=n) (y2e p0 al kp) (fun i=>(List.range (al.length+1)).flatMap fun k=>(List.range n).flatMap fun j=>if kp.getD (0+i*30+k*6+j*1) false=true then [((i:Int),(-1::al).getD k 0,(j:Int))] else []) [] (by omega) (by simp only [List.length_nil];omega) (fun i hi o ho=>by
  unfold y2e;simp only [hn,ct_lt hi,if_true];rw [mk_l3 hn hn5 hk hal hi _ _ ho,yOb];simp only [nxt (show i<4611686018427387904 by omega)]) (fun o=>by
  unfold y2e;simp only [hn];rw [iN (by simp)])
 rw [this,List.nil_append];rfl
end
theorem y6W{x n:Int}(h:0≤x)(hn:0<n):0≤x.tmod n∧x.tmod n<n:=⟨Int.tmod_nonneg _ h,Int.tmod_lt_of_pos _ hn⟩
theorem ydb{x:Int}{n:Nat}(h:0≤x∧x<(n:Int)):rng x n=some ():=by
 unfold rng;rw [iP (by simp;omega)]
theorem mk_l1{p0:Int×Int×Int×Int×List E3}{n:Nat}(hn:W (p0.1.tmod 6)=(n:Int))(hn5:n≤5)(hal:al.length≤4)(he:∀x∈p0.2.2.2.2,(0≤x.1∧x.1<256)∧(0≤x.2.1∧x.2.1<256)∧0≤x.2.2∧x.2.2<256):∃kp,iter (y2f p0 al) (0,List.replicate 180 false)=some kp∧kp.length=180:=by
 refine yg (f:=y2f p0 al) (fun j st=>st.1=(j:Int)∧st.2.length=180) (fun o=>o.length=180) 20 0 (by omega) (fun j st hj ⟨e1,e2⟩=>?_) (fun st ⟨e1,e2⟩=>?_) (by omega) (0,List.replicate 180 false) ⟨rfl,List.length_replicate ..⟩
 ·obtain ⟨s1,kp⟩:=st;dsimp only at e1 e2;subst e1;unfold y2f;simp only [hn];by_cases hc:j<p0.2.2.2.2.length∧0<n
  ·left;obtain⟨hc1,hc2⟩:=hc;rw [iP (by simp;omega)];obtain⟨g1,g2,g3⟩:=he _ (yGm hc1);have hw:W ((al.length:Int)+1)=((al.length+1:Nat):Int):=nxt (by omega);rw [yd hc1];simp only [yOb,hw];rw [W_of (x:=p0.2.2.2.2[j].1) (by omega) (by omega),W_of (x:=p0.2.2.2.2[j].2.1) (by omega) (by omega),W_of (x:=p0.2.2.2.2[j].2.2) (by omega) (by omega)];have t1:=y6W g1.1 (show (0:Int)<(n:Int) by omega);have t2:=y6W g2.1 (show (0:Int)<((al.length+1:Nat):Int) by omega);have t3:=y6W g3.1 (show (0:Int)<(n:Int) by omega);have z1:nz (((al.length+1:Nat):Int))=some ():=by unfold nz;rw [iN (by omega)]
   have z2:nz ((n:Nat):Int)=some ():=by unfold nz;rw [iN (by omega)]
   rw [z1,z2];simp only [yOb];rw [ydb (n:=6) (by omega),ydb (n:=5) (by omega),ydb (n:=6) (by omega)];simp only [yOb];unfold updN;rw [iP (by omega),yOb];exact⟨_,rfl,by dsimp only;rw [nxt (by omega)],by simpa using e2⟩
  ·right;rw [iN (by simp;omega)];exact⟨_,rfl,e2⟩
 ·obtain ⟨s1,kp⟩:=st;dsimp only at e1 e2;subst e1;unfold y2f;rw [iN (by simp)];exact⟨_,rfl,e2⟩
structure DrOk (d:Int×Int×Int×Int×List E3):Prop where
 st:0≤d.1∧d.1<256
 al:0≤d.2.1∧d.2.1<256
 ini:0≤d.2.2.1∧d.2.2.1<256
 mks:0≤d.2.2.2.1∧d.2.2.2.1<256
 es:∀x∈d.2.2.2.2,(0≤x.1∧x.1<256)∧(0≤x.2.1∧x.2.1<256)∧0≤x.2.2∧x.2.2<256
theorem pow_w{n:Nat}(h:n≤5):IntKind.u32.wrap (1*2 ^ (min ((n:Nat):Int).toNat 32))=((2 ^ n:Nat):Int)∧0<2 ^ n∧2 ^ n≤32:=by
 have:n=0∨n=1∨n=2∨n=3∨n=4∨n=5:=by omega
 rcases this with rfl|rfl|rfl|rfl|rfl|rfl <;> exact⟨by decide,by decide,by decide⟩
theorem yeC{k:Nat}(h:k<16):(bits5 k).length≤4:=by
 have e:((List.range 16).all fun k=>decide ((bits5 k).length≤4))=true:=by decide
 have:=yAt.1 e k (List.mem_range.2 h);simpa using this
theorem ybH{x n:Int}{m:Nat}(hx:0≤x∧x<256)(hm:n=(m:Int))(h0:0<m)(h1:m≤32):∃k:Nat,k<m∧y1q (x.tmod n)=some (bits5 k):=by
 have h:=y6W hx.1 (show 0<n by omega);refine⟨(x.tmod n).toNat,by omega,?_⟩;have:=yhT (k:=(x.tmod n).toNat) (by omega);rwa [show (((x.tmod n).toNat:Nat):Int)=x.tmod n by omega] at this
theorem ye6{d:Int×Int×Int×Int×List E3}(h:DrOk d):∃a:NdT,y2R d=some a∧NdOk a∧a.2.1≤5∧a.1.length≤4:=by
 obtain⟨n,hn,hn5⟩:∃n:Nat,W (d.1.tmod 6)=(n:Int)∧n≤5:=by
  have h1:=y6W h.st.1 (show (0:Int)<6 by decide);refine⟨(d.1.tmod 6).toNat,?_,by omega⟩;rw [W_of (by omega) (by omega)];omega
 obtain⟨hp,hp0,hp1⟩:=pow_w hn5;obtain⟨k1,hk1,e1⟩:=ybH h.al (n:=16) (m:=16) rfl (by decide) (by decide);obtain⟨k2,hk2,e2⟩:=ybH (x:=d.2.2.1) h.ini (n:=((2 ^ n:Nat):Int)) rfl hp0 hp1;obtain⟨k3,hk3,e3⟩:=ybH (x:=d.2.2.2.1) h.mks (n:=((2 ^ n:Nat):Int)) rfl hp0 hp1;have hw1:IntKind.u32.wrap (d.2.1.tmod 16)=d.2.1.tmod 16:=IntWalk.u32_in _ (by have:=y6W h.al.1 (show (0:Int)<16 by decide);omega);have hw2:IntKind.u32.wrap d.2.2.1=d.2.2.1:=IntWalk.u32_in _ (by have:=h.ini;omega);have hw3:IntKind.u32.wrap d.2.2.2.1=d.2.2.2.1:=IntWalk.u32_in _ (by have:=h.mks;omega);have hal:=yeC hk1;obtain⟨kp,hk,hkl⟩:=mk_l1 hn hn5 hal h.es;have ng1:ng ((n:Nat):Int)=some ():=by unfold ng;rw [iN (by omega)]
 have nz1:nz (((2 ^ n:Nat):Int))=some ():=by unfold nz;rw [iN (by omega)]
 refine⟨(bits5 k1,(n:Int),bits5 k2,bits5 k3,mkE kp (bits5 k1) n),?_,?_,by dsimp only;omega,hal⟩
 ·rw [y2R,hw1,e1,yOb,hn,ng1,yOb,hp,nz1,yOb,hw2,e2,yOb,yOb,yOb,hw3,e3,yOb,hk,yOb,mk_l2 hn hn5 hkl hal,yOb]
 ·have l1:=y9K k1;have l2:=y9K k2;have l3:=y9K k3;have r1:∀x∈bits5 k1,0≤x∧x<32:=fun x hx=>by
   obtain⟨i,rfl,h1,_⟩:=ycb hx;omega
  refine⟨y7S _,r1,by dsimp only;omega,by dsimp only;omega,y7S _,fun x hx=>yd9 hk2 hx,y7S _,fun x hx=>yd9 hk3 hx,yhU (y7S _) fun x hx=>(r1 x hx).1,fun x hx=>yho hx,by dsimp only;omega,by dsimp only;omega,by dsimp only;omega,?_⟩;dsimp only;unfold mkE;have f1:=y6V (h:=fun i=>(List.range ((bits5 k1).length+1)).flatMap fun k=>(List.range n).flatMap fun j=>if kp.getD (0+i*30+k*6+j*1) false=true then [((i:Int),(-1::bits5 k1).getD k 0,(j:Int))] else []) (c:=25) (fun i=>Nat.le_trans (y6V (fun k=>ybG i k _ n) _) (Nat.mul_le_mul (show (bits5 k1).length+1≤5 by omega) hn5)) n;omega
theorem yhp :y4j=some true:=by kernel_rfl
inductive Rc3 (es:List E3) (S:LI):Int→Prop
 | ini {s:Int}:s∈S→Rc3 es S s
 | edge {x:E3}:x∈es→Rc3 es S x.1→Rc3 es S x.2.2
def flg(B:List Bool)(s:Int):Bool:=B.getD s.toNat false
def passF(es:List E3)(B:List Bool):List Bool:=es.foldl (fun B x=>if flg B x.1=true then B.set x.2.2.toNat true else B) B
theorem y7u{B:List Bool}{s t:Int}(hs:0≤s)(ht:0≤t)(h:t.toNat<B.length):flg (B.set t.toNat true) s=if s=t then true else flg B s:=by
 unfold flg;rw [yGd,yGd,List.getElem?_set];by_cases e:s=t
 ·subst e;rw [iP rfl,iP h,iP rfl];rfl
 ·rw [iN (by omega),iN e]
theorem y7T(es:List E3):∀B:List Bool,(passF es B).length=B.length:=by
 unfold passF
 induction es with
 | nil=>intro B;rfl
 | cons x es ih=>
  intro B;rw [List.foldl_cons,ih];split
  ·rw [List.length_set]
  ·rfl
section
variable{n:Nat}
theorem ybc{es0:List E3}{S:LI}(es:List E3)(hsub:∀x∈es,x∈es0)(hr:∀x∈es,0≤x.1∧x.1<(n:Int)∧0≤x.2.2∧x.2.2<(n:Int)):∀B:List Bool,B.length=n→(∀s,0≤s→flg B s=true→Rc3 es0 S s)→
  (∀s,0≤s→flg (passF es B) s=true→Rc3 es0 S s)∧(∀s,0≤s→flg B s=true→flg (passF es B) s=true)∧(passF es B=B→∀x∈es,flg B x.1=true→flg B x.2.2=true):=by
 induction es with
 | nil=>intro B _ h;exact⟨h,fun _ _ h=>h,fun _ x hx=>by cases hx⟩
 | cons x es ih=>
  intro B hB h;have hx:=hr x (.head _);have e:passF (x::es) B=passF es (if flg B x.1=true then B.set x.2.2.toNat true else B):=rfl;have hB2:(if flg B x.1=true then B.set x.2.2.toNat true else B).length=n:=by
   split
   ·rw [List.length_set];exact hB
   ·exact hB
  have hup:∀s,0≤s→flg B s=true→flg (if flg B x.1=true then B.set x.2.2.toNat true else B) s=true:=fun s hs h1=>by
   split
   ·rw [y7u hs hx.2.2.1 (by omega)];split
    ·rfl
    ·exact h1
   ·exact h1
  obtain⟨h1,h2,h3⟩:=ih (fun y hy=>hsub y (.tail _ hy)) (fun y hy=>hr y (.tail _ hy)) _ hB2 (fun s hs hf=>by
   split at hf
   ·rename_i hf1;rw [y7u hs hx.2.2.1 (by omega)] at hf;split at hf
    ·rename_i e;rw [e];exact .edge (hsub x (.head _)) (h _ hx.1 hf1)
    ·exact h s hs hf
   ·exact h s hs hf)
  refine⟨fun s hs hf=>h1 s hs (e▸hf),fun s hs hf=>by rw [e];exact h2 s hs (hup s hs hf),fun he y hy hf=>?_⟩;have hback:∀s,0≤s→flg (if flg B x.1=true then B.set x.2.2.toNat true else B) s=true→flg B s=true:=fun s hs h4=>by
   rw [←he,e];exact h2 s hs h4
  have hBB:(if flg B x.1=true then B.set x.2.2.toNat true else B)=B:=by
   split
   ·rename_i hf1;have h5:flg B x.2.2=true:=hback _ hx.2.2.1 (by rw [iP hf1,y7u hx.2.2.1 hx.2.2.1 (by omega),iP rfl]);unfold flg at h5;rw [yGd,yGe (by omega),Option.getD_some] at h5;exact List.ext_getElem (by simp) fun i i1 i2=>by
     rw [List.getElem_set];split
     ·rename_i e2;subst e2;exact h5.symm
     ·rfl
   ·rfl
  rcases yMo.1 hy with rfl|hy
  ·exact hback _ hx.2.2.1 (by rw [iP hf,y7u hx.2.2.1 hx.2.2.1 (by omega),iP rfl])
  ·rw [hBB] at h3;exact h3 (by rw [e,hBB] at he;exact he) y hy hf
end
theorem ydc :∀{B B':List Bool},B.length=B'.length→(∀i:Nat,B[i]? =some true→B'[i]? =some true)→B.count true≤B'.count true∧(B.count true=B'.count true→B=B')
 | [],[],_,_=>⟨yNr _,fun _=>rfl⟩
 | [],_::_,h,_=>by simp at h
 | _::_,[],h,_=>by simp at h
 | b::B,c::C,h,hi=>by
  obtain⟨h1,h2⟩:=ydc (B:=B) (B':=C) (by simpa using h) fun i hb=>by simpa using hi (i+1) (by simpa using hb)
  have h0:=hi 0;cases b <;> cases c <;> simp at h0 ⊢
  ·exact ⟨h1,h2⟩
  ·exact ⟨by omega,fun e=>by omega⟩
  ·exact ⟨h1,h2⟩
def passN(es:List E3)(B:List Bool):Nat→List Bool
 | 0=>B
 | k+1=>passF es (passN es B k)
theorem ybd{B:List Bool}{i:Nat}:B[i]? =some true↔flg B (i:Int)=true:=by
 unfold flg;rw [yTn,yGd];cases B[i]? with
 | none=>simp
 | some b=>cases b <;> simp
theorem ybe{es:List E3}{S:LI}{n:Nat}(hr:∀x∈es,0≤x.1∧x.1<(n:Int)∧0≤x.2.2∧x.2.2<(n:Int)){B:List Bool}(hB:B.length=n)(hs:∀s,0≤s→flg B s=true→Rc3 es S s):∀k,
  (passN es B k).length=n∧(∀s,0≤s→flg (passN es B k) s=true→Rc3 es S s)∧(∀s,0≤s→flg B s=true→flg (passN es B k) s=true)∧(passF es (passN es B k)=passN es B k∨k≤(passN es B k).count true)
 | 0=>⟨hB,hs,fun _ _ h=>h,.inr (yZl _)⟩
 | k+1=>by
  obtain⟨h1,h2,h3,h4⟩:=ybe hr hB hs k;obtain⟨g1,g2,g3⟩:=ybc (es0:=es) (S:=S) es (fun _ h=>h) hr _ h1 h2;have hl:=y7T es (passN es B k);refine⟨by rw [passN,hl,h1],g1,fun s h0 h=>g2 s h0 (h3 s h0 h),?_⟩;by_cases hf:passF es (passN es B k)=passN es B k
  ·left;show passF es (passF es (passN es B k))=passF es (passN es B k);rw [hf,hf]
  ·right;rcases h4 with h4|h4
   ·exact absurd h4 hf
   ·obtain ⟨c1,c2⟩:=ydc (B:=passN es B k) (B':=passF es (passN es B k)) hl.symm fun i hi=>ybd.2 (g2 _ (by omega) (ybd.1 hi));have:(passN es B k).count true≠(passF es (passN es B k)).count true:=fun e=>hf (c2 e).symm;show k+1≤(passF es (passN es B k)).count true;omega
theorem ygw{es:List E3}{S:LI}{n:Nat}(hr:∀x∈es,0≤x.1∧x.1<(n:Int)∧0≤x.2.2∧x.2.2<(n:Int)){B:List Bool}(hB:B.length=n)(hs:∀s,0≤s→(flg B s=true↔s∈S))(hS:∀s∈S,0≤s):(passN es B n).length=n∧∀s,0≤s→(flg (passN es B n) s=true↔Rc3 es S s):=by
 obtain⟨h1,h2,h3,h4⟩:=ybe (S:=S) hr hB (fun s h0 h=> .ini ((hs s h0).1 h)) n;obtain⟨g1,g2,g3⟩:=ybc (es0:=es) (S:=S) es (fun _ h=>h) hr _ h1 h2;have hfix:passF es (passN es B n)=passN es B n:=by
  rcases h4 with h4|h4
  ·exact h4
  ·obtain ⟨c1,c2⟩:=ydc (B:=passN es B n) (B':=passF es (passN es B n)) (y7T es _).symm fun i hi=>ybd.2 (g2 _ (by omega) (ybd.1 hi));have c3:(passF es (passN es B n)).count true≤(passF es (passN es B n)).length:=List.count_le_length;rw [y7T,h1] at c3;exact(c2 (by omega)).symm
 refine⟨h1,fun s h0=>⟨h2 s h0,fun h=>?_⟩⟩;clear h0
 induction h with
 | ini hm=>exact h3 _ (hS _ hm) ((hs _ (hS _ hm)).2 hm)
 | edge hx _ ih=>exact g3 hfix _ hx ih
theorem ycc{β:Type}{xs:List β}(f:Int×γ→Option ((Int×γ)⊕γ))(g:γ→β→γ)(I:γ→Prop)(hx:xs.length≤4294967296)(hI:∀o,I o→∀x∈xs,I (g o x))
  (step:∀j (hj:j<xs.length) (o:γ),I o→f ((j:Int),o)=some (.inl (((j+1:Nat):Int),g o xs[j]))) (last:∀o:γ,f ((xs.length:Int),o)=some (.inr o)) {out:γ} (h0:I out):iter f (0,out)=some (xs.foldl g out):=by
 obtain⟨o,ho,he⟩:=yg (f:=f) (fun j (st:Int×γ)=>st=((j:Int),(xs.take j).foldl g out)∧I ((xs.take j).foldl g out)) (fun o=>o=xs.foldl g out) xs.length 0 (by omega) (fun j st hj ⟨e1,e2⟩=>by
   subst e1;have hs:(xs.take (j+1)).foldl g out=g ((xs.take j).foldl g out) xs[j]:=by rw [yTs hj,List.foldl_append];rfl
   exact .inl ⟨_,step j hj _ e2,by rw [hs],by rw [hs];exact hI _ e2 _ (yGm hj)⟩)
  (fun st ⟨e1,_⟩=>by
   subst e1;exact⟨_,last _,by rw [List.take_length]⟩) (by omega) (0,out) ⟨rfl,h0⟩
 rw [ho,he]
def setF(S:LI)(B:List Bool):List Bool:=S.foldl (fun B s=>B.set s.toNat true) B
theorem y8y{xs:List α}{s:Int}{v:α}(h:0≤s∧s<(xs.length:Int)):upd xs s v=some (xs.set s.toNat v):=by unfold upd;rw [iP h]
theorem y4Y{xs:List Bool}{s:Int}(h:0≤s∧s<(xs.length:Int)):idx xs s=some (flg xs s):=by
 unfold idx flg;rw [iP h.1,yGd,yGe (by omega)];rfl
theorem yfz{S:LI}{n:Nat}(hS:∀s∈S,0≤s∧s<(n:Int))(hl:S.length≤4294967296){B:List Bool}(hB:B.length=n):iter (y1B S) (0,B)=some (setF S B):=by
 unfold setF;refine ycc (y1B S) _ (fun B=>B.length=n) hl (fun o h x _=>by rw [List.length_set];exact h) (fun j hj o ho=>?_) (fun o=>?_) hB
 ·have:=hS _ (yGm hj);unfold y1B;simp only [ct_lt hj,if_true,yd hj,yOb];rw [y4Y (by omega),yOb,y8y (by omega),yOb,nxt (by omega)]
 ·unfold y1B;simp
def selE(ev:LI)(es:List E3):List E3:=es.filter fun x=>ev.isEmpty||hasB ev x.2.1
theorem ygx(es:List E3):selE [] es=es:=by unfold selE;simp
theorem yfA{n:Nat}{ev:LI}(hev:ev.length≤1000000)(hr:∀x∈a.2.2.2.2,0≤x.1∧x.1<(n:Int)∧0≤x.2.2∧x.2.2<(n:Int))(hl:a.2.2.2.2.length≤4294967296){B:List Bool}(hB:B.length=n):iter (y1z a ev) (0,B)=some (passF (selE ev a.2.2.2.2) B):=by
 unfold passF selE;rw [List.foldl_filter];refine ycc (y1z a ev) _ (fun B=>B.length=n) hl (fun o h x _=>by
  split
  ·split
   ·rw [List.length_set];exact h
   ·exact h
  ·exact h) (fun j hj o ho=>?_) (fun o=>?_) hB
 ·have hx:=hr _ (yGm hj);have hc:(if ((ev.length:Int)==0)=true then some true else(ym ev a.2.2.2.2[j].2.1).bind fun r=>some r)=some (ev.isEmpty||hasB ev a.2.2.2.2[j].2.1):=by
   rw [y4w (by omega),yOb];cases ev with
   | nil=>rfl
   | cons x l=>
    have:((x::l).length:Int)≠0:=by rw [yLc];omega
    rw [iN (by simpa using this)];rfl
  unfold y1z;simp only [ct_lt hj,if_true,yd hj,yOb];rw [y4Y (by omega),yOb,hc,yOb];cases hf:flg o a.2.2.2.2[j].1 with
  | true=>
   simp only [if_true,yOb];split
   ·rw [y4Y (by omega),yOb,y8y (by omega),yOb,y1y];simp only [nxt (show j<4611686018427387904 by omega)]
   ·rw [y1y];simp only [nxt (show j<4611686018427387904 by omega)]
  | false=>
   simp only [Bool.false_eq_true,if_false,yOb,ite_self];rw [y1y];simp only [nxt (show j<4611686018427387904 by omega)]
 ·unfold y1z;simp
theorem yfB{n:Nat}{ev:LI}(hev:ev.length≤1000000)(hn:a.2.1=(n:Int))(hn1:n≤4096)(hr:∀x∈a.2.2.2.2,0≤x.1∧x.1<(n:Int)∧0≤x.2.2∧x.2.2<(n:Int))(hl:a.2.2.2.2.length≤4294967296){B:List Bool}(hB:B.length=n):iter (y1A a ev) (0,B)=some (passN (selE ev a.2.2.2.2) B n):=by
 have hlen:∀k,(passN (selE ev a.2.2.2.2) B k).length=n:=fun k=>by
  induction k with
  | zero=>exact hB
  | succ k ih=>unfold passN;rw [y7T,ih]
 obtain⟨o,ho,he⟩:=yg (f:=y1A a ev) (fun j st=>st=((j:Int),passN (selE ev a.2.2.2.2) B j)) (fun o=>o=passN (selE ev a.2.2.2.2) B n) n 0 (by omega) (fun j st hj e1=>by
   subst e1;refine .inl ⟨_,?_,rfl⟩;unfold y1A;simp only [hn,ct_lt hj,if_true];rw [yfA hev hr hl (hlen j),yOb,nxt (by omega)];rfl)
  (fun st e1=>by
   subst e1;refine⟨_,?_,rfl⟩;unfold y1A;simp [hn]) (by omega) (0,B) rfl
 rw [ho,he]
def staL(n:Nat)(q:Nat→Bool):LI:=((List.range n).filter q).map fun i:Nat=>(i:Int)
theorem y9L(n:Nat)(q:Nat→Bool):staL (n+1) q=staL n q++if q n=true then [(n:Int)] else []:=by
 unfold staL;rw [List.range_succ,List.filter_append,List.map_append];congr 1;rw [List.filter_cons];split <;> rfl
theorem y5u(n:Nat)(q:Nat→Bool):(staL n q).length≤n:=by
 unfold staL;rw [yLm];exact Nat.le_trans (List.length_filter_le _ _) (by simp)
theorem yfC{B:List Bool}(hB:B.length≤4096):iter (y1x B) (0,([]:LI))=some (staL B.length fun i=>flg B (i:Int)):=by
 obtain⟨o,ho,he⟩:=yg (f:=y1x B) (fun j st=>st=((j:Int),staL j fun i=>flg B (i:Int))) (fun o=>o=staL B.length fun i=>flg B (i:Int)) B.length 0 (by omega) (fun j st hj e1=>by
   subst e1;refine .inl ⟨_,?_,rfl⟩;have hl:=y5u j fun i=>flg B (i:Int);unfold y1x;simp only [ct_lt hj,if_true];rw [y4Y (by omega),yOb,y9L];split
   ·rw [yD (by simp;omega),yOb,y2E];simp only [nxt (show j<4611686018427387904 by omega)]
   ·rw [y2E,List.append_nil];simp only [nxt (show j<4611686018427387904 by omega)])
  (fun st e1=>by
   subst e1;refine⟨_,?_,rfl⟩;unfold y1x;simp) (by omega) (0,[]) rfl
 rw [ho,he]
theorem ycd{n:Nat}:∀(S:LI),(∀s∈S,0≤s∧s<(n:Int))→∀B:List Bool,B.length=n→(setF S B).length=n∧∀s,0≤s→(flg (setF S B) s=true↔s∈S∨flg B s=true)
 | [],_,B,hB=>⟨hB,fun s _=>by simp [setF]⟩
 | x::S,hS,B,hB=>by
  have hx:=hS x (.head _);obtain⟨h1,h2⟩:=ycd S (fun s hs=>hS s (.tail _ hs)) (B.set x.toNat true) (by rw [List.length_set];exact hB);refine⟨h1,fun s h0=>?_⟩;show flg (setF S (B.set x.toNat true)) s=true↔_;rw [h2 s h0,y7u h0 hx.1 (by omega),yMo];by_cases e:s=x
  ·subst e;simp
  ·rw [iN e];constructor
   ·rintro (h|h)
    ·exact .inl (.inr h)
    ·exact .inr h
   ·rintro ((h|h)|h)
    ·exact absurd h e
    ·exact .inl h
    ·exact .inr h
theorem yfD(ha:NdOk a){S ev:LI}(hev:ev.length≤1000000)(hS:∀s∈S,0≤s∧s<a.2.1)(hl:S.length≤4294967296):∃q:Nat→Bool,y1k a S ev=some (staL a.2.1.toNat q)∧∀i:Nat,i<a.2.1.toNat→(q i=true↔Rc3 (selE ev a.2.2.2.2) S (i:Int)):=by
 obtain⟨n,hn⟩:∃n:Nat,a.2.1=(n:Int):=⟨a.2.1.toNat,by have:=ha.n0;omega⟩;have hn1:=ha.n1;have hle:=ha.le;rw [hn] at hS;have hr:∀x∈a.2.2.2.2,0≤x.1∧x.1<(n:Int)∧0≤x.2.2∧x.2.2<(n:Int):=fun x hx=>by
  have:=ha.esr x hx;omega
 have h0:(List.replicate n false).length=n:=List.length_replicate ..;obtain⟨h1,h2⟩:=ycd S hS _ h0;obtain⟨g1,g2⟩:=ygw (es:=selE ev a.2.2.2.2) (S:=S) (fun x hx=>hr x (List.mem_filter.1 hx).1) h1 (fun s hs=>by
  rw [h2 s hs];have:flg (List.replicate n false) s=false:=by
   unfold flg;rw [yGd,List.getElem?_replicate];split <;> rfl
  simp [this]) fun s hs=>(hS s hs).1
 refine⟨fun i=>flg (passN (selE ev a.2.2.2.2) (setF S (List.replicate n false)) n) (i:Int),?_,fun i _=>g2 _ (by omega)⟩;have hm:mkL a.2.1 false=some (List.replicate n false):=by unfold mkL;rw [hn,iP (by omega)];rfl
 have h3:=yfC (B:=passN (selE ev a.2.2.2.2) (setF S (List.replicate n false)) n) (by omega);rw [g1] at h3;rw [y1k,hm,yOb,yfz hS hl h0,yOb,yfB hev hn (by omega) hr (by omega) h1,yOb,h3,yOb,hn,yTn]
theorem yce(ha:NdOk a){S:LI}(hS:∀s∈S,0≤s∧s<a.2.1)(hl:S.length≤4294967296):∃q:Nat→Bool,y1k a S []=some (staL a.2.1.toNat q)∧∀i:Nat,i<a.2.1.toNat→(q i=true↔Rc3 a.2.2.2.2 S (i:Int)):=by
 have:=yfD ha (ev:=[]) (by simp) hS hl;rwa [ygx] at this
theorem yhq{xs:LI}{p:Int→Option Bool}{g:Int→Bool}(hl:xs.length≤1000000)(hp:∀x∈xs,p x=some (g x)):y2G xs p=some (xs.any g):=by
 obtain⟨o,h1,h2⟩:=yg (f:=y2F xs p) (fun i s=>s=(i:Int)∧xs.any g=(xs.drop i).any g) (fun o=>(o= .inl ()∧xs.any g=false)∨∃i:Nat,o= .inr (i:Int)∧xs.any g=true) xs.length 0 (by omega) (fun i s hi ⟨e1,e2⟩=>by
  subst e1;rw [yDc hi,List.any_cons] at e2;rw [y2F,iP (ct_lt hi),yd hi,yOb,hp _ (yGm hi),yOb];cases hg:g xs[i] with
  | true=>
   rw [hg] at e2;exact .inr ⟨_,by rw [iP rfl],.inr ⟨i,rfl,e2⟩⟩
  | false=>
   rw [hg] at e2;exact .inl ⟨_,by rw [iN (by simp),nxt (by omega)],rfl,e2⟩) (fun s ⟨e1,e2⟩=>by
  subst e1;rw [List.drop_length] at e2;exact⟨_,by rw [y2F,iN ct_ge],.inl ⟨rfl,e2⟩⟩) (yZl _) 0 ⟨rfl,rfl⟩
 rw [y2G,y5p,h1,yOb];rcases h2 with ⟨rfl,e⟩|⟨i,rfl,e⟩
 ·rw [e];rfl
 ·rw [e];show some (decide ((i:Int)≥0))=some true;simp
theorem y6b{n:Nat}{q:Nat→Bool}{x:Int}:x∈staL n q↔ ∃i:Nat,x=i∧i<n∧q i=true:=by
 unfold staL;simp only [yMp,List.mem_filter,List.mem_range];constructor
 ·rintro ⟨i,⟨h1,h2⟩,rfl⟩;exact⟨i,rfl,h1,h2⟩
 ·rintro ⟨i,rfl,h1,h2⟩;exact⟨i,⟨h1,h2⟩,rfl⟩
noncomputable def goodB(a:NdT)(s:Int):Bool:=@decide (∃t∈a.2.2.2.1,Rc3 a.2.2.2.2 [s] t) (Classical.propDecidable _)
theorem ygy(ha:NdOk a):∃q:Nat→Bool,(∀i:Nat,i<a.2.1.toNat→(q i=true↔Rc3 a.2.2.2.2 a.2.2.1 (i:Int)))∧y4m a=some ((staL a.2.1.toNat q).filter fun s=>!goodB a s):=by
 have hn1:=ha.n1;have hlm:=ha.lm;obtain⟨q,h1,h2⟩:=yce ha (S:=a.2.2.1) ha.inr (by have:=ha.li;omega);refine⟨q,h2,?_⟩;have hlen:=y5u a.2.1.toNat q;have hg:∀s:Int,0≤s→s<a.2.1→∃l,y1k a [s] []=some l∧y2G l (y3V a)=some (goodB a s):=fun s hs0 hs1=>by
  obtain⟨r,k1,k2⟩:=yce ha (S:=[s]) (fun x hx=>by rw [yMs.1 hx];exact⟨hs0,hs1⟩) (by simp);refine⟨_,k1,?_⟩;have hl2:=y5u a.2.1.toNat r;rw [yhq (g:=hasB a.2.2.2.1) (by omega) (fun x _=>by rw [y3V,y4w (by omega)];rfl)];congr 1;rw [Bool.eq_iff_iff,List.any_eq_true];unfold goodB;rw [@decide_eq_true_iff _ (Classical.propDecidable _)];constructor
  ·rintro ⟨t,ht,hm⟩;obtain⟨i,rfl,hi,hr⟩:=y6b.1 ht;exact⟨_,yo.1 hm,(k2 i hi).1 hr⟩
  ·rintro ⟨t,hm,hr⟩;have:=ha.mkr t hm;refine⟨t,y6b.2 ⟨t.toNat,by omega,by omega,(k2 _ (by omega)).2 ?_⟩,yo.2 hm⟩;rwa [show ((t.toNat:Nat):Int)=t by omega]
 have hf:∀(xs out:LI),xs.foldl (fun out x=>if(!goodB a x)=true then out++[x] else out) out=out++xs.filter fun s=>!goodB a s:=by
  intro xs
  induction xs with
  | nil=>intro out;simp
  | cons x xs ih=>
   intro out;rw [List.foldl_cons,ih];cases h:!goodB a x <;> simp [h]
 have hloop:iter (y1Q a (staL a.2.1.toNat q)) (0,([]:LI))=some ((staL a.2.1.toNat q).foldl (fun out x=>if(!goodB a x)=true then out++[x] else out) []):=by
  obtain⟨o,ho,he⟩:=yg (f:=y1Q a (staL a.2.1.toNat q)) (fun j st=>st=((j:Int),((staL a.2.1.toNat q).take j).foldl (fun out x=>if(!goodB a x)=true then out++[x] else out) [])) (fun o=>o=(staL a.2.1.toNat q).foldl (fun out x=>if(!goodB a x)=true then out++[x] else out) []) (staL a.2.1.toNat q).length 0 (by omega) (fun j st hj e1=>by
    subst e1;refine .inl ⟨_,?_,rfl⟩;obtain⟨i,hi,hin,_⟩:=y6b.1 (yGm hj);obtain⟨l,m1,m2⟩:=hg (staL a.2.1.toNat q)[j] (by omega) (by omega);have hb:(((staL a.2.1.toNat q).take j).foldl (fun out x=>if(!goodB a x)=true then out++[x] else out) []).length≤j:=by
     rw [hf,List.nil_append];exact Nat.le_trans (List.length_filter_le _ _) (by rw [yLt];omega)
    rw [yTs hj,List.foldl_append];unfold y1Q;simp only [ct_lt hj,if_true,yd hj,yOb,m1,m2,List.foldl_cons,List.foldl_nil];split
    ·rw [yD (by rw [List.length_singleton];omega),yOb,y2S];simp only [nxt (show j<4611686018427387904 by omega)]
    ·rw [y2S];simp only [nxt (show j<4611686018427387904 by omega)])
   (fun st e1=>by
    subst e1;refine⟨(staL a.2.1.toNat q).foldl (fun out x=>if(!goodB a x)=true then out++[x] else out) [],?_,rfl⟩;rw [List.take_length];unfold y1Q;simp) (by omega) (0,[]) rfl
  rw [ho,he]
 rw [y4m,h1,yOb,hloop,yOb,hf,List.nil_append]
def frm(bk:Bool)(x:E3):Int:=if bk=true then x.2.2 else x.1
def tow(bk:Bool)(x:E3):Int:=if bk=true then x.1 else x.2.2
def nxF(bk:Bool)(N:List LI)(x:E3):List LI:=N.set (frm bk x).toNat (N.getD (frm bk x).toNat []++[tow bk x])
theorem yfE(ha:NdOk a)(bk:Bool){n:Nat}(hn:a.2.1=(n:Int)):iter (y2b a bk) (0,List.replicate n ([]:LI))=some (a.2.2.2.2.foldl (nxF bk) (List.replicate n [])):=by
 have hle:=ha.le;obtain⟨o,ho,he⟩:=yg (f:=y2b a bk) (fun j st=>st=((j:Int),(a.2.2.2.2.take j).foldl (nxF bk) (List.replicate n []))∧st.2.length=n∧∀i:Nat,(st.2.getD i []).length≤j) (fun o=>o=a.2.2.2.2.foldl (nxF bk) (List.replicate n [])) a.2.2.2.2.length 0 (by omega) (fun j st hj ⟨e1,e2,e3⟩=>by
   obtain⟨g1,g2,g3,g4,_⟩:=ha.esr _ (yGm hj);have hf:0≤frm bk a.2.2.2.2[j]∧frm bk a.2.2.2.2[j]<(n:Int):=by
    unfold frm;split <;> omega
   have hs:(a.2.2.2.2.take (j+1)).foldl (nxF bk) (List.replicate n [])=nxF bk ((a.2.2.2.2.take j).foldl (nxF bk) (List.replicate n [])) a.2.2.2.2[j]:=by rw [yTs hj,List.foldl_append];rfl
   obtain⟨s1,N⟩:=st;obtain⟨e0,e1'⟩:=Prod.mk.inj e1;dsimp only at e2 e3;rw [←e1'] at hs;subst e0;have hj1:y2a ((j:Int),N) (frm bk a.2.2.2.2[j]) (tow bk a.2.2.2.2[j])=some (.inl (((j+1:Nat):Int),nxF bk N a.2.2.2.2[j])):=by
    have hidx:idx N (frm bk a.2.2.2.2[j])=some (N.getD (frm bk a.2.2.2.2[j]).toNat []):=by
     unfold idx;rw [iP hf.1,yGd,yGe (by omega)];rfl
    have hb:=e3 (frm bk a.2.2.2.2[j]).toNat;rw [y2a];simp only;rw [hidx,yOb,yD (by rw [List.length_singleton];omega),yOb,yOb,y8y (by omega),yOb,nxt (by omega)];rfl
   refine .inl ⟨(((j+1:Nat):Int),nxF bk N a.2.2.2.2[j]),?_,by rw [hs],by unfold nxF;rw [List.length_set];exact e2,fun i=>?_⟩
   ·unfold y2b;simp only [ct_lt hj,if_true,yd hj,yOb];rw [←hj1];unfold frm tow;cases bk <;> rfl
   ·have h1:=e3 i;have h2:=e3 (frm bk a.2.2.2.2[j]).toNat;unfold nxF;dsimp only;rw [yGd,List.getElem?_set];split
    ·split
     ·rw [Option.getD_some,yLa,List.length_singleton];omega
     ·rw [Option.getD_none,List.length_nil];omega
    ·rw [←yGd];omega)
  (fun st ⟨e1,_,_⟩=>by
   subst e1;refine⟨a.2.2.2.2.foldl (nxF bk) (List.replicate n []),?_,rfl⟩;rw [List.take_length];unfold y2b;simp) (by omega) (0,List.replicate n []) ⟨rfl,List.length_replicate ..,fun i=>by
    rw [yGd,List.getElem?_replicate];split <;> simp⟩
 rw [ho,he]
theorem ybI(bk:Bool){n:Nat}:∀(es:List E3),(∀x∈es,0≤frm bk x∧frm bk x<(n:Int))→∀N:List LI,N.length=n→
  (es.foldl (nxF bk) N).length=n∧∀(i:Nat) (t:Int),t∈(es.foldl (nxF bk) N).getD i []↔t∈N.getD i []∨∃x∈es,frm bk x=(i:Int)∧tow bk x=t
 | [],_,N,hN=>⟨hN,fun i t=>by simp⟩
 | x::es,hr,N,hN=>by
  have hx:=hr x (.head _);obtain⟨h1,h2⟩:=ybI bk es (fun y hy=>hr y (.tail _ hy)) (nxF bk N x) (by unfold nxF;rw [List.length_set];exact hN);refine⟨h1,fun i t=>?_⟩;rw [List.foldl_cons,h2];have h3:t∈(nxF bk N x).getD i []↔t∈N.getD i []∨(frm bk x=(i:Int)∧tow bk x=t):=by
   unfold nxF;rw [yGd,List.getElem?_set];by_cases e:(frm bk x).toNat=i
   ·rw [iP e,iP (by omega),Option.getD_some,e,yMa,yMs];constructor
    ·rintro (h|h)
     ·exact .inl h
     ·exact .inr ⟨by omega,h.symm⟩
    ·rintro (h|⟨_,h⟩)
     ·exact .inl h
     ·exact .inr h.symm
   ·rw [iN e,←yGd];constructor
    ·exact .inl
    ·rintro (h|⟨h,_⟩)
     ·exact h
     ·omega
  rw [h3];constructor
  ·rintro ((h|h)|⟨y,hy,h⟩)
   ·exact .inl h
   ·exact .inr ⟨x,.head _,h⟩
   ·exact .inr ⟨y,.tail _ hy,h⟩
  ·rintro (h|⟨y,hy,h⟩)
   ·exact .inl (.inl h)
   ·rcases yMo.1 hy with rfl|hy
    ·exact .inl (.inr h)
    ·exact .inr ⟨y,hy,h⟩
inductive RcL (lead:Int→LI) (S:LI):Int→Prop
 | ini {s:Int}:s∈S→RcL lead S s
 | step {s t:Int}:RcL lead S s→t∈lead s→RcL lead S t
def potS(lead:Int→LI)(B:List Bool):Nat→Nat
 | 0=>0
 | k+1=>potS lead B k+if flg B (k:Int)=true then 0 else(lead (k:Int)).length
theorem ydd{lead:Int→LI}{B:List Bool}{x:Nat}(hx:x<B.length)(hf:flg B (x:Int)=false):∀k:Nat,potS lead (B.set x true) k+(if x<k then(lead (x:Int)).length else 0)=potS lead B k
 | 0=>rfl
 | k+1=>by
  have ih:=ydd (lead:=lead) hx hf k;have e:=y7u (B:=B) (s:=(k:Int)) (t:=(x:Int)) (by omega) (by omega) (by omega);rw [yTn] at e;show potS lead (B.set x true) k+(if flg (B.set x true) (k:Int)=true then 0 else(lead (k:Int)).length)+(if x<k+1 then(lead (x:Int)).length else 0)=potS lead B k+if flg B (k:Int)=true then 0 else(lead (k:Int)).length
  by_cases h1:k=x
  ·subst h1;rw [iN (Nat.lt_irrefl _)] at ih;rw [e,iP rfl,iP rfl,iP (Nat.lt_succ_self _),hf,iN (by simp)];omega
  ·rw [iN (by omega)] at e;rw [e];by_cases h2:x<k
   ·rw [iP h2] at ih;rw [iP (show x<k+1 by omega)];omega
   ·rw [iN h2] at ih;rw [iN (show ¬x<k+1 by omega)];omega
theorem ye7{lead:Int→LI}{B:List Bool}{M:Nat}:∀k:Nat,(∀i:Nat,i<k→(lead (i:Int)).length≤M)→potS lead B k≤k*M
 | 0,_=>by simp [potS]
 | k+1,h=>by
  have ih:=ye7 (B:=B) k fun i hi=>h i (by omega);have:=h k (by omega);rw [Nat.add_mul,Nat.one_mul];unfold potS;split <;> omega
structure SrI (lead:Int→LI) (S:LI) (n:Nat) (B:List Bool) (todo:LI):Prop where
 len:B.length=n
 rng:∀x∈todo,0≤x∧x<(n:Int)
 rc:∀x∈todo,RcL lead S x
 fl:∀s,0≤s→flg B s=true→RcL lead S s
 nx:∀s,0≤s→flg B s=true→∀t∈lead s,flg B t=true∨t∈todo
 st:∀s∈S,flg B s=true∨s∈todo
theorem yae{σ ο:Type}{f:σ→Option (σ⊕ο)}(mk:List Bool→LI→σ)(out:List Bool→ο){lead:Int→LI}{S:LI}{n M:Nat}(hn:n≤4096)(hM:M≤65536)(hSl:S.length≤300000000)(hS:∀s∈S,0≤s∧s<(n:Int))
  (hl:∀s,0≤s→s<(n:Int)→(lead s).length≤M∧∀t∈lead s,0≤t∧t<(n:Int))
  (s1:∀B todo x,B.length=n→0≤x→x<(n:Int)→todo.length≤600000000→flg B x=true→f (mk B (todo++[x]))=some (.inl (mk B todo)))
  (s2:∀B todo x,B.length=n→0≤x→x<(n:Int)→todo.length+(lead x).length≤600000000→flg B x=false→f (mk B (todo++[x]))=some (.inl (mk (B.set x.toNat true) (todo++lead x))))
  (s3:∀B,f (mk B [])=some (.inr (out B))):
  ∃B,iter f (mk (List.replicate n false) S)=some (out B)∧B.length=n∧∀s,0≤s→(flg B s=true↔RcL lead S s):=by
 have hf0:∀s,flg (List.replicate n false) s=false:=fun s=>by
  unfold flg;rw [yGd,List.getElem?_replicate];split <;> rfl
 have hp0:potS lead (List.replicate n false) n≤4096*65536:=Nat.le_trans (ye7 (M:=M) n fun i hi=>(hl _ (by omega) (by omega)).1) (Nat.mul_le_mul hn hM);obtain⟨o,h1,B,rfl,h2,h3⟩:=yg (f:=f) (fun i s=>∃B todo,s=mk B todo∧SrI lead S n B todo∧i+todo.length+potS lead B n≤600000000) (fun o=>∃B,o=out B∧B.length=n∧∀s,0≤s→(flg B s=true↔RcL lead S s)) 600000001 0 (by omega) (fun i s _ ⟨B,todo,e1,hI,hm⟩=>by
   subst e1;rcases List.eq_nil_or_concat todo with rfl|⟨td,x,rfl⟩
   ·refine .inr ⟨_,s3 B,B,rfl,hI.len,fun s hs=>⟨hI.fl s hs,fun h=>?_⟩⟩;clear hs
    induction h with
    | ini h=>exact(hI.st _ h).resolve_right (by simp)
    | step hr h ih=>
     have h0:∀{s:Int},RcL lead S s→0≤s∧s<(n:Int):=fun h=>by
      clear ih
      induction h with
      | ini h=>exact hS _ h
      | step _ h ih=>exact(hl _ ih.1 ih.2).2 _ h
     exact(hI.nx _ (h0 hr).1 ih _ h).resolve_right (by simp)
   ·rw [List.concat_eq_append] at hI hm ⊢;have hx:=hI.rng x (by simp);rw [yLa,List.length_singleton] at hm;left;cases hf:flg B x with
    | true=>
     refine⟨_,s1 B td x hI.len hx.1 hx.2 (by omega) hf,B,td,rfl,⟨hI.len,fun y hy=>hI.rng y (by simp [hy]),fun y hy=>hI.rc y (by simp [hy]),hI.fl,fun s hs hb t ht=>?_,fun s hs=>?_⟩,by omega⟩
     ·rcases hI.nx s hs hb t ht with h|h
      ·exact .inl h
      ·rcases yMa.1 h with h|h
       ·exact .inr h
       ·rw [yMs.1 h];exact .inl hf
     ·rcases hI.st s hs with h|h
      ·exact .inl h
      ·rcases yMa.1 h with h|h
       ·exact .inr h
       ·rw [yMs.1 h];exact .inl hf
    | false=>
     obtain⟨k,rfl⟩:∃k:Nat,x=(k:Int):=⟨x.toNat,by omega⟩;have hk:k<B.length:=by have:=hI.len;omega
     have hp:=ydd (lead:=lead) hk hf n;rw [iP (by omega)] at hp;have hrx:=hI.rc _ (yMr td (yMs.2 rfl));have hfs:∀s,0≤s→flg (B.set k true) s=if s=(k:Int) then true else flg B s:=fun s hs=>by
      have e:=y7u (B:=B) (t:=(k:Int)) hs (by omega) (by omega);rwa [yTn] at e
     have hms:i+1+(td++lead k).length+potS lead (B.set k true) n≤600000000:=by rw [yLa];omega
     refine⟨_,s2 B td k hI.len hx.1 hx.2 (by rw [yLa] at hms;omega) hf,B.set k true,td++lead k,rfl,⟨by rw [List.length_set];exact hI.len,fun y hy=>?_,fun y hy=>?_,fun s hs h=>?_,fun s hs hb t ht=>?_,fun s hs=>?_⟩,hms⟩
     ·rcases yMa.1 hy with hy|hy
      ·exact hI.rng y (by simp [hy])
      ·exact (hl _ hx.1 hx.2).2 y hy
     ·rcases yMa.1 hy with hy|hy
      ·exact hI.rc y (by simp [hy])
      ·exact .step hrx hy
     ·rw [hfs s hs] at h;split at h
      ·rename_i e;rw [e];exact hrx
      ·exact hI.fl s hs h
     ·rw [hfs s hs] at hb;have key:∀{t:Int},0≤t→flg B t=true∨t∈td++[(k:Int)]→flg (B.set k true) t=true∨t∈td++lead k:=fun {t} h0 h=>by
       rw [hfs t h0];rcases h with h|h
       ·left;split
        ·rfl
        ·exact h
       ·rcases yMa.1 h with h|h
        ·exact .inr (yMl _ h)
        ·rw [yMs.1 h,iP rfl];exact .inl rfl
      split at hb
      ·rename_i e;rw [e] at ht;exact .inr (yMr _ ht)
      ·rcases hI.nx s hs hb t ht with h|h
       ·by_cases h0:0≤t
        ·exact key h0 (.inl h)
        ·exfalso;have hs2:s<(n:Int):=by
          rcases Int.lt_or_le s n with h|h
          ·exact h
          ·exfalso;unfold flg at hb;rw [yGd,yGn (by have:=hI.len;omega)] at hb;simp at hb
         have:=(hl s hs hs2).2 t ht;omega
       ·exact key (hI.rng t h).1 (.inr h)
     ·have h0:=hS s hs;rw [hfs s h0.1];rcases hI.st s hs with h|h
      ·left;split
       ·rfl
       ·exact h
      ·rcases yMa.1 h with h|h
       ·exact .inr (yMl _ h)
       ·rw [yMs.1 h,iP rfl];exact .inl rfl)
  (fun s ⟨B,todo,_,_,hm⟩=>by omega) (by omega) _ ⟨_,S,rfl,⟨List.length_replicate ..,hS,fun x hx=> .ini hx,fun s _ h=>by rw [hf0 s] at h;simp at h,fun s _ h=>by rw [hf0 s] at h;simp at h,fun s hs=> .inr hs⟩,by omega⟩
 exact⟨B,h1,h2,h3⟩
theorem y9X{x:α}(h:td.length≤4294967296):idx (td++[x]) (W (((td++[x]).length:Int)-1))=some x:=by
 have e:(((td++[x]).length:Int)-1)=(td.length:Int):=by rw [yLa,List.length_singleton];omega
 rw [e,W_nat (by omega),yd (by simp)];simp
theorem y9Y{x:α}(h:td.length≤4294967296):slc (td++[x]) 0 (W (((td++[x]).length:Int)-1))=some td:=by
 have e:(((td++[x]).length:Int)-1)=(td.length:Int):=by rw [yLa,List.length_singleton];omega
 have:=y9F (xs:=td++[x]) (i:=0) (j:=td.length) (by omega) (by simp);rw [e,W_nat (by omega)];rw [show (0:Int)=((0:Nat):Int) from rfl,this];simp
theorem y9Z{x:α}:decide (((td++[x]).length:Int)>0)=true:=by simp
def rowsN(bk:Bool)(n:Nat)(es:List E3):List LI:=es.foldl (nxF bk) (List.replicate n [])
def ledN(bk:Bool)(n:Nat)(es:List E3)(s:Int):LI:=(rowsN bk n es).getD s.toNat []
theorem ybf(bk:Bool):∀(es:List E3) (N:List LI) (i:Nat),((es.foldl (nxF bk) N).getD i []).length≤(N.getD i []).length+es.length
 | [],N,i=>yNr _
 | x::es,N,i=>by
  have h:=ybf bk es (nxF bk N x) i;rw [List.foldl_cons,yLc];have h2:((nxF bk N x).getD i []).length≤(N.getD i []).length+1:=by
   unfold nxF;rw [yGd,List.getElem?_set];split
   ·rename_i e;split
    ·rw [Option.getD_some,yLa,e];simp
    ·rw [Option.getD_none];simp
   ·rw [yGd];omega
  omega
theorem y7v(ha:NdOk a){bk:Bool}{s t:Int}(hs:0≤s):t∈ledN bk a.2.1.toNat a.2.2.2.2 s↔ ∃x∈a.2.2.2.2,frm bk x=s∧tow bk x=t:=by
 have h0:=ha.n0;obtain⟨_,h2⟩:=ybI bk (n:=a.2.1.toNat) a.2.2.2.2 (fun x hx=>by
  have:=ha.esr x hx;unfold frm;split <;> omega) (List.replicate a.2.1.toNat []) (List.length_replicate ..)
 unfold ledN rowsN;rw [h2];have:t∉(List.replicate a.2.1.toNat ([]:LI)).getD s.toNat []:=by
  rw [yGd,List.getElem?_replicate];split <;> simp
 simp only [this,false_or];rw [show ((s.toNat:Nat):Int)=s by omega]
theorem ycf(ha:NdOk a){S:LI}(hS:∀s∈S,0≤s∧s<a.2.1)(hl:S.length≤1000000)(bk:Bool):
  ∃B,y2Q a S bk=some B∧B.length=a.2.1.toNat∧∀s,0≤s→(flg B s=true↔RcL (ledN bk a.2.1.toNat a.2.2.2.2) S s):=by
 have h0:=ha.n0;have h1:=ha.n1;have hle:=ha.le;obtain⟨n,hn⟩:∃n:Nat,a.2.1=(n:Int):=⟨a.2.1.toNat,by omega⟩;have hnn:a.2.1.toNat=n:=by omega
 have hl1:=yfE ha bk hn;have hrl:=(ybI bk (n:=n) a.2.2.2.2 (fun x hx=>by
  have:=ha.esr x hx;unfold frm;split <;> omega) (List.replicate n []) (List.length_replicate ..)).1
 have hled:∀s,0≤s→s<(n:Int)→idx (rowsN bk n a.2.2.2.2) s=some (ledN bk n a.2.2.2.2 s):=fun s hs hs2=>by
  unfold idx ledN;rw [iP hs,yGd,yGe (by unfold rowsN;omega)];rfl
 have hml:=fun s t=>y7v ha (bk:=bk) (s:=s) (t:=t);rw [hnn] at hml;rw [hnn];obtain⟨B,k1,k2,k3⟩:=yae (f:=y1c (rowsN bk n a.2.2.2.2)) (fun B todo=>(todo,B)) (fun B=>B) (lead:=ledN bk n a.2.2.2.2) (S:=S) (n:=n) (M:=65536) (by omega) (yNr _) (by omega) (fun s hs=>by have:=hS s hs;omega) (fun s hs hs2=>⟨by
   have:=ybf bk a.2.2.2.2 (List.replicate n []) s.toNat;have e:((List.replicate n ([]:LI)).getD s.toNat []).length=0:=by
    rw [yGd,List.getElem?_replicate];split <;> simp
   unfold ledN rowsN;omega,fun t ht=>by
   obtain⟨x,hx,_,rfl⟩:=(hml s t hs).1 ht;have:=ha.esr x hx;unfold tow;split <;> omega⟩)
  (fun B td x hB hx0 hx1 htd hf=>by
   unfold y1c;simp only [y9Z,if_true];rw [y9X (by omega),yOb,y9Y (by omega),yOb,y4Y (by omega),yOb,hf];simp)
  (fun B td x hB hx0 hx1 htd hf=>by
   unfold y1c;simp only [y9Z,if_true];rw [y9X (by omega),yOb,y9Y (by omega),yOb,y4Y (by omega),yOb,hf];simp only [Bool.not_false,if_true,yOb];rw [y8y (by omega),yOb,hled x hx0 hx1,yOb,yD (by omega),yOb])
  (fun B=>by
   unfold y1c;simp)
 refine⟨B,?_,k2,k3⟩;have hm:mkL a.2.1 ([]:LI)=some (List.replicate n []):=by unfold mkL;rw [hn,iP (by omega)];rfl
 have hm2:mkL a.2.1 false=some (List.replicate n false):=by unfold mkL;rw [hn,iP (by omega)];rfl
 rw [y2Q,hm,yOb,hl1,yOb,hm2,yOb,yaA (by omega),yOb];show(iter (y1c (rowsN bk n a.2.2.2.2)) (S,List.replicate n false)).bind _=_;rw [k1];rfl
theorem yhr(ha:NdOk a){S:LI}(hS:∀s∈S,0≤s){t:Int}:RcL (ledN false a.2.1.toNat a.2.2.2.2) S t↔Rc3 a.2.2.2.2 S t:=by
 constructor
 ·intro h
  suffices g:0≤t∧Rc3 a.2.2.2.2 S t from g.2
  induction h with
  | ini h=>exact⟨hS _ h,.ini h⟩
  | step _ h ih=>
   obtain⟨x,hx,h1,h2⟩:=(y7v ha ih.1).1 h;have:=ha.esr x hx;simp only [frm,tow,Bool.false_eq_true,if_false] at h1 h2;subst h2;exact⟨this.2.2.1,.edge hx (h1▸ih.2)⟩
 ·intro h
  induction h with
  | ini h=>exact .ini h
  | edge hx _ ih=>exact .step ih ((y7v ha (ha.esr _ hx).1).2 ⟨_,hx,rfl,rfl⟩)
theorem yhs(ha:NdOk a){S:LI}(hS:∀s∈S,0≤s){s:Int}:RcL (ledN true a.2.1.toNat a.2.2.2.2) S s↔ ∃t∈S,Star (ltsN a).nxt1 s t:=by
 constructor
 ·intro h
  suffices g:0≤s∧∃t∈S,Star (ltsN a).nxt1 s t from g.2
  induction h with
  | ini h=>exact⟨hS _ h,_,h,.refl _⟩
  | step _ h ih=>
   obtain⟨x,hx,h1,h2⟩:=(y7v ha ih.1).1 h;have:=ha.esr x hx;simp only [frm,tow,if_true] at h1 h2;subst h2;obtain⟨t,ht,g⟩:=ih.2;rw [←h1] at g;exact⟨this.1,t,ht,Star.head ⟨_,hx⟩ g⟩
 ·rintro ⟨t,ht,h⟩;have key:∀{s u:Int},Star (ltsN a).nxt1 s u→RcL (ledN true a.2.1.toNat a.2.2.2.2) S u→RcL (ledN true a.2.1.toNat a.2.2.2.2) S s:=fun {s u} h=>by
   induction h with
   | refl=>exact id
   | tail _ g ih=>
    intro hr;obtain⟨e,g⟩:=g;exact ih (.step hr ((y7v ha (ha.esr _ g).2.2.1).2 ⟨_,g,rfl,rfl⟩))
  exact key h (.ini ht)
theorem yeD(ha:NdOk a){q:Nat→Bool}(hq:∀i:Nat,i<a.2.1.toNat→(q i=true↔Rc3 a.2.2.2.2 a.2.2.1 (i:Int))):y1E a=some ((staL a.2.1.toNat q).filter fun s=>!goodB a s):=by
 have h0:=ha.n0;have h1:=ha.n1;have hli:=ha.li;have hlm:=ha.lm;obtain⟨B,e1,l1,f1⟩:=ycf ha ha.inr hli false;obtain⟨C,e2,l2,f2⟩:=ycf ha ha.mkr hlm true;obtain⟨n,hn⟩:∃n:Nat,a.2.1=(n:Int):=⟨a.2.1.toNat,by omega⟩;have hnn:a.2.1.toNat=n:=by omega
 have hb:∀i:Nat,i<n→flg B (i:Int)=q i∧flg C (i:Int)=goodB a (i:Int):=fun i hi=>by
  constructor
  ·rw [Bool.eq_iff_iff,f1 _ (by omega),yhr ha (fun s hs=>(ha.inr s hs).1),hq i (by omega)]
  ·rw [Bool.eq_iff_iff,f2 _ (by omega),yhs ha (fun s hs=>(ha.mkr s hs).1)];unfold goodB;rw [@decide_eq_true_iff _ (Classical.propDecidable _)];constructor
   ·rintro ⟨t,ht,h⟩;refine⟨t,ht,?_⟩;clear ht
    induction h with
    | refl=>exact .ini (yMs.2 rfl)
    | tail _ g ih=>obtain⟨e,g⟩:=g;exact .edge (x:=(_,e,_)) g ih
   ·rintro ⟨t,ht,h⟩;refine⟨t,ht,?_⟩;clear ht
    induction h with
    | ini h=>rw [yMs.1 h];exact .refl _
    | edge hx _ ih=>exact ih.tail ⟨_,hx⟩
 have hf:∀j:Nat,(staL (j+1) q).filter (fun s=>!goodB a s)=(staL j q).filter (fun s=>!goodB a s)++if(q j && !goodB a (j:Int))=true then [(j:Int)] else []:=fun j=>by
  rw [y9L,List.filter_append];congr 1;cases q j <;> cases h:goodB a (j:Int) <;> simp [h]
 have hlen:∀j:Nat,((staL j q).filter fun s=>!goodB a s).length≤j:=fun j=>Nat.le_trans (List.length_filter_le _ _) (y5u j q);rw [hnn] at l1 l2;have hloop:iter (y1O a B C) (0,([]:LI))=some ((staL n q).filter fun s=>!goodB a s):=by
  obtain⟨o,ho,he⟩:=yg (f:=y1O a B C) (fun j st=>st=((j:Int),(staL j q).filter fun s=>!goodB a s)) (fun o=>o=(staL n q).filter fun s=>!goodB a s) n 0 (by omega) (fun j st hj e0=>by
    subst e0;refine .inl ⟨_,?_,rfl⟩;obtain⟨b1,b2⟩:=hb j hj;have hj2:=hlen j;unfold y1O;simp only [hn,ct_lt hj,if_true];rw [y4Y (by omega),yOb,y4Y (by omega),b1,b2,hf];cases hq2:q j <;> cases hg:goodB a (j:Int) <;> simp only [hq2,hg,Bool.false_eq_true,if_false,if_true,yOb,Bool.not_true,Bool.not_false,Bool.and_self,Bool.and_true,Bool.and_false,List.append_nil]
    all_goals first
     | (rw [y1N,nxt (by omega)])
     | (rw [yD (by rw [List.length_singleton];omega),yOb,y1N,nxt (by omega)]))
   (fun st e0=>by
    subst e0;refine⟨_,?_,rfl⟩;unfold y1O;simp [hn]) (by omega) (0,[]) rfl
  rw [ho,he]
 rw [y1E,e1,yOb,e2,yOb,hloop,yOb,hnn]
end
section
section
variable{κ:Type}[BEq κ][LawfulBEq κ]
def numS(st:List κ×LI)(k:κ):List κ×LI:=if k∈st.1 then(st.1,st.2++[(st.1.idxOf k:Int)]) else(st.1++[k],st.2++[(st.1.length:Int)])
def numF(keys:List κ):List κ×LI:=keys.foldl numS ([],[])
theorem ycg(keys:List κ)(k:κ):numF (keys++[k])=numS (numF keys) k:=by unfold numF;rw [List.foldl_append];rfl
structure NumI (keys D:List κ) (out:LI):Prop where
 len:out.length=keys.length
 nd:D.Nodup
 dl:D.length≤keys.length
 at':∀(i:Nat) (k:κ),keys[i]? =some k→k∈D∧out[i]? =some (D.idxOf k:Int)
 all:∀y:Int,0≤y→y<(D.length:Int)→∃j:Nat,out[j]? =some y
 fst:yL out
 lt:∀(i:Nat) (x:Int),out[i]? =some x→0≤x∧x<(D.length:Int)
theorem y9j{out:LI}{x:Int}(h:yL out)(h0:0≤x)(h1:∀y:Int,0≤y→y<x→∃j:Nat,out[j]? =some y)(h2:(∃j:Nat,out[j]? =some x)∨∀(j:Nat) y,out[j]? =some y→y<x):yL (out++[x]):=by
 have hb:∀{j:Nat} {y:Int},out[j]? =some y→j<out.length:=fun h=>(yGs.1 h).1;intro i z hz;by_cases hi:i<out.length
 ·have e:∀j:Nat,j≤i→(out++[x])[j]? =out[j]? :=fun j hj=>yAl (by omega);rw [e i (yNr _)] at hz;obtain⟨k1,k2,k3⟩:=h i z hz;refine⟨k1,fun y hy hlt=>?_,?_⟩
  ·obtain ⟨j,hj,g⟩:=k2 y hy hlt;exact⟨j,hj,by rw [e j (by omega)];exact g⟩
  ·rcases k3 with ⟨j,hj,g⟩|k3
   ·exact .inl ⟨j,hj,by rw [e j (by omega)];exact g⟩
   ·exact .inr fun j y hj g=>k3 j y hj (by rw [←e j (by omega)];exact g)
 ·have hi2:i=out.length:=by
   have:=(yGs.1 hz).1;rw [yLa,List.length_singleton] at this;omega
  subst hi2;rw [yAr (yNr _),Nat.sub_self] at hz;have hz:x=z:=by simpa using hz
  subst hz;have e:∀j:Nat,j<out.length→(out++[x])[j]? =out[j]? :=fun j hj=>yAl hj;refine⟨h0,fun y hy hlt=>?_,?_⟩
  ·obtain ⟨j,g⟩:=h1 y hy hlt;exact⟨j,hb g,by rw [e j (hb g)];exact g⟩
  ·rcases h2 with ⟨j,g⟩|h2
   ·exact .inl ⟨j,hb g,by rw [e j (hb g)];exact g⟩
   ·exact .inr fun j y hj g=>h2 j y (by rw [←e j hj];exact g)
theorem yht{keys:List κ}{st:List κ×LI}(h:NumI keys st.1 st.2)(k:κ):NumI (keys++[k]) (numS st k).1 (numS st k).2:=by
 obtain⟨D,out⟩:=st;dsimp only at h;have hl:=h.len;have snoc:∀{α:Type} {l:List α} {x y:α} {i:Nat},(l++[x])[i]? =some y→(i<l.length∧l[i]? =some y)∨(i=l.length∧x=y):=fun {α l x y i} g=>by
  by_cases hi:i<l.length
  ·rw [yAl hi] at g;exact .inl ⟨hi,g⟩
  ·have:=(yGs.1 g).1;rw [yLa,List.length_singleton] at this;have hi:i=l.length:=by omega
   subst hi;rw [yAr (yNr _),Nat.sub_self] at g;exact .inr ⟨rfl,by simpa using g⟩
 unfold numS;dsimp only;split
 ·rename_i hk;have hkl:=List.idxOf_lt_length_of_mem hk;refine⟨by simp [hl],h.nd,by simp;have:=h.dl;omega,fun i k' hi=>?_,fun y h0 h1=>?_,?_,fun i x hx=>?_⟩
  ·rcases snoc hi with ⟨hlt,g⟩|⟨rfl,rfl⟩
   ·obtain ⟨g1,g2⟩:=h.at' i k' g;exact⟨g1,by rw [yAl (by omega)];exact g2⟩
   ·exact ⟨hk,by rw [yAr (by omega),hl,Nat.sub_self];rfl⟩
  ·obtain ⟨j,g⟩:=h.all y h0 h1;exact⟨j,by rw [yAl (yGs.1 g).1];exact g⟩
  ·exact y9j h.fst (by omega) (fun y h0 h1=>h.all y h0 (by omega)) (.inl (h.all _ (by omega) (by omega)))
  ·rcases snoc hx with ⟨_,g⟩|⟨_,rfl⟩
   ·exact h.lt i x g
   ·dsimp only;omega
 ·rename_i hk;refine⟨by simp [hl],?_,by simp;have:=h.dl;omega,fun i k' hi=>?_,fun y h0 h1=>?_,?_,fun i x hx=>?_⟩
  ·unfold List.Nodup;rw [List.pairwise_append];exact⟨h.nd,List.pairwise_singleton _ _,fun x hx y hy e=>hk (by rw [←yMs.1 hy,←e];exact hx)⟩
  ·rcases snoc hi with ⟨hlt,g⟩|⟨rfl,rfl⟩
   ·obtain ⟨g1,g2⟩:=h.at' i k' g;exact⟨yMl _ g1,by rw [yAl (by omega),List.idxOf_append,iP g1];exact g2⟩
   ·exact ⟨yMr _ (yMs.2 rfl),by rw [yAr (by omega),hl,Nat.sub_self,List.idxOf_append,iN hk];simp⟩
  ·rw [yLa,List.length_singleton] at h1;by_cases hy:y<(D.length:Int)
   ·obtain ⟨j,g⟩:=h.all y h0 hy;exact⟨j,by rw [yAl (yGs.1 g).1];exact g⟩
   ·refine ⟨out.length,?_⟩;rw [yAr (yNr _),Nat.sub_self];have:y=(D.length:Int):=by omega
    rw [this];rfl
  ·exact y9j h.fst (by omega) h.all (.inr fun j y g=>(h.lt j y g).2)
  ·rw [yLa,List.length_singleton];rcases snoc hx with ⟨_,g⟩|⟨_,rfl⟩
   ·have:=h.lt i x g;omega
   ·omega
theorem y8z(keys:List κ):NumI keys (numF keys).1 (numF keys).2:=by
 have key:∀n,n≤keys.length→NumI (keys.take n) (numF (keys.take n)).1 (numF (keys.take n)).2:=by
  intro n
  induction n with
  | zero=>intro _;exact⟨rfl,.nil,yNr _,fun i k h=>by simp at h,fun y h0 h1=>by simp [numF] at h1;omega,fun i x h=>by simp [numF] at h,fun i x h=>by simp [numF] at h⟩
  | succ n ih=>
   intro hn;rw [yTs (by omega),ycg];exact yht (ih (by omega)) _
 have:=key keys.length (yNr _);rwa [List.take_length] at this
def numK(keys:List κ):LI:=(numF keys).2
theorem yaI(keys:List κ):(numK keys).length=keys.length:=(y8z keys).len
theorem ybg(keys:List κ):yL (numK keys):=(y8z keys).fst
theorem ye8(keys:List κ){i j:Nat}{k k':κ}(hi:keys[i]? =some k)(hj:keys[j]? =some k'):(numK keys)[i]? =(numK keys)[j]? ↔k=k':=by
 obtain⟨h1,h2⟩:=(y8z keys).at' i k hi;obtain⟨h3,h4⟩:=(y8z keys).at' j k' hj;unfold numK;rw [h2,h4];constructor
 ·intro e;have e:((numF keys).1.idxOf k:Int)=((numF keys).1.idxOf k':Int):=by simpa using e
  have e:(numF keys).1.idxOf k=(numF keys).1.idxOf k':=by omega
  have g1:=List.getElem_idxOf (List.idxOf_lt_length_of_mem h1);have g2:=List.getElem_idxOf (List.idxOf_lt_length_of_mem h3);rw [←g1,←g2];congr 1
 ·rintro rfl;rfl
end
theorem yL.lt{c:LI}(h:yL c):∀(i:Nat) (x:Int),c[i]? =some x→0≤x∧x≤(i:Int):=by
 have key:∀n i:Nat,i<n→∀x,c[i]? =some x→x≤(i:Int):=by
  intro n
  induction n with
  | zero=>intro i hi;omega
  | succ n ih=>
   intro i hi x hx;obtain⟨h0,h1,_⟩:=h i x hx;rcases Int.lt_or_le (i:Int) x with hlt|hle
   ·obtain ⟨j,hj,g⟩:=h1 (x-1) (by omega) (by omega);have:=ih j (by omega) (x-1) g;omega
   ·exact hle
 exact fun i x hx=>⟨(h i x hx).1,key (i+1) i (by omega) x hx⟩
def cF(c:LI)(s:Int):Int:=c.getD s.toNat 0
def Vn(n:Nat)(s:Int):Prop:=0≤s∧s<(n:Int)
theorem cF_at{c:LI}{i:Nat}(h:i<c.length):c[i]? =some (cF c (i:Int)):=by
 unfold cF;rw [yTn,yGd,yGe h];rfl
def refR(L:Lts Int)(f:Int→Int)(s t:Int):Prop:=f s=f t∧∀e,L.lab e→∀x,(∃u,L.wk e s u∧f u=x)↔ ∃u,L.wk e t u∧f u=x
structure RfI (L:Lts Int) (n:Nat) (c:LI):Prop where
 len:c.length=n
 fst:yL c
 mks:∀s t,Vn n s→Vn n t→cF c s=cF c t→L.mks s→L.mks t
 cr:Lts.Crs L (Vn n) (cF c)
structure RfN (L:Lts Int) (n:Nat) (c d:LI):Prop where
 len:d.length=n
 fst:yL d
 eq:∀s t,Vn n s→Vn n t→(cF d s=cF d t↔refR L (cF c) s t)
section
variable{L:Lts Int}{n:Nat}{c d:LI}
theorem RfI.next(h:RfI L n c)(hn:RfN L n c d)(hV:L.In (Vn n)):RfI L n d where
 len:=hn.len
 fst:=hn.fst
 mks s t hs ht e hm:=h.mks s t hs ht ((hn.eq s t hs ht).1 e).1 hm
 cr:=fun P hP s t hs ht hst=>by
  rw [hn.eq s t hs ht];refine⟨h.cr P hP s t hs ht hst,fun e he x=>⟨?_,?_⟩⟩
  ·rintro ⟨u,hu,rfl⟩;obtain⟨v,hv,huv⟩:=hP.w s t hs ht hst e he u hu;exact⟨v,hv,(h.cr P hP u v (hV.wk hs hu) (hV.wk ht hv) huv).symm⟩
  ·rintro ⟨u,hu,rfl⟩;obtain⟨v,hv,huv⟩:=hP.w t s ht hs (hP.sy s t hs ht hst) e he u hu;exact⟨v,hv,(h.cr P hP u v (hV.wk ht hu) (hV.wk hs hv) huv).symm⟩
theorem RfI.stb(h:RfI L n c)(hn:RfN L n c c):Lts.Stb L (Vn n) fun s t=>cF c s=cF c t where
 sy s t _ _ e:=e.symm
 m:=h.mks
 w s t hs ht e0 e he s' hw:=by
  obtain⟨u,h1,h2⟩:=(((hn.eq s t hs ht).1 e0).2 e he (cF c s')).1 ⟨s',hw,rfl⟩;exact⟨u,h1,h2.symm⟩
def eqs(n:Nat)(c:LI):Nat:=((List.range (n*n)).filter fun k=>cF c ((k/n:Nat):Int)==cF c ((k % n:Nat):Int)).length
theorem ych{α:Type}{p q:α→Bool}:∀{l:List α},(∀x∈l,p x=true→q x=true)→(∃x∈l,q x=true∧p x=false)→(l.filter p).length<(l.filter q).length
 | [],_,h=>by obtain⟨x,hx,_⟩:=h;cases hx
 | y::l,h,hx=>by
  have hle:(l.filter p).length≤(l.filter q).length:=by
   have:=List.countP_mono_left (l:=l) (p:=p) (q:=q) fun x hx=>h x (.tail _ hx);rwa [List.countP_eq_length_filter,List.countP_eq_length_filter] at this
  rw [List.filter_cons,List.filter_cons];obtain⟨x,hx,hq,hp⟩:=hx;rcases yMo.1 hx with rfl|hx
  ·rw [hq,hp];simp;omega
  ·have ih:=ych (l:=l) (fun x hx=>h x (.tail _ hx)) ⟨x,hx,hq,hp⟩;have hy:=h y (.head _);cases h1:p y with
   | true=>rw [hy h1];simp;exact ih
   | false=>
    cases q y with
    | true=>simp;omega
    | false=>simp;exact ih
theorem yhV(n:Nat)(c:LI):eqs n c≤n*n:=by
 unfold eqs;exact Nat.le_trans (List.length_filter_le _ _) (by simp)
theorem RfN.lt(hc:c.length=n)(hf:yL c)(h:RfN L n c d)(hne:d≠c):eqs n d<eqs n c:=by
 have hdiv:∀k,k<n*n→k/n<n∧k % n<n:=fun k hk=>by
  have h0:0<n:=by
   rcases Nat.eq_zero_or_pos n with e|e
   ·subst e;simp at hk
   ·exact e
  exact⟨Nat.div_lt_of_lt_mul hk,Nat.mod_lt _ h0⟩
 have hex:∃i j:Nat,i<n∧j<n∧cF c (i:Int)=cF c (j:Int)∧cF d (i:Int)≠cF d (j:Int):=by
  refine Classical.byContradiction fun hno=>hne ?_;refine yL.unique h.fst hf (by rw [h.len,hc]) fun i j x y hi hj u v hu hv=>?_;have hi2:=(yGs.1 hi).1;have hj2:=(yGs.1 hj).1;have hl:=h.len;rw [cF_at hi2] at hi;rw [cF_at hj2] at hj;rw [cF_at (by omega)] at hu hv;cases hi;cases hj;cases hu;cases hv;constructor
  ·intro e;exact((h.eq _ _ ⟨by omega,by omega⟩ ⟨by omega,by omega⟩).1 e).1
  ·intro e;exact Classical.byContradiction fun hd=>hno ⟨i,j,by omega,by omega,e,hd⟩
 unfold eqs;refine ych (fun k hk hd=>?_) ?_
 ·obtain ⟨h1,h2⟩:=hdiv k (List.mem_range.1 hk);simp only [beq_iff_eq] at hd ⊢;exact((h.eq _ _ ⟨Int.natCast_nonneg _,by omega⟩ ⟨Int.natCast_nonneg _,by omega⟩).1 hd).1
 ·obtain ⟨i,j,hi,hj,h1,h2⟩:=hex;have e1:(i*n+j)/n=i:=by rw [Nat.mul_comm,Nat.mul_add_div (by omega),Nat.div_eq_of_lt hj];rfl
  have e2:(i*n+j) % n=j:=by rw [Nat.mul_comm,Nat.mul_add_mod,Nat.mod_eq_of_lt hj]
  have hlt:i*n+j<n*n:=Nat.lt_of_lt_of_le (show i*n+j<i*n+n by omega) (by rw [←Nat.succ_mul];exact Nat.mul_le_mul_right n hi);refine⟨i*n+j,List.mem_range.2 hlt,?_,?_⟩
  ·rw [e1,e2];simpa using h1
  ·rw [e1,e2];simpa using h2
structure RfOk (L:Lts Int) (n:Nat) (c:LI):Prop extends RfI L n c where
 st:Lts.Stb L (Vn n) fun s t=>cF c s=cF c t
end
def topL(c:LI):Int:=c.foldl (fun m x=>max m (x+1)) 0
theorem y8A :∀(c:LI) (m:Int),m≤c.foldl (fun m x=>max m (x+1)) m∧(∀x∈c,x<c.foldl (fun m x=>max m (x+1)) m)∧(c.foldl (fun m x=>max m (x+1)) m=m∨∃x∈c,c.foldl (fun m x=>max m (x+1)) m=x+1)
 | [],m=>⟨Int.le_refl _,fun x hx=>(by cases hx),.inl rfl⟩
 | y::c,m=>by
  obtain⟨h1,h2,h3⟩:=y8A c (max m (y+1));rw [List.foldl_cons];refine⟨by omega,fun x hx=>?_,?_⟩
  ·rcases yMo.1 hx with rfl|hx
   ·omega
   ·exact h2 x hx
  ·rcases h3 with h3|⟨x,hx,h3⟩
   ·by_cases h:m≤y+1
    ·exact .inr ⟨y,.head _,by rw [h3];omega⟩
    ·left;rw [h3];omega
   ·exact .inr ⟨x,.tail _ hx,h3⟩
theorem ya0{c:LI}{x:Int}(h:x∈c):x<topL c:=(y8A c 0).2.1 x h
theorem ye9(c:LI):0≤topL c:=(y8A c 0).1
theorem yci{c:LI}(h:0<topL c):topL c-1∈c:=by
 rcases(y8A c 0).2.2 with h1|⟨x,hx,h1⟩
 ·unfold topL at h;omega
 ·have:topL c-1=x:=by unfold topL;omega
  rw [this];exact hx
theorem yL.cover{c:LI}(h:yL c){y:Int}(h0:0≤y)(h1:y<topL c):y∈c:=by
 have hl:=yci (c:=c) (by omega);by_cases e:y=topL c-1
 ·rw [e];exact hl
 ·obtain ⟨i,hi,e1⟩:=List.mem_iff_getElem.1 hl;obtain⟨_,h2,_⟩:=h i (topL c-1) (by rw [yGe hi,e1]);obtain⟨j,_,g⟩:=h2 y h0 (by omega);exact List.mem_of_getElem? g
theorem yL.top_le{c:LI}(h:yL c):topL c≤(c.length:Int):=by
 by_cases h0:0<topL c
 ·obtain ⟨i,hi,e1⟩:=List.mem_iff_getElem.1 (yci h0);have:=h.lt i (topL c-1) (by rw [yGe hi,e1]);omega
 ·omega
theorem yhu{c:LI}(h:∀i:Nat,i<c.length→c[i]? =some (i:Int)):topL c=(c.length:Int):=by
 rcases(y8A c 0).2.2 with h1|⟨x,hx,h1⟩
 ·have h1:topL c=0:=h1;cases c with
  | nil=>rw [h1];rfl
  | cons y c=>
   have h2:=h 0 (by simp);have:y=0:=by simpa using h2
   have:=ya0 (c:=y::c) (.head _);omega
 ·have h1:topL c=x+1:=h1;obtain⟨i,hi,e1⟩:=List.mem_iff_getElem.1 hx;have h2:=h i hi;rw [yGe hi,e1] at h2;have h2:x=(i:Int):=by simpa using h2
  have h3:=h (c.length-1) (by omega);have h4:=ya0 (List.mem_of_getElem? h3);omega
theorem y7w{c:LI}{s:Int}(h0:0≤s)(h1:s<(c.length:Int)):cF c s∈c:=by
 have:=cF_at (c:=c) (i:=s.toNat) (by omega);rw [show ((s.toNat:Nat):Int)=s by omega] at this;exact List.mem_of_getElem? this
theorem cF_of{c:LI}{x:Int}(h:x∈c):∃s,Vn c.length s∧cF c s=x:=by
 obtain⟨i,hi,e1⟩:=List.mem_iff_getElem.1 h;have:=cF_at hi;rw [yGe hi,e1] at this;exact⟨(i:Int),⟨by omega,by omega⟩,by simpa using this.symm⟩
theorem yfF{L B:Lts Int}{c d:LI}{n m:Nat}(h:Lts.Abs L (cF c) B)(hV:L.In (Vn n))(hc:RfOk L n c)(hm:(m:Int)=topL c)(hd:RfOk B m d):topL d=topL c:=by
 have hcl:=hc.len;have hdl:=hd.len;have hW:∀s,Vn n s→Vn m (cF c s):=fun s hs=>by
  have hx:=y7w (c:=c) hs.1 (by have:=hs.2;omega);have:=ya0 hx;obtain⟨i,hi,e1⟩:=List.mem_iff_getElem.1 hx;have:=(hc.fst i (cF c s) (by rw [yGe hi,e1])).1;exact⟨this,by omega⟩
 have hof:∀y:Int,Vn m y→∃s,Vn n s∧cF c s=y:=fun y hy=>by
  obtain⟨s,h1,h2⟩:=cF_of (hc.fst.cover hy.1 (by have:=hy.2;omega));rw [hcl] at h1;exact⟨s,h1,h2⟩
 rw [yhu (yL.inj hd.fst fun i j x hi hj=>?_),hdl,hm];have hi2:=(yGs.1 hi).1;have hj2:=(yGs.1 hj).1;rw [cF_at hi2] at hi;rw [cF_at hj2] at hj;obtain⟨s,hs,e1⟩:=hof (i:Int) ⟨by omega,by omega⟩;obtain⟨t,ht,e2⟩:=hof (j:Int) ⟨by omega,by omega⟩;have:=h.fine hV hc.st hc.cr hW hd.st hs ht (by
  show cF d (cF c s)=cF d (cF c t);rw [e1,e2];simp only [yIj] at hi hj;rw [hi,hj])
 omega
def ObsE(L:Lts Int)(n:Nat)(s t:Int):Prop:=∃P,Lts.Stb L (Vn n) P∧P s t
section
variable{L:Lts Int}{n:Nat}
theorem yhv(L:Lts Int)(n:Nat):Lts.Stb L (Vn n) (ObsE L n) where
 sy s t hs ht:=fun⟨P,hP,h⟩=>⟨P,hP,hP.sy s t hs ht h⟩
 m s t hs ht:=fun⟨_,hP,h⟩=>hP.m s t hs ht h
 w s t hs ht:=fun⟨P,hP,h⟩ e he s' hw=>by
  obtain⟨t',h1,h2⟩:=hP.w s t hs ht h e he s' hw;exact⟨t',h1,P,hP,h2⟩
theorem ygz(s:Int):ObsE L n s s:=⟨fun s t=>s=t,⟨fun _ _ _ _ e=>e.symm,fun _ _ _ _ e h=>e▸h,fun _ _ _ _ e _ _ s' h=>⟨s',e▸h,rfl⟩⟩,rfl⟩
theorem yde{s t:Int}(hs:Vn n s)(ht:Vn n t)(h:ObsE L n s t):ObsE L n t s:=(yhv L n).sy s t hs ht h
structure LcI (L:Lts Int) (n j:Nat) (o:LI) (k:Int):Prop where
 len:o.length=j
 fst:yL o
 rng:∀(i:Nat) (x:Int),o[i]? =some x→0≤x∧x<k
 all:∀y:Int,0≤y→y<k→∃i:Nat,o[i]? =some y
 eq:∀(i i':Nat) (x x':Int),o[i]? =some x→o[i']? =some x'→(x=x'↔ObsE L n (i:Int) (i':Int))
 kn:0≤k
theorem y9c{α:Type}{l:List α}{x y:α}{i:Nat}(g:(l++[x])[i]? =some y):(i<l.length∧l[i]? =some y)∨(i=l.length∧x=y):=by
 by_cases hi:i<l.length
 ·rw [yAl hi] at g;exact .inl ⟨hi,g⟩
 ·have:=(yGs.1 g).1;rw [yLa,List.length_singleton] at this;have hi:i=l.length:=by omega
  subst hi;rw [yAr (yNr _),Nat.sub_self] at g;exact .inr ⟨rfl,by simpa using g⟩
theorem LcI.snoc{j:Nat}{o:LI}{k k' x:Int}(h:LcI L n j o k)(hj:j<n)(hk:k≤k')(hx:0≤x∧x<k')(hf:yL (o++[x]))(ha:∀y:Int,k≤y→y<k'→y=x)(he:∀(i:Nat) (z:Int),o[i]? =some z→(z=x↔ObsE L n (i:Int) (j:Int))):LcI L n (j+1) (o++[x]) k' where
 len:=by rw [yLa,h.len];rfl
 fst:=hf
 rng i z hz:=by
  rcases y9c hz with ⟨_,g⟩|⟨_,rfl⟩
  ·have:=h.rng i z g;omega
  ·exact hx
 all y h0 h1:=by
  by_cases hy:y<k
  ·obtain ⟨i,g⟩:=h.all y h0 hy;exact⟨i,by rw [yAl (yGs.1 g).1];exact g⟩
  ·refine ⟨o.length,?_⟩;rw [yAr (yNr _),Nat.sub_self,ha y (by omega) h1];rfl
 eq i i' y y' hy hy':=by
  have hl:=h.len;rcases y9c hy with ⟨h1,g1⟩|⟨h1,g1⟩ <;> rcases y9c hy' with ⟨h2,g2⟩|⟨h2,g2⟩
  ·exact h.eq i i' y y' g1 g2
  ·subst g2;rw [he i y g1,h2,hl]
  ·subst g1;rw [h1,hl,eq_comm,he i' y' g2];exact⟨yde ⟨by omega,by omega⟩ ⟨by omega,by omega⟩,yde ⟨by omega,by omega⟩ ⟨by omega,by omega⟩⟩
  ·subst g1;subst g2;rw [h1,h2];exact⟨fun _=>ygz _,fun _=>rfl⟩
 kn:=Int.le_trans h.kn hk
end
end
section
open Go Go.RowKit
structure AbsOk (a x:NdT) (c:LI):Prop where
 cl:RfOk (ltsN a) a.2.1.toNat c
 st:x.2.1=topL c
 ab:Lts.Abs (ltsN a) (cF c) (ltsN x)
theorem NdOk.vn{a:NdT}(ha:NdOk a):(ltsN a).In (Vn a.2.1.toNat):=by
 have h:=ha.inn;have h0:=ha.n0;have e:(fun s=>0≤s∧s<a.2.1)=Vn a.2.1.toNat:=by
  funext s;unfold Vn;rw [show ((a.2.1.toNat:Nat):Int)=a.2.1 by omega]
 rwa [e] at h
theorem AbsOk.bis{a x:NdT}{c:LI}(h:AbsOk a x c)(ha:NdOk a):Lts.WBis (ltsN a) (ltsN x) fun s y=>Vn a.2.1.toNat s∧y=cF c s:=h.ab.bis ha.vn h.cl.st
theorem yhW{a b x p q:NdT}{c:LI}{ps qs:List (Int×Int)}(h:AbsOk a x c)(ha:NdOk a)(hb:NdOk b)(hx:NdOk x)(hp:CmpOk a b p ps)(hq:CmpOk x b q qs):(ltsN p).NB↔(ltsN q).NB:=
 (hp.lab ha hb).same.nb.trans (((h.bis ha).nb (ltsN b)).trans (hq.lab hx hb).same.nb.symm)
theorem AbsOk.same_count{a x y:NdT}{c d:LI}(h:AbsOk a x c)(ha:NdOk a)(h2:AbsOk x y d):y.2.1=x.2.1:=by
 have h0:=ye9 c;have hs:=h.st;rw [h2.st,yfF h.ab ha.vn h.cl (m:=x.2.1.toNat) (by omega) h2.cl,h.st]
theorem AbsOk.le{a x:NdT}{c:LI}(h:AbsOk a x c)(ha:NdOk a):x.2.1≤a.2.1:=by
 have:=h.cl.fst.top_le;have:=h.cl.len;have:=ha.n0;rw [h.st];omega
theorem yea{a:NdT}(ha:NdOk a)(s e:Int):y1T a s e=some (tgtL a.2.2.2.2 s e):=by
 obtain⟨p,b,h1,h2,h3,h4⟩:=yfp (t:=(s,e,-1)) (by have:=ha.le;omega) ha.es;have hle:=ha.le;rw [y1T,h1,yOb,y9F h2 (yNr _),yOb,List.take_length,yc5 ha.es (fun x hx=>(ha.esr x hx).2.2.1) h3 h4];have hdl:(a.2.2.2.2.drop p).length≤65536:=by rw [List.length_drop];omega
 generalize a.2.2.2.2.drop p=l at hdl;obtain⟨o,ho,he⟩:=yg (f:=y2n s e l) (fun j (st:Int×LI)=>∃out,st=((j:Int),out)∧out.length≤j∧out++((l.drop j).takeWhile fun x=>x.1==s&&x.2.1==e).map (·.2.2)=(l.takeWhile fun x=>x.1==s&&x.2.1==e).map (·.2.2))
  (fun o=>o=(l.takeWhile fun x=>x.1==s&&x.2.1==e).map (·.2.2)) l.length 0 (by omega) (fun j st hj ⟨out,e1,g1,g2⟩=>by
   subst e1;rw [y9G hj] at g2;unfold y2n;simp only [ct_lt hj,if_true,yd hj,yOb];cases hx:(l[j].1==s&&l[j].2.1==e) with
   | false=>
    refine .inr ⟨out,?_,?_⟩
    ·rw [iP];simp only [bne,Bool.or_eq_true,Bool.not_eq_true'];rw [Bool.and_eq_false_iff] at hx;exact hx
    ·rw [iN (by simp [hx]),List.map_nil,List.append_nil] at g2;exact g2
   | true=>
    rw [yAe] at hx;refine .inl ⟨(((j+1:Nat):Int),out++[l[j].2.2]),?_,_,rfl,by simp;omega,?_⟩
    ·rw [iN (by simp [bne,hx.1,hx.2]),yD (by simp;omega),yOb,nxt (by omega)]
    ·rw [iP (by simp [hx.1,hx.2])] at g2;rw [←g2];simp)
  (fun st ⟨out,e1,g1,g2⟩=>by
   subst e1;rw [List.drop_length] at g2;refine⟨out,?_,by simpa using g2⟩;unfold y2n;simp) (by omega) (0,[]) ⟨[],rfl,yZl _,rfl⟩
 rw [ho,he];rfl
noncomputable def setL(n:Nat)(p:Int→Prop):LI:=staL n fun i=>@decide (p (i:Int)) (Classical.propDecidable _)
theorem y5v{n:Nat}{p:Int→Prop}{x:Int}:x∈setL n p↔Vn n x∧p x:=by
 unfold setL Vn;rw [y6b];constructor
 ·rintro ⟨i,rfl,h1,h2⟩;exact⟨⟨by omega,by omega⟩,(@decide_eq_true_iff _ (Classical.propDecidable _)).1 h2⟩
 ·rintro ⟨⟨h1,h2⟩,h3⟩;refine⟨x.toNat,by omega,by omega,(@decide_eq_true_iff _ (Classical.propDecidable _)).2 ?_⟩;rwa [show ((x.toNat:Nat):Int)=x by omega]
theorem yaJ(n:Nat)(p:Int→Prop):(setL n p).length≤n:=y5u _ _
theorem ygA(n:Nat)(q:Nat→Bool):(staL n q).Pairwise (· < ·):=by
 unfold staL;rw [List.pairwise_map];refine List.Pairwise.filter _ ?_;exact List.Pairwise.imp (fun {a b} h=>by omega) List.pairwise_lt_range
theorem ydf(n:Nat)(p:Int→Prop):(setL n p).Pairwise (· < ·):=ygA _ _
theorem ydg{n:Nat}{q:Nat→Bool}{p:Int→Prop}(h:∀i:Nat,i<n→(q i=true↔p (i:Int))):staL n q=setL n p:=by
 unfold setL staL;congr 1;refine List.filter_congr fun i hi=>?_;rw [Bool.eq_iff_iff,h i (List.mem_range.1 hi),@decide_eq_true_iff _ (Classical.propDecidable _)]
theorem yaK{n:Nat}{p p':Int→Prop}(h:∀s,Vn n s→(p s↔p' s)):setL n p=setL n p':=by
 unfold setL;refine ydg fun i hi=>?_;rw [@decide_eq_true_iff _ (Classical.propDecidable _)];exact h _ ⟨by omega,by omega⟩
theorem yfG{B:List Bool}(hB:B.length≤4096):iter (yZ B) (0,([]:LI))=some (staL B.length fun i=>flg B (i:Int)):=by
 obtain⟨o,ho,he⟩:=yg (f:=yZ B) (fun j st=>st=((j:Int),staL j fun i=>flg B (i:Int))) (fun o=>o=staL B.length fun i=>flg B (i:Int)) B.length 0 (by omega) (fun j st hj e1=>by
   subst e1;refine .inl ⟨_,?_,rfl⟩;have hl:=y5u j fun i=>flg B (i:Int);unfold yZ;simp only [ct_lt hj,if_true];rw [y4Y (by omega),yOb,y9L];split
   ·rw [yD (by simp;omega),yOb,yY];simp only [nxt (show j<4611686018427387904 by omega)]
   ·rw [yY,List.append_nil];simp only [nxt (show j<4611686018427387904 by omega)])
  (fun st e1=>by
   subst e1;refine⟨_,?_,rfl⟩;unfold yZ;simp) (by omega) (0,[]) rfl
 rw [ho,he]
theorem y9d{a:NdT}(ha:NdOk a){S:LI}(hS:∀s∈S,0≤s∧s<a.2.1)(hl:S.length≤300000000):yN a S=some (setL a.2.1.toNat fun t=>∃s∈S,(ltsN a).tau s t):=by
 have h0:=ha.n0;have h1:=ha.n1;have hle:=ha.le;obtain⟨n,hn⟩:∃n:Nat,a.2.1=(n:Int):=⟨a.2.1.toNat,by omega⟩;have hnn:a.2.1.toNat=n:=by omega
 have hc:∀x,yu a x=some (tgtL a.2.2.2.2 x (-1)):=fun x=>by
  rw [yu,yea ha];rfl
 obtain⟨B,k1,k2,k3⟩:=yae (f:=yF (yu a)) (fun B todo=>(todo,B)) (fun B=>B) (lead:=fun s=>tgtL a.2.2.2.2 s (-1)) (S:=S) (n:=n) (M:=65536) (by omega) (yNr _) hl (fun s hs=>by have:=hS s hs;omega) (fun s hs hs2=>⟨Nat.le_trans (y7r _ _ _) hle,fun t ht=>by
   have:=ha.esr _ (y4b.1 ht);dsimp only at this;omega⟩)
  (fun B td x hB hx0 hx1 htd hf=>by
   unfold yF;simp only [y9Z,if_true];rw [y9X (by omega),yOb,y9Y (by omega),yOb,y4Y (by omega),yOb,hf];simp)
  (fun B td x hB hx0 hx1 htd hf=>by
   unfold yF;simp only [y9Z,if_true];rw [y9X (by omega),yOb,y9Y (by omega),yOb,y4Y (by omega),yOb,hf];simp only [Bool.not_false,if_true,yOb];rw [y8y (by omega),yOb,hc,yOb,yD (by omega),yOb])
  (fun B=>by
   unfold yF;simp)
 have hm2:mkL a.2.1 false=some (List.replicate n false):=by unfold mkL;rw [hn,iP (by omega)];rfl
 have hr:∀t,RcL (fun s=>tgtL a.2.2.2.2 s (-1)) S t↔ ∃s∈S,(ltsN a).tau s t:=fun t=>by
  constructor
  ·intro h
   induction h with
   | ini h=>exact⟨_,h,.refl _⟩
   | step _ h ih=>
    obtain⟨s,hs,g⟩:=ih;exact⟨s,hs,g.tail (y4b.1 h)⟩
  ·rintro ⟨s,hs,h⟩
   induction h with
   | refl=>exact .ini hs
   | tail _ g ih=>exact .step ih (y4b.2 g)
 have hl2:=yfG (B:=B) (by omega);rw [k2] at hl2;rw [yN,y3A,hm2,yOb,yaA (by omega),yOb];show((iter (yF (yu a)) (S,List.replicate n false)).bind _).bind _=_;rw [k1,yOb,hl2,hnn];show some _=some _;rw [ydg (p:=fun t=>∃s∈S,(ltsN a).tau s t) fun i hi=>(k3 _ (by omega)).trans (hr _)]
noncomputable def wkL(a:NdT)(e s:Int):LI:=setL a.2.1.toNat fun t=>(ltsN a).wk e s t
theorem ygB{es:List E3}{e:Int}:∀{l:LI},l.Pairwise (· < ·)→(l.flatMap fun s=>tgtL es s e).length≤es.length:=by
 intro l hl;have key:∀(l:LI),l.Pairwise (· < ·)→(l.flatMap fun s=>tgtL es s e).length≤(es.filter fun x=>l.contains x.1).length:=by
  intro l
  induction l with
  | nil=>intro _;simp
  | cons x l ih=>
   intro h;have hp:=yPc.1 h;have h1:=ih hp.2;rw [List.flatMap_cons,yLa];have h2:(tgtL es x e).length≤(es.filter fun y=>y.1==x).length:=by
    unfold tgtL;rw [yLm];have:=List.countP_mono_left (l:=es) (p:=fun y=>y.1==x&&y.2.1==e) (q:=fun y=>y.1==x) fun y _ hy=>by
     rw [yAe] at hy;exact hy.1
    rwa [List.countP_eq_length_filter,List.countP_eq_length_filter] at this
   have h3:(es.filter fun y=>y.1==x).length+(es.filter fun y=>l.contains y.1).length=(es.filter fun y=>(x::l).contains y.1).length:=by
    clear ih h1 h2
    induction es with
    | nil=>rfl
    | cons y es ih2=>
     rw [List.filter_cons,List.filter_cons,List.filter_cons];by_cases e1:y.1=x
     ·have:y.1∉l:=fun hm=>by have:=hp.1 _ hm;omega
      simp [e1,e1▸this];simp at ih2;omega
     ·simp [e1];simp at ih2;split <;> (try simp) <;> omega
   omega
 exact Nat.le_trans (key l hl) (List.length_filter_le _ _)
theorem yhw{a:NdT}(ha:NdOk a){S:LI}(hS:∀s∈S,0≤s∧s<a.2.1)(hl:S.length≤300000000){e:Int}(he:e≠ -1):y2W a S e=some (setL a.2.1.toNat fun t=>∃s∈S,(ltsN a).wk e s t):=by
 have h0:=ha.n0;have h1:=ha.n1;have hle:=ha.le;have hsl:=yaJ a.2.1.toNat fun t=>∃s∈S,(ltsN a).tau s t;have hfs:=ygB (es:=a.2.2.2.2) (e:=e) (ydf a.2.1.toNat fun t=>∃s∈S,(ltsN a).tau s t);have hloop:iter (y2o a e (setL a.2.1.toNat fun t=>∃s∈S,(ltsN a).tau s t)) (0,([]:LI))=some ([]++(setL a.2.1.toNat fun t=>∃s∈S,(ltsN a).tau s t).flatMap fun s=>tgtL a.2.2.2.2 s e):=
  y7P _ _ _ (by omega) (by have:([]:LI).length=0:=rfl;omega) (fun j hj o ho=>by
   unfold y2o;simp only [ct_lt hj,if_true,yd hj,yOb];rw [yea ha,yOb,yD (by omega),yOb,nxt (by omega)]) (fun o=>by
   unfold y2o;simp)
 rw [y2W,y9d ha hS hl,yOb,hloop,yOb,List.nil_append,y9d ha (fun s hs=>by
  obtain⟨u,_,h⟩:=List.mem_flatMap.1 hs;have:=ha.esr _ (y4b.1 h);dsimp only at this;omega) (by omega),yOb]
 congr 1;refine yaK fun t ht=>?_;constructor
 ·rintro ⟨u,hu,hp⟩;obtain⟨v,hv,hm⟩:=List.mem_flatMap.1 hu;obtain⟨_,s,hs,hq⟩:=y5v.1 hv;exact⟨s,hs,.inr ⟨he,v,u,hq,y4b.1 hm,hp⟩⟩
 ·rintro ⟨s,hs,⟨h,_⟩|⟨_,v,u,hq,hm,hp⟩⟩
  ·exact absurd h he
  ·have hv:=ha.esr _ hm;dsimp only at hv;exact⟨u,List.mem_flatMap.2 ⟨v,y5v.2 ⟨⟨hv.1,by omega⟩,s,hs,hq⟩,y4b.2 hm⟩,hp⟩
theorem yaf{a:NdT}(ha:NdOk a){s:Int}(hs:0≤s∧s<a.2.1):y1f a [s]=some (wkL a (-1) s,0):=by
 rw [y1f,y5R ha,yOb,iN (by simp),y9W (by simp) (fun x hx=>by rw [yMs.1 hx];exact hs) (by simp),yOb,iN (by simp),y9d ha (fun x hx=>by rw [yMs.1 hx];exact hs) (by simp),yOb];congr 2;refine yaK fun t _=>?_;unfold Lts.wk;simp
theorem ygC{a:NdT}(ha:NdOk a){s e:Int}(hs:0≤s∧s<a.2.1)(he:e∈a.1):y2X a [s] e=some (wkL a e s,0):=by
 have h0:=ha.alr e he;have hla:=ha.la;rw [y2X,yaf ha hs,yOb,iN (by simp),y4n (by omega) ha.al,yOb,iN (by rw [yo.2 he];simp),yhw ha (fun x hx=>by rw [yMs.1 hx];exact hs) (by simp) (by omega),yOb];congr 2;refine yaK fun t _=>?_;simp
end
end Go.Proofs.YtfdeiphkmjdifaaGreatDoor
