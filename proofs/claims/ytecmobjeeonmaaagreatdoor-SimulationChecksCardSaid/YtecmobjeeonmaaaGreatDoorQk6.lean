/- Parts of the proof, without what nothing here names. -/
import Derived.IntWalk
import Derived.Test.YtecmobjeeonmaaaGreatDoorQk5
namespace Go.Proofs.YtecmobjeeonmaaaGreatDoor
def wval(u:List Int):Int:=u.foldl (fun acc e=>33*acc+e+1) 0
theorem ybF(u:List Int)(e:Int):wval (u++[e])=33*wval u+e+1:=by simp [wval,List.foldl_append]
def Evs(u:List Int):Prop:=∀e∈u,0≤e∧e<32
theorem Evs.nil :Evs []:=fun e h=>by cases h
theorem Evs.snoc{u:List Int}{e:Int}(h:Evs u)(h0:0≤e)(h1:e<32):Evs (u++[e]):=by
 intro x hx;rcases List.mem_append.1 hx with h2|h2
 ·exact h x h2
 ·rw [List.mem_singleton.1 h2];exact⟨h0,h1⟩
theorem Evs.of_snoc{u:List Int}{e:Int}(h:Evs (u++[e])):Evs u∧0≤e∧e<32:=
 ⟨fun x hx=>h x (List.mem_append_left _ hx),h e (by simp)⟩
theorem yh4{α:Type}{P:List α→Prop}(h0:P [])(h1:∀u e,P u→P (u++[e]))(u:List α):P u:=by
 have h2:∀n (u:List α),u.length=n→P u:=by
  intro n
  induction n with
  | zero=>intro u hu;rw [List.eq_nil_of_length_eq_zero hu];exact h0
  | succ n ih=>
   intro u hu;rcases List.eq_nil_or_concat u with rfl|⟨l,b,rfl⟩
   ·cases hu
   ·have hl:l.length=n:=by simpa using hu
    simpa using h1 l b (ih l hl)
 exact h2 _ u rfl
theorem yeA(u:List Int):Evs u→0≤wval u:=by
 refine yh4 (P:=fun u=>Evs u→0≤wval u) (fun _=>Int.le_refl 0) (fun u e ih h=>?_) u;have h1:=h.of_snoc;have:=ih h1.1;rw [ybF];omega
def Leads(es:List Ed)(perm:Ed→Bool)(s:Int):List Int→Int→Prop
 | [],t=>s=t
 | e::u,t=>∃x∈es,x.f=s∧x.e=e∧perm x=true∧Leads es perm x.t u t
theorem Leads.snoc{es:List Ed}{perm:Ed→Bool}:∀{u:List Int} {s t:Int},Leads es perm s u t→∀{x:Ed},x∈es→x.f=t→perm x=true→Leads es perm s (u++[x.e]) x.t
 | [],s,t,h,x,hx,hf,hp=>⟨x,hx,by rw [hf];exact h.symm,rfl,hp,rfl⟩
 | e::u,s,t,⟨y,hy,h1,h2,h3,h4⟩,x,hx,hf,hp=>⟨y,hy,h1,h2,h3,h4.snoc hx hf hp⟩
theorem Leads.of_snoc{es:List Ed}{perm:Ed→Bool}{e:Int}:∀{u:List Int} {s t:Int},Leads es perm s (u++[e]) t→∃x∈es,Leads es perm s u x.f∧x.e=e∧x.t=t∧perm x=true
 | [],s,t,⟨y,hy,h1,h2,h3,h4⟩=>⟨y,hy,h1.symm,h2,h4,h3⟩
 | a::u,s,t,⟨y,hy,h1,h2,h3,h4⟩=>by
  obtain⟨x,hx,g1,g2,g3,g4⟩:=Leads.of_snoc (u:=u) h4;exact⟨x,hx,⟨y,hy,h1,h2,h3,g1⟩,g2,g3,g4⟩
def EvEs(es:List Ed):Prop:=∀x∈es,0≤x.e∧x.e<32
structure Found (es:List Ed) (perm:Ed→Bool) (s:Int) (L:List (List Int×Int)) (b:Int):Prop where
 lead:∀r∈L,Leads es perm s r.1 r.2
 sorted:∀j k:Nat,j<k→∀r r':List Int×Int,L[j]? =some r→L[k]? =some r'→wval r.1<wval r'.1
 bd:∀r∈L,wval r.1≤b
section
variable{es:List Ed}{perm:Ed→Bool}{s:Int}{L:List (List Int×Int)}{b:Int}{m i:Nat}
theorem Found.mono(h:Found es perm s L b){j k:Nat}(hjk:j≤k){r r':List Int×Int}(hj:L[j]? =some r)(hk:L[k]? =some r'):wval r.1≤wval r'.1:=by
 by_cases e:j=k
 ·subst e;rw [hj] at hk;cases hk;exact Int.le_refl _
 ·exact Int.le_of_lt (h.sorted j k (by omega) r r' hj hk)
end
def edLt(x y:Ed):Prop:=x.f<y.f∨(x.f=y.f∧x.e<y.e)
def ycG(es:List Ed):Prop:=es.Pairwise edLt
def ybR(es:List Ed)(tg:List Int):Nat→Int→Prop
 | 0,s=>s∈tg
 | k+1,s=>∃x∈es,x.f=s∧ybR es tg k x.t
end Go.Proofs.YtecmobjeeonmaaaGreatDoor
namespace Go.Proofs.YtecmobjeeonmaaaGreatDoor
open Go Go.RowKit
theorem W_of{x:Int}(h0: -9223372036854775808≤x)(h1:x<9223372036854775808):W x=x:=IntWalk.i64_in _ (by omega)
theorem W_nat{k:Nat}(h:k<9223372036854775808):W (k:Int)=k:=W_of (by omega) (by omega)
theorem ya{α:Type}{xs:List α}{i:Nat}(h:i<xs.length):idx xs (i:Int)=some xs[i]:=by rw [ybH,yGe h]
theorem y5i{S O:Type}{f:S→Option (S⊕O)}{s:S}{o:O}{n:Nat}(hn:n≤18446744073709551616)(h:iterF f n s=some o):iter f s=some o:=by
 have mono:∀(n m:Nat) (s:S),n≤m→iterF f n s=some o→iterF f m s=some o:=by
  intro n
  induction n with
  | zero=>intro m s _ h;cases h
  | succ n ih=>
   intro m s hm h;obtain⟨k,rfl⟩:∃k,m=k+1:=⟨m-1,by omega⟩;rw [yc] at h ⊢;split at h
   ·cases h
   ·rename_i h1;exact ih k _ (by omega) h
   ·rename_i h1;exact h
 exact mono n _ s hn h
theorem yd{S O:Type}{f:S→Option (S⊕O)}(P:Nat→S→Prop)(Q:O→Prop):∀(n i:Nat),n<i+18446744073709551616→(∀i s,i<n→P i s→(∃s',f s=some (.inl s')∧P (i+1) s')∨∃o,f s=some (.inr o)∧Q o)→(∀s,P n s→∃o,f s=some (.inr o)∧Q o)→i≤n→
  ∀s,P i s→∃o,iter f s=some o∧Q o:=by
 have key:∀(n:Nat),(∀i s,i<n→P i s→(∃s',f s=some (.inl s')∧P (i+1) s')∨∃o,f s=some (.inr o)∧Q o)→(∀s,P n s→∃o,f s=some (.inr o)∧Q o)→∀(j i:Nat),i+j=n→∀s,P i s→∃o,iterF f (j+1) s=some o∧Q o:=by
  intro n step fin j
  induction j with
  | zero=>
   intro i hi s h;obtain rfl:i=n:=by omega
   obtain⟨o,h1,h2⟩:=fin s h;exact⟨o,by rw [yc,h1],h2⟩
  | succ j ih=>
   intro i hi s h;rcases step i s (by omega) h with ⟨s',h1,h2⟩|⟨o,h1,h2⟩
   ·obtain ⟨o,h3,h4⟩:=ih (i+1) (by omega) s' h2;exact⟨o,by rw [yc,h1];exact h3,h4⟩
   ·exact ⟨o,by rw [yc,h1],h2⟩
 intro n i hn step fin hi s h;obtain⟨o,h1,h2⟩:=key n step fin (n-i) i (by omega) s h;exact⟨o,y5i (by omega) h1,h2⟩
theorem nxt{i:Nat}(h:i<4611686018427387904):W ((i:Int)+1)=((i+1:Nat):Int):=by rw [show (i:Int)+1=((i+1:Nat):Int) by omega,W_nat (by omega)]
theorem ct_lt{i n:Nat}(h:i<n):decide ((i:Int)<(n:Int))=true:=by simp;omega
theorem ct_ge{n:Nat}:¬decide ((n:Int)<(n:Int))=true:=by simp
theorem y9o{α:Type}{xs:List α}{i:Nat}{y:α}(h:i<xs.length):upd xs (i:Int) y=some (xs.set i y):=by
 unfold upd;rw [if_pos ⟨by omega,by omega⟩,Int.toNat_natCast]
theorem y9Z{xs:List Int}(h:xs.length≤4294967296):y2o xs=some xs:=by
 rw [y2o,yr (by simpa using h)];rfl
def errO(e:Int):Unit⊕Int:=if e=0 then .inl () else .inr e
theorem yeB{xs:List Int}{n:Int}(hl:xs.length<4611686018427387904):∀(j i:Nat),i+j=xs.length→
  iterF (y3a xs n) (j+1) (i:Int)=some (errO (yD n (y7o xs i) (xs.drop i))):=by
 intro j
 induction j with
 | zero=>
  intro i hi;have e:xs.drop i= []:=List.drop_of_length_le (by omega);rw [yc,y3a,if_neg (by simp;omega),e];rfl
 | succ j ih=>
  intro i hi;have hlt:i<xs.length:=by omega
  rw [yc,y3a,if_pos (by simp;omega),ya hlt,yOb];by_cases h1:xs[i]<0∨n≤xs[i]
  ·rw [if_pos (by simpa using h1),ygS hlt h1];rfl
  ·rw [if_neg (by simpa using h1)];by_cases h0:0<i
   ·rw [if_pos (by simp;omega),show(i:Int)-1=((i-1:Nat):Int) by omega,W_nat (by omega),ya (show i-1<xs.length by omega),yOb,yOb];by_cases h2:xs[i]≤xs[i-1]
    ·rw [if_pos (by simpa using h2),ygT hlt h1 h0 h2];rfl
    ·rw [if_neg (by simpa using h2),show(i:Int)+1=((i+1:Nat):Int) by omega,W_nat (by omega),yc2 hlt h1 (fun _=>by omega)];exact ih (i+1) (by omega)
   ·rw [if_neg (by simp;omega),yOb,if_neg (by simp),show(i:Int)+1=((i+1:Nat):Int) by omega,W_nat (by omega),yc2 hlt h1 (fun h=>absurd h h0)];exact ih (i+1) (by omega)
theorem y8Z{xs:List Int}{n:Int}(hl:xs.length<4611686018427387904):y2m xs n=some (yD n none xs):=by
 have h:iter (y3a xs n) 0=some (errO (yD n none xs)):=y5i (by omega) (yeB (n:=n) hl xs.length 0 (by omega));rw [y2m,h,yOb];by_cases h0:yD n none xs=0
 ·rw [h0];rfl
 ·rw [errO,if_neg h0]
theorem yh5{xs:List Int}{x:Int}(hl:xs.length<4611686018427387904):∀(j i:Nat),i+j=xs.length→
  ∃o,iterF (y3F xs x) (j+1) (i:Int)=some o∧((o= .inl ()∧x∉xs.drop i)∨∃k:Nat,i≤k∧o= .inr (k:Int)∧x∈xs.drop i):=by
 intro j
 induction j with
 | zero=>
  intro i hi;have e:xs.drop i= []:=List.drop_of_length_le (by omega);refine⟨.inl (),?_,.inl ⟨rfl,by rw [e];simp⟩⟩;rw [yc,y3F,if_neg (by simp;omega)]
 | succ j ih=>
  intro i hi;have hlt:i<xs.length:=by omega
  rw [yc,y3F,if_pos (by simp;omega),ya hlt,yOb];by_cases h1:x=xs[i]
  ·rw [if_pos (by simpa using h1)];exact⟨_,rfl,.inr ⟨i,Nat.le_refl _,rfl,by rw [List.drop_eq_getElem_cons hlt,h1];exact List.mem_cons_self⟩⟩
  ·rw [if_neg (by simpa using h1),show(i:Int)+1=((i+1:Nat):Int) by omega,W_nat (by omega)];obtain⟨o,h2,h3⟩:=ih (i+1) (by omega);refine⟨o,h2,?_⟩;rw [List.drop_eq_getElem_cons hlt];rcases h3 with ⟨h4,h5⟩|⟨k,h4,h5,h6⟩
   ·exact .inl ⟨h4,fun hc=>(List.mem_cons.1 hc).elim h1 h5⟩
   ·exact .inr ⟨k,by omega,h5,List.mem_cons_of_mem _ h6⟩
theorem y2d{xs:List Int}{x:Int}(hl:xs.length<4611686018427387904):ye xs x=some (hasB xs x):=by
 obtain⟨o,h1,h2⟩:=yh5 (x:=x) hl xs.length 0 (by omega);have h:iter (y3F xs x) 0=some o:=y5i (by omega) h1;rw [ye,y6D,h,yOb];rcases h2 with ⟨rfl,h4⟩|⟨k,_,rfl,h4⟩
 ·rw [y9A.2 (by simpa using h4)];rfl
 ·rw [yb.2 (by simpa using h4)];show some (decide ((k:Int)≥0))=some true;simp
def edP(x:Ed):Int×Int×Int:=(x.f,x.e,x.t)
def autP(a:Aut):List Int×Int×List Int×List (Int×Int×Int):=(a.al,a.n,a.ms,a.es.map edP)
def prevE(es:List Ed)(k:Nat):Option Ed:=if k=0 then none else es[k-1]?
theorem yeC{al:List Int}{n:Int}{es:List Ed}{k:Nat}(hk:k<es.length):edErr al n (prevE es k) (es.drop k)=
  if(es[k].f<0∨n≤es[k].f∨es[k].t<0∨n≤es[k].t) then 2 else if hasB al es[k].e=false then 9 else if(∃q,prevE es k=some q∧(es[k].f<q.f∨(es[k].f=q.f∧es[k].e≤q.e))) then 5 else edErr al n (prevE es (k+1)) (es.drop (k+1)):=by
 rw [List.drop_eq_getElem_cons hk,edErr];congr 3;simp [prevE,yGe hk]
theorem yh6{a:Aut}(hl:a.es.length<4611686018427387904)(hal:a.al.length<4611686018427387904):∀(j i:Nat),i+j=a.es.length→
  iterF (y2w (autP a)) (j+1) (i:Int)=some (errO (edErr a.al a.n (prevE a.es i) (a.es.drop i))):=by
 have hlen:(autP a).2.2.2.length=a.es.length:=by simp [autP]
 have hat:∀(i:Nat) (h:i<a.es.length),idx (autP a).2.2.2 (i:Int)=some (edP a.es[i]):=fun i h=>by
  rw [ya (by rw [hlen];exact h)];simp [autP]
 intro j
 induction j with
 | zero=>
  intro i hi;have e:a.es.drop i= []:=List.drop_of_length_le (by omega);rw [yc,y2w,if_neg (by rw [hlen];simp;omega),e];rfl
 | succ j ih=>
  intro i hi;have hlt:i<a.es.length:=by omega
  have hnext:y2v (i:Int)=some (.inl ((i+1:Nat):Int)):=by
   rw [y2v,show(i:Int)+1=((i+1:Nat):Int) by omega,W_nat (by omega)]
  rw [yc,y2w,if_pos (by rw [hlen];simp;omega),hat i hlt,yOb,yeC hlt];by_cases h1:a.es[i].f<0∨a.n≤a.es[i].f∨a.es[i].t<0∨a.n≤a.es[i].t
  ·rw [if_pos (by simp only [Bool.or_eq_true,decide_eq_true_eq];show((a.es[i].f<0∨a.es[i].f≥a.n)∨a.es[i].t<0)∨a.es[i].t≥a.n;omega),if_pos h1];rfl
  ·rw [if_neg (by simp only [Bool.or_eq_true,decide_eq_true_eq];show ¬(((a.es[i].f<0∨a.es[i].f≥a.n)∨a.es[i].t<0)∨a.es[i].t≥a.n);omega),if_neg h1];rw [show ye (autP a).1 (edP a.es[i]).2.1=some (hasB a.al a.es[i].e) from y2d hal,yOb];cases h2:hasB a.al a.es[i].e with
   | false=>rfl
   | true=>
    rw [if_neg (show ¬(!true)=true by simp),if_neg (show ¬(true=false) by simp)];by_cases h0:i=0
    ·subst h0;rw [if_pos (by simp),hnext,if_neg (by rintro⟨q,hq,_⟩;simp [prevE] at hq)];exact ih 1 (by omega)
    ·have hp:prevE a.es i=some a.es[i-1]:=by rw [prevE,if_neg h0,yGe (by omega)]
     rw [if_neg (by simp;omega),show(i:Int)-1=((i-1:Nat):Int) by omega,W_nat (by omega),hat (i-1) (by omega),yOb];by_cases h3:a.es[i].f<a.es[i-1].f∨(a.es[i].f=a.es[i-1].f∧a.es[i].e≤a.es[i-1].e)
     ·rw [if_pos (by simp only [Bool.or_eq_true,Bool.and_eq_true,decide_eq_true_eq,beq_iff_eq];exact h3),if_pos ⟨_,hp,h3⟩];rfl
     ·rw [if_neg (by simp only [Bool.or_eq_true,Bool.and_eq_true,decide_eq_true_eq,beq_iff_eq];exact h3),hnext,if_neg (by rintro⟨q,hq,h4⟩;rw [hp] at hq;cases hq;exact h3 h4)];exact ih (i+1) (by omega)
theorem yb6{a:Aut}(hl:a.es.length<4611686018427387904)(hal:a.al.length<4611686018427387904)(hms:a.ms.length<4611686018427387904):y2b (autP a)=some a.err:=by
 have h:iter (y2w (autP a)) 0=some (errO (edErr a.al a.n none a.es)):=y5i (by omega) (yh6 hl hal a.es.length 0 (by omega));have he:y4C (autP a)=some (edErr a.al a.n none a.es):=by
  rw [y4C,h,yOb];by_cases h0:edErr a.al a.n none a.es=0
  ·rw [h0];rfl
  ·rw [errO,if_neg h0]
 rw [y2b,show y2m (autP a).1 32=some (yD 32 none a.al) from y8Z hal,yOb,Aut.err];by_cases h1:(yD 32 none a.al != 0)=true
 ·rw [if_pos h1,if_pos h1]
 ·rw [if_neg h1,if_neg h1];by_cases h2:a.n<0
  ·rw [if_pos (show decide ((autP a).2.1<0)=true from decide_eq_true h2),if_pos h2]
  ·rw [if_neg (show ¬decide ((autP a).2.1<0)=true from fun e=>h2 (of_decide_eq_true e)),if_neg h2];by_cases h3:4096<a.n
   ·rw [if_pos (show decide ((autP a).2.1>4096)=true from decide_eq_true h3),if_pos h3]
   ·rw [if_neg (show ¬decide ((autP a).2.1>4096)=true from fun e=>h3 (of_decide_eq_true e)),if_neg h3,show y2m (autP a).2.2.1 (autP a).2.1=some (yD a.n none a.ms) from y8Z hms,yOb];by_cases h4:(yD a.n none a.ms != 0)=true
    ·rw [if_pos h4,if_pos h4]
    ·rw [if_neg h4,if_neg h4,he];rfl
abbrev Inc(xs:List Int):Prop:=xs.Pairwise (· < ·)
theorem yib{i j:Nat}(h:i+j<9223372036854775808):W ((IntKind.u64.wrap (W ((i:Int)+(j:Int)))).fdiv (2 ^ (min (1:Int).toNat 64)))=(((i+j)/2:Nat):Int):=by
 rw [W_of (x:=(i:Int)+j) (by omega) (by omega),IntWalk.u64_in _ (by omega),show(2:Int) ^ (min (1:Int).toNat 64)=2 from rfl,Int.fdiv_eq_ediv_of_nonneg _ (by omega),W_of (by omega) (by omega)];omega
theorem yic(x y:Int):y6P x y=some (decide (x<y)):=by
 rw [y6P,show y6c x=some false by rw [y6c];simp,yOb,if_neg (by simp),yOb,Bool.false_or]
theorem yiJ{xs:List Int}{t:Int}(hl:xs.length<4294967296)(hs:Inc xs):∀(f i j:Nat),j≤i+f→i≤j→j≤xs.length→(∀k (h:k<xs.length),k<i→xs[k]<t)→(∀k (h:k<xs.length),j≤k→t≤xs[k])→
  ∃p:Nat,iterF (y1w xs t) (f+1) ((j:Int),(i:Int))=some (p:Int)∧p≤xs.length∧(∀k (h:k<xs.length),k<p→xs[k]<t)∧(∀k (h:k<xs.length),p≤k→t≤xs[k]):=by
 intro f
 induction f with
 | zero=>
  intro i j h1 h2 h3 h4 h5;refine⟨i,?_,by omega,h4,fun k h hk=>h5 k h (by omega)⟩;rw [yc,y1w,if_neg (by simp;omega)]
 | succ f ih=>
  intro i j h1 h2 h3 h4 h5;rw [yc,y1w];dsimp only;by_cases hij:i<j
  ·have hm:(i+j)/2<xs.length:=by omega
   rw [if_pos (by simp;omega),yib (by omega),ya hm,yOb,yic,yOb];have mono:∀(a b:Nat) (ha:a<xs.length) (hb:b<xs.length),a≤b→xs[a]≤xs[b]:=fun a b ha hb hab=>by
    rcases Nat.lt_or_ge a b with h|h
    ·exact Int.le_of_lt (List.pairwise_iff_getElem.1 hs a b ha hb h)
    ·have:a=b:=by omega
     subst this;exact Int.le_refl _
   by_cases hc:xs[(i+j)/2]<t
   ·rw [if_pos (decide_eq_true hc),show(((i+j)/2:Nat):Int)+1=(((i+j)/2+1:Nat):Int) by omega,W_nat (by omega)];exact ih _ j (by omega) (by omega) h3 (fun k h hk=>by have:=mono k _ h hm (by omega);omega) h5
   ·rw [if_neg (by simpa using hc)];exact ih i _ (by omega) (by omega) (by omega) h4 (fun k h hk=>by have:=mono _ k hm h hk;omega)
  ·rw [if_neg (by simp;omega)];exact⟨i,rfl,by omega,h4,fun k h hk=>h5 k h (by omega)⟩
theorem y7y{xs:List Int}{t:Int}(hl:xs.length<4294967296)(hs:Inc xs):y3z xs t=some (hasB xs t):=by
 obtain⟨p,hp,hle,hlo,hhi⟩:=yiJ (t:=t) hl hs xs.length 0 xs.length (by omega) (by omega) (by omega) (fun k h hk=>absurd hk (by omega)) (fun k h hk=>absurd hk (by omega));have hi:iter (y1w xs t) ((xs.length:Int),0)=some (p:Int):=y5i (by omega) hp;rw [y3z,y5j,hi,yOb];by_cases hlt:p<xs.length
 ·rw [if_pos (by simpa using hlt),ya hlt,yOb];by_cases he:xs[p]=t
  ·rw [if_pos (by simpa using he)];show some true=_;rw [yb.2 (he▸List.getElem_mem hlt)]
  ·rw [if_neg (by simpa using he),yOb,show y5b xs[p]=some false by rw [y5b];simp,yOb,if_neg (by simp)];show some false=_;rw [y9A.2];intro hm;obtain⟨k,hk,hk2⟩:=List.getElem_of_mem hm;rcases Nat.lt_trichotomy k p with h|h|h
   ·have:=hlo k hk h;omega
   ·subst h;exact he hk2
   ·have:=hhi p hlt (Nat.le_refl _);have:=List.pairwise_iff_getElem.1 hs p k hlt hk h;omega
 ·rw [if_neg (by simpa using hlt)];show some false=_;rw [y9A.2];intro hm;obtain⟨k,hk,hk2⟩:=List.getElem_of_mem hm;have:=hlo k hk (by omega);omega
theorem y6R{n:Int}:∀{p:Option Int} {xs:List Int},xs.Pairwise (· < ·)→(∀x∈xs,0≤x∧x<n)→(∀q,p=some q→∀x∈xs,q<x)→yD n p xs=0
 | _,[],_,_,_=>rfl
 | p,x::xs,h,hr,hp=>by
  obtain⟨h1,h2⟩:=List.pairwise_cons.1 h;have h3:=hr x (List.mem_cons_self ..);rw [yD,if_neg (by omega),if_neg ?_]
  ·exact y6R h2 (fun y hy=>hr y (List.mem_cons_of_mem _ hy)) (fun q hq y hy=>by cases hq;exact h1 y hy)
  ·rintro ⟨q,hq,hle⟩;have:=hp q hq x (List.mem_cons_self ..);omega
theorem yee{al:List Int}{n:Int}:∀{p:Option Ed} {es:List Ed},ycG es→(∀x∈es,0≤x.f∧x.f<n∧0≤x.t∧x.t<n∧hasB al x.e=true)→(∀q,p=some q→∀x∈es,edLt q x)→edErr al n p es=0
 | _,[],_,_,_=>rfl
 | p,x::xs,h,hr,hp=>by
  obtain⟨h1,h2⟩:=List.pairwise_cons.1 h;have h3:=hr x (List.mem_cons_self ..);rw [edErr,if_neg (by omega),if_neg (by rw [h3.2.2.2.2];simp),if_neg ?_]
  ·exact yee h2 (fun y hy=>hr y (List.mem_cons_of_mem _ hy)) (fun q hq y hy=>by cases hq;exact h1 y hy)
  ·rintro ⟨q,hq,hle⟩;have:=hp q hq x (List.mem_cons_self ..);unfold edLt at this;omega
theorem y9E(a:AutT):autP (toAut a)=a:=by
 obtain⟨x,y,z,es⟩:=a;simp only [autP,toAut,List.map_map];rw [show (edP∘toEd)=id from rfl,List.map_id]
structure Right (a:AutT) (n:Nat):Prop where
 nn:a.2.1=(n:Int)
 nl:n≤4096
 ali:Inc a.1
 alr:∀x∈a.1,0≤x∧x<32
 msi:Inc a.2.2.1
 msr:∀x∈a.2.2.1,0≤x∧x<(n:Int)
 es:∀x∈a.2.2.2,0≤x.1∧x.1<(n:Int)∧0≤x.2.2∧x.2.2<(n:Int)∧x.2.1∈a.1
 so:a.2.2.2.Pairwise fun x y=>x.1<y.1∨(x.1=y.1∧x.2.1<y.2.1)
 l1:a.1.length≤1000000
 l2:a.2.2.1.length≤1000000
 l3:a.2.2.2.length≤1000000
namespace Right
variable{a:AutT}{n:Nat}
theorem sorted(h:Right a n):ycG (a.2.2.2.map toEd):=by
 unfold ycG;rw [List.pairwise_map];exact h.so
theorem ein(h:Right a n):∀x∈a.2.2.2.map toEd,0≤x.f∧x.f<(n:Int)∧0≤x.t∧x.t<(n:Int):=fun x hx=>by
 obtain⟨y,hy,rfl⟩:=List.mem_map.1 hx;have:=h.es y hy;exact⟨this.1,this.2.1,this.2.2.1,this.2.2.2.1⟩
theorem evs(h:Right a n):EvEs (a.2.2.2.map toEd):=fun x hx=>by
 obtain⟨y,hy,rfl⟩:=List.mem_map.1 hx;exact h.alr _ (h.es y hy).2.2.2.2
theorem err(h:Right a n):(toAut a).err=0:=by
 have h1:yD 32 none (toAut a).al=0:=y6R h.ali h.alr (fun q hq=>by cases hq);have hn:(toAut a).n=n:=h.nn;have h2:yD (toAut a).n none (toAut a).ms=0:=by rw [hn];exact y6R h.msi h.msr (fun q hq=>by cases hq)
 have h3:edErr (toAut a).al (toAut a).n none (toAut a).es=0:=by
  rw [hn];refine yee h.sorted (fun x hx=>?_) (fun q hq=>by cases hq);obtain⟨y,hy,rfl⟩:=List.mem_map.1 hx;have:=h.es y hy;exact⟨this.1,this.2.1,this.2.2.1,this.2.2.2.1,yb.2 this.2.2.2.2⟩
 have:=h.nl;unfold Aut.err;rw [h1,if_neg (by decide),if_neg (by rw [hn];omega),if_neg (by rw [hn];omega),h2,if_neg (by decide),h3]
theorem check(h:Right a n):y2b a=some 0:=by
 have h1:=h.l1;have h2:=h.l2;have h3:=h.l3;have:=yb6 (a:=toAut a) (by simp [toAut];omega) (by simp [toAut];omega) (by simp [toAut];omega);rwa [y9E,h.err] at this
end Right
theorem y5N{n:Nat}:∀{xs:List Int} {lo:Int},Inc xs→(∀x∈xs,lo≤x∧x<(n:Int))→0≤lo→xs.length≤n-lo.toNat
 | [],_,_,_,_=>Nat.zero_le _
 | x::xs,lo,h,hr,h0=>by
  obtain⟨h1,h2⟩:=List.pairwise_cons.1 h;have hx:=hr x (List.mem_cons_self ..);have:=y5N (n:=n) (lo:=x+1) h2 (fun y hy=>⟨by have:=h1 y hy;omega,(hr y (List.mem_cons_of_mem _ hy)).2⟩) (by omega);rw [List.length_cons];omega
theorem y2e{α:Type}(a:α)(us:List α):idx (a::us) 0=some a:=rfl
theorem y5H{α:Type}(a:α)(us:List α):slc (a::us) 1 ((a::us).length:Int)=some us:=by
 rw [slc,if_pos ⟨by omega,by simp;omega,by omega⟩];simp
structure Mrg (out us vs:List Int):Prop where
 o:Inc out
 u:Inc us
 v:Inc vs
 ou:∀x∈out,∀y∈us,x<y
 ov:∀x∈out,∀y∈vs,x<y
 ro:∀x∈out,0≤x∧x<32
 ru:∀x∈us,0≤x∧x<32
 rv:∀x∈vs,0≤x∧x<32
theorem Mrg.swap{out us vs:List Int}(h:Mrg out us vs):Mrg out vs us:=⟨h.o,h.v,h.u,h.ov,h.ou,h.ro,h.rv,h.ru⟩
theorem Mrg.push{out us vs:List Int}{a:Int}(h:Mrg out (a::us) vs)(hv:∀y∈vs,a<y):Mrg (out++[a]) us vs:=by
 obtain⟨u1,u2⟩:=List.pairwise_cons.1 h.u;refine⟨?_,u2,h.v,?_,?_,?_,fun x hx=>h.ru x (List.mem_cons_of_mem _ hx),h.rv⟩
 ·unfold Inc;rw [List.pairwise_append];exact⟨h.o,List.pairwise_singleton _ _,fun x hx y hy=>by rw [List.mem_singleton.1 hy];exact h.ou x hx a (List.mem_cons_self ..)⟩
 ·intro x hx y hy;rcases List.mem_append.1 hx with hx|hx
  ·exact h.ou x hx y (List.mem_cons_of_mem _ hy)
  ·rw [List.mem_singleton.1 hx];exact u1 y hy
 ·intro x hx y hy;rcases List.mem_append.1 hx with hx|hx
  ·exact h.ov x hx y hy
  ·rw [List.mem_singleton.1 hx];exact hv y hy
 ·intro x hx;rcases List.mem_append.1 hx with hx|hx
  ·exact h.ro x hx
  ·rw [List.mem_singleton.1 hx];exact h.ru a (List.mem_cons_self ..)
theorem Mrg.tailv{out us vs:List Int}{a:Int}(h:Mrg out us (a::vs)):Mrg out us vs:=
 ⟨h.o,h.u,(List.pairwise_cons.1 h.v).2,h.ou,fun x hx y hy=>h.ov x hx y (List.mem_cons_of_mem _ hy),h.ro,h.ru,fun x hx=>h.rv x (List.mem_cons_of_mem _ hx)⟩
theorem Mrg.len{out us vs:List Int}(h:Mrg out us vs):out.length≤32:=by
 have:=y5N (n:=32) (lo:=0) h.o h.ro (Int.le_refl _);simpa using this
theorem Mrg.lt{out us vs:List Int}{a b:Int}(h:Mrg out us (b::vs))(hab:a<b):∀y∈b::vs,a<y:=fun y hy=>by
 rcases List.mem_cons.1 hy with rfl|hy
 ·exact hab
 ·have:=(List.pairwise_cons.1 h.v).1 y hy;omega
theorem yfp{out us vs:List Int}(h:Mrg out us vs)(hne:0<us.length+vs.length):
  ∃o u v,yf yE (out,us,vs)=some (.inl (o,u,v))∧Mrg o u v∧u.length+v.length+1≤us.length+vs.length:=by
 have hl:=h.len;have ho:∀a:Int,app out ([a]:List Int)=some (out++[a]):=fun a=>yr (by simp;omega);cases us with
 | nil=>
  cases vs with
  | nil=>simp at hne
  | cons b vs=>
   refine⟨out++[b],[],vs,?_,(h.swap.push (fun y hy=>by cases hy)).swap,by simp⟩;rw [yf];dsimp only;rw [if_pos (by simp),if_neg (by simp),yw];dsimp only;rw [if_pos (by simp),if_pos (by simp),yl,if_neg (by simp),yi,if_pos rfl];dsimp only;rw [y2e,yOb,y5H,yOb,yp,show yE false true=some true from rfl,yOb,if_pos rfl];dsimp only;rw [ho,yOb]
 | cons a us=>
  cases vs with
  | nil=>
   refine⟨out++[a],us,[],?_,h.push (fun y hy=>by cases hy),by simp⟩;rw [yf];dsimp only;rw [if_pos (by simp),if_pos (by simp),if_pos (by simp),yw];dsimp only;rw [if_neg (by simp),yl,if_pos rfl];dsimp only;rw [y2e,yOb,y5H,yOb,yi,if_neg (by simp),yp,show yE true false=some true from rfl,yOb,if_pos rfl];dsimp only;rw [ho,yOb]
  | cons b vs=>
   have e0:yf yE (out,a::us,b::vs)=yl yE (out,a::us,b::vs) (decide (a≤b)) (decide (b≤a)):=by
    rw [yf];dsimp only;rw [if_pos (by simp),if_pos (by simp),if_neg (by simp;omega),y2e,yOb,y2e,yOb,yw];dsimp only;rw [if_pos (by simp),if_neg (by simp;omega),y2e,yOb,y2e,yOb]
   rw [e0,yl];dsimp only;by_cases h1:a<b
   ·refine ⟨out++[a],us,b::vs,?_,h.push (h.lt h1),by simp;omega⟩;rw [if_pos (show decide (a≤b)=true by simp;omega),y2e,yOb,y5H,yOb,yi,if_neg (by simp;omega),yp,show decide (a≤b)=true by simp;omega,show decide (b≤a)=false by simp;omega,
     show yE true false=some true from rfl,yOb,if_pos rfl]
    dsimp only;rw [ho,yOb]
   ·by_cases h2:b<a
    ·refine ⟨out++[b],a::us,vs,?_,(h.swap.push (h.swap.lt h2)).swap,by simp;omega⟩;rw [if_neg (show ¬decide (a≤b)=true by simp;omega),yi,if_pos (show decide (b≤a)=true by simp;omega)];dsimp only;rw [y2e,yOb,y5H,yOb,yp,show decide (a≤b)=false by simp;omega,show decide (b≤a)=true by simp;omega,
      show yE false true=some true from rfl,yOb,if_pos rfl]
     dsimp only;rw [ho,yOb]
    ·obtain rfl:a=b:=by omega
     refine⟨out++[a],us,vs,?_,h.tailv.push ((List.pairwise_cons.1 h.v).1),by simp;omega⟩;rw [if_pos (show decide (a≤a)=true by simp),y2e,yOb,y5H,yOb,yi,if_pos (show decide (a≤a)=true by simp)];dsimp only;rw [y2e,yOb,y5H,yOb,yp,show decide (a≤a)=true by simp,
      show yE true true=some true from rfl,yOb,if_pos rfl]
     dsimp only;rw [ho,yOb]
def Alp(xs:List Int):Prop:=Inc xs∧∀x∈xs,0≤x∧x<32
theorem Alp.nil :Alp []:=⟨List.Pairwise.nil,fun x hx=>by cases hx⟩
theorem Alp.len{xs:List Int}(h:Alp xs):xs.length≤32:=by
 have:=y5N (n:=32) (lo:=0) h.1 h.2 (Int.le_refl _);simpa using this
theorem yh7{us vs:List Int}(hu:Alp us)(hv:Alp vs):∃o,y4S us vs=some o∧Alp o:=by
 have h0:Mrg [] us vs:=⟨List.Pairwise.nil,hu.1,hv.1,fun x hx=>(by cases hx),fun x hx=>(by cases hx),fun x hx=>(by cases hx),hu.2,hv.2⟩;have l1:=hu.len;have l2:=hv.len;obtain⟨o,h1,h2⟩:=yd (f:=yf yE) (fun i s=>Mrg s.1 s.2.1 s.2.2∧s.2.1.length+s.2.2.length+i≤us.length+vs.length) (fun o=>Alp o) (us.length+vs.length) 0 (by omega) (fun i s hi ⟨g1,g2⟩=>by
   obtain⟨out,u,v⟩:=s;dsimp only at g1 g2;by_cases hne:0<u.length+v.length
   ·obtain ⟨o,u',v',e,g3,g4⟩:=yfp g1 hne;exact .inl ⟨_,e,g3,by dsimp only;omega⟩
   ·have e1:u= []:=List.eq_nil_of_length_eq_zero (by omega);have e2:v= []:=List.eq_nil_of_length_eq_zero (by omega);subst e1;subst e2;exact .inr ⟨out,rfl,g1.o,g1.ro⟩) (fun s ⟨g1,g2⟩=>by
   obtain⟨out,u,v⟩:=s;dsimp only at g1 g2;have e1:u= []:=List.eq_nil_of_length_eq_zero (by omega);have e2:v= []:=List.eq_nil_of_length_eq_zero (by omega);subst e1;subst e2;exact⟨out,rfl,g1.o,g1.ro⟩) (Nat.zero_le _) ([],us,vs) ⟨h0,by dsimp only;omega⟩
 exact⟨o,by rw [y4S,y3g,h1];rfl,h2⟩
theorem ygd{l:List AutT}(hl:l.length≤1000)(h:∀a∈l,Alp a.1):∃ev,y4T l=some ev∧Alp ev:=by
 obtain⟨o,h1,h2⟩:=yd (f:=y1N l) (fun i s=>s.1=(i:Int)∧Alp s.2) (fun o=>Alp o) l.length 0 (by omega) (fun i s hi ⟨e1,g1⟩=>by
   obtain⟨k,out⟩:=s;dsimp only at e1 g1;subst e1;obtain⟨o,e,g2⟩:=yh7 g1 (h _ (List.getElem_mem hi));refine .inl ⟨(((i+1:Nat):Int),o),?_,rfl,g2⟩;rw [y1N];dsimp only;rw [if_pos (ct_lt hi),ya hi,yOb,e,yOb,nxt (by omega)]) (fun s ⟨e1,g1⟩=>by
   obtain⟨k,out⟩:=s;dsimp only at e1 g1;subst e1;refine⟨out,?_,g1⟩;rw [y1N];dsimp only;rw [if_neg ct_ge]) (Nat.zero_le _) (0,[]) ⟨rfl,Alp.nil⟩
 exact⟨o,by rw [y4T,h1];rfl,h2⟩
section
variable{κ β:Type}[BEq κ]
theorem yh8{m:List (κ×β)}{k:κ}{v:β}(h:kget m k=some v):∃e∈m,e.2=v:=by
 unfold kget at h;rw [Option.map_eq_some_iff] at h;obtain⟨e,h1,h2⟩:=h;exact⟨e,List.mem_of_find?_eq_some h1,h2⟩
theorem ya0{m:List (κ×β)}{k:κ}{v:β}{e:κ×β}(h:e∈kput m k v):e∈m∨e=(k,v):=by
 unfold kput at h;split at h
 ·exact List.mem_or_eq_of_mem_set h
 ·rcases List.mem_append.1 h with h|h
  ·exact .inl h
  ·exact .inr (List.mem_singleton.1 h)
theorem yc5{m:List (κ×β)}{k:κ}:(kget m k).isSome=m.any fun p=>k==p.1:=by
 unfold kget
 induction m with
 | nil=>rfl
 | cons p m ih=>
  rw [List.any_cons];cases h:k==p.1 with
  | true=>rw [List.find?_cons_of_pos (by simpa using h)];rfl
  | false=>rw [List.find?_cons_of_neg (by simp [h])];simpa using ih
end
theorem beqB(k:ByteArray):(k==k)=true:=by rw [beq_toListBytes];simp
theorem ydu{β:Type}{m:List (ByteArray×β)}{k:ByteArray}{v:β}:(kget (kput m k v) k).isSome=true:=by
 rw [yc5,List.any_eq_true];refine⟨(k,v),?_,beqB k⟩;unfold kput;split
 ·rename_i h;exact List.mem_set h _
 ·exact List.mem_append_right _ (List.mem_singleton.2 rfl)
theorem yge{β:Type}{m:List (ByteArray×β)}{k q:ByteArray}{v:β}(h:(kget m q).isSome=true):(kget (kput m k v) q).isSome=true:=by
 rw [yc5,List.any_eq_true] at h ⊢;obtain⟨e,h1,h2⟩:=h;have hq:=eqS h2;unfold kput;split
 ·rename_i hlt;obtain⟨i,hi,rfl⟩:=List.getElem_of_mem h1;by_cases e:kidx (m.map (·.1)) k=i
  ·refine ⟨(k,v),List.mem_set hlt _,?_⟩;have hk:(fun p=>k==p) ((m.map (·.1))[kidx (m.map (·.1)) k]'(by rw [List.length_map];exact hlt))=true:=List.findIdx_getElem (p:=fun p=>k==p) (w:=by rw [List.length_map];exact hlt);rw [List.getElem_map] at hk;have hk:=eqS hk;subst e;rw [hq,←hk];exact beqB k
  ·refine ⟨m[i],?_,h2⟩;have:=List.getElem_set_ne (l:=m) e (a:=(k,v)) (by rw [List.length_set];exact hi);rw [←this];exact List.getElem_mem _
 ·exact ⟨e,List.mem_append_left _ h1,h2⟩
def InT(l:List AutT)(t:List Int):Prop:=t.length=l.length∧∀i (h:i<l.length) (h':i<t.length),0≤t[i]∧t[i]<l[i].2.1
theorem InT.set{l:List AutT}{t:List Int}(h:InT l t){i:Nat}(hi:i<l.length){v:Int}(h0:0≤v)(h1:v<l[i].2.1):InT l (t.set i v):=by
 refine⟨by rw [List.length_set];exact h.1,fun k hk hk'=>?_⟩;rw [List.getElem_set];split
 ·rename_i e;subst e;exact⟨h0,h1⟩
 ·exact h.2 k hk _
structure MOk (l:List AutT) (m:List AutT×List Int×List (List ((Int×Int)×Int))):Prop where
 ml:m.1=l
 ev:Alp m.2.1
 len:m.2.2.length=l.length
 edge:∀i (h:i<l.length) (h':i<m.2.2.length),∀e∈m.2.2[i],0≤e.2∧e.2<l[i].2.1
theorem yid{a:AutT}{n:Nat}(hr:Right a n):∃o,iter (y2c a) (0,([]:List ((Int×Int)×Int)))=some o∧∀e∈o,0≤e.2∧e.2<(n:Int):=by
 have hl:=hr.l3;refine yd (f:=y2c a) (fun i s=>s.1=(i:Int)∧∀e∈s.2,0≤e.2∧e.2<(n:Int)) (fun o=>∀e∈o,0≤e.2∧e.2<(n:Int)) a.2.2.2.length 0 (by omega) (fun i s hi ⟨e1,g1⟩=>?_) (fun s ⟨e1,g1⟩=>?_) (Nat.zero_le _) _ ⟨rfl,fun e he=>(by cases he)⟩
 ·obtain ⟨k,out⟩:=s;dsimp only at e1 g1;subst e1;have hx:=hr.es _ (List.getElem_mem hi);refine .inl ⟨(((i+1:Nat):Int),kput out (a.2.2.2[i].1,a.2.2.2[i].2.1) a.2.2.2[i].2.2),?_,rfl,fun e he=>?_⟩
  ·rw [y2c];dsimp only;rw [if_pos (ct_lt hi),ya hi,yOb,nxt (by omega)]
  ·rcases ya0 he with he|he
   ·exact g1 e he
   ·rw [he];exact⟨hx.2.2.1,hx.2.2.2.1⟩
 ·obtain ⟨k,out⟩:=s;dsimp only at e1 g1;subst e1;refine⟨out,?_,g1⟩;rw [y2c];dsimp only;rw [if_neg ct_ge]
def keyK(t:List Int):ByteArray:=⟨(keyB t).toArray⟩
theorem y8g :∀(N:Nat) (l:List Nat),l.Nodup→(∀x∈l,x<N)→l.length≤N
 | 0,[],_,_=>Nat.le_refl _
 | 0,x::l,_,h=>absurd (h x (List.mem_cons_self ..)) (by omega)
 | N+1,l,hn,h=>by
  by_cases hm:N∈l
  ·have h1:=y8g N (l.erase N) (hn.erase N) (fun x hx=>by
    have h2:=(hn.mem_erase_iff).1 hx;have:=h x h2.2;omega)
   rw [List.length_erase_of_mem hm] at h1;omega
  ·have h1:=y8g N l hn (fun x hx=>by
    have:=h x hx;have:x≠N:=fun e=>hm (e▸hx);omega)
   omega
abbrev Kno :=List (ByteArray×Int)
structure SI (l:List AutT) (ev:List Int) (i j:Nat) (kn:Kno) (T:List (List Int)) (E:List (Int×Int×Int)):Prop where
 pos:0<T.length
 nd:T.Nodup
 inT:∀t∈T,InT l t
 key:∀t∈T,(kget kn (keyK t)).isSome=true
 val:∀e∈kn,0≤e.2∧e.2<(T.length:Int)
 er:∀x∈E,0≤x.1∧x.1≤(i:Int)∧0≤x.2.2∧x.2.2<(T.length:Int)∧x.2.1∈ev
 es:∀x∈E,x.1=(i:Int)→x.2.1∈ev.take j
 so:E.Pairwise fun x y=>x.1<y.1∨(x.1=y.1∧x.2.1<y.2.1)
 el:E.length≤32*i+j
 lk:∀k:Nat,0<k→k<T.length→∃x∈E,x.2.2=(k:Int)∧0≤x.1∧x.1<(k:Int)
section
variable{l:List AutT}{ev:List Int}{i j:Nat}{kn:Kno}{T:List (List Int)}{E:List (Int×Int×Int)}
theorem SI.skip(h:SI l ev i j kn T E):SI l ev i (j+1) kn T E:=
 ⟨h.pos,h.nd,h.inT,h.key,h.val,h.er,fun x hx e=>(List.take_subset_take_left ev (Nat.le_succ j)) (h.es x hx e),h.so,by have:=h.el;omega,h.lk⟩
theorem SI.next(h:SI l ev i j kn T E)(hj:j≤32):SI l ev (i+1) 0 kn T E:=
 ⟨h.pos,h.nd,h.inT,h.key,h.val,fun x hx=>by have:=h.er x hx;exact⟨this.1,by omega,this.2.2⟩,fun x hx e=>by have:=h.er x hx;omega,h.so,by have:=h.el;omega,h.lk⟩
theorem yf8(he:Inc ev)(hj:j<ev.length):∀x∈ev.take j,x<ev[j]:=fun x hx=>by
 obtain⟨k,hk,rfl⟩:=List.getElem_of_mem hx;rw [List.length_take] at hk;rw [List.getElem_take];exact List.pairwise_iff_getElem.1 he k j (by omega) hj (by omega)
theorem SI.edge(h:SI l ev i j kn T E)(he:Inc ev)(hi:i<T.length)(hj:j<ev.length){q:Int}(h0:0≤q)(h1:q<T.length):SI l ev i (j+1) kn T (E++[((i:Int),ev[j],q)]):=by
 refine⟨h.pos,h.nd,h.inT,h.key,h.val,fun x hx=>?_,fun x hx e=>?_,?_,by have:=h.el;rw [List.length_append,List.length_singleton];omega,fun k h2 h3=>?_⟩
 ·rcases List.mem_append.1 hx with hx|hx
  ·exact h.er x hx
  ·rw [List.mem_singleton.1 hx];exact⟨by dsimp only;omega,by dsimp only;omega,h0,h1,List.getElem_mem _⟩
 ·rcases List.mem_append.1 hx with hx|hx
  ·exact (List.take_subset_take_left ev (Nat.le_succ j)) (h.es x hx e)
  ·rw [List.mem_singleton.1 hx,yby ev j hj];exact List.mem_append_right _ (List.mem_singleton.2 rfl)
 ·rw [List.pairwise_append];refine⟨h.so,List.pairwise_singleton _ _,fun a ha b hb=>?_⟩;rw [List.mem_singleton.1 hb];have h2:=h.er a ha;by_cases e:a.1=(i:Int)
  ·exact .inr ⟨e,yf8 he hj _ (h.es a ha e)⟩
  ·exact .inl (by dsimp only;omega)
 ·obtain ⟨x,hx,h4⟩:=h.lk k h2 h3;exact⟨x,List.mem_append_left _ hx,h4⟩
theorem SI.new(h:SI l ev i j kn T E)(he:Inc ev)(hi:i<T.length)(hj:j<ev.length){t:List Int}(ht:InT l t)(hk:(kget kn (keyK t)).isSome=false):SI l ev i (j+1) (kput kn (keyK t) (T.length:Int)) (T++[t]) (E++[((i:Int),ev[j],(T.length:Int))]):=by
 have hlen:(T++[t]).length=T.length+1:=by simp
 have h0:SI l ev i j (kput kn (keyK t) (T.length:Int)) T E∨True:= .inr trivial;refine⟨by omega,?_,fun s hs=>?_,fun s hs=>?_,fun e hx=>?_,fun x hx=>?_,fun x hx e=>?_,?_,by have:=h.el;rw [List.length_append,List.length_singleton];omega,fun k h2 h3=>?_⟩
 ·rw [List.nodup_append];refine⟨h.nd,by simp,fun a ha b hb=>?_⟩;rw [List.mem_singleton.1 hb];intro e;subst e;rw [h.key a ha] at hk;cases hk
 ·rcases List.mem_append.1 hs with hs|hs
  ·exact h.inT s hs
  ·rw [List.mem_singleton.1 hs];exact ht
 ·rcases List.mem_append.1 hs with hs|hs
  ·exact yge (h.key s hs)
  ·rw [List.mem_singleton.1 hs];exact ydu
 ·rw [hlen];rcases ya0 hx with hx|hx
  ·have:=h.val e hx;omega
  ·rw [hx];dsimp only;omega
 ·rw [hlen];rcases List.mem_append.1 hx with hx|hx
  ·have:=h.er x hx;exact⟨this.1,this.2.1,this.2.2.1,by omega,this.2.2.2.2⟩
  ·rw [List.mem_singleton.1 hx];exact⟨by dsimp only;omega,by dsimp only;omega,by dsimp only;omega,by dsimp only;omega,List.getElem_mem _⟩
 ·rcases List.mem_append.1 hx with hx|hx
  ·exact (List.take_subset_take_left ev (Nat.le_succ j)) (h.es x hx e)
  ·rw [List.mem_singleton.1 hx,yby ev j hj];exact List.mem_append_right _ (List.mem_singleton.2 rfl)
 ·rw [List.pairwise_append];refine⟨h.so,List.pairwise_singleton _ _,fun a ha b hb=>?_⟩;rw [List.mem_singleton.1 hb];have h2:=h.er a ha;by_cases e:a.1=(i:Int)
  ·exact .inr ⟨e,yf8 he hj _ (h.es a ha e)⟩
  ·exact .inl (by dsimp only;omega)
 ·by_cases h4:k<T.length
  ·obtain ⟨x,hx,h5⟩:=h.lk k h2 h4;exact⟨x,List.mem_append_left _ hx,h5⟩
  ·have:k=T.length:=by omega
   subst this;exact⟨_,List.mem_append_right _ (List.mem_singleton.2 rfl),rfl,by dsimp only;omega,by dsimp only;omega⟩
end
theorem ybR.snoc{es:List Ed}:∀{k:Nat} {x:Int} {e:Ed},e∈es→ybR es [e.f] k x→ybR es [e.t] (k+1) x
 | 0,x,e,he,h=>⟨e,he,(List.mem_singleton.1 h).symm,List.mem_singleton.2 rfl⟩
 | k+1,x,e,he,⟨y,hy,h1,h2⟩=>⟨y,hy,h1,h2.snoc he⟩
abbrev edsOf(p:AutT):List Ed:=p.2.2.2.map toEd
theorem ygf{κ β:Type}[BEq κ]{m:List (κ×β)}{k:κ}{v:β}(h:kget m k=some v):∃e∈m,e.2=v∧(k==e.1)=true:=by
 unfold kget at h;rw [Option.map_eq_some_iff] at h;obtain⟨e,h1,h2⟩:=h;exact⟨e,List.mem_of_find?_eq_some h1,h2,List.find?_some (p:=fun p:κ×β=>k==p.1) h1⟩
section
variable{κ β:Type}[DecidableEq κ][BEq κ][LawfulBEq κ]
theorem y9p(p:κ×β)(m:List (κ×β))(q:κ):kget (p::m) q=if q=p.1 then some p.2 else kget m q:=by
 unfold kget;by_cases h:q=p.1
 ·rw [if_pos h,List.find?_cons_of_pos (by simp [h])];rfl
 ·rw [if_neg h,List.find?_cons_of_neg (by simp [h])]
omit [DecidableEq κ] [LawfulBEq κ] in
theorem yh9(k:κ)(v:β):kput [] k v= [(k,v)]:=by
 unfold kput;rw [if_neg (by simp)];rfl
theorem ygg(p:κ×β)(m:List (κ×β))(k:κ)(v:β):kput (p::m) k v=if k=p.1 then(k,v)::m else p::kput m k v:=by
 unfold kput;rw [List.map_cons,y9c];by_cases h:k=p.1
 ·subst h;rw [if_pos (by simp),if_pos (by simp),if_pos rfl];rfl
 ·have e:(if (k==p.1)=true then 0 else kidx (m.map (·.1)) k+1)=kidx (m.map (·.1)) k+1:=if_neg (by simp [h]);rw [e,if_neg h];by_cases h2:kidx (m.map (·.1)) k<m.length
  ·rw [if_pos h2,if_pos (by rw [List.length_cons];omega),List.set_cons_succ]
  ·rw [if_neg h2,if_neg (by rw [List.length_cons];omega)];rfl
theorem y5Z{k q:κ}{v:β}:∀(m:List (κ×β)),kget (kput m k v) q=if q=k then some v else kget m q
 | []=>by rw [yh9,y9p]
 | p::m=>by
  rw [ygg];by_cases h:k=p.1
  ·rw [if_pos h,y9p,y9p];by_cases h2:q=k
   ·rw [if_pos h2,if_pos h2]
   ·rw [if_neg h2,if_neg h2,if_neg (by rw [←h];exact h2)]
  ·rw [if_neg h,y9p,y9p,y5Z m];by_cases h2:q=p.1
   ·rw [if_pos h2,if_neg (by rw [h2];exact fun e=>h e.symm),if_pos h2]
   ·rw [if_neg h2,if_neg h2]
end
structure LOkB (B:Nat) (l:List AutT):Prop where
 len:l.length≤3
 right:∀a∈l,∃n:Nat,1≤n∧n≤B∧Right a n
 b99:B≤99
 pw:B ^ l.length≤4000
theorem yfq{l:List AutT}{B:Nat}(h:LOkB B l):y5n l=some 0:=by
 have hl:=h.len;have hb99:=h.b99;obtain⟨o,h1,rfl⟩:=yd (f:=y2n l) (fun i s=>s=(i:Int)) (fun o=>o= .inl ()) l.length 0 (by omega) (fun i s hi e1=>by
   subst e1;obtain⟨n,_,_,hr⟩:=h.right _ (List.getElem_mem hi);refine .inl ⟨((i+1:Nat):Int),?_,rfl⟩;rw [y2n,if_pos (ct_lt hi),ya hi,yOb,hr.check,yOb,if_neg (by simp),nxt (by omega)]) (fun s e1=>by
   subst e1;exact⟨_,by rw [y2n,if_neg ct_ge],rfl⟩) (Nat.zero_le _) 0 rfl
 rw [y5n,if_neg (by simp;omega),h1];rfl
theorem yha{l:List AutT}{B:Nat}(h:LOkB B l):∃m,y5a l=some m∧MOk l m:=by
 have hl:=h.len;have hb99:=h.b99;obtain⟨ev,he,hev⟩:=ygd (l:=l) (by omega) (fun a ha=>by
  obtain⟨n,_,_,hr⟩:=h.right a ha;exact⟨hr.ali,hr.alr⟩)
 obtain⟨o,h1,h2⟩:=yd (f:=y2D l) (fun i s=>i≤l.length∧s.1=(i:Int)∧s.2.length=i∧∀k (h:k<l.length) (h':k<s.2.length),∀e∈s.2[k],0≤e.2∧e.2<l[k].2.1) (fun o=>o.length=l.length∧∀k (h:k<l.length) (h':k<o.length),∀e∈o[k],0≤e.2∧e.2<l[k].2.1) l.length 0 (by omega) (fun i s hi ⟨_,e1,g1,g2⟩=>by
   obtain⟨k,out⟩:=s;dsimp only at e1 g1 g2;subst e1;obtain⟨n,_,_,hr⟩:=h.right _ (List.getElem_mem hi);obtain⟨o,e,g3⟩:=yid hr;refine .inl ⟨(((i+1:Nat):Int),out++[o]),?_,by omega,rfl,by simp [g1],fun k hk hk' x hx=>?_⟩
   ·rw [y2D];dsimp only;rw [if_pos (ct_lt hi),ya hi,yOb,e,yOb,yr (by simp;omega),yOb,nxt (by omega)]
   ·dsimp only at hx;by_cases hki:k<out.length
    ·rw [List.getElem_append_left hki] at hx;exact g2 k hk hki x hx
    ·have hk2:k=i:=by simp at hk';omega
     subst hk2;rw [List.getElem_append_right (by omega)] at hx;simp only [g1,Nat.sub_self,List.getElem_cons_zero] at hx;rw [hr.nn];exact g3 x hx) (fun s ⟨_,e1,g1,g2⟩=>by
   obtain⟨k,out⟩:=s;dsimp only at e1 g1 g2;subst e1;refine⟨out,?_,g1,g2⟩;rw [y2D];dsimp only;rw [if_neg ct_ge]) (Nat.zero_le _) (0,[]) ⟨Nat.zero_le _,rfl,rfl,fun k hk hk'=>(by simp at hk')⟩
 exact⟨(l,ev,o),by rw [y5a,he,yOb,h1];rfl,rfl,hev,h2.1,h2.2⟩
theorem yeD{l:List AutT}{B:Nat}(h:LOkB B l){m:List AutT×List Int×List (List ((Int×Int)×Int))}(hm:MOk l m):∃t,yx m=some (t,true)∧InT l t:=by
 have hl:=h.len;have hb99:=h.b99;obtain⟨m1,m2,m3⟩:=m;obtain⟨rfl,hev,hlen,_⟩:=hm;dsimp only at *;obtain⟨o,h1,rfl⟩:=yd (f:=yj (m1,m2,m3)) (fun i s=>s=(i:Int)) (fun o=>o= .inl ()) m1.length 0 (by omega) (fun i s hi e1=>by
   subst e1;obtain⟨n,hn,_,hr⟩:=h.right _ (List.getElem_mem hi);refine .inl ⟨((i+1:Nat):Int),?_,rfl⟩;rw [yj];dsimp only;rw [if_pos (ct_lt hi),ya hi,yOb,hr.nn,if_neg (by simp;omega),nxt (by omega)]) (fun s e1=>by
   subst e1;refine⟨_,?_,rfl⟩;rw [yj];dsimp only;rw [if_neg ct_ge]) (Nat.zero_le _) 0 rfl
 have hmk:mkL (m1.length:Int) (0:Int)=some (List.replicate m1.length 0):=by unfold mkL;rw [if_pos ⟨by omega,by omega⟩,Int.toNat_natCast]
 refine⟨List.replicate m1.length 0,?_,by simp,fun i hi hi'=>?_⟩
 ·rw [yx,h1,yOb];dsimp only;rw [hmk,yOb]
 ·obtain ⟨n,hn,_,hr⟩:=h.right _ (List.getElem_mem hi);rw [List.getElem_replicate,hr.nn];omega
theorem yhb{l:List AutT}{B:Nat}(h:LOkB B l){m:List AutT×List Int×List (List ((Int×Int)×Int))}(hm:MOk l m){t:List Int}(ht:InT l t)(e:Int):∃r,y1d m t e=some r∧(r.2=true→InT l r.1):=by
 have hl:=h.len;have hb99:=h.b99;obtain⟨m1,m2,m3⟩:=m;obtain⟨rfl,hev,hlen,hed⟩:=hm;dsimp only at *;obtain⟨o,h1,h2⟩:=yd (f:=yn (m1,m2,m3) t e) (fun i s=>s.1=(i:Int)∧InT m1 s.2) (fun o=>∀u,o= .inl u→InT m1 u) m1.length 0 (by omega) (fun i s hi ⟨e1,g1⟩=>by
   obtain⟨k,out⟩:=s;dsimp only at e1 g1;subst e1;obtain⟨n,hn,_,hr⟩:=h.right _ (List.getElem_mem hi);have ha:m1[i].1.length<4294967296:=by have:=hr.l1;omega
   have hj:∀u:List Int,yy ((i:Int),out) u=some (.inl (((i+1:Nat):Int),u)):=fun u=>by
    rw [yy];dsimp only;rw [nxt (by omega)]
   rw [yn];dsimp only;rw [if_pos (ct_lt hi),ya hi,yOb,y7y ha hr.ali,yOb];cases hb:hasB m1[i].1 e with
   | false=>
    rw [if_pos (by simp),hj];exact .inl ⟨_,rfl,rfl,g1⟩
   | true=>
    rw [if_neg (by simp),ya (by omega),yOb,ya (by have:=ht.1;omega),yOb];cases hg:kget m3[i] (t[i]'(by have:=ht.1;omega),e) with
    | none=>
     rw [if_pos (by simp)];exact .inr ⟨_,rfl,fun u hu=>by cases hu⟩
    | some v=>
     obtain⟨x,hx,rfl⟩:=yh8 hg;have hv:=hed i hi (by omega) x hx;rw [if_neg (by simp),ya (by have:=g1.1;omega),yOb,y9o (by have:=g1.1;omega),yOb,hj];exact .inl ⟨_,rfl,rfl,g1.set hi hv.1 hv.2⟩) (fun s ⟨e1,g1⟩=>by
   obtain⟨k,out⟩:=s;dsimp only at e1 g1;subst e1;refine⟨.inl out,?_,fun u hu=>by cases hu;exact g1⟩;rw [yn];dsimp only;rw [if_neg ct_ge]) (Nat.zero_le _) (0,t) ⟨rfl,ht⟩
 rw [y1d,y9Z (by have:=ht.1;omega),yOb,h1,yOb];cases o with
 | inl u=>exact⟨_,rfl,fun _=>h2 u rfl⟩
 | inr u=>exact⟨_,rfl,fun hb=>by cases hb⟩
theorem yfr{l:List AutT}{B:Nat}(h:LOkB B l){m:List AutT×List Int×List (List ((Int×Int)×Int))}(hm:MOk l m){t:List Int}(ht:InT l t):∃b,yL m t=some b:=by
 have hl:=h.len;have hb99:=h.b99;obtain⟨m1,m2,m3⟩:=m;obtain⟨rfl,hev,hlen,hed⟩:=hm;dsimp only at *;obtain⟨o,h1,h2⟩:=yd (f:=y2T (m1,m2,m3) t) (fun i s=>s=(i:Int)) (fun _=>True) m1.length 0 (by omega) (fun i s hi e1=>by
   subst e1;obtain⟨n,hn,_,hr⟩:=h.right _ (List.getElem_mem hi);have ha:m1[i].2.2.1.length<4294967296:=by have:=hr.l2;omega
   rw [y2T];dsimp only;rw [if_pos (ct_lt hi),ya hi,yOb,ya (by have:=ht.1;omega),yOb,y7y ha hr.msi,yOb];cases hb:hasB m1[i].2.2.1 (t[i]'(by have:=ht.1;omega)) with
   | false=>rw [if_pos (by simp)];exact .inr ⟨_,rfl,trivial⟩
   | true=>rw [if_neg (by simp),nxt (by omega)];exact .inl ⟨_,rfl,rfl⟩) (fun s e1=>by
   subst e1;refine⟨.inl (),?_,trivial⟩;rw [y2T];dsimp only;rw [if_neg ct_ge]) (Nat.zero_le _) 0 rfl
 rw [yL,h1,yOb];cases o with
 | inl u=>exact⟨_,rfl⟩
 | inr u=>exact⟨_,rfl⟩
theorem yf9{l:List AutT}{B:Nat}(h:LOkB B l){t:List Int}(ht:InT l t):y5z t=some (keyK t):=by
 have hl:=h.len;have hb99:=h.b99;have hc:(t.all fun x=>decide (0≤x∧x<100))=true:=by
  rw [List.all_eq_true];intro x hx;obtain⟨i,hi,rfl⟩:=List.getElem_of_mem hx;have hi':i<l.length:=by have:=ht.1;omega
  obtain⟨n,hn,hn6,hr⟩:=h.right _ (List.getElem_mem hi');have:=ht.2 i hi' hi;rw [hr.nn] at this;simp;omega
 rw [y5z,if_pos ⟨hc,by have:=ht.1;omega⟩];rfl
def y7z(B:Nat):List Int→Nat
 | []=>0
 | x::t=>x.toNat+B*y7z B t
theorem ycH{B:Nat}:∀{s t:List Int},s.length=t.length→(∀x∈s,0≤x∧x<B)→(∀x∈t,0≤x∧x<B)→y7z B s=y7z B t→s=t
 | [],[],_,_,_,_=>rfl
 | [],_::_,h,_,_,_=>by simp at h
 | _::_,[],h,_,_,_=>by simp at h
 | x::s,y::t,h,hs,ht,e=>by
  have h1:=hs x (List.mem_cons_self ..);have h2:=ht y (List.mem_cons_self ..);simp only [y7z] at e;have e2:x.toNat=y.toNat:=by
   have h3:=congrArg (· % B) e;simp only [Nat.add_mul_mod_self_left] at h3;rwa [Nat.mod_eq_of_lt (by omega),Nat.mod_eq_of_lt (by omega)] at h3
  have hxy:x=y:=by omega
  subst hxy;have e3:B*y7z B s=B*y7z B t:=by omega
  rw [ycH (s:=s) (t:=t) (by simpa using h) (fun z hz=>hs z (List.mem_cons_of_mem _ hz)) (fun z hz=>ht z (List.mem_cons_of_mem _ hz)) (Nat.eq_of_mul_eq_mul_left (by omega) e3)]
theorem ydv{B:Nat}:∀{t:List Int},(∀x∈t,0≤x∧x<B)→y7z B t<B ^ t.length
 | [],_=>by simp [y7z]
 | x::t,h=>by
  have h1:=h x (List.mem_cons_self ..);have h2:=ydv (t:=t) (fun z hz=>h z (List.mem_cons_of_mem _ hz));rw [List.length_cons,Nat.pow_succ,y7z];have h3:B*(y7z B t+1)≤B*B ^ t.length:=Nat.mul_le_mul_left B h2;rw [Nat.mul_add,Nat.mul_one] at h3;rw [Nat.mul_comm (B ^ t.length) B];omega
theorem InT.smallB{l:List AutT}{B:Nat}(h:LOkB B l){t:List Int}(ht:InT l t):∀x∈t,0≤x∧x<B:=by
 intro x hx;obtain⟨i,hi,rfl⟩:=List.getElem_of_mem hx;have hi':i<l.length:=by have:=ht.1;omega
 obtain⟨n,hn,hn6,hr⟩:=h.right _ (List.getElem_mem hi');have:=ht.2 i hi' hi;rw [hr.nn] at this;omega
theorem y9a{l:List AutT}{B:Nat}(h:LOkB B l){T:List (List Int)}(hn:T.Nodup)(hT:∀t∈T,InT l t):T.length≤4000:=by
 have h1:=y8g (B ^ l.length) (T.map (y7z B)) ?_ ?_
 ·rw [List.length_map] at h1;have h2:=h.pw;omega
 ·rw [List.Nodup,List.pairwise_map];refine List.Pairwise.imp_of_mem (fun {a b} ha hb hab e=>hab ?_) hn;exact ycH ((hT a ha).1.trans (hT b hb).1.symm) ((hT a ha).smallB h) ((hT b hb).smallB h) e
 ·intro x hx;obtain⟨t,ht,rfl⟩:=List.mem_map.1 hx;rw [←(hT t ht).1];exact ydv ((hT t ht).smallB h)
end Go.Proofs.YtecmobjeeonmaaaGreatDoor
namespace Go.Proofs.YtecmobjeeonmaaaGreatDoor
structure Num (es:List Ed) (n:Nat):Prop where
 so:es.Pairwise fun x y=>x.f<y.f∨(x.f=y.f∧x.e<y.e)
 rng:∀x∈es,0≤x.f∧x.f<(n:Int)∧0≤x.t∧x.t<(n:Int)∧0≤x.e∧x.e<32
 cov:∀k:Nat,0<k→k<n→∃x∈es,x.t=(k:Int)
 ear:∀i (hi:i<es.length) (k:Int),0<k→k<es[i].t→∃j,∃hj:j<es.length,j<i∧es[j].t=k
 fst:∀i (hi:i<es.length),(∀j (hj:j<es.length),j<i→es[j].t≠es[i].t)→es[i].t=0∨es[i].f<es[i].t
theorem yco{es:List Ed}{k:Int}{x:Ed}(h:es.find? (fun y=>y.t==k)=some x):∃i,∃hi:i<es.length,es[i]=x∧x.t=k∧∀j (hj:j<es.length),j<i→es[j].t≠k:=by
 rw [List.find?_eq_some_iff_getElem] at h;obtain⟨h1,i,hi,h2,h3⟩:=h;refine⟨i,hi,h2,by simpa using h1,fun j hj hji e=>?_⟩;have:=h3 j hji;simp [e] at this
def wordN(es:List Ed):Nat→Int→List Int
 | 0,_=> []
 | f+1,k=>if k≤0 then [] else match es.find? (fun y=>y.t==k) with
  | none=> []
  | some x=>wordN es f x.f++[x.e]
def wN(es:List Ed)(k:Int):List Int:=wordN es k.toNat k
namespace Num
variable{es:List Ed}{n:Nat}
theorem find(h:Num es n){k:Nat}(h0:0<k)(h1:k<n):∃x,es.find? (fun y=>y.t==(k:Int))=some x∧x∈es∧x.t=(k:Int)∧0≤x.f∧x.f<(k:Int):=by
 obtain⟨y,hy,ht⟩:=h.cov k h0 h1;cases hf:es.find? (fun y=>y.t==(k:Int)) with
 | none=>exact absurd (by simpa using ht) (by simpa using List.find?_eq_none.1 hf y hy)
 | some x=>
  obtain⟨i,hi,e1,e2,e3⟩:=yco hf;have hm:x∈es:=e1▸List.getElem_mem hi;refine⟨x,rfl,hm,e2,(h.rng x hm).1,?_⟩;have:=h.fst i hi (fun j hj hji=>by rw [e1,e2];exact e3 j hj hji);rw [e1,e2] at this;omega
theorem fuel(h:Num es n):∀(f:Nat) (k:Int),k<(n:Int)→k.toNat≤f→wordN es f k=wN es k:=by
 have key:∀(m:Nat) (k:Int),k.toNat=m→k<(n:Int)→∀f g,m≤f→m≤g→wordN es f k=wordN es g k:=by
  intro m
  induction m using Nat.strongRecOn with
  | ind m ih=>
   intro k hk hn f g hf hg;by_cases h0:k≤0
   ·have e:∀f,wordN es f k= []:=fun f=>by
     cases f with
     | zero=>rfl
     | succ f=>rw [wordN,if_pos h0]
    rw [e,e]
   ·obtain ⟨f,rfl⟩:∃f',f=f'+1:=⟨f-1,by omega⟩;obtain⟨g,rfl⟩:∃g',g=g'+1:=⟨g-1,by omega⟩;obtain⟨k',rfl⟩:∃k':Nat,k=(k':Int):=⟨k.toNat,by omega⟩;obtain⟨x,hx,_,ht,hf0,hfk⟩:=h.find (k:=k') (by omega) (by omega);rw [wordN,wordN,if_neg h0,if_neg h0,hx];dsimp only;rw [ih x.f.toNat (by omega) x.f rfl (by omega) f g (by omega) (by omega)]
 intro f k hn hf;exact key k.toNat k rfl hn f k.toNat hf (Nat.le_refl _)
theorem step(h:Num es n){k:Nat}(h0:0<k)(h1:k<n):∃x∈es,es.find? (fun y=>y.t==(k:Int))=some x∧x.t=(k:Int)∧0≤x.f∧x.f<(k:Int)∧wN es (k:Int)=wN es x.f++[x.e]:=by
 obtain⟨x,hx,hm,ht,hf0,hfk⟩:=h.find h0 h1;refine⟨x,hm,hx,ht,hf0,hfk,?_⟩;obtain⟨k,rfl⟩:∃k',k=k'+1:=⟨k-1,by omega⟩;unfold wN;rw [Int.toNat_natCast,wordN,if_neg (by omega),hx];dsimp only;rw [h.fuel k x.f (by omega) (by omega)];rfl
theorem zero :wN es 0= []:=rfl
theorem evs(h:Num es n):∀(k:Nat),k<n→Evs (wN es (k:Int)):=by
 intro k
 induction k using Nat.strongRecOn with
 | ind k ih=>
  intro hk;by_cases h0:k=0
  ·subst h0;exact Evs.nil
  ·obtain ⟨x,hm,_,_,hf0,hfk,e⟩:=h.step (k:=k) (by omega) hk;rw [e];have hx:=h.rng x hm;have:=ih x.f.toNat (by omega) (by omega);rw [Int.toNat_of_nonneg hf0] at this;exact this.snoc hx.2.2.2.2.1 hx.2.2.2.2.2
theorem mono(h:Num es n):∀(k' k:Nat),k<k'→k'<n→wval (wN es (k:Int))<wval (wN es (k':Int)):=by
 intro k'
 induction k' using Nat.strongRecOn with
 | ind k' ih=>
  intro k hkk hk';obtain⟨x',hm',hf',ht',hf0',hfk',e'⟩:=h.step (k:=k') (by omega) hk';have hx':=h.rng x' hm';have hw':0≤wval (wN es x'.f):=by
   have:=h.evs x'.f.toNat (by omega);rw [Int.toNat_of_nonneg hf0'] at this;exact yeA _ this
  rw [e',ybF];by_cases h0:k=0
  ·subst h0;show wval []<_;show(0:Int)<_;omega
  ·obtain ⟨x,hm,hf,ht,hf0,hfk,e⟩:=h.step (k:=k) (by omega) (by omega);have hx:=h.rng x hm;rw [e,ybF];obtain⟨i,hi,a1,a2,a3⟩:=yco hf;obtain⟨i',hi',b1,b2,b3⟩:=yco hf';obtain⟨j,hj,hji,hjt⟩:=h.ear i' hi' (k:Int) (by omega) (by rw [b1,b2];omega);have hij:i≤j:=Nat.le_of_not_lt fun hlt=>a3 j hj hlt hjt;have hlt:=List.pairwise_iff_getElem.1 h.so i i' hi hi' (by omega);rw [a1,b1] at hlt;rcases hlt with hlt|⟨hlt,hle⟩
   ·have:=ih x'.f.toNat (by omega) x.f.toNat (by omega) (by omega);rw [Int.toNat_of_nonneg hf0,Int.toNat_of_nonneg hf0'] at this;omega
   ·rw [hlt];omega
end Num
end Go.Proofs.YtecmobjeeonmaaaGreatDoor
namespace Go.Proofs.YtecmobjeeonmaaaGreatDoor
open Go Go.RowKit
variable{α:Type}{xs:List Int}{e:Int}{r us vs:List Int}{P S:AutT}{n1 n2:Nat}
structure Disc {τ:Type} (st:τ→Int→Option τ) (al:List Int) (T:List τ) (E:List (Int×Int×Int)):Prop where
 nd:T.Nodup
 so:E.Pairwise fun x y=>x.1<y.1∨(x.1=y.1∧x.2.1<y.2.1)
 sn:∀x∈E,∃(a q:Nat) (t r:τ),x.1=(a:Int)∧x.2.2=(q:Int)∧T[a]? =some t∧T[q]? =some r∧x.2.1∈al∧st t x.2.1=some r
 ed:∀(a:Nat) (t:τ) (e:Int) (r:τ),T[a]? =some t→e∈al→st t e=some r→∃q:Nat,((a:Int),e,(q:Int))∈E∧T[q]? =some r
 cov:∀k:Nat,0<k→k<T.length→∃x∈E,x.2.2=(k:Int)
 ear:∀n (hn:n<E.length) (k:Int),0<k→k<E[n].2.2→∃p,∃hp:p<E.length,p<n∧E[p].2.2=k
 fst:∀n (hn:n<E.length),(∀p (hp:p<E.length),p<n→E[p].2.2≠E[n].2.2)→E[n].2.2=0∨E[n].1<E[n].2.2
 evr:∀e∈al,0≤e∧e<32
section
variable{τ:Type}{st:τ→Int→Option τ}{al:List Int}{T T':List τ}{E E':List (Int×Int×Int)}
theorem y9F{lt:τ→τ→Prop}(hir:∀a b,lt a b→lt b a→False):∀{xs ys:List τ},xs.Pairwise lt→ys.Pairwise lt→(∀x,x∈xs↔x∈ys)→xs=ys
 | [],[],_,_,_=>rfl
 | [],y::ys,_,_,h=>by have:=(h y).2 (List.mem_cons_self ..);cases this
 | x::xs,[],_,_,h=>by have:=(h x).1 (List.mem_cons_self ..);cases this
 | x::xs,y::ys,hx,hy,h=>by
  obtain⟨x1,x2⟩:=List.pairwise_cons.1 hx;obtain⟨y1,y2⟩:=List.pairwise_cons.1 hy;have hxy:x=y:=by
   rcases List.mem_cons.1 ((h x).1 (List.mem_cons_self ..)) with e|e
   ·exact e
   ·rcases List.mem_cons.1 ((h y).2 (List.mem_cons_self ..)) with e'|e'
    ·exact e'.symm
    ·exact (hir x y (x1 y e') (y1 x e)).elim
  subst hxy;have hne1:∀z∈xs,z≠x:=fun z hz e=>by subst e;exact hir z z (x1 z hz) (x1 z hz)
  have hne2:∀z∈ys,z≠x:=fun z hz e=>by subst e;exact hir z z (y1 z hz) (y1 z hz)
  rw [y9F hir x2 y2 fun z=>?_];constructor
  ·intro hz;exact(List.mem_cons.1 ((h z).1 (List.mem_cons_of_mem _ hz))).resolve_left (hne1 z hz)
  ·intro hz;exact(List.mem_cons.1 ((h z).2 (List.mem_cons_of_mem _ hz))).resolve_left (hne2 z hz)
end
theorem y7A{xs:List α}{x:α}{n:Nat}(hn:n<(xs++[x]).length):(∃h:n<xs.length,(xs++[x])[n]=xs[n])∨(n=xs.length∧(xs++[x])[n]=x):=by
 by_cases h:n<xs.length
 ·exact .inl ⟨h,List.getElem_append_left h⟩
 ·have h2:n=xs.length:=by simp at hn;omega
  subst h2;exact .inr ⟨rfl,by rw [List.getElem_append_right (Nat.le_refl _)];simp⟩
structure Fnd {τ:Type} (st:τ→Int→Option τ) (ev:List Int) (i j:Nat) (T:List τ) (E:List (Int×Int×Int)):Prop where
 sn:∀x∈E,∃(a q:Nat) (t r:τ),x.1=(a:Int)∧x.2.2=(q:Int)∧T[a]? =some t∧T[q]? =some r∧st t x.2.1=some r
 ed:∀(a b:Nat) (t:τ) (e:Int) (r:τ),(a<i∨(a=i∧b<j))→T[a]? =some t→ev[b]? =some e→st t e=some r→∃q:Nat,((a:Int),e,(q:Int))∈E∧T[q]? =some r
 cov:∀k:Nat,0<k→k<T.length→∃x∈E,x.2.2=(k:Int)
 ear:∀n (hn:n<E.length) (k:Int),0<k→k<E[n].2.2→∃p,∃hp:p<E.length,p<n∧E[p].2.2=k
 fst:∀n (hn:n<E.length),(∀p (hp:p<E.length),p<n→E[p].2.2≠E[n].2.2)→E[n].2.2=0∨E[n].1<E[n].2.2
section
variable{τ:Type}{st:τ→Int→Option τ}{ev:List Int}{i j:Nat}{T:List τ}{E:List (Int×Int×Int)}
theorem Fnd.skip(h:Fnd st ev i j T E){t:τ}(ht:T[i]? =some t)(he:ev[j]? =some e)(hs:st t e=none):Fnd st ev i (j+1) T E:=by
 refine⟨h.sn,fun a b t' e' r hab ha hb hst=>?_,h.cov,h.ear,h.fst⟩;by_cases hx:a=i∧b=j
 ·obtain ⟨rfl,rfl⟩:=hx;rw [ht] at ha;rw [he] at hb;cases ha;cases hb;rw [hs] at hst;cases hst
 ·exact h.ed a b t' e' r (by omega) ha hb hst
theorem Fnd.next(h:Fnd st ev i j T E)(hj:ev.length≤j):Fnd st ev (i+1) 0 T E:=
 ⟨h.sn,fun a b t e r hab ha hb hst=>h.ed a b t e r (by have:=(List.getElem?_eq_some_iff.1 hb).1;omega) ha hb hst,h.cov,h.ear,h.fst⟩
theorem Fnd.edge(h:Fnd st ev i j T E){t r:τ}{q:Nat}(ht:T[i]? =some t)(he:ev[j]? =some e)(hs:st t e=some r)(hq:T[q]? =some r):Fnd st ev i (j+1) T (E++[((i:Int),e,(q:Int))]):=by
 have hql:=(List.getElem?_eq_some_iff.1 hq).1;refine⟨fun x hx=>?_,fun a b t' e' r' hab ha hb hst=>?_,fun k h0 h1=>?_,fun n hn k h0 h1=>?_,fun n hn hf=>?_⟩
 ·rcases List.mem_append.1 hx with hx|hx
  ·exact h.sn x hx
  ·rw [List.mem_singleton.1 hx];exact⟨i,q,t,r,rfl,rfl,ht,hq,hs⟩
 ·by_cases hx:a=i∧b=j
  ·obtain ⟨rfl,rfl⟩:=hx;rw [ht] at ha;rw [he] at hb;cases ha;cases hb;rw [hs] at hst;cases hst;exact⟨q,List.mem_append_right _ (List.mem_singleton.2 rfl),hq⟩
  ·obtain ⟨q',g1,g2⟩:=h.ed a b t' e' r' (by omega) ha hb hst;exact⟨q',List.mem_append_left _ g1,g2⟩
 ·obtain ⟨x,hx,h2⟩:=h.cov k h0 h1;exact⟨x,List.mem_append_left _ hx,h2⟩
 ·rcases y7A hn with ⟨hn2,e2⟩|⟨hn2,e2⟩
  ·rw [e2] at h1;obtain⟨p,hp,h3,h4⟩:=h.ear n hn2 k h0 h1;exact⟨p,by simp;omega,h3,by rw [List.getElem_append_left hp];exact h4⟩
  ·rw [e2] at h1;dsimp only at h1;obtain⟨x,hx,h3⟩:=h.cov k.toNat (by omega) (by omega);obtain⟨p,hp,rfl⟩:=List.getElem_of_mem hx;exact⟨p,by simp;omega,by omega,by rw [List.getElem_append_left hp,h3];omega⟩
 ·rcases y7A hn with ⟨hn2,e2⟩|⟨hn2,e2⟩
  ·rw [e2];refine h.fst n hn2 fun p hp hpn=>?_;have:=hf p (by simp;omega) hpn;rwa [List.getElem_append_left hp,e2] at this
  ·rw [e2];dsimp only;by_cases hz:q=0
   ·left;omega
   ·exfalso;obtain⟨x,hx,h3⟩:=h.cov q (by omega) hql;obtain⟨p,hp,rfl⟩:=List.getElem_of_mem hx;have:=hf p (by simp;omega) (by omega);rw [List.getElem_append_left hp,e2,h3] at this;exact this rfl
theorem Fnd.new(h:Fnd st ev i j T E){t r:τ}(hi:i<T.length)(ht:T[i]? =some t)(he:ev[j]? =some e)(hs:st t e=some r):Fnd st ev i (j+1) (T++[r]) (E++[((i:Int),e,(T.length:Int))]):=by
 have hup:∀{a:Nat} {u:τ},T[a]? =some u→(T++[r])[a]? =some u:=fun {a u} hu=>by rw [List.getElem?_append_left (List.getElem?_eq_some_iff.1 hu).1];exact hu
 have hnew:(T++[r])[T.length]? =some r:=by rw [List.getElem?_append_right (Nat.le_refl _)];simp
 have hto:∀x∈E,0≤x.2.2∧x.2.2<(T.length:Int):=fun x hx=>by
  obtain⟨a,q,u,v,_,h2,_,h4,_⟩:=h.sn x hx;have:=(List.getElem?_eq_some_iff.1 h4).1;omega
 refine⟨fun x hx=>?_,fun a b t' e' r' hab ha hb hst=>?_,fun k h0 h1=>?_,fun n hn k h0 h1=>?_,fun n hn hf=>?_⟩
 ·rcases List.mem_append.1 hx with hx|hx
  ·obtain ⟨a,q,u,v,h1,h2,h3,h4,h5⟩:=h.sn x hx;exact⟨a,q,u,v,h1,h2,hup h3,hup h4,h5⟩
  ·rw [List.mem_singleton.1 hx];exact⟨i,T.length,t,r,rfl,rfl,hup ht,hnew,hs⟩
 ·have hal:a<T.length:=by omega
  rw [List.getElem?_append_left hal] at ha;by_cases hx:a=i∧b=j
  ·obtain ⟨rfl,rfl⟩:=hx;rw [ht] at ha;rw [he] at hb;cases ha;cases hb;rw [hs] at hst;cases hst;exact⟨T.length,List.mem_append_right _ (List.mem_singleton.2 rfl),hnew⟩
  ·obtain ⟨q',g1,g2⟩:=h.ed a b t' e' r' (by omega) ha hb hst;exact⟨q',List.mem_append_left _ g1,hup g2⟩
 ·by_cases hk:k<T.length
  ·obtain ⟨x,hx,h2⟩:=h.cov k h0 hk;exact⟨x,List.mem_append_left _ hx,h2⟩
  ·have:k=T.length:=by simp at h1;omega
   subst this;exact⟨_,List.mem_append_right _ (List.mem_singleton.2 rfl),rfl⟩
 ·rcases y7A hn with ⟨hn2,e2⟩|⟨hn2,e2⟩
  ·rw [e2] at h1;obtain⟨p,hp,h3,h4⟩:=h.ear n hn2 k h0 h1;exact⟨p,by simp;omega,h3,by rw [List.getElem_append_left hp];exact h4⟩
  ·rw [e2] at h1;dsimp only at h1;obtain⟨x,hx,h3⟩:=h.cov k.toNat (by omega) (by omega);obtain⟨p,hp,rfl⟩:=List.getElem_of_mem hx;exact⟨p,by simp;omega,by omega,by rw [List.getElem_append_left hp,h3];omega⟩
 ·rcases y7A hn with ⟨hn2,e2⟩|⟨hn2,e2⟩
  ·rw [e2];refine h.fst n hn2 fun p hp hpn=>?_;have:=hf p (by simp;omega) hpn;rwa [List.getElem_append_left hp,e2] at this
  ·rw [e2];dsimp only;right;omega
end
theorem Fnd.start{τ:Type}{st:τ→Int→Option τ}{ev:List Int}{T:List τ}(h:T.length≤1):Fnd st ev 0 0 T []:=
 ⟨fun x hx=>(by cases hx),fun a b t e r hab=>by omega,fun k h0 h1=>by omega,fun n hn=>by simp at hn,fun n hn=>by simp at hn⟩
theorem Fnd.disc{τ:Type}{st:τ→Int→Option τ}{ev:List Int}{T:List τ}{E:List (Int×Int×Int)}(h:Fnd st ev T.length 0 T E)(nd:T.Nodup)(so:E.Pairwise fun x y=>x.1<y.1∨(x.1=y.1∧x.2.1<y.2.1))(hal:∀x∈E,x.2.1∈ev)(evr:∀e∈ev,0≤e∧e<32):Disc st ev T E:=by
 refine⟨nd,so,fun x hx=>?_,fun a t e r ha he hs=>?_,h.cov,h.ear,h.fst,evr⟩
 ·obtain ⟨a,q,t,r,h1,h2,h3,h4,h5⟩:=h.sn x hx;exact⟨a,q,t,r,h1,h2,h3,h4,hal x hx,h5⟩
 ·obtain ⟨b,hb,hbe⟩:=List.getElem_of_mem he;exact h.ed a b t e r (.inl (List.getElem?_eq_some_iff.1 ha).1) ha (by rw [yGe hb,hbe]) hs
theorem yfa{u:Nat}(hu:u<100):(32:UInt8)∉dig2 u:=by
 have h:∀v:_root_.Fin 100,(32:UInt8)∉dig2 v.val:=by decide +kernel
 exact h ⟨u,hu⟩
theorem yhc{u v:Nat}(hu:u<100)(hv:v<100)(e:dig2 u=dig2 v):u=v:=by
 have h:∀v:_root_.Fin 100,((dig2 v.val).foldl (fun acc d=>10*acc+(d.toNat-48)) 0)=v.val:=by decide +kernel
 have h1:=h ⟨u,hu⟩;have h2:=h ⟨v,hv⟩;dsimp only at h1 h2;rw [e] at h1;omega
theorem yef{c:α}:∀{l1 l2 r1 r2:List α},c∉l1→c∉l2→l1++c::r1=l2++c::r2→l1=l2∧r1=r2
 | [],[],_,_,_,_,h=>⟨rfl,(List.cons.inj h).2⟩
 | [],b::l2,_,_,_,h2,h=>absurd (List.cons.inj h).1 (fun e=>h2 (e▸List.mem_cons_self ..))
 | a::l1,[],_,_,h1,_,h=>absurd (List.cons.inj h).1 (fun e=>h1 (e▸List.mem_cons_self ..))
 | a::l1,b::l2,_,_,h1,h2,h=>by
  obtain⟨e1,e2⟩:=List.cons.inj h;obtain⟨e3,e4⟩:=yef (fun hm=>h1 (List.mem_cons_of_mem _ hm)) (fun hm=>h2 (List.mem_cons_of_mem _ hm)) e2;exact⟨by rw [e1,e3],e4⟩
theorem yeg :∀{t u:List Int},(∀x∈t,0≤x∧x<100)→(∀x∈u,0≤x∧x<100)→keyB t=keyB u→t=u
 | [],[],_,_,_=>rfl
 | [],y::u,_,_,h=>by simp [keyB] at h
 | x::t,[],_,_,h=>by simp [keyB] at h
 | x::t,y::u,ht,hu,h=>by
  have h1:=ht x (List.mem_cons_self ..);have h2:=hu y (List.mem_cons_self ..);obtain⟨e1,e2⟩:=yef (yfa (by omega)) (yfa (by omega)) h;have e3:=yhc (u:=x.toNat) (v:=y.toNat) (by omega) (by omega) e1;rw [show x=y by omega,yeg (fun z hz=>ht z (List.mem_cons_of_mem _ hz)) (fun z hz=>hu z (List.mem_cons_of_mem _ hz)) e2]
theorem yhd{t u:List Int}(ht:∀x∈t,0≤x∧x<100)(hu:∀x∈u,0≤x∧x<100)(h:keyK t=keyK u):t=u:=by
 refine yeg ht hu ?_;have:=congrArg ByteArray.data h;simpa [keyK] using this
theorem InT.hund{l:List AutT}{B:Nat}(h:LOkB B l){t:List Int}(ht:InT l t):∀x∈t,0≤x∧x<100:=fun x hx=>by
 have:=ht.smallB h x hx;have:=h.b99;omega
noncomputable def mst(m:List AutT×List Int×List (List ((Int×Int)×Int)))(t:List Int)(e:Int):Option (List Int):=match y1d m t e with
 | some (u,true)=>some u
 | _=>none
theorem yhe{l:List AutT}{B:Nat}(h:LOkB B l){m:List AutT×List Int×List (List ((Int×Int)×Int))}(hm:MOk l m){t:List Int}(ht:InT l t)(e:Int):∃r,y1d m t e=some r∧(r.2=true→InT l r.1∧mst m t e=some r.1)∧(r.2=false→mst m t e=none):=by
 obtain⟨⟨u,b⟩,h1,h2⟩:=yhb h hm ht e;refine⟨(u,b),h1,fun hb=>⟨h2 hb,?_⟩,fun hb=>?_⟩
 ·have hb:b=true:=hb;unfold mst;rw [h1,hb]
 ·have hb:b=false:=hb;unfold mst;rw [h1,hb]
structure SZ (m:List AutT×List Int×List (List ((Int×Int)×Int))) (i j:Nat) (kn:Kno) (T:List (List Int)) (E:List (Int×Int×Int)):Prop where
 kv:∀e∈kn,∃(q:Nat) (t:List Int),e.2=(q:Int)∧T[q]? =some t∧e.1=keyK t
 sn:∀x∈E,∃(a q:Nat) (t r:List Int),x.1=(a:Int)∧x.2.2=(q:Int)∧T[a]? =some t∧T[q]? =some r∧mst m t x.2.1=some r
 ed:∀(a b:Nat) (t:List Int) (e:Int) (r:List Int),(a<i∨(a=i∧b<j))→T[a]? =some t→m.2.1[b]? =some e→mst m t e=some r→∃q:Nat,((a:Int),e,(q:Int))∈E∧T[q]? =some r
 cov:∀k:Nat,0<k→k<T.length→∃x∈E,x.2.2=(k:Int)
 ear:∀n (hn:n<E.length) (k:Int),0<k→k<E[n].2.2→∃p,∃hp:p<E.length,p<n∧E[p].2.2=k
 fst:∀n (hn:n<E.length),(∀p (hp:p<E.length),p<n→E[p].2.2≠E[n].2.2)→E[n].2.2=0∨E[n].1<E[n].2.2
section
variable{m:List AutT×List Int×List (List ((Int×Int)×Int))}{i j:Nat}{kn:Kno}{T:List (List Int)}{E:List (Int×Int×Int)}
theorem SZ.skip(h:SZ m i j kn T E){t:List Int}(ht:T[i]? =some t)(he:m.2.1[j]? =some e)(hs:mst m t e=none):SZ m i (j+1) kn T E:=by
 refine⟨h.kv,h.sn,fun a b t' e' r hab ha hb hst=>?_,h.cov,h.ear,h.fst⟩;by_cases hx:a=i∧b=j
 ·obtain ⟨rfl,rfl⟩:=hx;rw [ht] at ha;rw [he] at hb;cases ha;cases hb;rw [hs] at hst;cases hst
 ·exact h.ed a b t' e' r (by omega) ha hb hst
theorem SZ.next(h:SZ m i j kn T E)(hj:m.2.1.length≤j):SZ m (i+1) 0 kn T E:=
 ⟨h.kv,h.sn,fun a b t e r hab ha hb hst=>h.ed a b t e r (by have:=(List.getElem?_eq_some_iff.1 hb).1;omega) ha hb hst,h.cov,h.ear,h.fst⟩
theorem SZ.edge(h:SZ m i j kn T E){t:List Int}{q:Nat}(ht:T[i]? =some t)(he:m.2.1[j]? =some e)(hs:mst m t e=some r)(hq:T[q]? =some r):SZ m i (j+1) kn T (E++[((i:Int),e,(q:Int))]):=by
 have hql:=(List.getElem?_eq_some_iff.1 hq).1;refine⟨h.kv,fun x hx=>?_,fun a b t' e' r' hab ha hb hst=>?_,fun k h0 h1=>?_,fun n hn k h0 h1=>?_,fun n hn hf=>?_⟩
 ·rcases List.mem_append.1 hx with hx|hx
  ·exact h.sn x hx
  ·rw [List.mem_singleton.1 hx];exact⟨i,q,t,r,rfl,rfl,ht,hq,hs⟩
 ·by_cases hx:a=i∧b=j
  ·obtain ⟨rfl,rfl⟩:=hx;rw [ht] at ha;rw [he] at hb;cases ha;cases hb;rw [hs] at hst;cases hst;exact⟨q,List.mem_append_right _ (List.mem_singleton.2 rfl),hq⟩
  ·obtain ⟨q',g1,g2⟩:=h.ed a b t' e' r' (by omega) ha hb hst;exact⟨q',List.mem_append_left _ g1,g2⟩
 ·obtain ⟨x,hx,h2⟩:=h.cov k h0 h1;exact⟨x,List.mem_append_left _ hx,h2⟩
 ·rcases y7A hn with ⟨hn2,e2⟩|⟨hn2,e2⟩
  ·rw [e2] at h1;obtain⟨p,hp,h3,h4⟩:=h.ear n hn2 k h0 h1;exact⟨p,by simp;omega,h3,by rw [List.getElem_append_left hp];exact h4⟩
  ·rw [e2] at h1;dsimp only at h1;obtain⟨x,hx,h3⟩:=h.cov k.toNat (by omega) (by omega);obtain⟨p,hp,rfl⟩:=List.getElem_of_mem hx;exact⟨p,by simp;omega,by omega,by rw [List.getElem_append_left hp,h3];omega⟩
 ·rcases y7A hn with ⟨hn2,e2⟩|⟨hn2,e2⟩
  ·rw [e2];refine h.fst n hn2 fun p hp hpn=>?_;have:=hf p (by simp;omega) hpn;rwa [List.getElem_append_left hp,e2] at this
  ·rw [e2];dsimp only;by_cases hz:q=0
   ·left;omega
   ·exfalso;obtain⟨x,hx,h3⟩:=h.cov q (by omega) hql;obtain⟨p,hp,rfl⟩:=List.getElem_of_mem hx;have:=hf p (by simp;omega) (by omega);rw [List.getElem_append_left hp,e2,h3] at this;exact this rfl
theorem SZ.new(h:SZ m i j kn T E){t:List Int}(hi:i<T.length)(ht:T[i]? =some t)(he:m.2.1[j]? =some e)(hs:mst m t e=some r):SZ m i (j+1) (kput kn (keyK r) (T.length:Int)) (T++[r]) (E++[((i:Int),e,(T.length:Int))]):=by
 have hup:∀{a:Nat} {u:List Int},T[a]? =some u→(T++[r])[a]? =some u:=fun {a u} hu=>by rw [List.getElem?_append_left (List.getElem?_eq_some_iff.1 hu).1];exact hu
 have hnew:(T++[r])[T.length]? =some r:=by rw [List.getElem?_append_right (Nat.le_refl _)];simp
 have hto:∀x∈E,0≤x.2.2∧x.2.2<(T.length:Int):=fun x hx=>by
  obtain⟨a,q,u,v,_,h2,_,h4,_⟩:=h.sn x hx;have:=(List.getElem?_eq_some_iff.1 h4).1;omega
 refine⟨fun x hx=>?_,fun x hx=>?_,fun a b t' e' r' hab ha hb hst=>?_,fun k h0 h1=>?_,fun n hn k h0 h1=>?_,fun n hn hf=>?_⟩
 ·rcases ya0 hx with hx|hx
  ·obtain ⟨q,u,h1,h2,h3⟩:=h.kv x hx;exact⟨q,u,h1,hup h2,h3⟩
  ·rw [hx];exact⟨T.length,r,rfl,hnew,rfl⟩
 ·rcases List.mem_append.1 hx with hx|hx
  ·obtain ⟨a,q,u,v,h1,h2,h3,h4,h5⟩:=h.sn x hx;exact⟨a,q,u,v,h1,h2,hup h3,hup h4,h5⟩
  ·rw [List.mem_singleton.1 hx];exact⟨i,T.length,t,r,rfl,rfl,hup ht,hnew,hs⟩
 ·have hal:a<T.length:=by omega
  rw [List.getElem?_append_left hal] at ha;by_cases hx:a=i∧b=j
  ·obtain ⟨rfl,rfl⟩:=hx;rw [ht] at ha;rw [he] at hb;cases ha;cases hb;rw [hs] at hst;cases hst;exact⟨T.length,List.mem_append_right _ (List.mem_singleton.2 rfl),hnew⟩
  ·obtain ⟨q',g1,g2⟩:=h.ed a b t' e' r' (by omega) ha hb hst;exact⟨q',List.mem_append_left _ g1,hup g2⟩
 ·by_cases hk:k<T.length
  ·obtain ⟨x,hx,h2⟩:=h.cov k h0 hk;exact⟨x,List.mem_append_left _ hx,h2⟩
  ·have:k=T.length:=by simp at h1;omega
   subst this;exact⟨_,List.mem_append_right _ (List.mem_singleton.2 rfl),rfl⟩
 ·rcases y7A hn with ⟨hn2,e2⟩|⟨hn2,e2⟩
  ·rw [e2] at h1;obtain⟨p,hp,h3,h4⟩:=h.ear n hn2 k h0 h1;exact⟨p,by simp;omega,h3,by rw [List.getElem_append_left hp];exact h4⟩
  ·rw [e2] at h1;dsimp only at h1;obtain⟨x,hx,h3⟩:=h.cov k.toNat (by omega) (by omega);obtain⟨p,hp,rfl⟩:=List.getElem_of_mem hx;exact⟨p,by simp;omega,by omega,by rw [List.getElem_append_left hp,h3];omega⟩
 ·rcases y7A hn with ⟨hn2,e2⟩|⟨hn2,e2⟩
  ·rw [e2];refine h.fst n hn2 fun p hp hpn=>?_;have:=hf p (by simp;omega) hpn;rwa [List.getElem_append_left hp,e2] at this
  ·rw [e2];dsimp only;right;omega
end
theorem yhf{l:List AutT}{B:Nat}(h:LOkB B l){m:List AutT×List Int×List (List ((Int×Int)×Int))}(hm:MOk l m){i:Nat}{kn:Kno}{T:List (List Int)}{E:List (Int×Int×Int)}(z:Kno×List (List Int)×List Int×List (Int×Int×Int))(hS:SI l m.2.1 i 0 kn T E)(hZ:SZ m i 0 kn T E)(hi:i<T.length):
  ∃kn' T' E',iter (y2G m ((i:Int),z)) (0,kn,T,E)=some (.inl (kn',T',E'))∧SI l m.2.1 (i+1) 0 kn' T' E'∧SZ m (i+1) 0 kn' T' E'∧i<T'.length∧∃U,T'=T++U:=by
 have hal:=hm.ev.len;obtain⟨o,h1,h2⟩:=yd (f:=y2G m ((i:Int),z)) (fun j s=>s.1=(j:Int)∧j≤m.2.1.length∧SI l m.2.1 i j s.2.1 s.2.2.1 s.2.2.2∧SZ m i j s.2.1 s.2.2.1 s.2.2.2∧i<s.2.2.1.length∧∃U,s.2.2.1=T++U) (fun o=>∃kn' T' E',o= .inl (kn',T',E')∧SI l m.2.1 (i+1) 0 kn' T' E'∧SZ m (i+1) 0 kn' T' E'∧i<T'.length∧∃U,T'=T++U) m.2.1.length 0 (by omega) (fun j s hj ⟨e1,_,hS,hZ,hi,U,hU⟩=>by
   obtain⟨k,kn,T1,E⟩:=s;dsimp only at e1 hS hZ hi hU;subst e1;have hTl:=y9a h hS.nd hS.inT;have hj2:∀a b c,y2E ((j:Int),kn,T1,E) a b c=some (.inl (((j+1:Nat):Int),a,b,c)):=fun a b c=>by
    rw [y2E];dsimp only;rw [nxt (by omega)]
   have hj3:∀x b n c,y2F ((i:Int),z) ((j:Int),kn,T1,E) x b n c=some (.inl (((j+1:Nat):Int),c,b,E++[((i:Int),x,n)])):=fun x b n c=>by
    have he:=hS.el;have hi':i<4000:=by omega
    rw [y2F];dsimp only;rw [yr (by simp;omega),yOb,hj2]
   have hin:=hS.inT _ (List.getElem_mem hi);obtain⟨r,hr,hrT,hrF⟩:=yhe h hm hin m.2.1[j];have hti:T1[i]? =some T1[i]:=yGe hi;have hej:m.2.1[j]? =some m.2.1[j]:=yGe hj;left;rw [y2G];dsimp only;rw [if_pos (ct_lt hj),ya hj,yOb,ya hi,yOb,hr,yOb];cases hb:r.2 with
   | false=>
    rw [if_pos (by simp),hj2];exact⟨_,rfl,rfl,by omega,hS.skip,hZ.skip hti hej (hrF hb),hi,U,hU⟩
   | true=>
    obtain⟨ht,hms⟩:=hrT hb;rw [if_neg (by simp),yf9 h ht,yOb];cases hg:kget kn (keyK r.1) with
    | none=>
     rw [if_pos (by simp),if_neg (by simp;omega),yOb,yr (by simp;omega),yOb,hj3];exact⟨_,rfl,rfl,by omega,hS.new hm.ev.1 hi hj ht (by rw [hg];rfl),hZ.new hi hti hej hms,by simp;omega,U++[r.1],by rw [hU,List.append_assoc]⟩
    | some v=>
     obtain⟨x,hx,hxv,hxk⟩:=ygf hg;obtain⟨q,u,g1,g2,g3⟩:=hZ.kv x hx;have hk:keyK r.1=keyK u:=(eqS hxk).trans g3;have hu:u∈T1:=List.mem_of_getElem? g2;have he:r.1=u:=yhd (ht.hund h) ((hS.inT u hu).hund h) hk;rw [←he] at g2;have hql:=(List.getElem?_eq_some_iff.1 g2).1;have hvq:v=(q:Int):=by rw [←hxv];exact g1
     rw [if_neg (by simp),hj3,hvq];exact⟨_,rfl,rfl,by omega,hS.edge (q:=(q:Int)) hm.ev.1 hi hj (by omega) (by omega),hZ.edge (q:=q) hti hej hms g2,hi,U,hU⟩) (fun s ⟨e1,_,hS,hZ,hi,U,hU⟩=>by
   obtain⟨k,kn,T1,E⟩:=s;dsimp only at e1 hS hZ hi hU;subst e1;refine⟨.inl (kn,T1,E),?_,kn,T1,E,rfl,hS.next hal,hZ.next (Nat.le_refl _),hi,U,hU⟩;rw [y2G];dsimp only;rw [if_neg ct_ge]) (Nat.zero_le _) (0,kn,T,E) ⟨rfl,Nat.zero_le _,hS,hZ,hi,[],by simp⟩
 obtain⟨kn',T',E',rfl,h3,h4,h5,h6⟩:=h2;exact⟨kn',T',E',h1,h3,h4,h5,h6⟩
structure PrdZ (l:List AutT) (m:List AutT×List Int×List (List ((Int×Int)×Int))) (p:AutT) (T:List (List Int)) (n:Nat):Prop where
 right:Right p n
 pos:1≤n
 le:n≤4000
 tl:T.length=n
 nd:T.Nodup
 inT:∀t∈T,InT l t
 t0:∃t,T[0]? =some t∧yx m=some (t,true)
 ev:p.1=m.2.1
 sn:∀x∈p.2.2.2,∃(a q:Nat) (t r:List Int),x.1=(a:Int)∧x.2.2=(q:Int)∧T[a]? =some t∧T[q]? =some r∧mst m t x.2.1=some r
 ed:∀(a:Nat) (t:List Int) (e:Int) (r:List Int),T[a]? =some t→e∈p.1→mst m t e=some r→∃q:Nat,((a:Int),e,(q:Int))∈p.2.2.2∧T[q]? =some r
 num:Num (edsOf p) n
 mkd:∀(a:Nat) (t:List Int),T[a]? =some t→∃b,yL m t=some b∧(b=true↔(a:Int)∈p.2.2.1)
theorem yhg{l:List AutT}{B:Nat}(h:LOkB B l):∃m p T n,y5a l=some m∧MOk l m∧yz l=some (p,T,0)∧PrdZ l m p T n:=by
 obtain⟨m,hm,hM⟩:=yha h;obtain⟨t0,ht0,hT0⟩:=yeD h hM;have hal:=hM.ev.len;have hS0:SI l m.2.1 0 0 (kput ([]:Kno) (keyK t0) 0) [t0] []:=by
  refine⟨by simp,by simp,fun t ht=>?_,fun t ht=>?_,fun e he=>?_,fun x hx=>(by cases hx),fun x hx=>(by cases hx),List.Pairwise.nil,by simp,fun k h0 h1=>?_⟩
  ·rw [List.mem_singleton.1 ht];exact hT0
  ·rw [List.mem_singleton.1 ht];exact ydu
  ·rcases ya0 he with he|he
   ·cases he
   ·rw [he];simp
  ·simp at h1;omega
 have hZ0:SZ m 0 0 (kput ([]:Kno) (keyK t0) 0) [t0] []:=by
  refine⟨fun e he=>?_,fun x hx=>(by cases hx),fun a b t e r hab=>by omega,fun k h0 h1=>by simp at h1;omega,fun n hn=>by simp at hn,fun n hn=>by simp at hn⟩;rcases ya0 he with he|he
  ·cases he
  ·rw [he];exact⟨0,t0,rfl,rfl,rfl⟩
 obtain⟨o,h1,h2⟩:=yd (f:=y2I m) (fun i s=>s.1=(i:Int)∧i≤s.2.2.1.length∧SI l m.2.1 i 0 s.2.1 s.2.2.1 s.2.2.2.2∧SZ m i 0 s.2.1 s.2.2.1 s.2.2.2.2∧Inc s.2.2.2.1∧(∀x∈s.2.2.2.1,0≤x∧x<(i:Int))∧s.2.2.1[0]? =some t0∧∀(a:Nat) (t:List Int),a<i→s.2.2.1[a]? =some t→∃b,yL m t=some b∧(b=true↔(a:Int)∈s.2.2.2.1)) (fun o=>∃T M E,o= .inl (T,M,E)∧∃kn,SI l m.2.1 T.length 0 kn T E∧SZ m T.length 0 kn T E∧Inc M∧(∀x∈M,0≤x∧x<(T.length:Int))∧T[0]? =some t0∧∀(a:Nat) (t:List Int),T[a]? =some t→∃b,yL m t=some b∧(b=true↔(a:Int)∈M)) 4000 0 (by omega) (fun i s _ ⟨e1,hle,hS,hZ,hi1,hi2,ht,hmk⟩=>by
   obtain⟨k,kn,T,M,E⟩:=s;dsimp only at e1 hle hS hZ hi1 hi2 ht hmk;subst e1;have hTl:=y9a h hS.nd hS.inT;by_cases hi:i<T.length
   ·left;obtain⟨b,hb⟩:=yfr h hM (hS.inT _ (List.getElem_mem hi));obtain⟨kn',T',E',g1,g2,g3,g4,U,hU⟩:=yhf h hM (kn,T,M,E) hS hZ hi;have hj:∀M',y2H m ((i:Int),kn,T,M,E) M'=some (.inl (((i+1:Nat):Int),kn',T',M',E')):=fun M'=>by
     rw [y2H];dsimp only;rw [g1,yOb];dsimp only;rw [nxt (by omega)]
    have hTT:∀a,a<T.length→T'[a]? =T[a]? :=fun a ha=>by rw [hU,List.getElem?_append_left ha]
    have ht':T'[0]? =some t0:=by rw [hTT 0 (by omega)];exact ht
    have hmk':∀M':List Int,(∀x:Int,x≠(i:Int)→(x∈M'↔x∈M))→(b=true↔(i:Int)∈M')→∀(a:Nat) (t:List Int),a<i+1→T'[a]? =some t→∃b,yL m t=some b∧(b=true↔(a:Int)∈M'):=fun M' hM1 hM2 a t ha hat=>by
     rw [hTT a (by omega)] at hat;by_cases e:a=i
     ·subst e;rw [yGe hi] at hat;cases hat;exact⟨b,hb,hM2⟩
     ·obtain ⟨b',q1,q2⟩:=hmk a t (by omega) hat;exact⟨b',q1,by rw [q2,hM1 _ (by omega)]⟩
    rw [y2I];dsimp only;rw [if_pos (ct_lt hi),ya hi,yOb,hb,yOb];cases hbv:b with
    | false=>
     rw [if_neg (by simp),hj];exact⟨_,rfl,rfl,by dsimp only;omega,g2,g3,hi1,fun x hx=>by have:=hi2 x hx;omega,ht',hmk' M (fun x _=>Iff.rfl) ⟨fun e=>(by rw [hbv] at e;cases e),fun hx=>by have:=hi2 _ hx;omega⟩⟩
    | true=>
     have hMl:=y5N (n:=i) (lo:=0) hi1 hi2 (Int.le_refl _);rw [if_pos rfl,yr (by simp;omega),yOb,hj];refine⟨_,rfl,rfl,by dsimp only;omega,g2,g3,?_,fun x hx=>?_,ht',hmk' (M++[(i:Int)]) (fun x hx=>?_) ⟨fun _=>List.mem_append_right _ (List.mem_singleton.2 rfl),fun _=>hbv⟩⟩
     ·dsimp only;unfold Inc at hi1 ⊢;rw [List.pairwise_append];exact⟨hi1,List.pairwise_singleton _ _,fun a ha b hb=>by rw [List.mem_singleton.1 hb];exact(hi2 a ha).2⟩
     ·dsimp only at hx;rcases List.mem_append.1 hx with hx|hx
      ·have:=hi2 x hx;omega
      ·rw [List.mem_singleton.1 hx];omega
     ·rw [List.mem_append,List.mem_singleton];exact⟨fun h=>h.resolve_right hx,.inl⟩
   ·right;obtain rfl:i=T.length:=by omega
    refine⟨.inl (T,M,E),?_,T,M,E,rfl,kn,hS,hZ,hi1,hi2,ht,fun a t hat=>hmk a t (List.getElem?_eq_some_iff.1 hat).1 hat⟩;rw [y2I];dsimp only;rw [if_neg ct_ge]) (fun s ⟨e1,hle,hS,hZ,hi1,hi2,ht,hmk⟩=>by
   obtain⟨k,kn,T,M,E⟩:=s;dsimp only at e1 hle hS hZ hi1 hi2 ht hmk;subst e1;have hTl:=y9a h hS.nd hS.inT;have hT:4000=T.length:=by omega
   refine⟨.inl (T,M,E),?_,T,M,E,rfl,kn,by rw [←hT];exact hS,by rw [←hT];exact hZ,hi1,by rw [←hT];exact hi2,ht,fun a t hat=>hmk a t (by have:=(List.getElem?_eq_some_iff.1 hat).1;omega) hat⟩;rw [y2I];dsimp only;rw [hT,if_neg ct_ge]) (Nat.zero_le _) (0,kput ([]:Kno) (keyK t0) 0,[t0],[],[]) ⟨rfl,by simp,hS0,hZ0,List.Pairwise.nil,fun x hx=>(by cases hx),rfl,fun a t ha=>by omega⟩
 obtain⟨T,M,E,rfl,kn,hS,hZ,hi1,hi2,ht,hmk⟩:=h2;have hTl:=y9a h hS.nd hS.inT;have hR:Right (m.2.1,(T.length:Int),M,E) T.length:=by
  refine⟨rfl,by omega,hM.ev.1,hM.ev.2,hi1,hi2,fun x hx=>?_,hS.so,by dsimp only;omega,?_,?_⟩
  ·have:=hS.er x hx;have h3:=hS.es x hx;refine⟨this.1,?_,this.2.2⟩;rcases Int.lt_or_le x.1 (T.length:Int) with h4|h4
   ·exact h4
   ·exact absurd (h3 (by omega)) (by simp)
  ·have:=y5N (n:=T.length) (lo:=0) hi1 hi2 (Int.le_refl _);dsimp only;omega
  ·have:=hS.el;dsimp only;omega
 have hel:(edsOf (m.2.1,(T.length:Int),M,E)).length=E.length:=List.length_map _;have hee:∀n (hn:n<(edsOf (m.2.1,(T.length:Int),M,E)).length) (hn':n<E.length),(edsOf (m.2.1,(T.length:Int),M,E))[n]=toEd E[n]:=fun n hn hn'=>by simp [edsOf]
 refine⟨m,(m.2.1,(T.length:Int),M,E),T,T.length,hm,hM,?_,hR,hS.pos,hTl,rfl,hS.nd,hS.inT,⟨t0,ht,ht0⟩,rfl,hZ.sn,fun a t e r ha he hst=>?_,⟨?_,fun x hx=>?_,fun k h0 h1=>?_,fun n hn k h0 h1=>?_,fun n hn hf=>?_⟩,hmk⟩
 ·rw [yz,yfq h,yOb,if_neg (by simp),hm,yOb,ht0,yOb,if_neg (by simp)];dsimp only;rw [yf9 h hT0,yOb,h1];rfl
 ·obtain ⟨b,hb,hbe⟩:=List.getElem_of_mem he;exact hZ.ed a b t e r (.inl (List.getElem?_eq_some_iff.1 ha).1) ha (by rw [yGe hb,hbe]) hst
 ·have:=hR.sorted;exact this
 ·have h3:=hR.ein x hx;have h4:=hR.evs x hx;exact⟨h3.1,h3.2.1,h3.2.2.1,h3.2.2.2,h4.1,h4.2⟩
 ·obtain ⟨x,hx,h3⟩:=hZ.cov k h0 h1;exact⟨toEd x,List.mem_map_of_mem hx,h3⟩
 ·have hn':n<E.length:=by omega
  rw [hee n hn hn'] at h1;obtain⟨p,hp,h3,h4⟩:=hZ.ear n hn' k h0 h1;exact⟨p,by omega,h3,by rw [hee p (by omega) hp];exact h4⟩
 ·have hn':n<E.length:=by omega
  rw [hee n hn hn'];refine hZ.fst n hn' fun p hp hpn=>?_;have:=hf p (by omega) hpn;rw [hee p (by omega) hp,hee n hn hn'] at this;exact this
def mg(kp:Bool→Bool→Bool):List Int→List Int→List Int
 | [],[]=> []
 | [],b::vs=>if kp false true=true then b::mg kp [] vs else mg kp [] vs
 | a::us,[]=>if kp true false=true then a::mg kp us [] else mg kp us []
 | a::us,b::vs=>if a<b then(if kp true false=true then a::mg kp us (b::vs) else mg kp us (b::vs)) else if b<a then(if kp false true=true then b::mg kp (a::us) vs else mg kp (a::us) vs) else(if kp true true=true then b::mg kp us vs else mg kp us vs)
termination_by us vs=>us.length+vs.length
theorem yaL{kp:Bool→Bool→Bool}{h:Int}{us' vs':List Int}{bu bv:Bool}(hr:Inc r∧∀x,x∈r↔((x∈us'∨x∈vs')∧kp (hasB us' x) (hasB vs' x)=true))
  (hu:∀x,x∈us↔(x=h∧bu=true)∨x∈us') (hv:∀x,x∈vs↔(x=h∧bv=true)∨x∈vs') (gu:∀x∈us',h<x) (gv:∀x∈vs',h<x) (hb:bu=true∨bv=true):
  Inc (if kp bu bv=true then h::r else r)∧∀x,x∈(if kp bu bv=true then h::r else r)↔((x∈us∨x∈vs)∧kp (hasB us x) (hasB vs x)=true):=by
 have e1:hasB us h=bu:=by
  rw [Bool.eq_iff_iff,yb,hu];exact⟨fun e=>e.elim (fun e=>e.2) (fun e=>by have:=gu _ e;omega),fun e=> .inl ⟨rfl,e⟩⟩
 have e2:hasB vs h=bv:=by
  rw [Bool.eq_iff_iff,yb,hv];exact⟨fun e=>e.elim (fun e=>e.2) (fun e=>by have:=gv _ e;omega),fun e=> .inl ⟨rfl,e⟩⟩
 have e3:∀x,x≠h→hasB us x=hasB us' x:=fun x hx=>by
  rw [Bool.eq_iff_iff,yb,yb,hu];exact⟨fun e=>e.elim (fun e=>absurd e.1 hx) id,.inr⟩
 have e4:∀x,x≠h→hasB vs x=hasB vs' x:=fun x hx=>by
  rw [Bool.eq_iff_iff,yb,yb,hv];exact⟨fun e=>e.elim (fun e=>absurd e.1 hx) id,.inr⟩
 have hgt:∀x∈r,h<x:=fun x hx=>((hr.2 x).1 hx).1.elim (gu x) (gv x);have hne:∀x,x≠h→(x∈r↔((x∈us∨x∈vs)∧kp (hasB us x) (hasB vs x)=true)):=fun x hx=>by
  rw [hr.2 x,e3 x hx,e4 x hx,hu,hv];constructor
  ·rintro ⟨h1|h1,h2⟩
   ·exact ⟨.inl (.inr h1),h2⟩
   ·exact ⟨.inr (.inr h1),h2⟩
  ·rintro ⟨(h1|h1)|(h1|h1),h2⟩
   ·exact absurd h1.1 hx
   ·exact ⟨.inl h1,h2⟩
   ·exact absurd h1.1 hx
   ·exact ⟨.inr h1,h2⟩
 have hh:(h∈us∨h∈vs):=hb.elim (fun e=> .inl ((hu h).2 (.inl ⟨rfl,e⟩))) (fun e=> .inr ((hv h).2 (.inl ⟨rfl,e⟩)));cases hk:kp bu bv with
 | true=>
  rw [if_pos rfl];refine⟨List.pairwise_cons.2 ⟨hgt,hr.1⟩,fun x=>?_⟩;rw [List.mem_cons];by_cases hx:x=h
  ·subst hx;exact⟨fun _=>⟨hh,by rw [e1,e2,hk]⟩,fun _=> .inl rfl⟩
  ·rw [←hne x hx];exact⟨fun e=>e.resolve_left hx,.inr⟩
 | false=>
  rw [if_neg (by simp)];refine⟨hr.1,fun x=>?_⟩;by_cases hx:x=h
  ·subst hx;refine⟨fun e=>absurd (hgt x e) (by omega),fun e=>?_⟩;rw [e1,e2,hk] at e;cases e.2
  ·exact hne x hx
theorem y6r(kp:Bool→Bool→Bool):∀(us vs:List Int),Inc us→Inc vs→Inc (mg kp us vs)∧∀x,x∈mg kp us vs↔((x∈us∨x∈vs)∧kp (hasB us x) (hasB vs x)=true)
 | [],[],_,_=>by
  rw [mg];exact⟨List.Pairwise.nil,fun x=>⟨fun h=>(by cases h),fun h=>(by rcases h.1 with h|h <;> cases h)⟩⟩
 | [],b::vs,_,hv=>by
  obtain⟨v1,v2⟩:=List.pairwise_cons.1 hv;rw [mg];exact yaL (bu:=false) (bv:=true) (y6r kp [] vs List.Pairwise.nil v2) (fun x=>by simp) (fun x=>by simp) (fun x hx=>by cases hx) v1 (.inr rfl)
 | a::us,[],hu,_=>by
  obtain⟨u1,u2⟩:=List.pairwise_cons.1 hu;rw [mg];exact yaL (bu:=true) (bv:=false) (y6r kp us [] u2 List.Pairwise.nil) (fun x=>by simp) (fun x=>by simp) u1 (fun x hx=>by cases hx) (.inl rfl)
 | a::us,b::vs,hu,hv=>by
  obtain⟨u1,u2⟩:=List.pairwise_cons.1 hu;obtain⟨v1,v2⟩:=List.pairwise_cons.1 hv;rw [mg];by_cases h1:a<b
  ·rw [if_pos h1];refine yaL (bu:=true) (bv:=false) (y6r kp us (b::vs) u2 hv) (fun x=>by simp) (fun x=>by simp) u1 (fun x hx=>?_) (.inl rfl);rcases List.mem_cons.1 hx with rfl|hx
   ·exact h1
   ·have:=v1 x hx;omega
  ·rw [if_neg h1];by_cases h2:b<a
   ·rw [if_pos h2];refine yaL (bu:=false) (bv:=true) (y6r kp (a::us) vs hu v2) (fun x=>by simp) (fun x=>by simp) (fun x hx=>?_) v1 (.inr rfl);rcases List.mem_cons.1 hx with rfl|hx
    ·exact h2
    ·have:=u1 x hx;omega
   ·obtain rfl:a=b:=by omega
    rw [if_neg h2];exact yaL (bu:=true) (bv:=true) (y6r kp us vs u2 v2) (fun x=>by simp) (fun x=>by simp) u1 v1 (.inl rfl)
termination_by us vs=>us.length+vs.length
theorem yfs{kp:Bool→Bool→Bool}{f:Bool→Bool→Option Bool}(hf:∀a b,f a b=some (kp a b)){out:List Int}(hl:out.length≤4000000)(hne:0<us.length+vs.length):
  ∃o u v,yf f (out,us,vs)=some (.inl (o,u,v))∧o++mg kp u v=out++mg kp us vs∧o.length≤out.length+1∧u.length+v.length+1≤us.length+vs.length:=by
 have ho:∀a:Int,app out ([a]:List Int)=some (out++[a]):=fun a=>yr (by simp;omega);have fin:∀(bu bv:Bool) (h:Int) (u v:List Int),∃o,yp f (out,us,vs) bu bv u v h=some (.inl (o,u,v))∧o++mg kp u v=out++(if kp bu bv=true then h::mg kp u v else mg kp u v)∧o.length≤out.length+1:=fun bu bv h u v=>by
  rw [yp,hf,yOb];dsimp only;cases kp bu bv with
  | true=>rw [if_pos rfl,ho,yOb];exact⟨_,rfl,by simp,by simp⟩
  | false=>rw [if_neg (by simp)];exact⟨_,rfl,by simp,by omega⟩
 cases us with
 | nil=>
  cases vs with
  | nil=>simp at hne
  | cons b vs=>
   obtain⟨o,h1,h2,h3⟩:=fin false true b [] vs;refine⟨o,[],vs,?_,by rw [h2,mg],h3,by simp⟩;rw [yf];dsimp only;rw [if_pos (by simp),if_neg (by simp),yw];dsimp only;rw [if_pos (by simp),if_pos (by simp),yl,if_neg (by simp),yi,if_pos rfl];dsimp only;rw [y2e,yOb,y5H,yOb];exact h1
 | cons a us=>
  cases vs with
  | nil=>
   obtain⟨o,h1,h2,h3⟩:=fin true false a us [];refine⟨o,us,[],?_,by rw [h2,mg],h3,by simp⟩;rw [yf];dsimp only;rw [if_pos (by simp),if_pos (by simp),if_pos (by simp),yw];dsimp only;rw [if_neg (by simp),yl,if_pos rfl];dsimp only;rw [y2e,yOb,y5H,yOb,yi,if_neg (by simp)];exact h1
  | cons b vs=>
   have e0:yf f (out,a::us,b::vs)=yl f (out,a::us,b::vs) (decide (a≤b)) (decide (b≤a)):=by
    rw [yf];dsimp only;rw [if_pos (by simp),if_pos (by simp),if_neg (by simp;omega),y2e,yOb,y2e,yOb,yw];dsimp only;rw [if_pos (by simp),if_neg (by simp;omega),y2e,yOb,y2e,yOb]
   rw [e0,yl];dsimp only;by_cases h1:a<b
   ·obtain ⟨o,g1,g2,g3⟩:=fin true false a us (b::vs);refine⟨o,us,b::vs,?_,by rw [g2,mg,if_pos h1],g3,by simp;omega⟩;rw [show decide (a≤b)=true by simp;omega,show decide (b≤a)=false by simp;omega,if_pos rfl,y2e,yOb,y5H,yOb,yi,if_neg (by simp)];exact g1
   ·by_cases h2:b<a
    ·obtain ⟨o,g1,g2,g3⟩:=fin false true b (a::us) vs;refine⟨o,a::us,vs,?_,by rw [g2,mg,if_neg h1,if_pos h2],g3,by simp;omega⟩;rw [show decide (a≤b)=false by simp;omega,show decide (b≤a)=true by simp;omega,if_neg (by simp),yi,if_pos rfl];dsimp only;rw [y2e,yOb,y5H,yOb];exact g1
    ·obtain ⟨o,g1,g2,g3⟩:=fin true true b us vs;refine⟨o,us,vs,?_,by rw [g2,mg,if_neg h1,if_neg h2],g3,by simp;omega⟩;rw [show decide (a≤b)=true by simp;omega,show decide (b≤a)=true by simp;omega,if_pos rfl,y2e,yOb,y5H,yOb,yi,if_pos rfl];dsimp only;rw [y2e,yOb,y5H,yOb];exact g1
theorem ycp{kp:Bool→Bool→Bool}{f:Bool→Bool→Option Bool}(hf:∀a b,f a b=some (kp a b))(hu:us.length≤1000000)(hv:vs.length≤1000000):y3g us vs f=some (mg kp us vs):=by
 obtain⟨o,h1,h2⟩:=yd (f:=yf f) (fun i s=>s.1++mg kp s.2.1 s.2.2=mg kp us vs∧s.1.length≤i∧s.2.1.length+s.2.2.length+i≤us.length+vs.length) (fun o=>o=mg kp us vs) (us.length+vs.length) 0 (by omega) (fun i s hi ⟨g1,g0,g2⟩=>by
   obtain⟨out,u,v⟩:=s;dsimp only at g1 g0 g2;by_cases hne:0<u.length+v.length
   ·obtain ⟨o,u',v',e,g3,g5,g4⟩:=yfs hf (out:=out) (by omega) hne;exact .inl ⟨_,e,by rw [←g1];exact g3,by dsimp only;omega,by dsimp only;omega⟩
   ·have e1:u= []:=List.eq_nil_of_length_eq_zero (by omega);have e2:v= []:=List.eq_nil_of_length_eq_zero (by omega);subst e1;subst e2;rw [mg,List.append_nil] at g1;exact .inr ⟨out,rfl,g1⟩) (fun s ⟨g1,g0,g2⟩=>by
   obtain⟨out,u,v⟩:=s;dsimp only at g1 g2;have e1:u= []:=List.eq_nil_of_length_eq_zero (by omega);have e2:v= []:=List.eq_nil_of_length_eq_zero (by omega);subst e1;subst e2;rw [mg,List.append_nil] at g1;exact⟨out,rfl,g1⟩) (Nat.zero_le _) ([],us,vs) ⟨rfl,by simp,by dsimp only;omega⟩
 rw [y3g,h1,h2];rfl
theorem ydw(hu:us.length≤1000000)(hv:vs.length≤1000000):y4S us vs=some (mg (fun a b=>a||b) us vs):=by
 rw [y4S,ycp (f:=yE) (kp:=fun a b=>a||b) (fun a b=>rfl) hu hv];rfl
def st1(a:AutT)(s e:Int):Option Int:=(a.2.2.2.find? fun x=>x.1==s&&x.2.1==e).map fun x=>x.2.2
theorem y6V{a:AutT}{n:Nat}(hr:Right a n){s t:Int}:st1 a s e=some t↔(s,e,t)∈a.2.2.2:=by
 unfold st1;rw [Option.map_eq_some_iff];constructor
 ·rintro ⟨x,h1,rfl⟩;have h2:=List.find?_some h1;have h3:=List.mem_of_find?_eq_some h1;simp only [Bool.and_eq_true,beq_iff_eq] at h2;obtain⟨rfl,rfl⟩:=h2;exact h3
 ·intro h;cases hf:a.2.2.2.find? fun x=>x.1==s&&x.2.1==e with
  | none=>exact absurd (List.find?_eq_none.1 hf _ h) (by simp)
  | some x=>
   refine⟨x,rfl,?_⟩;have h2:=List.find?_some hf;have h3:=List.mem_of_find?_eq_some hf;simp only [Bool.and_eq_true,beq_iff_eq] at h2;obtain⟨i,hi,e1⟩:=List.getElem_of_mem h;obtain⟨j,hj,e2⟩:=List.getElem_of_mem h3;rcases Nat.lt_trichotomy i j with hij|hij|hij
   ·have:=List.pairwise_iff_getElem.1 hr.so i j hi hj hij;rw [e1,e2] at this;dsimp only at this;omega
   ·subst hij;rw [e1] at e2;rw [←e2]
   ·have:=List.pairwise_iff_getElem.1 hr.so j i hj hi hij;rw [e1,e2] at this;dsimp only at this;omega
theorem yd9{a:AutT}{n:Nat}(hr:Right a n){s t:Int}(h:st1 a s e=some t):0≤s∧s<(n:Int)∧0≤t∧t<(n:Int)∧e∈a.1:=hr.es _ ((y6V hr).1 h)
theorem yfb{es:List (Int×Int×Int)}(so:es.Pairwise fun x y=>x.1<y.1∨(x.1=y.1∧x.2.1<y.2.1)){i:Nat}(hi:i<es.length)(q:Int×Int):
  ((es.take (i+1)).find? fun x=>x.1==q.1&&x.2.1==q.2).map (fun x=>x.2.2)=if q=(es[i].1,es[i].2.1) then some es[i].2.2 else((es.take i).find? fun x=>x.1==q.1&&x.2.1==q.2).map fun x=>x.2.2:=by
 rw [List.take_succ_eq_append_getElem hi,List.find?_append];by_cases h:q=(es[i].1,es[i].2.1)
 ·rw [if_pos h];have hn:(es.take i).find? (fun x=>x.1==q.1&&x.2.1==q.2)=none:=by
   rw [List.find?_eq_none];intro x hx hx2;simp only [Bool.and_eq_true,beq_iff_eq] at hx2;obtain⟨k,hk,rfl⟩:=List.getElem_of_mem hx;rw [List.length_take] at hk;rw [List.getElem_take,h] at hx2;have:=List.pairwise_iff_getElem.1 so k i (by omega) hi (by omega);omega
  rw [hn,Option.none_or,List.find?_cons_of_pos (by rw [h];simp)];rfl
 ·rw [if_neg h,List.find?_cons_of_neg (by
   intro hx;simp only [Bool.and_eq_true,beq_iff_eq] at hx;exact h (by rw [hx.1,hx.2])),List.find?_nil,Option.or_none]
theorem ydx{a:AutT}{n:Nat}(hr:Right a n):∃o,iter (y2c a) (0,([]:List ((Int×Int)×Int)))=some o∧∀q:Int×Int,kget o q=st1 a q.1 q.2:=by
 have hl:=hr.l3;refine yd (f:=y2c a) (fun i s=>s.1=(i:Int)∧∀q:Int×Int,kget s.2 q=((a.2.2.2.take i).find? fun x=>x.1==q.1&&x.2.1==q.2).map fun x=>x.2.2) (fun o=>∀q:Int×Int,kget o q=st1 a q.1 q.2) a.2.2.2.length 0 (by omega) (fun i s hi ⟨e1,g1⟩=>?_) (fun s ⟨e1,g1⟩=>?_) (Nat.zero_le _) _ ⟨rfl,fun q=>rfl⟩
 ·obtain ⟨k,out⟩:=s;dsimp only at e1 g1;subst e1;refine .inl ⟨(((i+1:Nat):Int),kput out (a.2.2.2[i].1,a.2.2.2[i].2.1) a.2.2.2[i].2.2),?_,rfl,fun q=>?_⟩
  ·rw [y2c];dsimp only;rw [if_pos (ct_lt hi),ya hi,yOb,nxt (by omega)]
  ·dsimp only;rw [y5Z,yfb hr.so hi,g1]
 ·obtain ⟨k,out⟩:=s;dsimp only at e1 g1;subst e1;rw [List.take_length] at g1;refine⟨out,?_,g1⟩;rw [y2c];dsimp only;rw [if_neg ct_ge]
theorem yft(hP:Alp P.1)(hS:Alp S.1):y4T [P,S]=some (mg (fun a b=>a||b) P.1 S.1):=by
 have l1:=hP.len;have l2:=hS.len;have h0:mg (fun a b=>a||b) [] P.1=P.1:=by
  have h:=y6r (fun a b=>a||b) [] P.1 List.Pairwise.nil hP.1;refine y9F (lt:=fun a b:Int=>a<b) (fun a b h1 h2=>by omega) h.1 hP.1 fun x=>?_;rw [h.2];constructor
  ·rintro ⟨h1|h1,_⟩
   ·cases h1
   ·exact h1
  ·intro h1;refine⟨.inr h1,?_⟩;rw [yb.2 h1];simp
 have h:iter (y1N [P,S]) (0,[])=some (mg (fun a b=>a||b) P.1 S.1):=by
  refine y5i (n:=3) (by omega) ?_;rw [yc,y1N];dsimp only;rw [if_pos (by simp),show idx [P,S] 0=some P from rfl,yOb,ydw (by simp) (by omega),yOb,h0];dsimp only;rw [yc,y1N];dsimp only;rw [show W (0+1)=1 from rfl,if_pos (by simp),show idx [P,S] 1=some S from rfl,yOb,ydw (by omega) (by omega),yOb];dsimp only;rw [yc,y1N];dsimp only;rw [show W (1+1)=2 from rfl,if_neg (by simp)]
 rw [y4T,h];rfl
theorem yeh(hP:Right P n1)(hS:Right S n2):∃o1 o2,y5a [P,S]=some ([P,S],mg (fun a b=>a||b) P.1 S.1,[o1,o2])∧(∀q:Int×Int,kget o1 q=st1 P q.1 q.2)∧∀q:Int×Int,kget o2 q=st1 S q.1 q.2:=by
 obtain⟨o1,h1,g1⟩:=ydx hP;obtain⟨o2,h2,g2⟩:=ydx hS;refine⟨o1,o2,?_,g1,g2⟩;have h:iter (y2D [P,S]) (0,[])=some [o1,o2]:=by
  refine y5i (n:=3) (by omega) ?_;rw [yc,y2D];dsimp only;rw [if_pos (by simp),show idx [P,S] 0=some P from rfl,yOb,h1,yOb,yr (by simp),yOb];dsimp only;rw [yc,y2D];dsimp only;rw [show W (0+1)=1 from rfl,if_pos (by simp),show idx [P,S] 1=some S from rfl,yOb,h2,yOb,yr (by simp),yOb];dsimp only;rw [yc,y2D];dsimp only;rw [show W (1+1)=2 from rfl,if_neg (by simp)];rfl
 rw [y5a,yft ⟨hP.ali,hP.alr⟩ ⟨hS.ali,hS.alr⟩,yOb,h];rfl
def pst(P S:AutT)(x y e:Int):Option (Int×Int):=(if hasB P.1 e=true then st1 P x e else some x).bind fun x'=>(if hasB S.1 e=true then st1 S y e else some y).map fun y'=>(x',y')
theorem yie(hP:Right P n1)(hS:Right S n2){ev:List Int}{o1 o2:List ((Int×Int)×Int)}(g1:∀q:Int×Int,kget o1 q=st1 P q.1 q.2)(g2:∀q:Int×Int,kget o2 q=st1 S q.1 q.2)(x y e:Int):
  y1d ([P,S],ev,[o1,o2]) [x,y] e=some (match pst P S x y e with
   | some u=>([u.1,u.2],true)
   | none=>([],false)):=by
 have l1:=hP.l1;have l2:=hS.l1;have f0:yn ([P,S],ev,[o1,o2]) [x,y] e (0,[x,y])=some (match (if hasB P.1 e=true then st1 P x e else some x) with
   | some x'=> .inl (1,[x',y])
   | none=> .inr (.inr ())):=by
  rw [yn];dsimp only;rw [if_pos (by simp),show idx [P,S] 0=some P from rfl,yOb,y7y (by omega) hP.ali,yOb];cases hb:hasB P.1 e with
  | false=>
   rw [if_pos (by simp),yy,if_neg (by simp)];rfl
  | true=>
   rw [if_neg (by simp),show idx [o1,o2] 0=some o1 from rfl,yOb,show idx [x,y] 0=some x from rfl,yOb,g1,if_pos rfl];dsimp only;cases st1 P x e with
   | none=>rw [if_pos (by simp)]
   | some v=>
    rw [if_neg (by simp),yOb,show upd [x,y] 0 ((some v).getD 0)=some [v,y] from rfl,yOb,yy];rfl
 have f1:∀x',yn ([P,S],ev,[o1,o2]) [x,y] e (1,[x',y])=some (match (if hasB S.1 e=true then st1 S y e else some y) with
   | some y'=> .inl (2,[x',y'])
   | none=> .inr (.inr ())):=fun x'=>by
  rw [yn];dsimp only;rw [if_pos (by simp),show idx [P,S] 1=some S from rfl,yOb,y7y (by omega) hS.ali,yOb];cases hb:hasB S.1 e with
  | false=>
   rw [if_pos (by simp),yy,if_neg (by simp)];rfl
  | true=>
   rw [if_neg (by simp),show idx [o1,o2] 1=some o2 from rfl,yOb,show idx [x,y] 1=some y from rfl,yOb,g2,if_pos rfl];dsimp only;cases st1 S y e with
   | none=>rw [if_pos (by simp)]
   | some v=>
    rw [if_neg (by simp),show idx [x',y] 1=some y from rfl,yOb,show upd [x',y] 1 ((some v).getD 0)=some [x',v] from rfl,yOb,yy];rfl
 have f2:∀u,yn ([P,S],ev,[o1,o2]) [x,y] e (2,u)=some (.inr (.inl u)):=fun u=>by
  rw [yn];dsimp only;rw [if_neg (by simp)]
 have h:iter (yn ([P,S],ev,[o1,o2]) [x,y] e) (0,[x,y])=some (match pst P S x y e with
   | some u=> .inl [u.1,u.2]
   | none=> .inr ()):=by
  refine y5i (n:=3) (by omega) ?_;rw [yc,f0];unfold pst;cases (if hasB P.1 e=true then st1 P x e else some x) with
  | none=>rfl
  | some x'=>
   dsimp only;rw [yc,f1,yOb];cases (if hasB S.1 e=true then st1 S y e else some y) with
   | none=>rfl
   | some y'=>
    dsimp only;rw [yc,f2];rfl
 rw [y1d,y9Z (by simp),yOb,h,yOb];cases pst P S x y e <;> rfl
structure Loop (P S p:AutT) (T:List (List Int)) (n:Nat):Prop where
 right:Right p n
 pos:1≤n
 le:n≤4000
 tl:T.length=n
 nd:T.Nodup
 tt:∀t∈T,∃x y,t= [x,y]∧0≤x∧x<P.2.1∧0≤y∧y<S.2.1
 t0:T[0]? =some [0,0]
 ev:∀e,e∈p.1↔e∈P.1∨e∈S.1
 no:∀(a:Nat) (x y e:Int),T[a]? =some [x,y]→e∈p.1→pst P S x y e=none→st1 p (a:Int) e=none
 yes:∀(a:Nat) (x y e x' y':Int),T[a]? =some [x,y]→e∈p.1→pst P S x y e=some (x',y')→∃q:Nat,st1 p (a:Int) e=some (q:Int)∧T[q]? =some [x',y']
 num:Num (edsOf p) n
theorem yif(hP:Right P n1)(hS:Right S n2){ev:List Int}{o1 o2:List ((Int×Int)×Int)}(g1:∀q:Int×Int,kget o1 q=st1 P q.1 q.2)(g2:∀q:Int×Int,kget o2 q=st1 S q.1 q.2)(x y e:Int):
  mst ([P,S],ev,[o1,o2]) [x,y] e=(pst P S x y e).map fun u=> [u.1,u.2]:=by
 unfold mst;rw [yie hP hS g1 g2];cases pst P S x y e <;> rfl
theorem yig{B:Nat}(hP:Right P n1)(hS:Right S n2)(p1:1≤n1)(p2:1≤n2)(b1:n1≤B)(b2:n2≤B)(hB:B≤99)(hBB:B*B≤4000):∃p T n,yz [P,S]=some (p,T,0)∧Loop P S p T n:=by
 have hL:LOkB B [P,S]:=⟨by simp,fun a ha=>by
  rcases List.mem_cons.1 ha with rfl|ha
  ·exact ⟨n1,p1,b1,hP⟩
  ·rw [List.mem_singleton.1 ha];exact⟨n2,p2,b2,hS⟩,hB,by
  show B ^ 2≤4000;rw [Nat.pow_two];exact hBB⟩
 obtain⟨m,p,T,n,h1,h2,h3,h⟩:=yhg hL;obtain⟨o1,o2,e1,g1,g2⟩:=yeh hP hS;rw [h1] at e1;obtain rfl:=Option.some.inj e1;have htt:∀t∈T,∃x y,t= [x,y]∧0≤x∧x<P.2.1∧0≤y∧y<S.2.1:=fun t ht=>by
  obtain⟨hl,hr⟩:=h.inT t ht
  match t,hl,hr with
  | [x,y],_,hr=>
   have q1:=hr 0 (by simp) (by simp);have q2:=hr 1 (by simp) (by simp);exact⟨x,y,rfl,q1.1,q1.2,q2.1,q2.2⟩
 have hms:=yif hP hS (ev:=mg (fun a b=>a||b) P.1 S.1) g1 g2;have hev:p.1=mg (fun a b=>a||b) P.1 S.1:=h.ev;refine⟨p,T,n,h3,h.right,h.pos,h.le,h.tl,h.nd,htt,?_,fun e=>?_,fun a x y e ha he hp=>?_,fun a x y e x' y' ha he hp=>?_,h.num⟩
 ·obtain ⟨t,q1,q2⟩:=h.t0;rw [q1];have hin:yx ([P,S],mg (fun a b=>a||b) P.1 S.1,[o1,o2])=some ([0,0],true):=by
   have hi:iter (yj ([P,S],mg (fun a b=>a||b) P.1 S.1,[o1,o2])) 0=some (.inl ()):=by
    refine y5i (n:=3) (by omega) ?_;rw [yc,yj];dsimp only;rw [if_pos (by simp),show idx [P,S] 0=some P from rfl,yOb,hP.nn,if_neg (by simp;omega)];dsimp only;rw [yc,yj];dsimp only;rw [show W (0+1)=1 from rfl,if_pos (by simp),show idx [P,S] 1=some S from rfl,yOb,hS.nn,if_neg (by simp;omega)];dsimp only;rw [yc,yj];dsimp only;rw [show W (1+1)=2 from rfl,if_neg (by simp)]
   rw [yx,hi,yOb];dsimp only;rw [y9b (by simp) (by simp),yOb];rfl
  rw [hin] at q2;cases q2;rfl
 ·have hsp:=y6r (fun a b=>a||b) P.1 S.1 hP.ali hS.ali;rw [hev,hsp.2];constructor
  ·exact fun q=>q.1
  ·intro q;refine⟨q,?_⟩;rcases q with q|q
   ·rw [yb.2 q];rfl
   ·rw [yb.2 q];simp
 ·cases hs:st1 p (a:Int) e with
  | none=>rfl
  | some t=>
   obtain⟨a',q,u,r,k1,k2,k3,k4,k5⟩:=h.sn _ ((y6V h.right).1 hs);dsimp only at k1 k2 k5;have:a'=a:=by omega
   subst this;rw [ha] at k3;cases k3;rw [hms,hp] at k5;cases k5
 ·have hm:mst ([P,S],mg (fun a b=>a||b) P.1 S.1,[o1,o2]) [x,y] e=some [x',y']:=by rw [hms,hp];rfl
  obtain⟨q,k1,k2⟩:=h.ed a [x,y] e [x',y'] ha he hm;exact⟨q,(y6V h.right).2 k1,k2⟩
theorem yai{n:Int}(h:yD n none xs=0):Inc xs∧∀x∈xs,0≤x∧x<n:=by
 have key:∀(xs:List Int) (p:Option Int),yD n p xs=0→Inc xs∧(∀x∈xs,0≤x∧x<n)∧∀q,p=some q→∀x∈xs,q<x:=by
  intro xs
  induction xs with
  | nil=>intro p _;exact⟨List.Pairwise.nil,fun x hx=>(by cases hx),fun q _ x hx=>(by cases hx)⟩
  | cons y xs ih=>
   intro p h;rw [yD] at h;split at h
   ·cases h
   ·rename_i h1;split at h
    ·cases h
    ·rename_i h2;obtain⟨g1,g2,g3⟩:=ih _ h;refine⟨List.pairwise_cons.2 ⟨fun z hz=>g3 y rfl z hz,g1⟩,fun x hx=>?_,fun q hq x hx=>?_⟩
     ·rcases List.mem_cons.1 hx with rfl|hx
      ·omega
      ·exact g2 x hx
     ·have hqy:q<y:=by
       have:¬y≤q:=fun hc=>h2 ⟨q,hq,hc⟩;omega
      rcases List.mem_cons.1 hx with rfl|hx
      ·exact hqy
      ·have:=g3 y rfl x hx;omega
 exact⟨(key xs none h).1,(key xs none h).2.1⟩
theorem yfu{a:Aut}(h:a.err=0):yD 32 none a.al=0∧0≤a.n∧a.n≤4096∧yD a.n none a.ms=0∧edErr a.al a.n none a.es=0:=by
 unfold Aut.err at h;split at h
 ·rename_i h1;rw [h] at h1;exact absurd h1 (by decide)
 ·rename_i h1;split at h
  ·cases h
  ·split at h
   ·cases h
   ·split at h
    ·rename_i h4;rw [h] at h4;exact absurd h4 (by decide)
    ·rename_i h2 h3 h4;exact⟨by simpa using h1,by omega,by omega,by simpa using h4,h⟩
theorem yfc{al:List Int}{n:Int}:∀(es:List Ed) (p:Option Ed),edErr al n p es=0→ycG es∧(∀q,p=some q→∀x∈es,edLt q x)∧∀x∈es,x.e∈al
 | [],_,_=>⟨List.Pairwise.nil,fun _ _ x hx=>(by cases hx),fun x hx=>(by cases hx)⟩
 | y::es,p,h=>by
  rw [edErr] at h;split at h
  ·cases h
  ·split at h
   ·cases h
   ·rename_i h2;split at h
    ·cases h
    ·rename_i h3;obtain⟨g1,g2,g4⟩:=yfc es _ h;have g3:=g2 y rfl;refine⟨List.pairwise_cons.2 ⟨g3,g1⟩,fun q hq x hx=>?_,fun x hx=>?_⟩
     ·have hqy:edLt q y:=by
       have h4:¬(y.f<q.f∨(y.f=q.f∧y.e≤q.e)):=fun hc=>h3 ⟨q,hq,hc⟩;unfold edLt;omega
      rcases List.mem_cons.1 hx with rfl|hx
      ·exact hqy
      ·have h5:=g3 x hx;unfold edLt at hqy h5 ⊢;omega
     ·rcases List.mem_cons.1 hx with rfl|hx
      ·exact yb.1 (by simpa using h2)
      ·exact g4 x hx
theorem ydy{a:AutT}(h:(toAut a).err=0)(h1:a.1.length≤1000000)(h2:a.2.2.1.length≤1000000)(h3:a.2.2.2.length≤1000000):Right a a.2.1.toNat:=by
 obtain⟨g1,g2,g3,g4,g5⟩:=yfu h;have hok:=Aut.ok_of h;obtain⟨e1,_,e3⟩:=yfc _ _ g5;obtain⟨al1,al2⟩:=yai g1;obtain⟨ms1,ms2⟩:=yai g4;have hn:(toAut a).n=a.2.1:=rfl;rw [hn] at g2 g3;have hnn:((a.2.1.toNat:Nat):Int)=a.2.1:=Int.toNat_of_nonneg g2;refine⟨hnn.symm,by omega,al1,al2,ms1,fun x hx=>by rw [hnn];exact ms2 x hx,fun x hx=>?_,?_,h1,h2,h3⟩
 ·have:=hok.es (toEd x) (List.mem_map_of_mem hx);have h4:=e3 (toEd x) (List.mem_map_of_mem hx);rw [hnn];exact⟨this.1,this.2.1,this.2.2.1,this.2.2.2,h4⟩
 ·have e1:(a.2.2.2.map toEd).Pairwise edLt:=e1;rw [List.pairwise_map] at e1;exact e1
theorem yeE{a:AutT}(h1:a.1.length≤1000000)(h2:a.2.2.1.length≤1000000)(h3:a.2.2.2.length≤1000000):y2b a=some (toAut a).err:=by
 have:=yb6 (a:=toAut a) (by simp [toAut];omega) (by simp [toAut];omega) (by simp [toAut];omega);rwa [y9E] at this
abbrev GrT :=AutT×List ((Int×Int)×Int)
abbrev TaskT :=GrT×GrT×GrT×List (List Int)×List Int×List Int
abbrev ProbT :=AutT×AutT×List Int
theorem ycq{a:AutT}{n:Nat}(hr:Right a n):∃o,y6s a=some (a,o)∧∀q:Int×Int,kget o q=st1 a q.1 q.2:=by
 have hl:=hr.l3;obtain⟨o,h1,h2⟩:=yd (f:=y6E a) (fun i s=>s.1=(i:Int)∧∀q:Int×Int,kget s.2 q=((a.2.2.2.take i).find? fun x=>x.1==q.1&&x.2.1==q.2).map fun x=>x.2.2) (fun o=>∀q:Int×Int,kget o q=st1 a q.1 q.2) a.2.2.2.length 0 (by omega) (fun i s hi ⟨e1,g1⟩=>by
   obtain⟨k,out⟩:=s;dsimp only at e1 g1;subst e1;refine .inl ⟨(((i+1:Nat):Int),kput out (a.2.2.2[i].1,a.2.2.2[i].2.1) a.2.2.2[i].2.2),?_,rfl,fun q=>?_⟩
   ·rw [y6E];dsimp only;rw [if_pos (ct_lt hi),ya hi,yOb,nxt (by omega)]
   ·dsimp only;rw [y5Z,yfb hr.so hi,g1]) (fun s ⟨e1,g1⟩=>by
   obtain⟨k,out⟩:=s;dsimp only at e1 g1;subst e1;rw [List.take_length] at g1;refine⟨out,?_,g1⟩;rw [y6E];dsimp only;rw [if_neg ct_ge]) (Nat.zero_le _) (0,[]) ⟨rfl,fun q=>rfl⟩
 exact⟨o,by rw [y6s,h1];rfl,h2⟩
def GrOk(g:GrT)(a:AutT):Prop:=g.1=a∧∀q:Int×Int,kget g.2 q=st1 a q.1 q.2
structure LoopZ (P S p:AutT) (T:List (List Int)) (n:Nat):Prop where
 right:Right p n
 le:n≤4000
 tl:T.length=n
 nd:T.Nodup
 tt:∀t∈T,∃x y,t= [x,y]∧0≤x∧x<P.2.1∧0≤y∧y<S.2.1
 t0:0<n→T[0]? =some [0,0]
 zero:n=0↔P.2.1=0∨S.2.1=0
 ev:∀e,e∈p.1↔e∈P.1∨e∈S.1
 no:∀(a:Nat) (x y e:Int),T[a]? =some [x,y]→e∈p.1→pst P S x y e=none→st1 p (a:Int) e=none
 yes:∀(a:Nat) (x y e x' y':Int),T[a]? =some [x,y]→e∈p.1→pst P S x y e=some (x',y')→∃q:Nat,st1 p (a:Int) e=some (q:Int)∧T[q]? =some [x',y']
 num:Num (edsOf p) n
theorem ygh(hP:Right P n1)(hS:Right S n2):y5n [P,S]=some 0:=by
 have h1:iter (y2n [P,S]) 0=some (.inl ()):=by
  refine y5i (n:=3) (by omega) ?_;rw [yc,y2n,if_pos (by simp),show idx [P,S] 0=some P from rfl,yOb,hP.check,yOb,if_neg (by simp)];dsimp only;rw [yc,y2n,show W (0+1)=1 from rfl,if_pos (by simp),show idx [P,S] 1=some S from rfl,yOb,hS.check,yOb,if_neg (by simp)];dsimp only;rw [yc,y2n,show W (1+1)=2 from rfl,if_neg (by simp)]
 rw [y5n,if_neg (by simp),h1];rfl
theorem yhh(hP:Right P n1)(hS:Right S n2)(b1:n1≤40)(b2:n2≤40):∃p T n,yz [P,S]=some (p,T,0)∧LoopZ P S p T n:=by
 by_cases h0:n1=0∨n2=0
 ·obtain ⟨o1,o2,h1,g1,g2⟩:=yeh hP hS;have hi:∀ev,yx ([P,S],ev,[o1,o2])=some ([],false):=fun ev=>by
   have h2:iter (yj ([P,S],ev,[o1,o2])) 0=some (.inr ()):=by
    refine y5i (n:=2) (by omega) ?_;rw [yc,yj];dsimp only;rw [if_pos (by simp),show idx [P,S] 0=some P from rfl,yOb,hP.nn];by_cases h1:n1=0
    ·rw [if_pos (by simp [h1])]
    ·rw [if_neg (by simp;omega)];dsimp only;rw [yc,yj];dsimp only;rw [show W (0+1)=1 from rfl,if_pos (by simp),show idx [P,S] 1=some S from rfl,yOb,hS.nn,if_pos (by simp;omega)]
   rw [yx,h2];rfl
  have hsp:=y6r (fun a b=>a||b) P.1 S.1 hP.ali hS.ali;have hev:∀e,e∈mg (fun a b=>a||b) P.1 S.1↔e∈P.1∨e∈S.1:=fun e=>by
   rw [hsp.2];constructor
   ·exact fun q=>q.1
   ·intro q;refine⟨q,?_⟩;rcases q with q|q
    ·rw [yb.2 q];rfl
    ·rw [yb.2 q];simp
  have halr:∀e∈mg (fun a b=>a||b) P.1 S.1,0≤e∧e<32:=fun e he=>by
   rcases(hev e).1 he with h|h
   ·exact hP.alr e h
   ·exact hS.alr e h
  have hlen:=Alp.len ⟨hsp.1,halr⟩;refine⟨(mg (fun a b=>a||b) P.1 S.1,0,[],[]),[],0,?_,⟨⟨rfl,by omega,hsp.1,halr,List.Pairwise.nil,fun x hx=>(by cases hx),fun x hx=>(by cases hx),List.Pairwise.nil,by dsimp only;omega,by simp,by simp⟩,by omega,rfl,List.nodup_nil,fun t ht=>(by cases ht),fun h=>absurd h (by omega),?_,hev,fun a x y e ha=>(by simp at ha),fun a x y e x' y' ha=>(by simp at ha),?_⟩⟩
  ·rw [yz,ygh hP hS,yOb,if_neg (by simp),h1,yOb,hi,yOb,if_pos (by simp)]
  ·have e1:=hP.nn;have e2:=hS.nn;exact⟨fun _=>by omega,fun _=>rfl⟩
  ·exact ⟨List.Pairwise.nil,fun x hx=>(by cases hx),fun k h1 h2=>by omega,fun n hn=>(by simp [edsOf] at hn),fun n hn=>(by simp [edsOf] at hn)⟩
 ·obtain ⟨p,T,n,h1,h⟩:=yig (B:=40) hP hS (by omega) (by omega) b1 b2 (by omega) (by omega);have e1:=hP.nn;have e2:=hS.nn;have:=h.pos;exact⟨p,T,n,h1,h.right,h.le,h.tl,h.nd,h.tt,fun _=>h.t0,⟨fun _=>by omega,fun _=>by omega⟩,h.ev,h.no,h.yes,h.num⟩
theorem yb7{n:Int}(hl:xs.length<4611686018427387904):y1M xs n=some (yD n none xs):=y8Z hl
def errP(q:ProbT):Int:=
 if(toAut q.1).err≠0 then(toAut q.1).err
 else if(toAut q.2.1).err≠0 then(toAut q.2.1).err
 else if(mg (fun a b=>a && !b) q.2.1.1 q.1.1).length≠0 then 9
 else yD 32 none q.2.2
structure ShortP (q:ProbT):Prop where
 p1:q.1.1.length≤1000000
 p2:q.1.2.2.1.length≤1000000
 p3:q.1.2.2.2.length≤1000000
 s1:q.2.1.1.length≤1000000
 s2:q.2.1.2.2.1.length≤1000000
 s3:q.2.1.2.2.2.length≤1000000
 u1:q.2.2.length≤1000000
theorem ydz(hu:us.length≤1000000)(hv:vs.length≤1000000):y3P us vs=some (mg (fun a b=>a && !b) us vs):=by
 rw [y3P,ycp (f:=yB) (kp:=fun a b=>a && !b) (fun a b=>rfl) hu hv];rfl
theorem ydA(hu:us.length≤1000000)(hv:vs.length≤1000000):y4a us vs=some (mg (fun a b=>a&&b) us vs):=by
 rw [y4a,ycp (f:=y5P) (kp:=fun a b=>a&&b) (fun a b=>rfl) hu hv];rfl
theorem yfv(hu:us.length≤1000000)(hv:vs.length≤1000000):y1c us vs=some (decide ((mg (fun a b=>a && !b) us vs).length=0)):=by
 rw [y1c,ydz hu hv,yOb];congr 1;rw [Bool.eq_iff_iff];simp
structure TaskOk (q:ProbT) (t:TaskT) (p:AutT) (T:List (List Int)) (n1 n2 n:Nat):Prop where
 rP:Right q.1 n1
 rS:Right q.2.1 n2
 iu:Inc q.2.2
 ur:∀x∈q.2.2,0≤x∧x<32
 sub:∀x∈q.2.1.1,x∈q.1.1
 g1:GrOk t.1 q.1
 g2:GrOk t.2.1 q.2.1
 g3:GrOk t.2.2.1 p
 tt:t.2.2.2.1=T
 un:t.2.2.2.2.1=mg (fun a b=>a&&b) q.1.1 q.2.2
 co:t.2.2.2.2.2=mg (fun a b=>a && !b) q.1.1 (mg (fun a b=>a&&b) q.1.1 q.2.2)
 loop:LoopZ q.1 q.2.1 p T n
theorem ygi{q:ProbT}(h:ShortP q)(he:errP q=0)(b1:q.1.2.1≤40)(b2:q.2.1.2.1≤40):∃t p T n1 n2 n,y7g q=some (some t,0)∧TaskOk q t p T n1 n2 n∧yz [q.1,q.2.1]=some (p,T,0):=by
 unfold errP at he;by_cases h1:(toAut q.1).err=0
 ·rw [if_neg (by simpa using h1)] at he;by_cases h2:(toAut q.2.1).err=0
  ·rw [if_neg (by simpa using h2)] at he;by_cases h3:(mg (fun a b=>a && !b) q.2.1.1 q.1.1).length=0
   ·rw [if_neg (by simpa using h3)] at he;have rP:=ydy h1 h.p1 h.p2 h.p3;have rS:=ydy h2 h.s1 h.s2 h.s3;obtain⟨iu,ur⟩:=yai he;obtain⟨p,T,n,e1,hL⟩:=yhh rP rS (by omega) (by omega);obtain⟨o1,i1,k1⟩:=ycq rP;obtain⟨o2,i2,k2⟩:=ycq rS;obtain⟨o3,i3,k3⟩:=ycq hL.right;have hit3:iter (y6q q) 0=some (.inl ()):=by
     refine y5i (n:=3) (by omega) ?_;rw [yc,y6q,if_pos (by simp),show idx [q.1,q.2.1] 0=some q.1 from rfl,yOb,rP.check,yOb,if_neg (by simp)];dsimp only;rw [yc,y6q,show W (0+1)=1 from rfl,if_pos (by simp),show idx [q.1,q.2.1] 1=some q.2.1 from rfl,yOb,rS.check,yOb,if_neg (by simp)];dsimp only;rw [yc,y6q,show W (1+1)=2 from rfl,if_neg (by simp)]
    have hin:∀x,x∈mg (fun a b=>a&&b) q.1.1 q.2.2→x∈q.1.1:=fun x hx=>by
     have:=((y6r (fun a b=>a&&b) q.1.1 q.2.2 rP.ali iu).2 x).1 hx;simp only [Bool.and_eq_true] at this;exact yb.1 this.2.1
    have hil:(mg (fun a b=>a&&b) q.1.1 q.2.2).length≤32:=Alp.len ⟨(y6r (fun a b=>a&&b) q.1.1 q.2.2 rP.ali iu).1,fun x hx=>rP.alr x (hin x hx)⟩;refine⟨((q.1,o1),(q.2.1,o2),(p,o3),T,mg (fun a b=>a&&b) q.1.1 q.2.2,mg (fun a b=>a && !b) q.1.1 (mg (fun a b=>a&&b) q.1.1 q.2.2)),p,T,_,_,n,?_,⟨rP,rS,iu,ur,fun x hx=>?_,⟨rfl,k1⟩,⟨rfl,k2⟩,⟨rfl,k3⟩,rfl,rfl,rfl,hL⟩,e1⟩
    ·rw [y7g,hit3,yOb];dsimp only;rw [yfv h.s1 h.p1,yOb,if_neg (by simpa using h3),yb7 (by have:=h.u1;omega),yOb,he,if_neg (by simp),e1,yOb];dsimp only;rw [if_neg (by simp),ydA h.p1 h.u1,yOb,i1,yOb,i2,yOb,i3,yOb,ydz h.p1 (by omega),yOb]
    ·by_cases hh:x∈q.1.1
     ·exact hh
     ·have hm:x∈mg (fun a b=>a && !b) q.2.1.1 q.1.1:=by
       rw [(y6r (fun a b=>a && !b) q.2.1.1 q.1.1 rS.ali rP.ali).2];refine⟨.inl hx,?_⟩;rw [yb.2 hx];cases hb:hasB q.1.1 x
       ·rfl
       ·exact absurd (yb.1 hb) hh
      rw [List.eq_nil_of_length_eq_zero h3] at hm;cases hm
   ·rw [if_pos (by simpa using h3)] at he;cases he
  ·rw [if_pos (by simpa using h2)] at he;exact absurd he h2
 ·rw [if_pos (by simpa using h1)] at he;exact absurd he h1
def hdl(S:AutT):Int→List Int→Int×Nat
 | s,[]=>(s,0)
 | s,e::l=>if hasB S.1 e=true then(match st1 S s e with
   | none=>(s,0)
   | some u=>((hdl S u l).1,(hdl S u l).2+1)) else((hdl S s l).1,(hdl S s l).2+1)
def priE(al u:List Int):List Int→List Int→Int
 | _,[]=>0
 | d,e::l=>if hasB al e=false then 9 else if hasB u e=true then 13 else if hasB d e=true then 8 else priE al u (d++[e]) l
theorem yb8{xs:List α}{i:Nat}(h:i≤xs.length):slc xs 0 (i:Int)=some (xs.take i):=by
 rw [slc,if_pos ⟨by omega,by omega,by omega⟩];simp
structure SR (st:Int→Int→Option Int) (al:List Int) (n i j:Nat) (T:List Int) (kn:List (Int×Int)) (E:List (Int×Int×Int)):Prop where
 f:Fnd st al i j T E
 k1:∀s v,kget kn s=some v→∃q:Nat,v=(q:Int)∧T[q]? =some s
 k2:∀s∈T,(kget kn s).isSome=true
 nd:T.Nodup
 tr:∀s∈T,0≤s∧s<(n:Int)
 so:E.Pairwise fun x y=>x.1<y.1∨(x.1=y.1∧x.2.1<y.2.1)
 ei:∀x∈E,x.1<(i:Int)∨(x.1=(i:Int)∧∃b,∃hb:b<al.length,b<j∧al[b]=x.2.1)
 ea:∀x∈E,x.2.1∈al
 el:E.length≤32*i+j
namespace SR
variable{st:Int→Int→Option Int}{al:List Int}{n i j:Nat}{T:List Int}{kn:List (Int×Int)}{E:List (Int×Int×Int)}
theorem len(h:SR st al n i j T kn E):T.length≤n:=by
 have:=y8g n (T.map Int.toNat) (by
  unfold List.Nodup;rw [List.pairwise_map];refine h.nd.imp_of_mem fun {a b} ha hb hab=>?_;have h1:=h.tr a ha;have h2:=h.tr b hb;omega) (fun x hx=>by
  obtain⟨y,hy,rfl⟩:=List.mem_map.1 hx;have:=h.tr y hy;omega)
 simpa using this
theorem skip(h:SR st al n i j T kn E){s:Int}(ht:T[i]? =some s)(he:al[j]? =some e)(hs:st s e=none):SR st al n i (j+1) T kn E:=
 ⟨h.f.skip ht he hs,h.k1,h.k2,h.nd,h.tr,h.so,fun x hx=>by
  rcases h.ei x hx with h1|⟨h1,b,hb,h2,h3⟩
  ·exact .inl h1
  ·exact .inr ⟨h1,b,hb,by omega,h3⟩,h.ea,by have:=h.el;omega⟩
theorem next(h:SR st al n i j T kn E)(hj:al.length≤j)(hj2:j≤32):SR st al n (i+1) 0 T kn E:=
 ⟨h.f.next hj,h.k1,h.k2,h.nd,h.tr,h.so,fun x hx=>by
  rcases h.ei x hx with h1|⟨h1,_⟩
  ·exact .inl (by omega)
  ·exact .inl (by omega),h.ea,by have:=h.el;omega⟩
theorem pw(h:SR st al n i j T kn E)(ia:Inc al)(hj:j<al.length)(v:Int):(E++[((i:Int),al[j],v)]).Pairwise fun x y=>x.1<y.1∨(x.1=y.1∧x.2.1<y.2.1):=by
 rw [List.pairwise_append];refine⟨h.so,List.pairwise_singleton _ _,fun x hx y hy=>?_⟩;rw [List.mem_singleton.1 hy];rcases h.ei x hx with h1|⟨h1,b,hb,h2,h3⟩
 ·exact .inl h1
 ·refine .inr ⟨h1,?_⟩;rw [←h3];exact List.pairwise_iff_getElem.1 ia b j hb hj h2
theorem ei'(h:SR st al n i j T kn E)(hj:j<al.length)(v:Int):∀x∈E++[((i:Int),al[j],v)],x.1<(i:Int)∨(x.1=(i:Int)∧∃b,∃hb:b<al.length,b<j+1∧al[b]=x.2.1):=fun x hx=>by
 rcases List.mem_append.1 hx with hx|hx
 ·rcases h.ei x hx with h1|⟨h1,b,hb,h2,h3⟩
  ·exact .inl h1
  ·exact .inr ⟨h1,b,hb,by omega,h3⟩
 ·rw [List.mem_singleton.1 hx];exact .inr ⟨rfl,j,hj,by omega,rfl⟩
theorem ea'(h:SR st al n i j T kn E)(hj:j<al.length)(v:Int):∀x∈E++[((i:Int),al[j],v)],x.2.1∈al:=fun x hx=>by
 rcases List.mem_append.1 hx with hx|hx
 ·exact h.ea x hx
 ·rw [List.mem_singleton.1 hx];exact List.getElem_mem hj
theorem edge(h:SR st al n i j T kn E)(ia:Inc al)(hj:j<al.length){s v:Int}{q:Nat}(ht:T[i]? =some s)(hs:st s al[j]=some v)(hq:T[q]? =some v):SR st al n i (j+1) T kn (E++[((i:Int),al[j],(q:Int))]):=
 ⟨h.f.edge ht (yGe hj) hs hq,h.k1,h.k2,h.nd,h.tr,h.pw ia hj _,h.ei' hj _,h.ea' hj _,by have:=h.el;simp;omega⟩
theorem new(h:SR st al n i j T kn E)(ia:Inc al)(hj:j<al.length){s v:Int}(ht:T[i]? =some s)(hs:st s al[j]=some v)(hk:kget kn v=none)(v0:0≤v)(v1:v<(n:Int)):SR st al n i (j+1) (T++[v]) (kput kn v (T.length:Int)) (E++[((i:Int),al[j],(T.length:Int))]):=by
 have hi:=(List.getElem?_eq_some_iff.1 ht).1;refine⟨h.f.new hi ht (yGe hj) hs,fun s' w hw=>?_,fun s' hs'=>?_,?_,fun s' hs'=>?_,h.pw ia hj _,h.ei' hj _,h.ea' hj _,by have:=h.el;simp;omega⟩
 ·rw [y5Z] at hw;split at hw
  ·rename_i e;subst e;cases hw;exact⟨T.length,rfl,by rw [List.getElem?_append_right (Nat.le_refl _)];simp⟩
  ·obtain ⟨q,h1,h2⟩:=h.k1 s' w hw;exact⟨q,h1,by rw [List.getElem?_append_left (List.getElem?_eq_some_iff.1 h2).1,h2]⟩
 ·rw [y5Z];split
  ·rfl
  ·rename_i e;rcases List.mem_append.1 hs' with hs'|hs'
   ·exact h.k2 s' hs'
   ·exact absurd (List.mem_singleton.1 hs') e
 ·unfold List.Nodup;rw [List.pairwise_append];refine⟨h.nd,List.pairwise_singleton _ _,fun a ha b hb e=>?_⟩;rw [List.mem_singleton.1 hb] at e;subst e;have:=h.k2 a ha;rw [hk] at this;cases this
 ·rcases List.mem_append.1 hs' with hs'|hs'
  ·exact h.tr s' hs'
  ·rw [List.mem_singleton.1 hs'];exact⟨v0,v1⟩
end SR
structure CanOf (st:Int→Int→Option Int) (al ms:List Int) (r:AutT) (X:List Int):Prop where
 right:Right r X.length
 ale:r.1=al
 x0:0<X.length→X[0]? =some 0
 disc:Disc st al X r.2.2.2
 mkd:∀(i:Nat) (s:Int),X[i]? =some s→((i:Int)∈r.2.2.1↔s∈ms)
theorem yei{ys:List Int}(hx:Inc xs)(hy:Inc ys)(h:∀x,x∈xs↔x∈ys):xs=ys:=y9F (lt:=fun a b:Int=>a<b) (fun a b h1 h2=>by omega) hx hy h
theorem SR.skips{st:Int→Int→Option Int}{al:List Int}{n i j:Nat}{T:List Int}{kn:List (Int×Int)}{E:List (Int×Int×Int)}(h:SR st al n i j T kn E){s:Int}(ht:T[i]? =some s):∀(b:Nat),j≤b→b≤al.length→(∀c (hc:c<al.length),j≤c→c<b→st s al[c]=none)→SR st al n i b T kn E
 | 0,hj,_,_=>by
  obtain rfl:j=0:=by omega
  exact h
 | b+1,hj,hb,hn=>by
  by_cases e:j=b+1
  ·subst e;exact h
  ·have hb2:b<al.length:=by omega
   exact(h.skips ht b (by omega) (by omega) fun c hc h1 h2=>hn c hc h1 (by omega)).skip ht (yGe hb2) (hn b hb2 (by omega) (by omega))
end Go.Proofs.YtecmobjeeonmaaaGreatDoor
namespace Go.Proofs.YtecmobjeeonmaaaGreatDoor
def evsOf(a:Aut):List (Nat×List (Nat×Nat)):=(List.range a.al.length).map fun i=>(i,(a.es.filter fun x=>x.e==a.al.getD i 0).map fun x=>(x.f.toNat,x.t.toNat))
def cmsOf(a:Aut)(ctrl:List Int):List (Nat×List Nat):=(List.range ctrl.length).map fun k=>(k,(a.es.filter fun x=>x.e==ctrl.getD k 0).map fun x=>x.f.toNat)
def stepF(es:List Ed)(s:Nat)(e:Int):Option Nat:=(es.find? fun x=>x.f==(s:Int)&&x.e==e).map fun x=>x.t.toNat
def y6e(es:List Ed)(S:Nat×Bool)(e:Int):Nat×Bool:=match stepF es S.1 e with
 | some t=>(t,S.2)
 | none=>(S.1,true)
theorem ycI{es:List Ed}(hes:∀x∈es,0≤x.f)(s:Nat)(e:Int):(((es.filter fun x=>x.e==e).map fun x=>(x.f.toNat,x.t.toNat)).find? fun p=>p.1==s).map (·.2)=stepF es s e:=by
 unfold stepF
 induction es with
 | nil=>rfl
 | cons x es ih=>
  have h0:=hes x (List.mem_cons_self ..);have ih:=ih (fun y hy=>hes y (List.mem_cons_of_mem _ hy));by_cases he:(x.e==e)=true
  ·rw [List.filter_cons_of_pos (p:=fun x:Ed=>x.e==e) he,List.map_cons];by_cases hf:x.f=(s:Int)
   ·rw [List.find?_cons_of_pos (by simp;omega),List.find?_cons_of_pos (by simp [hf];simpa using he)];rfl
   ·rw [List.find?_cons_of_neg (by simp;omega),List.find?_cons_of_neg (by simp [hf])];exact ih
  ·rw [List.filter_cons_of_neg (p:=fun x:Ed=>x.e==e) he,List.find?_cons_of_neg (by simp at he;simp [he])];exact ih
theorem yfw{es:List Ed}(hes:∀x∈es,0≤x.f){inp:List Bool}{i:Nat}{e:Int}(S:Nat×Bool):y7n inp (i,(es.filter fun x=>x.e==e).map fun x=>(x.f.toNat,x.t.toNat)) S=if inp.getD i false=true then y6e es S e else S:=by
 have h:=ycI hes S.1 e;unfold y7n y6e;split
 ·rw [←h];cases ((es.filter fun x=>x.e==e).map fun x=>(x.f.toNat,x.t.toNat)).find? (fun p=>p.1==S.1) <;> rfl
 ·rfl
theorem yej{es:List Ed}(hes:∀x∈es,0≤x.f)(al:List Int)(p:Int→Bool):∀(k:Nat) (S:Nat×Bool),k≤al.length→
  ((List.range k).map fun i=>(i,(es.filter fun x=>x.e==al.getD i 0).map fun x=>(x.f.toNat,x.t.toNat))).foldl (fun S x=>y7n (al.map p) x S) S=((al.take k).filter p).foldl (y6e es) S
 | 0,S,_=>by simp
 | k+1,S,hk=>by
  rw [List.range_succ,List.map_append,List.foldl_append,yej hes al p k S (by omega),List.take_succ_eq_append_getElem (by omega),List.filter_append,List.foldl_append];simp only [List.map_cons,List.map_nil,List.foldl_cons,List.foldl_nil];rw [yfw hes];have hg:al.getD k 0=al[k]:=by rw [List.getD_eq_getElem?_getD,yGe (by omega)];rfl
  have hi:(al.map p).getD k false=p al[k]:=by rw [List.getD_eq_getElem?_getD,List.getElem?_map,yGe (by omega)];rfl
  rw [hg,hi];cases hp:p al[k] with
  | true=>rw [if_pos rfl,List.filter_cons_of_pos hp];rfl
  | false=>rw [if_neg (by simp),List.filter_cons_of_neg (by rw [hp];simp)];rfl
theorem yeF{al ev:List Int}(ha:Inc al)(he:Inc ev)(hsub:∀x∈ev,x∈al):al.filter (hasB ev)=ev:=by
 refine yei (List.Pairwise.filter _ ha) he (fun x=>?_);rw [List.mem_filter,yb];exact⟨fun h=>h.2,fun h=>⟨hsub x h,h⟩⟩
def genP(a:Aut)(ctrl:List Int):List Ins:=
 genI (a.al.length+(ctrl.length+1)+a.n.toNat) (a.al.length+ctrl.length)
  ((evsOf a).map fun x=>(x.1,x.2.map fun e=>(a.al.length+(ctrl.length+1)+e.1,a.al.length+(ctrl.length+1)+e.2)))
  ((cmsOf a ctrl).map fun x=>(a.al.length+x.1,x.2.map fun y=>a.al.length+(ctrl.length+1)+y))
theorem yhi{a:Aut}{ctrl ev:List Int}{n:Nat}(hn:a.n=n)(hes:∀x∈a.es,0≤x.f∧x.f<(n:Int)∧0≤x.t∧x.t<(n:Int))(ha:Inc a.al)(he:Inc ev)(hsub:∀x∈ev,x∈a.al)
  {s:Nat} {al:Bool} {b:List Bool} (hs:s<n) (hv:View a.al.length ctrl.length n (a.al.map (hasB ev)) s al b):
  View a.al.length ctrl.length n (a.al.map (hasB ev)) (ev.foldl (y6e a.es) (s,al)).1 (ev.foldl (y6e a.es) (s,al)).2 (yu (genP a ctrl) 0 false b)∧(ev.foldl (y6e a.es) (s,al)).1<n∧
  ∀k,k<ctrl.length→(yu (genP a ctrl) 0 false b).getD (a.al.length+k) false=(stepF a.es (ev.foldl (y6e a.es) (s,al)).1 (ctrl.getD k 0)).isSome:=by
 have hes0:∀x∈a.es,0≤x.f:=fun x hx=>(hes x hx).1;have h1:=yc0 (evsOf a) hv hs (fun x hx=>by
  obtain⟨i,hi,rfl⟩:=List.mem_map.1 hx;refine⟨List.mem_range.1 hi,fun e he'=>?_⟩;obtain⟨y,hy,rfl⟩:=List.mem_map.1 he';have:=hes y (List.mem_filter.1 hy).1;dsimp only;omega)
 have h2:(evsOf a).foldl (fun S x=>y7n (a.al.map (hasB ev)) x S) (s,al)=ev.foldl (y6e a.es) (s,al):=by
  unfold evsOf;rw [yej hes0 a.al (hasB ev) a.al.length (s,al) (Nat.le_refl _),List.take_length,yeF ha he hsub]
 rw [h2] at h1;have h3:=ybc (cmsOf a ctrl) h1.1 (fun x hx=>by
  obtain⟨k,hk,rfl⟩:=List.mem_map.1 hx;refine⟨List.mem_range.1 hk,fun y hy=>?_⟩;obtain⟨z,hz,rfl⟩:=List.mem_map.1 hy;have:=hes z (List.mem_filter.1 hz).1;omega) (by
  unfold cmsOf;rw [List.map_map];have:((fun x:Nat×List Nat=>x.1)∘fun k=>(k,(a.es.filter fun x=>x.e==ctrl.getD k 0).map fun x=>x.f.toNat))=fun k:Nat=>k:=rfl;rw [this,List.map_id'];exact List.nodup_range)
 have hev:yu (genP a ctrl) 0 false b=(cmsOf a ctrl).foldl (fun b x=>y6f (a.al.length+x.1) (x.2.map fun y=>a.al.length+(ctrl.length+1)+y) b) ((evsOf a).foldl (fun b x=>y7M x.1 (a.al.length+(ctrl.length+1)+n) (a.al.length+ctrl.length) (x.2.map fun e=>(a.al.length+(ctrl.length+1)+e.1,a.al.length+(ctrl.length+1)+e.2)) b) b):=by
  unfold genP;rw [ygR,hn,Int.toNat_natCast,List.foldl_map,List.foldl_map]
 rw [hev];refine⟨h3.1,h1.2,fun k hk=>?_⟩;have h4:=h3.2.1 (k,(a.es.filter fun x=>x.e==ctrl.getD k 0).map fun x=>x.f.toNat) (List.mem_map.2 ⟨k,List.mem_range.2 hk,rfl⟩);dsimp only at h4;rw [h4,Bool.eq_iff_iff,List.contains_iff_mem];unfold stepF;rw [Option.isSome_map,List.find?_isSome,List.mem_map];constructor
 ·rintro ⟨x,hx,hxs⟩;have h5:=List.mem_filter.1 hx;have:=hes0 x h5.1;refine⟨x,h5.1,?_⟩;rw [Bool.and_eq_true];exact⟨by simp;omega,h5.2⟩
 ·rintro ⟨x,hx,hp⟩;rw [Bool.and_eq_true] at hp;refine⟨x,List.mem_filter.2 ⟨hx,hp.2⟩,?_⟩;have:=hp.1;simp at this;omega
structure InsOk (N W m:Nat) (i:Nat) (x:Ins):Prop where
 op:1≤x.op∧x.op≤13
 jump:11≤x.op→(i:Int)<x.arg∧x.arg≤(N:Int)
 bit:x.op≤10→0≤x.arg∧x.arg<(W:Int)
 store:7≤x.op→x.op≤10→(m:Int)≤x.arg
def LocOk(N W m:Nat)(s:Nat)(L:List Ins):Prop:=∀(k:Nat) (x:Ins),L[k]? =some x→InsOk N W m (s+k) x
theorem LocOk.append{N W m s:Nat}{L M:List Ins}(h:LocOk N W m s L)(h':LocOk N W m (s+L.length) M):LocOk N W m s (L++M):=by
 intro k x hx;by_cases hk:k<L.length
 ·exact h k x (by rwa [List.getElem?_append_left hk] at hx)
 ·rw [List.getElem?_append_right (by omega)] at hx;have:=h' (k-L.length) x hx;rwa [show s+L.length+(k-L.length)=s+k by omega] at this
theorem LocOk.plain{N W m s:Nat}{L:List Ins}(h:∀x∈L,1≤x.op∧x.op≤10∧0≤x.arg∧x.arg<(W:Int)∧(7≤x.op→(m:Int)≤x.arg)):LocOk N W m s L:=by
 intro k x hx;have h1:=h x (List.mem_of_getElem? hx);exact⟨by omega,fun h2=>by omega,fun _=>⟨h1.2.2.1,h1.2.2.2.1⟩,fun h2 _=>h1.2.2.2.2 h2⟩
theorem ygj{N W m:Nat}{i moved alarm:Nat}{es:List (Nat×Nat)}{s:Nat}(hN:s+(6+5*es.length)≤N)(hi:i<W)(hm:moved<W)(hm2:m≤moved)(ha:alarm<W)(ha2:m≤alarm)(he:∀e∈es,e.1<W∧m≤e.1∧e.2<W∧m≤e.2):LocOk N W m s (y6W i moved alarm es s):=by
 unfold y6W;refine LocOk.append ?_ (LocOk.plain ?_)
 ·intro k x hx
  match k,hx with
  | 0,hx=>cases hx;exact⟨by dsimp only;omega,fun h=>by simp at h,fun _=>by dsimp only;omega,fun h=>by simp at h⟩
  | 1,hx=>cases hx;exact⟨by dsimp only;omega,fun _=>⟨by show((s+1:Nat):Int)<((s+6+5*es.length:Nat):Int);omega,by show((s+6+5*es.length:Nat):Int)≤(N:Int);omega⟩,fun h=>by simp at h,fun _ h=>by simp at h⟩
  | 2,hx=>cases hx;exact⟨by dsimp only;omega,fun h=>by simp at h,fun _=>by dsimp only;omega,fun h=>by simp at h⟩
  | 3,hx=>cases hx;exact⟨by dsimp only;omega,fun h=>by simp at h,fun _=>by dsimp only;omega,fun _ _=>by dsimp only;omega⟩
  | k+4,hx=>cases hx
 ·intro x hx;rcases List.mem_append.1 hx with h|h
  ·obtain ⟨e,hee,h⟩:=List.mem_flatMap.1 h;have:=he e hee;simp [edgeI] at h;rcases h with rfl|rfl|rfl|rfl|rfl <;> dsimp only <;> omega
  ·simp at h;rcases h with rfl|rfl <;> dsimp only <;> omega
theorem ycJ{N W m:Nat}{moved alarm:Nat}(hm:moved<W)(hm2:m≤moved)(ha:alarm<W)(ha2:m≤alarm):∀(l:List (Nat×List (Nat×Nat))) {s:Nat},s+(y1v moved alarm l s).length≤N→(∀x∈l,x.1<W∧∀e∈x.2,e.1<W∧m≤e.1∧e.2<W∧m≤e.2)→LocOk N W m s (y1v moved alarm l s)
 | [],s,_,_=>fun k x hx=>by cases hx
 | (i,es)::l,s,hN,h=>by
  rw [y1v] at hN ⊢;rw [List.length_append,y6C] at hN;have hx:=h (i,es) (List.mem_cons_self ..);refine(ygj (es:=es) (by omega) hx.1 hm hm2 ha ha2 hx.2).append ?_;rw [y6C];exact ycJ hm hm2 ha ha2 l (by omega) (fun y hy=>h y (List.mem_cons_of_mem _ hy))
theorem yek{N W m s:Nat}{l:List (Nat×List Nat)}(h:∀x∈l,x.1<W∧m≤x.1∧∀y∈x.2,y<W):LocOk N W m s (y1f l):=by
 refine LocOk.plain fun x hx=>?_;obtain⟨c,hc,h1⟩:=List.mem_flatMap.1 hx;obtain⟨o,ms⟩:=c;have h2:=h _ hc;dsimp only at h2;cases ms with
 | nil=>
  simp [y3y] at h1;rcases h1 with rfl|rfl|rfl <;> dsimp only <;> omega
 | cons y ms=>
  simp [y3y] at h1;have hy:=h2.2.2 y (List.mem_cons_self ..);rcases h1 with rfl|⟨k,hk,rfl⟩|rfl
  ·dsimp only;omega
  ·have:=h2.2.2 k (List.mem_cons_of_mem _ hk);dsimp only;omega
  ·dsimp only;omega
theorem yih{a:Aut}{ctrl:List Int}{n:Nat}(hn:a.n=n)(hes:∀x∈a.es,0≤x.f∧x.f<(n:Int)∧0≤x.t∧x.t<(n:Int)):
  ∀(i:Nat) (x:Ins),(genP a ctrl)[i]? =some x→InsOk (genP a ctrl).length (a.al.length+(ctrl.length+1)+(n+1)) a.al.length i x:=by
 have h1:=ycJ (N:=(genP a ctrl).length) (W:=a.al.length+(ctrl.length+1)+(n+1)) (m:=a.al.length) (moved:=a.al.length+(ctrl.length+1)+n) (alarm:=a.al.length+ctrl.length) (by omega) (by omega) (by omega) (by omega)
  ((evsOf a).map fun x=>(x.1,x.2.map fun e=>(a.al.length+(ctrl.length+1)+e.1,a.al.length+(ctrl.length+1)+e.2))) (s:=0) (by
   unfold genP genI;rw [hn,Int.toNat_natCast,List.length_append];omega) (fun x hx=>by
   obtain⟨y,hy,rfl⟩:=List.mem_map.1 hx;obtain⟨k,hk,rfl⟩:=List.mem_map.1 hy;refine⟨by have:=List.mem_range.1 hk;dsimp only;omega,fun e he=>?_⟩;obtain⟨z,hz,rfl⟩:=List.mem_map.1 he;obtain⟨q,hq,rfl⟩:=List.mem_map.1 hz;have:=hes q (List.mem_filter.1 hq).1;dsimp only;omega)
 have h2:=yek (N:=(genP a ctrl).length) (W:=a.al.length+(ctrl.length+1)+(n+1)) (m:=a.al.length)
  (s:=0+(y1v (a.al.length+(ctrl.length+1)+n) (a.al.length+ctrl.length) ((evsOf a).map fun x=>(x.1,x.2.map fun e=>(a.al.length+(ctrl.length+1)+e.1,a.al.length+(ctrl.length+1)+e.2))) 0).length)
  (l:=(cmsOf a ctrl).map fun x=>(a.al.length+x.1,x.2.map fun y=>a.al.length+(ctrl.length+1)+y)) (fun x hx=>by
   obtain⟨y,hy,rfl⟩:=List.mem_map.1 hx;obtain⟨k,hk,rfl⟩:=List.mem_map.1 hy;have:=List.mem_range.1 hk;refine⟨by dsimp only;omega,by dsimp only;omega,fun z hz=>?_⟩;obtain⟨q,hq,rfl⟩:=List.mem_map.1 hz;obtain⟨r,hr,rfl⟩:=List.mem_map.1 hq;have:=hes r (List.mem_filter.1 hr).1;omega)
 have h3:=h1.append h2;intro i x hx;have h4:genP a ctrl=y1v (a.al.length+(ctrl.length+1)+n) (a.al.length+ctrl.length) ((evsOf a).map fun x=>(x.1,x.2.map fun e=>(a.al.length+(ctrl.length+1)+e.1,a.al.length+(ctrl.length+1)+e.2))) 0++y1f ((cmsOf a ctrl).map fun x=>(a.al.length+x.1,x.2.map fun y=>a.al.length+(ctrl.length+1)+y)):=by
  unfold genP genI;rw [hn,Int.toNat_natCast]
 rw [h4] at hx;have:=h3 i x hx;rwa [Nat.zero_add] at this
theorem ydB{α:Type}(p q:α→Bool):∀(l:List α),(∀x∈l,p x=true→q x=false)→l.countP (fun x=>p x||q x)=l.countP p+l.countP q
 | [],_=>rfl
 | x::l,h=>by
  have ih:=ydB p q l (fun y hy=>h y (List.mem_cons_of_mem _ hy));have hx:=h x (List.mem_cons_self ..);rw [List.countP_cons,List.countP_cons,List.countP_cons,ih];cases hp:p x with
  | true=>rw [hx hp];simp;omega
  | false=>cases hq:q x <;> simp;omega
theorem yda{es:List Ed}{al:List Int}(hn:al.Nodup):∀k,k≤al.length→((List.range k).map fun i=>(es.filter fun x=>x.e==al.getD i 0).length).sum=es.countP fun x=>(al.take k).contains x.e
 | 0,_=>by simp
 | k+1,hk=>by
  have ih:=yda (es:=es) hn k (by omega);rw [List.range_succ,List.map_append,List.sum_append,ih];simp only [List.map_cons,List.map_nil,List.sum_cons,List.sum_nil,Nat.add_zero];rw [←List.countP_eq_length_filter,←ydB]
  ·apply List.countP_congr;intro x _;have ht:al.take (k+1)=al.take k++[al[k]]:=List.take_succ_eq_append_getElem (by omega);have hg:al.getD k 0=al[k]:=by rw [List.getD_eq_getElem?_getD,yGe (by omega)];rfl
   show((al.take k).contains x.e||x.e==al.getD k 0)=true↔(al.take (k+1)).contains x.e=true;rw [ht,hg,Bool.or_eq_true,List.contains_iff_mem,List.contains_iff_mem,List.mem_append,List.mem_singleton,beq_iff_eq]
  ·intro x _ hp;have hm:x.e∈al.take k:=by simpa using hp
   have hg:al.getD k 0=al[k]:=by rw [List.getD_eq_getElem?_getD,yGe (by omega)];rfl
   rw [hg,beq_eq_false_iff_ne];intro e;rw [e] at hm;obtain⟨j,hj,hje⟩:=List.mem_iff_getElem.1 hm;rw [List.length_take] at hj;rw [List.getElem_take] at hje;exact(List.pairwise_iff_getElem.1 hn j k (by omega) (by omega) (by omega)) hje
theorem yc6(moved alarm:Nat):∀(l:List (Nat×List (Nat×Nat))) (s:Nat),(y1v moved alarm l s).length=6*l.length+5*(l.map fun x=>x.2.length).sum
 | [],_=>rfl
 | (i,es)::l,s=>by
  rw [y1v,List.length_append,y6C,yc6 moved alarm l,List.map_cons,List.sum_cons,List.length_cons];dsimp only;omega
theorem ybe :∀(l:List (Nat×List Nat)),(y1f l).length≤3*l.length+(l.map fun x=>x.2.length).sum
 | []=>Nat.le_refl _
 | c::l=>by
  have hs:y1f (c::l)=y3y c.1 c.2++y1f l:=by simp [y1f]
  have ih:=ybe l;have hc:(y3y c.1 c.2).length≤3+c.2.length:=by
   cases c.2 with
   | nil=>simp [y3y]
   | cons m ms=>simp [y3y];omega
  rw [hs,List.length_append,List.map_cons,List.sum_cons,List.length_cons];omega
theorem yhj{a:Aut}{ctrl:List Int}(ha:Inc a.al)(hc:Inc ctrl):(genP a ctrl).length≤6*a.al.length+3*ctrl.length+6*a.es.length:=by
 have hna:a.al.Nodup:=List.Pairwise.imp (fun {x y} (h:x<y)=>by omega) ha;have hnc:ctrl.Nodup:=List.Pairwise.imp (fun {x y} (h:x<y)=>by omega) hc;have h1:=yda (es:=a.es) hna a.al.length (Nat.le_refl _);have h2:=yda (es:=a.es) hnc ctrl.length (Nat.le_refl _);have h3:=List.countP_le_length (p:=fun x:Ed=>(a.al.take a.al.length).contains x.e) (l:=a.es);have h4:=List.countP_le_length (p:=fun x:Ed=>(ctrl.take ctrl.length).contains x.e) (l:=a.es);unfold genP genI;rw [List.length_append,yc6];have h5:=ybe ((cmsOf a ctrl).map fun x=>(a.al.length+x.1,x.2.map fun y=>a.al.length+(ctrl.length+1)+y));have e1:(((evsOf a).map fun x=>(x.1,x.2.map fun e=>(a.al.length+(ctrl.length+1)+e.1,a.al.length+(ctrl.length+1)+e.2))).map fun x=>x.2.length).sum=((List.range a.al.length).map fun i=>(a.es.filter fun x=>x.e==a.al.getD i 0).length).sum:=by
  unfold evsOf;rw [List.map_map,List.map_map];congr 1;apply List.map_congr_left;intro i _;simp
 have e2:(((cmsOf a ctrl).map fun x=>(a.al.length+x.1,x.2.map fun y=>a.al.length+(ctrl.length+1)+y)).map fun x=>x.2.length).sum=((List.range ctrl.length).map fun i=>(a.es.filter fun x=>x.e==ctrl.getD i 0).length).sum:=by
  unfold cmsOf;rw [List.map_map,List.map_map];congr 1;apply List.map_congr_left;intro i _;simp
 rw [e1];rw [e2] at h5;have l1:(evsOf a).length=a.al.length:=by simp [evsOf]
 have l2:(cmsOf a ctrl).length=ctrl.length:=by simp [cmsOf]
 rw [List.length_map,l1];rw [List.length_map,l2] at h5;omega
theorem yii{m c n:Nat}{inp out mem:List Bool}{s:Nat}{al:Bool}(hi:inp.length=m)(ho:out.length=c+1)(hm:mem.length=n+1)(hs:∀j,j<n→mem.getD j false=decide (j=s))(ha:out.getD c false=al):View m c n inp s al (inp++out++mem):=by
 refine⟨by simp;omega,fun j hj=>?_,fun j hj=>?_,?_⟩
 ·rw [List.getD_eq_getElem?_getD,List.append_assoc,List.getElem?_append_left (by omega),←List.getD_eq_getElem?_getD]
 ·rw [←hs j hj,List.getD_eq_getElem?_getD,List.getElem?_append_right (by simp;omega),List.getD_eq_getElem?_getD];congr 2;simp;omega
 ·rw [←ha,List.getD_eq_getElem?_getD,List.append_assoc,List.getElem?_append_right (by omega),List.getElem?_append_left (by omega),List.getD_eq_getElem?_getD];congr 2;omega
theorem View.mem{m c n:Nat}{inp:List Bool}{s:Nat}{al:Bool}{b:List Bool}(h:View m c n inp s al b):(b.drop (m+(c+1))).length=n+1∧(∀j,j<n→(b.drop (m+(c+1))).getD j false=decide (j=s)):=by
 have hl:=h.len;refine⟨by simp;omega,fun j hj=>?_⟩;rw [←h.one j hj,List.getD_eq_getElem?_getD,List.getElem?_drop,←List.getD_eq_getElem?_getD]
theorem View.out{m c n:Nat}{inp:List Bool}{s:Nat}{al:Bool}{b:List Bool}(h:View m c n inp s al b):((b.drop m).take (c+1)).length=c+1∧((b.drop m).take (c+1)).getD c false=al∧∀j,j<c+1→((b.drop m).take (c+1)).getD j false=b.getD (m+j) false:=by
 have hl:=h.len;have hg:∀j,j<c+1→((b.drop m).take (c+1)).getD j false=b.getD (m+j) false:=fun j hj=>by
  rw [List.getD_eq_getElem?_getD,List.getElem?_take,if_pos hj,List.getElem?_drop,←List.getD_eq_getElem?_getD]
 exact⟨by simp;omega,by rw [hg c (by omega)];exact h.al,hg⟩
end Go.Proofs.YtecmobjeeonmaaaGreatDoor
namespace Go.Proofs.YtecmobjeeonmaaaGreatDoor
open Go Go.RowKit
theorem yb9{S R:Type}{f:S→Option (S⊕(Unit⊕R))}(mk:Int→S)(n:Nat)(hn:n≤4000000)(b:Nat→Bool)(r:Nat→R)(step:∀i,i<n→f (mk (i:Int))=if b i=true then some (.inr (.inr (r i))) else some (.inl (mk ((i+1:Nat):Int))))(last:f (mk (n:Int))=some (.inr (.inl ()))):
  ∃o,iter f (mk 0)=some o∧((o= .inl ()∧∀i,i<n→b i=false)∨∃i,i<n∧o= .inr (r i)∧b i=true∧∀j,j<i→b j=false):=by
 refine yd (f:=f) (fun i s=>s=mk (i:Int)∧∀j,j<i→b j=false) _ n 0 (by omega) (fun i s hi ⟨e1,g1⟩=>?_) (fun s ⟨e1,g1⟩=>?_) (Nat.zero_le _) (mk 0) ⟨rfl,fun j hj=>absurd hj (by omega)⟩
 ·subst e1;rw [step i hi];cases hb:b i with
  | true=>exact .inr ⟨_,rfl,.inr ⟨i,hi,rfl,hb,g1⟩⟩
  | false=>
   refine .inl ⟨_,by rw [if_neg (by simp)],rfl,fun j hj=>?_⟩;by_cases e:j=i
   ·rw [e];exact hb
   ·exact g1 j (by omega)
 ·subst e1;exact⟨_,last,.inl ⟨rfl,g1⟩⟩
theorem ycr(p:Int):∃ev,y1m p=some ev∧Inc ev∧(∀x∈ev,0≤x∧x<5)∧ev.length≤5:=by
 obtain⟨o,h1,h2⟩:=yd (f:=y2A p) (fun i s=>s.1=(i:Int)∧Inc s.2∧(∀x∈s.2,0≤x∧x<(i:Int))∧s.2.length≤i) (fun o=>Inc o∧(∀x∈o,0≤x∧x<5)∧o.length≤5) 5 0 (by omega) (fun i s hi ⟨e1,e2,e3,e4⟩=>by
   obtain⟨s1,s2⟩:=s;dsimp only at e1 e2 e3 e4;subst e1;have hj:∀l:List Int,y1q ((i:Int),s2) l=some (.inl (((i+1:Nat):Int),l)):=fun l=>by
    rw [y1q];dsimp only;rw [nxt (by omega)]
   left;rw [y2A];dsimp only;rw [if_pos (by simp;omega),show ng (i:Int)=some () from if_neg (by omega),yOb];split
   ·rw [yr (by simp;omega),yOb,hj];refine⟨_,rfl,rfl,?_,fun x hx=>?_,by simp;omega⟩
    ·unfold Inc at e2 ⊢;rw [List.pairwise_append];exact⟨e2,List.pairwise_singleton ..,fun a ha b hb=>by rw [List.mem_singleton.1 hb];exact(e3 a ha).2⟩
    ·dsimp only at hx;rcases List.mem_append.1 hx with h|h
     ·have:=e3 x h;omega
     ·rw [List.mem_singleton.1 h];omega
   ·rw [hj];exact⟨_,rfl,rfl,e2,fun x hx=>by have:=e3 x hx;omega,by dsimp only;omega⟩) (fun s ⟨e1,e2,e3,e4⟩=>by
   obtain⟨s1,s2⟩:=s;dsimp only at e1 e2 e3 e4;subst e1;refine⟨s2,?_,e2,e3,e4⟩;rw [y2A];dsimp only;rw [if_neg (by simp)]) (by omega) (0,[]) ⟨rfl,List.Pairwise.nil,fun x hx=>(by cases hx),by simp⟩
 exact⟨o,by rw [y1m,h1];rfl,h2⟩
theorem ydC{xs:List Int}(h:xs.length≤1000000):y2J xs=some (xs,0,[],[]):=by
 rw [y2J,yr (by simp;omega)];rfl
theorem yfd{xs:List Int}{x:Int}(hl:xs.length≤1000000):y4v xs x=some (hasB xs x):=by
 obtain⟨o,h1,h2⟩:=yb9 (f:=y4E xs x) (fun i=>i) xs.length (by omega) (fun i=>xs[i]? == some x) (fun _=>()) (fun i hi=>by
  rw [y4E];rw [if_pos (ct_lt hi),ya hi,yOb,nxt (by omega),yGe hi];by_cases e:xs[i]=x
  ·rw [if_pos (by simpa using e),if_pos (by simpa using e)]
  ·rw [if_neg (by simpa using e),if_neg (by simpa using e)]) (by
  rw [y4E];rw [if_neg ct_ge])
 rw [y4v,h1,yOb];rcases h2 with ⟨rfl,h3⟩|⟨i,hi,rfl,h3,h4⟩
 ·have:hasB xs x=false:=by
   rw [←Bool.not_eq_true,yb];intro hm;obtain⟨k,hk,e⟩:=List.getElem_of_mem hm;have:=h3 k hk;rw [yGe hk,e] at this;simp at this
  rw [this]
 ·have:hasB xs x=true:=by
   rw [yb];rw [yGe hi] at h3;have h3:xs[i]=x:=by simpa using h3
   exact h3▸List.getElem_mem hi
  rw [this]
theorem ygk{xs:List Int}{x:Int}(hl:xs.length≤1000000)(hm:x∈xs):∃k:Nat,y5d xs x=some (k:Int)∧xs[k]? =some x:=by
 obtain⟨o,h1,h2⟩:=yb9 (f:=y3R xs x) (fun i=>i) xs.length (by omega) (fun i=>xs[i]? == some x) (fun i=>(i:Int)) (fun i hi=>by
  rw [y3R];rw [if_pos (ct_lt hi),ya hi,yOb,nxt (by omega),yGe hi];by_cases e:xs[i]=x
  ·rw [if_pos (by simpa using e),if_pos (by simpa using e)]
  ·rw [if_neg (by simpa using e),if_neg (by simpa using e)]) (by
  rw [y3R];rw [if_neg ct_ge])
 rw [y5d,h1,yOb];rcases h2 with ⟨rfl,h3⟩|⟨i,hi,rfl,h3,h4⟩
 ·exfalso;obtain⟨k,hk,e⟩:=List.getElem_of_mem hm;have:=h3 k hk;rw [yGe hk,e] at this;simp at this
 ·exact ⟨i,rfl,by simpa using h3⟩
theorem yhk{a:AutT}{s e:Int}(h:∀x∈a.2.2.2,¬(x.1=s∧x.2.1=e)):st1 a s e=none:=by
 unfold st1;rw [Option.map_eq_none_iff,List.find?_eq_none];intro x hx;have:=h x hx;simpa using this
theorem y6H{a:AutT}{n:Nat}(hr:Right a n)(s e:Int):yq a s e=some ((st1 a s e).getD (-1)):=by
 have hl:=hr.l3;obtain⟨o,h1,h2⟩:=yb9 (f:=y4i a s e) (fun i=>i) a.2.2.2.length (by omega) (fun i=>match a.2.2.2[i]? with | some x=>x.1==s&&x.2.1==e|none=>false) (fun i=>(a.2.2.2.getD i (0,0,0)).2.2) (fun i hi=>by
  rw [y4i];rw [if_pos (ct_lt hi),ya hi,yOb,nxt (by omega),yGe hi,List.getD_eq_getElem?_getD,yGe hi];dsimp only [Option.getD_some];by_cases e1:a.2.2.2[i].1=s
  ·rw [if_pos (by simpa using e1),yOb,yOb,yOb];by_cases e2:a.2.2.2[i].2.1=e
   ·rw [if_pos (by simpa using e2),if_pos (by simp [e1,e2])]
   ·rw [if_neg (by simpa using e2),if_neg (by simp [e2])]
  ·rw [if_neg (by simpa using e1),yOb,if_neg (by simp),if_neg (by simp [e1])]) (by
  rw [y4i];rw [if_neg ct_ge])
 rw [yq,h1,yOb];rcases h2 with ⟨rfl,h3⟩|⟨i,hi,rfl,h3,h4⟩
 ·rw [yhk fun x hx hxx=>?_]
  ·rfl
  ·obtain ⟨k,hk,e'⟩:=List.getElem_of_mem hx;have:=h3 k hk;rw [yGe hk,e'] at this;simp [hxx.1,hxx.2] at this
 ·rw [yGe hi] at h3;have h3:a.2.2.2[i].1=s∧a.2.2.2[i].2.1=e:=by simpa using h3
  have:st1 a s e=some a.2.2.2[i].2.2:=by
   rw [y6V hr,←h3.1,←h3.2];exact List.getElem_mem hi
  rw [this,List.getD_eq_getElem?_getD,yGe hi];rfl
section
variable{a:AutT}{n:Nat}
theorem yhl(hr:Right a n)(hal:a.1.length≤32){i:Nat}{y:List Int}{X:List Int}{kn:List (Int×Int)}{E:List (Int×Int×Int)}(hS:SR (st1 a) a.1 n i 0 X kn E)(hi:i<X.length):
  ∃kn' X' E',iter (y2L a ((i:Int),y)) (0,X)=some X'∧SR (st1 a) a.1 n (i+1) 0 X' kn' E'∧∃U,X'=X++U:=by
 have hnl:=hr.nl;obtain⟨o,h1,kn',E',hS',hU⟩:=yd (f:=y2L a ((i:Int),y)) (fun j s=>s.1=(j:Int)∧∃kn E,SR (st1 a) a.1 n i j s.2 kn E∧∃U,s.2=X++U) (fun o=>∃kn E,SR (st1 a) a.1 n (i+1) 0 o kn E∧∃U,o=X++U) a.1.length 0 (by omega) (fun j s hj ⟨e1,kn1,E1,hS1,U,hU⟩=>by
   obtain⟨c,X1⟩:=s;dsimp only at e1 hS1 hU;subst e1;have hX1:=hS1.len;have hi1:i<X1.length:=by rw [hU,List.length_append];omega
   have hj2:∀l:List Int,y2K ((j:Int),X1) l=some (.inl (((j+1:Nat):Int),l)):=fun l=>by
    rw [y2K];dsimp only;rw [nxt (by omega)]
   left;rw [y2L];dsimp only;rw [if_pos (ct_lt hj),ya hi1,yOb,ya hj,yOb,y6H hr,yOb];cases hst:st1 a X1[i] a.1[j] with
   | none=>
    rw [Option.getD_none,if_neg (by simp),yOb,if_neg (by simp),hj2];exact⟨_,rfl,rfl,kn1,E1,hS1.skip (yGe hi1) (yGe hj) hst,U,hU⟩
   | some t=>
    have ht:=yd9 hr hst;rw [Option.getD_some,if_pos (by simp;omega),yfd (by omega),yOb,yOb];by_cases hm:t∈X1
    ·obtain ⟨q,hq⟩:=List.getElem?_of_mem hm;rw [yb.2 hm,if_neg (by simp),hj2];exact⟨_,rfl,rfl,kn1,_,hS1.edge hr.ali hj (yGe hi1) hst hq,U,hU⟩
    ·have hb:hasB X1 t=false:=by rw [←Bool.not_eq_true,yb];exact hm
     rw [hb,if_pos (by simp),yr (by simp;omega),yOb,hj2];have hk:kget kn1 t=none:=by
      cases hk:kget kn1 t with
      | none=>rfl
      | some v=>
       obtain⟨q,_,hq⟩:=hS1.k1 _ _ hk;exact absurd (List.mem_of_getElem? hq) hm
     exact⟨_,rfl,rfl,_,_,hS1.new hr.ali hj (yGe hi1) hst hk ht.2.2.1 ht.2.2.2.1,U++[t],by dsimp only;rw [hU,List.append_assoc]⟩) (fun s ⟨e1,kn1,E1,hS1,hU⟩=>by
   obtain⟨c,X1⟩:=s;dsimp only at e1 hS1 hU;subst e1;rw [y2L];dsimp only;rw [if_neg ct_ge];exact⟨_,rfl,kn1,E1,hS1.next (Nat.le_refl _) hal,hU⟩) (Nat.zero_le _) (0,X) ⟨rfl,kn,E,hS,[],(List.append_nil _).symm⟩
 exact⟨kn',o,E',h1,hS',hU⟩
theorem yhm(hr:Right a n)(h0:0<n):∃X kn E,y5c a=some X∧SR (st1 a) a.1 n X.length 0 X kn E∧X[0]? =some 0:=by
 have hnl:=hr.nl;have hal:a.1.length≤32:=Alp.len ⟨hr.ali,hr.alr⟩;have hS0:SR (st1 a) a.1 n 0 0 [0] (kput [] 0 0) []:=by
  refine⟨Fnd.start (by simp),fun s v hv=>?_,fun s hs=>?_,by simp,fun s hs=>?_,List.Pairwise.nil,fun x hx=>(by cases hx),fun x hx=>(by cases hx),by simp⟩
  ·rw [y5Z] at hv;split at hv
   ·rename_i e;subst e;cases hv;exact⟨0,rfl,rfl⟩
   ·cases hv
  ·rw [List.mem_singleton.1 hs,y5Z,if_pos rfl];rfl
  ·rw [List.mem_singleton.1 hs];omega
 obtain⟨o,h1,kn,E,h2,h3⟩:=yd (f:=y2M a) (fun i s=>s.1=(i:Int)∧i≤s.2.length∧∃kn E,SR (st1 a) a.1 n i 0 s.2 kn E∧s.2[0]? =some 0) (fun o=>∃kn E,SR (st1 a) a.1 n o.length 0 o kn E∧o[0]? =some 0) n 0 (by omega) (fun i s hi ⟨e1,hle,kn,E,hS,x0⟩=>by
   obtain⟨c,X⟩:=s;dsimp only at e1 hle hS x0;subst e1;have hXl:=hS.len;rw [y2M];dsimp only;by_cases hix:i<X.length
   ·left;obtain⟨kn',X',E',w1,w2,U,hU⟩:=yhl hr hal (y:=X) hS hix;rw [if_pos (ct_lt hix),w1,yOb,nxt (by omega)];exact⟨_,rfl,rfl,by dsimp only;rw [hU,List.length_append];omega,kn',E',w2,by dsimp only;rw [hU,List.getElem?_append_left (by omega)];exact x0⟩
   ·right;obtain rfl:i=X.length:=by omega
    rw [if_neg ct_ge];exact⟨_,rfl,kn,E,hS,x0⟩) (fun s ⟨e1,hle,kn,E,hS,x0⟩=>by
   obtain⟨c,X⟩:=s;dsimp only at e1 hle hS x0;subst e1;have hXl:=hS.len;have hX:n=X.length:=by omega
   rw [y2M];dsimp only;rw [if_neg (by simp;omega)];exact⟨_,rfl,kn,E,by rw [←hX];exact hX▸hS,x0⟩) (Nat.zero_le _) (0,[0]) ⟨rfl,by simp,kput [] 0 0,[],hS0,rfl⟩
 refine⟨o,kn,E,?_,h2,h3⟩;rw [y5c,if_pos (by rw [hr.nn];simp;omega),yr (by simp),yOb,y3Q,show iter (y2M a) (0,([]:List Int)++[0])=some o from h1];rfl
structure EL (st:Int→Int→Option Int) (al X:List Int) (i j:Nat) (E:List (Int×Int×Int)):Prop where
 so:E.Pairwise fun x y=>x.1<y.1∨(x.1=y.1∧x.2.1<y.2.1)
 ei:∀x∈E,x.1<(i:Int)∨(x.1=(i:Int)∧∃b,∃hb:b<al.length,b<j∧al[b]=x.2.1)
 sn:∀x∈E,∃(a q:Nat) (t r:Int),x.1=(a:Int)∧x.2.2=(q:Int)∧X[a]? =some t∧X[q]? =some r∧x.2.1∈al∧st t x.2.1=some r
 ed:∀(a b:Nat) (t e r:Int),(a<i∨(a=i∧b<j))→X[a]? =some t→al[b]? =some e→st t e=some r→∃q:Nat,((a:Int),e,(q:Int))∈E∧X[q]? =some r
 el:E.length≤32*i+j
theorem EL.skip{st:Int→Int→Option Int}{al X:List Int}{i j:Nat}{E:List (Int×Int×Int)}(h:EL st al X i j E){s e:Int}(ht:X[i]? =some s)(he:al[j]? =some e)(hs:st s e=none):EL st al X i (j+1) E:=by
 refine⟨h.so,fun x hx=>?_,h.sn,fun a b t' e' r hab ha hb hst=>?_,by have:=h.el;omega⟩
 ·rcases h.ei x hx with h1|⟨h1,b,hb,h2,h3⟩
  ·exact .inl h1
  ·exact .inr ⟨h1,b,hb,by omega,h3⟩
 ·by_cases hx:a=i∧b=j
  ·obtain ⟨rfl,rfl⟩:=hx;rw [ht] at ha;rw [he] at hb;cases ha;cases hb;rw [hs] at hst;cases hst
  ·exact h.ed a b t' e' r (by omega) ha hb hst
theorem EL.edge{st:Int→Int→Option Int}{al X:List Int}{i j:Nat}{E:List (Int×Int×Int)}(h:EL st al X i j E)(ia:Inc al)(hj:j<al.length){s v:Int}{q:Nat}(ht:X[i]? =some s)(hs:st s al[j]=some v)(hq:X[q]? =some v):EL st al X i (j+1) (E++[((i:Int),al[j],(q:Int))]):=by
 refine⟨?_,fun x hx=>?_,fun x hx=>?_,fun a b t' e' r hab ha hb hst=>?_,by have:=h.el;rw [List.length_append,List.length_singleton];omega⟩
 ·rw [List.pairwise_append];refine⟨h.so,List.pairwise_singleton _ _,fun x hx y hy=>?_⟩;rw [List.mem_singleton.1 hy];rcases h.ei x hx with h1|⟨h1,b,hb,h2,h3⟩
  ·exact .inl h1
  ·refine .inr ⟨h1,?_⟩;rw [←h3];exact List.pairwise_iff_getElem.1 ia b j hb hj h2
 ·rcases List.mem_append.1 hx with hx|hx
  ·rcases h.ei x hx with h1|⟨h1,b,hb,h2,h3⟩
   ·exact .inl h1
   ·exact .inr ⟨h1,b,hb,by omega,h3⟩
  ·rw [List.mem_singleton.1 hx];exact .inr ⟨rfl,j,hj,by omega,rfl⟩
 ·rcases List.mem_append.1 hx with hx|hx
  ·exact h.sn x hx
  ·rw [List.mem_singleton.1 hx];exact⟨i,q,s,v,rfl,rfl,ht,hq,List.getElem_mem hj,hs⟩
 ·by_cases hx:a=i∧b=j
  ·obtain ⟨rfl,rfl⟩:=hx;rw [ht] at ha;rw [yGe hj] at hb;cases ha;cases hb;rw [hs] at hst;cases hst;exact⟨q,List.mem_append_right _ (List.mem_singleton.2 rfl),hq⟩
  ·obtain ⟨q',g1,g2⟩:=h.ed a b t' e' r (by omega) ha hb hst;exact⟨q',List.mem_append_left _ g1,g2⟩
theorem EL.next{st:Int→Int→Option Int}{al X:List Int}{i j:Nat}{E:List (Int×Int×Int)}(h:EL st al X i j E)(hj:al.length≤j)(hj2:j≤32):EL st al X (i+1) 0 E:=
 ⟨h.so,fun x hx=>by
  rcases h.ei x hx with h1|⟨h1,_⟩
  ·exact .inl (by omega)
  ·exact .inl (by omega),h.sn,fun a b t e r hab ha hb hst=>h.ed a b t e r (by have:=(List.getElem?_eq_some_iff.1 hb).1;omega) ha hb hst,by have:=h.el;omega⟩
theorem ygl(hr:Right a n)(hal:a.1.length≤32){X:List Int}{kn:List (Int×Int)}{E0:List (Int×Int×Int)}(hS:SR (st1 a) a.1 n X.length 0 X kn E0){i:Nat}(hi:i<X.length){ms:List Int}{y E:List (Int×Int×Int)}(hE:EL (st1 a) a.1 X i 0 E):
  ∃E',iter (y1y a X ((i:Int),ms,y)) (0,E)=some E'∧EL (st1 a) a.1 X (i+1) 0 E':=by
 have hnl:=hr.nl;have hXl:=hS.len;refine yd (f:=y1y a X ((i:Int),ms,y)) (fun j s=>s.1=(j:Int)∧EL (st1 a) a.1 X i j s.2) (fun o=>EL (st1 a) a.1 X (i+1) 0 o) a.1.length 0 (by omega) (fun j s hj ⟨e1,hE1⟩=>?_) (fun s ⟨e1,hE1⟩=>?_) (Nat.zero_le _) (0,E) ⟨rfl,hE⟩
 ·obtain ⟨c,E1⟩:=s;dsimp only at e1 hE1;subst e1;have hel:=hE1.el;have hj2:∀l:List (Int×Int×Int),y1x ((j:Int),E1) l=some (.inl (((j+1:Nat):Int),l)):=fun l=>by
   rw [y1x];dsimp only;rw [nxt (by omega)]
  left;rw [y1y];dsimp only;rw [if_pos (ct_lt hj),ya hi,yOb,ya hj,yOb,y6H hr,yOb];cases hst:st1 a X[i] a.1[j] with
  | none=>
   rw [Option.getD_none,if_neg (by simp),hj2];exact⟨_,rfl,rfl,hE1.skip (yGe hi) (yGe hj) hst⟩
  | some t=>
   have ht:=yd9 hr hst;obtain⟨q,_,hq⟩:=hS.f.ed i j X[i] a.1[j] t (.inl hi) (yGe hi) (yGe hj) hst;obtain⟨k,hk,hk2⟩:=ygk (xs:=X) (x:=t) (by omega) (List.mem_of_getElem? hq);rw [Option.getD_some,if_pos (by simp;omega),yOb,hk,yOb,yr (by simp;omega),yOb,hj2];exact⟨_,rfl,rfl,hE1.edge hr.ali hj (yGe hi) hst hk2⟩
 ·obtain ⟨c,E1⟩:=s;dsimp only at e1 hE1;subst e1;rw [y1y];dsimp only;rw [if_neg ct_ge];exact⟨_,rfl,hE1.next (Nat.le_refl _) hal⟩
theorem ygm(hr:Right a n)(h0:0<n):∃r X,y3C a=some r∧CanOf (st1 a) a.1 a.2.2.1 r X∧0<X.length∧X.length≤n:=by
 have hnl:=hr.nl;have hl1:=hr.l1;have hl2:=hr.l2;have hal:a.1.length≤32:=Alp.len ⟨hr.ali,hr.alr⟩;obtain⟨X,kn,E0,hf,hS,x0⟩:=yhm hr h0;have hXl:=hS.len;have hX0:0<X.length:=(List.getElem?_eq_some_iff.1 x0).1;obtain⟨o,h1,hE,m1,m2,mk⟩:=yd (f:=y2N a X) (fun i s=>s.1=(i:Int)∧i≤X.length∧EL (st1 a) a.1 X i 0 s.2.2∧Inc s.2.1∧(∀x∈s.2.1,0≤x∧x<(i:Int))∧∀(c:Nat) (x:Int),c<i→X[c]? =some x→((c:Int)∈s.2.1↔x∈a.2.2.1))
   (fun o=>EL (st1 a) a.1 X X.length 0 o.2∧Inc o.1∧(∀x∈o.1,0≤x∧x<(X.length:Int))∧∀(c:Nat) (x:Int),X[c]? =some x→((c:Int)∈o.1↔x∈a.2.2.1)) X.length 0 (by omega) (fun i s hi ⟨e1,_,hE,m1,m2,mk⟩=>by
   obtain⟨c,M,E⟩:=s;dsimp only at e1 hE m1 m2 mk;subst e1;have hMl:=y5N (n:=i) (lo:=0) m1 m2 (Int.le_refl _);have hj1:∀M':List Int,Inc M'→(∀x∈M',0≤x∧x<((i+1:Nat):Int))→(∀x:Int,x≠(i:Int)→(x∈M'↔x∈M))→((i:Int)∈M'↔X[i]∈a.2.2.1)→
     ∃s',y1z a X ((i:Int),M,E) M'=some (.inl s')∧s'.1=((i+1:Nat):Int)∧i+1≤X.length∧EL (st1 a) a.1 X (i+1) 0 s'.2.2∧Inc s'.2.1∧(∀x∈s'.2.1,0≤x∧x<((i+1:Nat):Int))∧∀(c:Nat) (x:Int),c<i+1→X[c]? =some x→((c:Int)∈s'.2.1↔x∈a.2.2.1):=fun M' q1 q2 q3 q4=>by
    obtain⟨E',w1,w2⟩:=ygl hr hal hS hi (ms:=M) (y:=E) hE;rw [y1z];dsimp only;rw [w1,yOb,nxt (by omega)];refine⟨_,rfl,rfl,hi,w2,q1,q2,fun c x hc hx=>?_⟩;dsimp only;by_cases e:c=i
    ·subst e;rw [yGe hi] at hx;cases hx;exact q4
    ·rw [q3 _ (by omega)];exact mk c x (by omega) hx
   left;rw [y2N];dsimp only;rw [if_pos (ct_lt hi),ya hi,yOb,yfd (by omega),yOb];cases hm:hasB a.2.2.1 X[i] with
   | true=>
    rw [if_pos rfl,yr (by simp;omega),yOb];refine hj1 _ ?_ (fun x hx=>?_) (fun x hx=>?_) ⟨fun _=>yb.1 hm,fun _=>List.mem_append_right _ (List.mem_singleton.2 rfl)⟩
    ·unfold Inc at m1 ⊢;rw [List.pairwise_append];exact⟨m1,List.pairwise_singleton _ _,fun c hc b hb=>by rw [List.mem_singleton.1 hb];exact(m2 c hc).2⟩
    ·rcases List.mem_append.1 hx with hx|hx
     ·have:=m2 x hx;omega
     ·rw [List.mem_singleton.1 hx];omega
    ·rw [List.mem_append,List.mem_singleton];exact⟨fun h=>h.resolve_right hx,.inl⟩
   | false=>
    rw [if_neg (by simp)];refine hj1 M m1 (fun x hx=>by have:=m2 x hx;omega) (fun x _=>Iff.rfl) ⟨fun hx=>by have:=m2 _ hx;omega,fun hx=>?_⟩;rw [yb.2 hx] at hm;cases hm) (fun s ⟨e1,_,hE,m1,m2,mk⟩=>by
   obtain⟨c,M,E⟩:=s;dsimp only at e1 hE m1 m2 mk;subst e1;rw [y2N];dsimp only;rw [if_neg ct_ge];exact⟨_,rfl,hE,m1,m2,fun c x hx=>mk c x (List.getElem?_eq_some_iff.1 hx).1 hx⟩) (Nat.zero_le _) (0,[],[]) ⟨rfl,Nat.zero_le _,⟨List.Pairwise.nil,fun x hx=>(by cases hx),fun x hx=>(by cases hx),fun a b t e r hab=>by omega,by simp⟩,List.Pairwise.nil,fun x hx=>(by cases hx),fun c x hc=>absurd hc (Nat.not_lt_zero _)⟩
 obtain⟨M,E⟩:=o;dsimp only at hE m1 m2 mk;have hMl:=y5N (n:=X.length) (lo:=0) m1 m2 (Int.le_refl _);have hD:=hS.f.disc hS.nd hS.so hS.ea hr.alr;have hEE:E=E0:=y9F (lt:=fun x y=>x.1<y.1∨(x.1=y.1∧x.2.1<y.2.1)) (fun a b h1 h2=>by omega) hE.so hD.so fun x=>by
  have same:∀{a q q':Nat} {t r r':Int},X[a]? =some t→X[q]? =some r→X[q']? =some r→q=q':=fun {a q q' t r r'} _ h1 h2=>by
   have e1:=(List.getElem?_eq_some_iff.1 h1).2;have e2:=(List.getElem?_eq_some_iff.1 h2).2;exact(List.getElem_inj hS.nd).1 (e1.trans e2.symm)
  constructor
  ·intro hx;obtain⟨c,q,t,r,g1,g2,g3,g4,g5,g6⟩:=hE.sn x hx;obtain⟨q',k1,k2⟩:=hD.ed c t x.2.1 r g3 g5 g6;have:=same (r':=r) g3 g4 k2;subst this;rw [←g1,←g2] at k1;exact k1
  ·intro hx;obtain⟨c,q,t,r,g1,g2,g3,g4,g5,g6⟩:=hD.sn x hx;obtain⟨b,hb,hbe⟩:=List.getElem_of_mem g5;obtain⟨q',k1,k2⟩:=hE.ed c b t x.2.1 r (.inl (List.getElem?_eq_some_iff.1 g3).1) g3 (by rw [yGe hb,hbe]) g6;have:=same (r':=r) g3 g4 k2;subst this;rw [←g1,←g2] at k1;exact k1
 subst hEE;have hEl:=hE.el;refine⟨(a.1,(X.length:Int),M,E),X,?_,⟨⟨rfl,by omega,hr.ali,hr.alr,m1,m2,fun x hx=>?_,hE.so,hl1,by dsimp only;omega,by dsimp only;omega⟩,rfl,fun _=>x0,hD,mk⟩,hX0,hXl⟩
 ·rw [y3C,hf,yOb,ydC (by omega),yOb,h1];rfl
 ·obtain ⟨c,q,t,r,g1,g2,g3,g4,g5,_⟩:=hE.sn x hx;have e3:=(List.getElem?_eq_some_iff.1 g3).1;have e4:=(List.getElem?_eq_some_iff.1 g4).1;exact⟨by omega,by omega,by omega,by omega,g5⟩
end
abbrev Row5 :=Int×Int×Int×Int×Int
def ybS(g:Row5×Row5×Row5×Row5×Row5):List Int:=
 [g.1.1,g.1.2.1,g.1.2.2.1,g.1.2.2.2.1,g.1.2.2.2.2,g.2.1.1,g.2.1.2.1,g.2.1.2.2.1,g.2.1.2.2.2.1,g.2.1.2.2.2.2,g.2.2.1.1,g.2.2.1.2.1,g.2.2.1.2.2.1,g.2.2.1.2.2.2.1,g.2.2.1.2.2.2.2,g.2.2.2.1.1,g.2.2.2.1.2.1,g.2.2.2.1.2.2.1,g.2.2.2.1.2.2.2.1,g.2.2.2.1.2.2.2.2,g.2.2.2.2.1,g.2.2.2.2.2.1,g.2.2.2.2.2.2.1,g.2.2.2.2.2.2.2.1,g.2.2.2.2.2.2.2.2]
structure GrIn (g:y1I):Prop where
 s:0≤g.1∧g.1<256
 c:∀y∈ybS g.2.2,0≤y∧y<256
structure MG (ev:List Int) (n i j:Nat) (E:List (Int×Int×Int)):Prop where
 er:∀x∈E,0≤x.1∧x.1≤(i:Int)∧x.2.1∈ev∧0≤x.2.2∧x.2.2<(n:Int)
 es:∀x∈E,x.1=(i:Int)→∃b,∃hb:b<ev.length,b<j∧ev[b]=x.2.1
 so:E.Pairwise fun x y=>x.1<y.1∨(x.1=y.1∧x.2.1<y.2.1)
 el:E.length≤5*i+j
theorem MG.push{ev:List Int}{n i j:Nat}{E:List (Int×Int×Int)}{q:Int}(h:MG ev n i j E)(ie:Inc ev)(hj:j<ev.length)(h0:0≤q)(h1:q<(n:Int)):MG ev n i (j+1) (E++[((i:Int),ev[j],q)]):=by
 refine⟨fun x hx=>?_,fun x hx e=>?_,?_,by have:=h.el;rw [List.length_append,List.length_singleton];omega⟩
 ·rcases List.mem_append.1 hx with hx|hx
  ·exact h.er x hx
  ·rw [List.mem_singleton.1 hx];exact⟨by dsimp only;omega,by dsimp only;omega,List.getElem_mem hj,h0,h1⟩
 ·rcases List.mem_append.1 hx with hx|hx
  ·obtain ⟨b,hb,h2,h3⟩:=h.es x hx e;exact⟨b,hb,by omega,h3⟩
  ·rw [List.mem_singleton.1 hx];exact⟨j,hj,by omega,rfl⟩
 ·rw [List.pairwise_append];refine⟨h.so,List.pairwise_singleton _ _,fun a ha b hb=>?_⟩;rw [List.mem_singleton.1 hb];have h2:=h.er a ha;by_cases e:a.1=(i:Int)
  ·obtain ⟨b,hb,h3,h4⟩:=h.es a ha e;refine .inr ⟨e,?_⟩;rw [←h4];exact List.pairwise_iff_getElem.1 ie b j hb hj h3
  ·exact .inl (by dsimp only;omega)
theorem MG.skip{ev:List Int}{n i j:Nat}{E:List (Int×Int×Int)}(h:MG ev n i j E):MG ev n i (j+1) E:=⟨h.er,fun x hx e=>by
 obtain⟨b,hb,h2,h3⟩:=h.es x hx e;exact⟨b,hb,by omega,h3⟩,h.so,by have:=h.el;omega⟩
theorem MG.next{ev:List Int}{n i j:Nat}{E:List (Int×Int×Int)}(h:MG ev n i j E)(hj:j≤5):MG ev n (i+1) 0 E:=⟨fun x hx=>by
 have:=h.er x hx;exact⟨this.1,by omega,this.2.2⟩,fun x hx e=>by have:=h.er x hx;omega,h.so,by have:=h.el;omega⟩
theorem yel{ev:List Int}(ie:Inc ev)(he:∀x∈ev,0≤x∧x<32)(hel:ev.length≤5){g:y1I}(hg:GrIn g):∃r n,y4b ev g=some r∧Right r n∧n≤5∧r.1=ev:=by
 obtain⟨s,m,c⟩:=g;obtain⟨hs,hc⟩:=hg;dsimp only at hs hc;rw [y4b,ydC (by omega)];dsimp only;by_cases h250:s≥250
 ·rw [if_pos (by simpa using h250),yOb];exact⟨_,0,rfl,⟨rfl,by omega,ie,he,List.Pairwise.nil,fun x hx=>(by cases hx),fun x hx=>(by cases hx),List.Pairwise.nil,by dsimp only;omega,by simp,by simp⟩,by omega,rfl⟩
 rw [if_neg (by simpa using h250),yOb];obtain⟨n,hn0,hn5,hn⟩:∃n:Nat,0<n∧n≤5∧W (1+W (s.tmod 5))=(n:Int):=by
  refine⟨(1+s % 5).toNat,by omega,by omega,?_⟩;rw [Int.tmod_eq_emod_of_nonneg hs.1,W_of (x:=s % 5) (by omega) (by omega),W_of (by omega) (by omega)];omega
 have hn2:W ((n:Int)+2)=((n+2:Nat):Int):=by rw [show (n:Int)+2=((n+2:Nat):Int) by omega,W_nat (by omega)]
 rw [hn];obtain⟨o,h1,m1,m2,hM⟩:=yd (f:=y4k ev (s,m,c)) (fun i t=>t.1=(i:Int)∧Inc t.2.1∧(∀x∈t.2.1,0≤x∧x<(i:Int))∧MG ev n i 0 t.2.2) (fun o=>Inc o.1∧(∀x∈o.1,0≤x∧x<(n:Int))∧MG ev n n 0 o.2) n 0 (by omega) (fun i t hi ⟨e1,m1,m2,hM⟩=>by
   obtain⟨t1,t2,t3⟩:=t;dsimp only at e1 m1 m2 hM;subst e1;have hMl:=y5N (n:=i) (lo:=0) m1 m2 (Int.le_refl _);have hj:∀l:List Int,Inc l→(∀x∈l,0≤x∧x<((i+1:Nat):Int))→∃s',y3c ev (s,m,c) ((i:Int),t2,t3) l=some (.inl s')∧s'.1=((i+1:Nat):Int)∧Inc s'.2.1∧(∀x∈s'.2.1,0≤x∧x<((i+1:Nat):Int))∧MG ev n (i+1) 0 s'.2.2:=by
    intro l hl1 hl2;obtain⟨o,h1,h2⟩:=yd (f:=y4j ev (s,m,c) ((i:Int),t2,t3)) (fun k t=>t.1=(k:Int)∧MG ev n i k t.2) (fun o=>MG ev n i ev.length o) ev.length 0 (by omega) (fun k t hk ⟨g1,g2⟩=>by
      obtain⟨u1,u2⟩:=t;dsimp only at g1 g2;subst g1;have hel2:=g2.el;have hj2:∀l:List (Int×Int×Int),y3b ((k:Int),u2) l=some (.inl (((k+1:Nat):Int),l)):=fun l=>by
       rw [y3b];dsimp only;rw [nxt (by omega)]
      left;have hlt:i*5+k*1<(ybS c).length:=by show _<25;omega
      obtain⟨v,hcell,hv⟩:∃v,(ybS c)[i*5+k*1]? =some v∧0≤v∧v<256:=⟨_,yGe hlt,hc _ (List.getElem_mem hlt)⟩;rw [ybS] at hcell;rw [y4j];dsimp only;rw [if_pos (by simp;omega),show rng (i:Int) 5=some () from if_pos (by simp;omega),yOb,show rng (k:Int) 5=some () from if_pos (by simp;omega),yOb,Int.toNat_natCast,Int.toNat_natCast,hcell,yOb,hn,hn2,show nz ((n+2:Nat):Int)=some () from if_neg (by omega),yOb,W_of (x:=v) (by omega) (by omega),Int.tmod_eq_emod_of_nonneg hv.1];have hm0:=Int.emod_nonneg v (show ((n+2:Nat):Int)≠0 by omega);by_cases hlt2:v % ((n+2:Nat):Int)<(n:Int)
      ·rw [if_pos (decide_eq_true hlt2),ya hk,yOb,yr (by rw [List.length_cons,List.length_nil];omega),yOb,hj2];exact⟨_,rfl,rfl,g2.push ie hk hm0 hlt2⟩
      ·rw [if_neg (by simpa using hlt2),hj2];exact⟨_,rfl,rfl,g2.skip⟩) (fun t ⟨g1,g2⟩=>by
      obtain⟨u1,u2⟩:=t;dsimp only at g1 g2;subst g1;rw [y4j];dsimp only;rw [if_neg (by simp)];exact⟨_,rfl,g2⟩) (Nat.zero_le _) (0,t3) ⟨rfl,hM⟩
    rw [y3c];dsimp only;rw [h1,yOb,nxt (by omega)];exact⟨_,rfl,rfl,hl1,hl2,h2.next hel⟩
   left;rw [y4k];dsimp only;rw [hn,if_pos (by simp;omega),show ng (i:Int)=some () from if_neg (by omega),yOb];split
   ·rw [yr (by simp;omega),yOb];refine hj _ ?_ (fun x hx=>?_)
    ·unfold Inc at m1 ⊢;rw [List.pairwise_append];exact⟨m1,List.pairwise_singleton _ _,fun c hc b hb=>by rw [List.mem_singleton.1 hb];exact(m2 c hc).2⟩
    ·rcases List.mem_append.1 hx with hx|hx
     ·have:=m2 x hx;omega
     ·rw [List.mem_singleton.1 hx];omega
   ·exact hj _ m1 (fun x hx=>by have:=m2 x hx;omega)) (fun t ⟨e1,m1,m2,hM⟩=>by
   obtain⟨t1,t2,t3⟩:=t;dsimp only at e1 m1 m2 hM;subst e1;rw [y4k];dsimp only;rw [hn,if_neg (by simp)];exact⟨_,rfl,m1,m2,hM⟩) (Nat.zero_le _) (0,[],[]) ⟨rfl,List.Pairwise.nil,fun x hx=>(by cases hx),⟨fun x hx=>(by cases hx),fun x hx=>(by cases hx),List.Pairwise.nil,by simp⟩⟩
 obtain⟨M,E⟩:=o;dsimp only at m1 m2 hM;have hMl:=y5N (n:=n) (lo:=0) m1 m2 (Int.le_refl _);have hel2:=hM.el;have hR:Right (ev,(n:Int),M,E) n:=⟨rfl,by omega,ie,he,m1,m2,fun x hx=>by
  have h:=hM.er x hx;refine⟨h.1,?_,h.2.2.2.1,h.2.2.2.2,h.2.2.1⟩;by_cases e:x.1=(n:Int)
  ·obtain ⟨b,_,hb,_⟩:=hM.es x hx e;omega
  ·omega,hM.so,by dsimp only;omega,by dsimp only;omega,by dsimp only;omega⟩
 obtain⟨r,X,hc1,hc2,hc3,hc4⟩:=ygm hR hn0;rw [h1,yOb,hc1,yOb];exact⟨r,X.length,rfl,hc2.right,by omega,hc2.ale⟩
structure PbOk (q:ProbT) (n1 n2:Nat):Prop where
 rP:Right q.1 n1
 rS:Right q.2.1 n2
 l1:n1≤40
 l2:n2≤40
 sub:∀x∈q.2.1.1,x∈q.1.1
 iu:Inc q.2.2
 ur:∀x∈q.2.2,0≤x∧x<32
theorem PbOk.open{q:ProbT}{n1 n2:Nat}(h:PbOk q n1 n2):∃t p T n1 n2 n,y7g q=some (some t,0)∧TaskOk q t p T n1 n2 n∧yz [q.1,q.2.1]=some (p,T,0):=by
 have hu:=Alp.len ⟨h.iu,h.ur⟩;refine ygi ⟨h.rP.l1,h.rP.l2,h.rP.l3,h.rS.l1,h.rS.l2,h.rS.l3,by omega⟩ ?_ (by rw [h.rP.nn];have:=h.l1;omega) (by rw [h.rS.nn];have:=h.l2;omega);have hm:mg (fun a b=>a && !b) q.2.1.1 q.1.1= []:=List.eq_nil_iff_forall_not_mem.2 fun x hx=>by
  rw [(y6r (fun a b=>a && !b) q.2.1.1 q.1.1 h.rS.ali h.rP.ali).2] at hx;obtain⟨_,h2⟩:=hx;rw [Bool.and_eq_true,yb] at h2;have:=yb.2 (h.sub x h2.1);rw [this] at h2;simp at h2
 unfold errP;rw [h.rP.err,h.rS.err,hm,if_neg (by simp),if_neg (by simp),if_neg (by simp)];exact y6R h.iu h.ur (fun q hq=>by cases hq)
abbrev PartT :=Int×y1I
abbrev Des26 :=PartT×PartT×Int
structure Des26In (d:Des26):Prop where
 g1:GrIn d.1.2
 g2:GrIn d.2.1.2
theorem ygn{d:Des26}(hd:Des26In d):∃q n1 n2,y5o d=some q∧PbOk q n1 n2∧n1≤5∧n2≤5∧∀x∈q.1.1,0≤x∧x<5:=by
 obtain⟨e1,a1,i1,r1,z1⟩:=ycr d.1.1;obtain⟨P,n1,b1,R1,s1,t1⟩:=yel i1 (fun x hx=>by have:=r1 x hx;omega) z1 hd.g1;obtain⟨e2,a2,i2,r2,z2⟩:=ycr d.2.1.1;have hsp:=y6r (fun a b=>a&&b) e2 P.1 i2 R1.ali;have hmem:∀x,x∈mg (fun a b=>a&&b) e2 P.1→x∈e2∧x∈P.1:=fun x hx=>by
  have:=(hsp.2 x).1 hx;simp only [Bool.and_eq_true] at this;exact⟨yb.1 this.2.1,yb.1 this.2.2⟩
 have hl:=y5N (n:=5) (lo:=0) hsp.1 (fun x hx=>r2 x (hmem x hx).1) (Int.le_refl _);obtain⟨S,n2,b2,R2,s2,t2⟩:=yel hsp.1 (fun x hx=>by have:=r2 x (hmem x hx).1;omega) (by omega) hd.g2;obtain⟨e3,a3,i3,r3,z3⟩:=ycr d.2.2;refine⟨(P,S,e3),n1,n2,?_,⟨R1,R2,by omega,by omega,fun x hx=>?_,i3,fun x hx=>by have:=r3 x hx;omega⟩,s1,s2,fun x hx=>?_⟩
 ·rw [y5o,a1,yOb,b1,yOb,a2,yOb,ydA (by omega) R1.l1,yOb,b2,yOb,a3];rfl
 ·dsimp only at hx;rw [t2] at hx;exact(hmem x hx).2
 ·dsimp only at hx;rw [t1] at hx;exact r1 x hx
def stK(a:AutT)(g:List Bool)(s e:Int):Option Int:=(st1 a s e).filter fun t=>g.getD t.toNat false
theorem ycs{a:AutT}{n:Nat}(hr:Right a n){g:List Bool}{s e t:Int}:stK a g s e=some t↔(s,e,t)∈a.2.2.2∧g.getD t.toNat false=true:=by
 unfold stK;rw [Option.filter_eq_some_iff,y6V hr]
theorem yhn{a:AutT}{n:Nat}(hr:Right a n)(hE32:a.1.length≤32){g:List Bool}{i s:Nat}{X:List Int}{kn:List (Int×Int)}{E:List (Int×Int×Int)}(hS:SR (stK a g) a.1 n i 0 X kn E)(hi:X[i]? =some (s:Int))(M:List Int){os:List (Int×Int×Int)}(hos:os=a.2.2.2.filter fun x=>x.1==(s:Int)&&g.getD x.2.2.toNat false):
  ∃kn' X' E',iter (yP ((i:Int),X,kn,M,E) os) (0,X,kn,E)=some (X',kn',E')∧SR (stK a g) a.1 n (i+1) 0 X' kn' E'∧∃U,X'=X++U:=by
 have hnl:=hr.nl;have hl3:=hr.l3;have hil:i<X.length:=(List.getElem?_eq_some_iff.1 hi).1;have hmem:∀x∈os,x∈a.2.2.2∧x.1=(s:Int)∧g.getD x.2.2.toNat false=true:=fun x hx=>by
  rw [hos] at hx;have:=List.mem_filter.1 hx;rw [Bool.and_eq_true] at this;exact⟨this.1,by simpa using this.2.1,this.2.2⟩
 have hso:os.Pairwise fun x y=>x.2.1<y.2.1:=by
  have h:=hr.so.filter (fun x=>x.1==(s:Int)&&g.getD x.2.2.toNat false);rw [←hos] at h;refine h.imp_of_mem fun {x y} hx hy hxy=>?_;have:=(hmem x hx).2.1;have:=(hmem y hy).2.1;omega
 have hol:os.length≤1000000:=by rw [hos];exact Nat.le_trans (List.length_filter_le _ _) hl3
 have hin:∀{e t:Int},stK a g (s:Int) e=some t→((s:Int),e,t)∈os:=fun {e t} h=>by
  rw [hos];have:=(ycs hr).1 h;exact List.mem_filter.2 ⟨this.1,by simp only [beq_self_eq_true,Bool.true_and];exact this.2⟩
 obtain⟨o,h1,j,hS',hU,hj,hlast⟩:=yd (f:=yP ((i:Int),X,kn,M,E) os)
  (fun k s'=>s'.1=(k:Int)∧k≤os.length∧∃j,SR (stK a g) a.1 n i j s'.2.1 s'.2.2.1 s'.2.2.2∧(∃U,s'.2.1=X++U)∧j≤a.1.length∧
   (∀c (hc:c<a.1.length),c<j→∀k' (hk:k'<os.length),k≤k'→os[k'].2.1≠a.1[c])∧∀k' (hk:k'<os.length),k'<k→∀c (hc:c<a.1.length),j≤c→os[k'].2.1≠a.1[c])
  (fun o=>∃j,SR (stK a g) a.1 n i j o.1 o.2.1 o.2.2∧(∃U,o.1=X++U)∧j≤a.1.length∧∀k' (hk:k'<os.length),∀c (hc:c<a.1.length),j≤c→os[k'].2.1≠a.1[c])
  os.length 0 (by omega) (fun k s' hk ⟨e1,_,j,hS',⟨U,hU⟩,hj,hlo,hhi⟩=>by
   obtain⟨c',X1,kn',E1⟩:=s';dsimp only at e1 hS' hU;subst e1;have hx:=hmem _ (List.getElem_mem hk);have hxe:=hr.es _ hx.1;obtain⟨t,ht⟩:∃t:Nat,os[k].2.2=(t:Int):=⟨os[k].2.2.toNat,by omega⟩;have htn:t<n:=by omega
   obtain⟨b,hb,hbe⟩:=List.getElem_of_mem hxe.2.2.2.2;have hjb:j≤b:=Nat.le_of_not_lt fun hlt=>hlo b hb hlt k hk (Nat.le_refl _) hbe.symm;have hiX:X1[i]? =some (s:Int):=by rw [hU,List.getElem?_append_left hil];exact hi
   have hstx:stK a g (s:Int) a.1[b]=some (t:Int):=by
    rw [ycs hr,hbe,←ht];refine⟨?_,hx.2.2⟩;rw [←hx.2.1];exact hx.1
   have hSb:=hS'.skips hiX b hjb (by omega) fun c hc h1 h2=>by
    cases hst:stK a g (s:Int) a.1[c] with
    | none=>rfl
    | some v=>
     exfalso;obtain⟨k',hk',e'⟩:=List.getElem_of_mem (hin hst);have ev:os[k'].2.1=a.1[c]:=by rw [e']
     have hcb:a.1[c]<a.1[b]:=List.pairwise_iff_getElem.1 hr.ali c b hc hb h2;by_cases h3:k'<k
     ·exact hhi k' hk' h3 c hc h1 ev
     ·by_cases h4:k'=k
      ·subst h4;omega
      ·have:=List.pairwise_iff_getElem.1 hso k k' hk hk' (by omega);omega
   have hpos:∀(X2:List Int) (E2:List (Int×Int×Int)) (kn2:List (Int×Int)),SR (stK a g) a.1 n i (b+1) X2 kn2 E2→(∃U,X2=X++U)→
     (∃j,SR (stK a g) a.1 n i j X2 kn2 E2∧(∃U,X2=X++U)∧j≤a.1.length∧
   (∀c (hc:c<a.1.length),c<j→∀k' (hk:k'<os.length),k+1≤k'→os[k'].2.1≠a.1[c])∧∀k' (hk:k'<os.length),k'<k+1→∀c (hc:c<a.1.length),j≤c→os[k'].2.1≠a.1[c]):=fun X2 E2 kn2 g1 g3=>by
    refine⟨b+1,g1,g3,hb,fun c hc h1 k' hk' h2 e=>?_,fun k' hk' h2 c hc h1 e=>?_⟩
    ·have h5:=List.pairwise_iff_getElem.1 hso k k' hk hk' (by omega);by_cases h6:c=b
     ·subst h6;omega
     ·have:=List.pairwise_iff_getElem.1 hr.ali c b hc hb (by omega);omega
    ·have h5:=List.pairwise_iff_getElem.1 hr.ali b c hb hc (by omega);by_cases h6:k'=k
     ·subst h6;omega
     ·have:=List.pairwise_iff_getElem.1 hso k' k hk' hk (by omega);omega
   have hXl:=hSb.len;have hEl:=hSb.el;have hil2:i<n:=by have:=(List.getElem?_eq_some_iff.1 hiX).1;omega
   have hj2:∀(X2:List Int) (v:Int) (kn2:List (Int×Int)),yO ((i:Int),X,kn,M,E) os[k] ((k:Int),X1,kn',E1) X2 v kn2=some (.inl (((k+1:Nat):Int),X2,kn2,E1++[((i:Int),os[k].2.1,v)])):=fun X2 v kn2=>by
    rw [yO];dsimp only;rw [yr (by simp;omega),yOb,nxt (by omega)]
   left;rw [yP];dsimp only;rw [if_pos (ct_lt hk),ya hk,yOb,ht];cases hkg:kget kn' (t:Int) with
   | none=>
    rw [if_pos (by simp),yr (by simp;omega),yOb,hj2];refine⟨_,rfl,rfl,hk,?_⟩;dsimp only;rw [←hbe];exact hpos _ _ _ (hSb.new hr.ali hb hiX hstx hkg (by omega) (by omega)) ⟨U++[(t:Int)],by rw [hU,List.append_assoc]⟩
   | some v=>
    obtain⟨q,hv,hq⟩:=hSb.k1 _ _ hkg;subst hv;rw [if_neg (by simp),hj2];refine⟨_,rfl,rfl,hk,?_⟩;dsimp only;rw [←hbe,Option.getD_some];exact hpos _ _ _ (hSb.edge hr.ali hb hiX hstx hq) ⟨U,hU⟩) (fun s' ⟨e1,_,j,hS',hU,hj,hlo,hhi⟩=>by
   obtain⟨c',X1,kn',E1⟩:=s';dsimp only at e1 hS' hU;subst e1;refine⟨(X1,kn',E1),?_,j,hS',hU,hj,fun k' hk' c hc hjc=>hhi k' hk' hk' c hc hjc⟩;rw [yP];dsimp only;rw [if_neg ct_ge]) (Nat.zero_le _) (0,X,kn,E) ⟨rfl,Nat.zero_le _,0,hS,⟨[],(List.append_nil _).symm⟩,Nat.zero_le _,fun c hc h=>absurd h (Nat.not_lt_zero _),fun k' hk' h=>absurd h (Nat.not_lt_zero _)⟩
 obtain⟨X',kn',E'⟩:=o;obtain⟨U,hU⟩:=hU;dsimp only at hS' hU;have hiX:X'[i]? =some (s:Int):=by rw [hU,List.getElem?_append_left hil];exact hi
 have hSe:=hS'.skips hiX a.1.length hj (Nat.le_refl _) fun c hc h1 _=>by
  cases hst:stK a g (s:Int) a.1[c] with
  | none=>rfl
  | some v=>
   exfalso;obtain⟨k',hk',e'⟩:=List.getElem_of_mem (hin hst);exact hlast k' hk' c hc h1 (by rw [e'])
 exact⟨kn',X',E',h1,hSe.next (Nat.le_refl _) hE32,U,hU⟩
theorem yfx{a:AutT}{n:Nat}(hr:Right a n){g:List Bool}(hg:g.length=n)(p:AutT×List Int×List (Int×List Int)×List Bool)(hp1:p.1=a)(hp2:p.2.2.2=g):
  ∃R:List EdgL,iter (yS p) (0,List.replicate n [])=some R∧R.length=n∧∀s:Nat,s<n→R[s]? =some (a.2.2.2.filter fun x=>x.1==(s:Int)&&g.getD x.2.2.toNat false):=by
 subst hp1 hp2;have hl3:=hr.l3;have hnl:=hr.nl;obtain⟨R,h1,h2,h3⟩:=yd (f:=yS p) (fun i s=>s.1=(i:Int)∧i≤p.1.2.2.2.length∧s.2.length=n∧∀t:Nat,t<n→s.2[t]? =some ((p.1.2.2.2.take i).filter fun x=>x.1==(t:Int)&&p.2.2.2.getD x.2.2.toNat false))
  (fun R=>R.length=n∧∀t:Nat,t<n→R[t]? =some (p.1.2.2.2.filter fun x=>x.1==(t:Int)&&p.2.2.2.getD x.2.2.toNat false)) p.1.2.2.2.length 0 (by omega) (fun i s hi ⟨e1,_,hl,hR⟩=>by
   obtain⟨c,R⟩:=s;dsimp only at e1 hl hR;subst e1;have hx:=hr.es _ (List.getElem_mem hi);obtain⟨q,hq⟩:∃q:Nat,(p.1.2.2.2[i]).1=(q:Int):=⟨(p.1.2.2.2[i]).1.toNat,by omega⟩;obtain⟨t,ht⟩:∃t:Nat,(p.1.2.2.2[i]).2.2=(t:Int):=⟨(p.1.2.2.2[i]).2.2.toNat,by omega⟩;have hqn:q<n:=by omega
   have htn:t<p.2.2.2.length:=by omega
   have hql:q<R.length:=by omega
   have hRq:R[q]=(p.1.2.2.2.take i).filter fun x=>x.1==(q:Int)&&p.2.2.2.getD x.2.2.toNat false:=by
    have:=hR q hqn;rw [yGe hql] at this;exact Option.some.inj this
   have hgt:p.2.2.2.getD (p.1.2.2.2[i]).2.2.toNat false=p.2.2.2[t]:=by
    rw [ht,Int.toNat_natCast,List.getD_eq_getElem?_getD,yGe htn,Option.getD_some]
   have htake:p.1.2.2.2.take (i+1)=p.1.2.2.2.take i++[p.1.2.2.2[i]]:=by rw [List.take_add_one,yGe hi];rfl
   left;rw [yS];dsimp only;rw [if_pos (ct_lt hi),ya hi,yOb,ht,ya htn,yOb];cases hgb:p.2.2.2[t] with
   | true=>
    have hlen:R[q].length≤1000000:=by rw [hRq];exact Nat.le_trans (List.length_filter_le _ _) (Nat.le_trans (List.length_take_le _ _) (by omega))
    rw [if_pos rfl,hq,ya hql,yOb,yr (by simp;omega),yOb,yOb,y9o hql,yOb,yR];dsimp only;rw [nxt (by omega)];refine⟨_,rfl,rfl,hi,by dsimp only;rw [List.length_set];exact hl,fun s' hs'=>?_⟩;dsimp only;rw [List.getElem?_set,htake,List.filter_append];by_cases e:q=s'
    ·subst e;rw [if_pos rfl,if_pos hql,hRq,List.filter_cons_of_pos (by rw [hq,hgt,hgb];simp)];rfl
    ·rw [if_neg e,List.filter_cons_of_neg (by rw [hq];simp;omega),List.filter_nil,List.append_nil];exact hR s' hs'
   | false=>
    rw [if_neg (by simp),yR];dsimp only;rw [nxt (by omega)];refine⟨_,rfl,rfl,hi,hl,fun s' hs'=>?_⟩;dsimp only;rw [htake,List.filter_append,List.filter_cons_of_neg (by rw [hgt,hgb];simp),List.filter_nil,List.append_nil];exact hR s' hs') (fun s ⟨e1,_,hl,hR⟩=>by
   obtain⟨c,R⟩:=s;dsimp only at e1 hl hR;subst e1;refine⟨R,?_,hl,fun t ht=>by have:=hR t ht;rwa [List.take_length] at this⟩;rw [yS];dsimp only;rw [if_neg ct_ge]) (Nat.zero_le _) (0,List.replicate n []) ⟨rfl,Nat.zero_le _,by simp,fun t ht=>by simp [List.getElem?_replicate,ht]⟩
 exact⟨R,h1,h2,h3⟩
theorem yho{a:AutT}{n:Nat}(hr:Right a n){g:List Bool}(hg:g.length=n)(p:AutT×List Int×List (Int×List Int)×List Bool)(hp1:p.1=a)(hp2:p.2.2.2=g):
  ∃r X,y2q p=some (r,X)∧CanOf (stK a g) a.1 a.2.2.1 r X∧X.length≤n∧∀s∈X,0≤s∧s<(n:Int)∧g.getD s.toNat false=true:=by
 subst hp1 hp2;have hnn:=hr.nn;have hnl:=hr.nl;have hl1:=hr.l1;have hal:p.1.1.length≤32:=Alp.len ⟨hr.ali,hr.alr⟩;have hcl:y2o p.1.1=some p.1.1:=y9Z (by omega);have hemp:∃r X,some ((p.1.1,(0:Int),([]:List Int),([]:List (Int×Int×Int))),([]:List Int))=some (r,X)∧CanOf (stK p.1 p.2.2.2) p.1.1 p.1.2.2.1 r X∧X.length≤n∧∀s∈X,0≤s∧s<(n:Int)∧p.2.2.2.getD s.toNat false=true:=
  ⟨_,[],rfl,⟨⟨rfl,by simp,hr.ali,hr.alr,List.Pairwise.nil,fun x hx=>(by cases hx),fun x hx=>(by cases hx),List.Pairwise.nil,hl1,by simp,by simp⟩,rfl,fun h=>absurd h (by simp),(Fnd.start (by simp)).disc List.nodup_nil List.Pairwise.nil (fun x hx=>(by cases hx)) hr.alr,fun i s hi=>by simp at hi⟩,by simp,fun s hs=>by cases hs⟩
 rw [y2q,hcl,yOb,hnn];by_cases h0:n=0
 ·subst h0;rw [if_pos (by simp),yOb,if_pos rfl];exact hemp
 have hg0:0<p.2.2.2.length:=by omega
 rw [if_neg (by simp;omega),show idx p.2.2.2 0=some p.2.2.2[0] from ya hg0,yOb,yOb];cases hb:p.2.2.2[0] with
 | false=>
  rw [if_pos (show (!false)=true from rfl)];exact hemp
 | true=>
 obtain⟨R,f1,f2,f3⟩:=yfx hr hg p rfl rfl;have hS0:SR (stK p.1 p.2.2.2) p.1.1 n 0 0 [0] (kput [] 0 0) []:=by
  refine⟨Fnd.start (by simp),fun s v hv=>?_,fun s hs=>?_,by simp,fun s hs=>?_,List.Pairwise.nil,fun x hx=>(by cases hx),fun x hx=>(by cases hx),by simp⟩
  ·rw [y5Z] at hv;split at hv
   ·rename_i e;subst e;cases hv;exact⟨0,rfl,rfl⟩
   ·cases hv
  ·rw [List.mem_singleton.1 hs,y5Z,if_pos rfl];rfl
  ·rw [List.mem_singleton.1 hs];omega
 obtain⟨o,g1,kn,g2,g3,g4,g5,g6⟩:=yd (f:=yQ p R) (fun i s=>s.1=(i:Int)∧i≤s.2.1.length∧SR (stK p.1 p.2.2.2) p.1.1 n i 0 s.2.1 s.2.2.1 s.2.2.2.2∧Inc s.2.2.2.1∧(∀x∈s.2.2.2.1,0≤x∧x<(i:Int))∧s.2.1[0]? =some 0∧∀(c:Nat) (x:Int),c<i→s.2.1[c]? =some x→((c:Int)∈s.2.2.2.1↔x∈p.1.2.2.1))
  (fun o=>∃kn,SR (stK p.1 p.2.2.2) p.1.1 n o.1.length 0 o.1 kn o.2.2∧Inc o.2.1∧(∀x∈o.2.1,0≤x∧x<(o.1.length:Int))∧o.1[0]? =some 0∧∀(c:Nat) (x:Int),o.1[c]? =some x→((c:Int)∈o.2.1↔x∈p.1.2.2.1)) n 0 (by omega) (fun i s hi ⟨e1,hle,hS,m1,m2,x0,mk⟩=>by
   obtain⟨k,X,kn,M,E⟩:=s;dsimp only at e1 hle hS m1 m2 x0 mk;subst e1;have hXl:=hS.len;have hMl:=y5N (n:=i) (lo:=0) m1 m2 (Int.le_refl _);by_cases hiq:i<X.length
   ·left;have hq:=hS.tr _ (List.getElem_mem hiq);obtain⟨s,hs⟩:∃s:Nat,X[i]=(s:Int):=⟨X[i].toNat,by omega⟩;have hsn:s<n:=by omega
    have hsR:s<R.length:=by omega
    have hRs:R[s]=p.1.2.2.2.filter fun x=>x.1==(s:Int)&&p.2.2.2.getD x.2.2.toNat false:=by
     have:=f3 s hsn;rw [yGe hsR] at this;exact Option.some.inj this
    obtain⟨kn',X',E',w1,w2,U,hU⟩:=yhn hr hal hS (by rw [yGe hiq,hs]) M hRs;have hpre:∀c,c<X.length→X'[c]? =X[c]? :=fun c hc=>by rw [hU,List.getElem?_append_left hc]
    have hXX:X.length≤X'.length:=by rw [hU];simp
    have hiX':i<X'.length:=by omega
    have hXi:X'[i]=(s:Int):=by
     have:=hpre i hiq;rw [yGe hiq,yGe hiX',hs] at this;exact Option.some.inj this
    have hml:p.1.2.2.1.length<4611686018427387904:=by have:=hr.l2;omega
    have hj1:∀M':List Int,Inc M'→(∀x∈M',0≤x∧x<((i+1:Nat):Int))→(∀x:Int,x≠(i:Int)→(x∈M'↔x∈M))→((i:Int)∈M'↔(s:Int)∈p.1.2.2.1)→
      ∃s',yN ((i:Int),X,kn,M,E) X' kn' M' E'=some (.inl s')∧s'.1=((i+1:Nat):Int)∧i+1≤s'.2.1.length∧SR (stK p.1 p.2.2.2) p.1.1 n (i+1) 0 s'.2.1 s'.2.2.1 s'.2.2.2.2∧Inc s'.2.2.2.1∧(∀x∈s'.2.2.2.1,0≤x∧x<((i+1:Nat):Int))∧s'.2.1[0]? =some 0∧∀(c:Nat) (x:Int),c<i+1→s'.2.1[c]? =some x→((c:Int)∈s'.2.2.2.1↔x∈p.1.2.2.1):=fun M' q1 q2 q3 q4=>by
     rw [yN];dsimp only;rw [nxt (by omega)];refine⟨_,rfl,rfl,by dsimp only;omega,w2,q1,q2,?_,fun c x hc hx=>?_⟩
     ·dsimp only;rw [hpre 0 (by omega)];exact x0
     ·dsimp only at hx ⊢;rw [hpre c (by omega)] at hx;by_cases e:c=i
      ·subst e;rw [yGe hiq,hs] at hx;cases hx;exact q4
      ·rw [q3 _ (by omega)];exact mk c x (by omega) hx
    rw [yQ];dsimp only;rw [if_pos (ct_lt hiq),ya hiq,yOb,hs,ya hsR,yOb,w1,yOb];dsimp only;rw [ya hiX',yOb,hXi,y2d hml,yOb];cases hm:hasB p.1.2.2.1 (s:Int) with
    | true=>
     rw [if_pos rfl,yr (by simp;omega),yOb];refine hj1 _ ?_ (fun x hx=>?_) (fun x hx=>?_) ⟨fun _=>yb.1 hm,fun _=>List.mem_append_right _ (List.mem_singleton.2 rfl)⟩
     ·unfold Inc at m1 ⊢;rw [List.pairwise_append];exact⟨m1,List.pairwise_singleton _ _,fun c hc b hb=>by rw [List.mem_singleton.1 hb];exact(m2 c hc).2⟩
     ·rcases List.mem_append.1 hx with hx|hx
      ·have:=m2 x hx;omega
      ·rw [List.mem_singleton.1 hx];omega
     ·rw [List.mem_append,List.mem_singleton];exact⟨fun h=>h.resolve_right hx,.inl⟩
    | false=>
     rw [if_neg (by simp)];refine hj1 M m1 (fun x hx=>by have:=m2 x hx;omega) (fun x _=>Iff.rfl) ⟨fun hx=>by have:=m2 _ hx;omega,fun hx=>?_⟩;rw [yb.2 hx] at hm;cases hm
   ·right;obtain rfl:i=X.length:=by omega
    refine⟨(X,M,E),?_,kn,hS,m1,m2,x0,fun c x hx=>mk c x (List.getElem?_eq_some_iff.1 hx).1 hx⟩;rw [yQ];dsimp only;rw [if_neg ct_ge]) (fun s ⟨e1,hle,hS,m1,m2,x0,mk⟩=>by
   obtain⟨k,X,kn,M,E⟩:=s;dsimp only at e1 hle hS m1 m2 x0 mk;subst e1;have hXl:=hS.len;have hnq:n=X.length:=by omega
   refine⟨(X,M,E),?_,kn,by dsimp only;rw [←hnq];exact hnq▸hS,m1,by dsimp only;rw [←hnq];exact m2,x0,fun c x hx=>mk c x (by have h8:c<X.length:=(List.getElem?_eq_some_iff.1 hx).1;omega) hx⟩;rw [yQ];dsimp only;rw [if_neg (by simp;omega)]) (Nat.zero_le _) (0,[0],kput [] 0 0,[],[]) ⟨rfl,by simp,hS0,List.Pairwise.nil,fun x hx=>(by cases hx),rfl,fun c x hc=>absurd hc (Nat.not_lt_zero _)⟩
 obtain⟨X,M,E⟩:=o;dsimp only at g2 g3 g4 g5 g6;have hXl:=g2.len;have hEl:=g2.el;have hMl:=y5N (n:=X.length) (lo:=0) g3 g4 (Int.le_refl _);have hX0:0<X.length:=(List.getElem?_eq_some_iff.1 g5).1;refine⟨(p.1.1,(X.length:Int),M,E),X,?_,⟨⟨rfl,by omega,hr.ali,hr.alr,g3,g4,fun x hx=>?_,g2.so,hl1,by dsimp only;omega,by dsimp only;omega⟩,rfl,fun _=>g5,g2.f.disc g2.nd g2.so g2.ea hr.alr,g6⟩,hXl,fun s hs=>?_⟩
 ·rw [if_neg (by simp),y9b (by omega) (by omega),yOb,Int.toNat_natCast,f1,yOb,g1];rfl
 ·obtain ⟨c,b,s,r,q1,q2,q3,q4,q5⟩:=g2.f.sn x hx;have e3:=(List.getElem?_eq_some_iff.1 q3).1;have e4:=(List.getElem?_eq_some_iff.1 q4).1;exact⟨by omega,by omega,by omega,by omega,g2.ea x hx⟩
 ·refine ⟨(g2.tr s hs).1,(g2.tr s hs).2,?_⟩;obtain⟨k,hk,rfl⟩:=List.getElem_of_mem hs;by_cases hk0:k=0
  ·subst hk0;rw [yGe hX0] at g5;rw [Option.some.inj g5,Int.toNat_zero,List.getD_eq_getElem?_getD,yGe hg0,Option.getD_some,hb]
  ·obtain ⟨x,hx,e⟩:=g2.f.cov k (by omega) hk;obtain⟨c,b,s,r,q1,q2,q3,q4,q5⟩:=g2.f.sn x hx;obtain rfl:b=k:=by omega
   rw [yGe hk] at q4;rw [Option.some.inj q4];exact((ycs hr).1 q5).2
inductive LiveG (a:AutT) (g:List Bool):Nat→Prop
 | mk {s:Nat}:g[s]? =some true→(s:Int)∈a.2.2.1→LiveG a g s
 | st {s t:Nat} {e:Int}:g[s]? =some true→((s:Int),e,(t:Int))∈a.2.2.2→LiveG a g t→LiveG a g s
structure DQs (a:AutT) (g:List Bool) (n:Nat) (Q d:List Int):Prop where
 dl:d.length=n
 qn:Q.Nodup
 qd:∀(k:Nat) (x:Int),Q[k]? =some x→∃s:Nat,x=(s:Int)∧s<n∧∃v:Int,d[s]? =some v∧0≤v∧v≤(k:Int)
 lv:∀(s:Nat) (v:Int),d[s]? =some v→0≤v→LiveG a g s
theorem DQs.len{a:AutT}{g:List Bool}{n:Nat}{Q d:List Int}(h:DQs a g n Q d):Q.length≤n:=by
 have hr:∀x∈Q,0≤x∧x<(n:Int):=fun x hx=>by
  obtain⟨k,hk,rfl⟩:=List.getElem_of_mem hx;obtain⟨s,e,h1,_⟩:=h.qd k _ (yGe hk);omega
 have:=y8g n (Q.map Int.toNat) (by
  unfold List.Nodup;rw [List.pairwise_map];refine h.qn.imp_of_mem fun {a b} ha hb hab=>?_;have h1:=hr a ha;have h2:=hr b hb;omega) (fun x hx=>by
  obtain⟨y,hy,rfl⟩:=List.mem_map.1 hx;have:=hr y hy;omega)
 simpa using this
theorem DQs.add{a:AutT}{g:List Bool}{n:Nat}{Q d:List Int}(h:DQs a g n Q d){s:Nat}(hs:s<n){v0 v:Int}(hd:d[s]? =some v0)(hv0:v0<0)(v1:0≤v)(v2:v≤(Q.length:Int))(hl:LiveG a g s):DQs a g n (Q++[(s:Int)]) (d.set s v):=by
 have hsd:s<d.length:=by rw [h.dl];exact hs
 refine⟨by rw [List.length_set];exact h.dl,?_,fun k x hx=>?_,fun t w hw h0=>?_⟩
 ·unfold List.Nodup;rw [List.pairwise_append];refine⟨h.qn,List.pairwise_singleton _ _,fun x hx y hy e=>?_⟩;rw [List.mem_singleton.1 hy] at e;subst e;obtain⟨k,hk,e⟩:=List.getElem_of_mem hx;obtain⟨s',e1,_,w,e2,e3,_⟩:=h.qd k _ (yGe hk);obtain rfl:s'=s:=by omega
  rw [hd] at e2;cases e2;omega
 ·by_cases hk:k<Q.length
  ·rw [List.getElem?_append_left hk] at hx;obtain⟨s',e1,e2,w,e3,e4,e5⟩:=h.qd k x hx;refine⟨s',e1,e2,?_⟩;rw [List.getElem?_set];by_cases e:s=s'
   ·subst e;rw [hd] at e3;cases e3;omega
   ·rw [if_neg e];exact⟨w,e3,e4,e5⟩
  ·rw [List.getElem?_append_right (by omega)] at hx;have hk2:k-Q.length=0:=by
    have:=(List.getElem?_eq_some_iff.1 hx).1;simp at this;omega
   rw [hk2] at hx;cases hx;exact⟨s,rfl,hs,v,by rw [List.getElem?_set,if_pos rfl,if_pos hsd],v1,by omega⟩
 ·rw [List.getElem?_set] at hw;by_cases e:s=t
  ·subst e;exact hl
  ·rw [if_neg e] at hw;exact h.lv t w hw h0
def IncOk(a:AutT)(n:Nat)(m:List (Int×List Int)):Prop:=∀(t:Int),((kget m t).getD []).length≤a.2.2.2.length∧∀x∈(kget m t).getD [],0≤x∧x<(n:Int)∧∃e,(x,e,t)∈a.2.2.2
section
variable{a:AutT}{n:Nat}{g:List Bool}{u:List Int}{m:List (Int×List Int)}
theorem yfy(hr:Right a n)(hg:g.length=n):∃Q d,iter (y1a (a,u,m,g)) (0,[],List.replicate n (-1))=some (Q,d)∧DQs a g n Q d:=by
 have hl2:=hr.l2;have hnl:=hr.nl;obtain⟨o,h1,h2⟩:=yd (f:=y1a (a,u,m,g)) (fun i s=>s.1=(i:Int)∧i≤a.2.2.1.length∧DQs a g n s.2.1 s.2.2∧∀(t:Nat) (v:Int),s.2.2[t]? =some v→0≤v→∃k,k<i∧a.2.2.1[k]? =some (t:Int)) (fun o=>DQs a g n o.1 o.2) a.2.2.1.length 0 (by omega) (fun i s hi ⟨e1,_,hd,hm⟩=>by
   obtain⟨c,Q,d⟩:=s;dsimp only at e1 hd hm;subst e1;have hQl:=hd.len;have hx:=hr.msr _ (List.getElem_mem hi);obtain⟨t,ht⟩:∃t:Nat,a.2.2.1[i]=(t:Int):=⟨(a.2.2.1[i]).toNat,by omega⟩;have htg:t<g.length:=by omega
   have htd:t<d.length:=by rw [hd.dl];omega
   left;rw [y1a];dsimp only;rw [if_pos (ct_lt hi),ya hi,yOb,ht,ya htg,yOb];cases hgb:g[t] with
   | true=>
    have hgt:g[t]? =some true:=by rw [yGe htg,hgb]
    have hneg:d[t]<0:=by
     refine Int.not_le.1 fun h0=>?_;obtain⟨k,hk,e⟩:=hm t _ (yGe htd) h0;have hkl:k<a.2.2.1.length:=by omega
     rw [yGe hkl] at e;have:=List.pairwise_iff_getElem.1 hr.msi k i hkl hi hk;rw [Option.some.inj e,ht] at this;omega
    rw [if_pos rfl,ya htd,yOb,y9o htd,yOb,yr (by simp;omega),yOb,yZ];dsimp only;rw [nxt (by omega)];refine⟨_,rfl,rfl,hi,hd.add (by omega) (yGe htd) hneg (Int.le_refl _) (by omega) (.mk hgt (by rw [←ht];exact List.getElem_mem hi)),fun s' v hv h0=>?_⟩;dsimp only at hv;rw [List.getElem?_set] at hv;by_cases e:t=s'
    ·subst e;exact⟨i,by omega,by rw [yGe hi,ht]⟩
    ·rw [if_neg e] at hv;obtain⟨k,hk,e2⟩:=hm s' v hv h0;exact⟨k,by omega,e2⟩
   | false=>
    rw [if_neg (by simp),yZ];dsimp only;rw [nxt (by omega)];refine⟨_,rfl,rfl,hi,hd,fun s' v hv h0=>?_⟩;obtain⟨k,hk,e2⟩:=hm s' v hv h0;exact⟨k,by omega,e2⟩) (fun s ⟨e1,_,hd,hm⟩=>by
   obtain⟨c,Q,d⟩:=s;dsimp only at e1 hd;subst e1;refine⟨(Q,d),?_,hd⟩;rw [y1a];dsimp only;rw [if_neg ct_ge]) (Nat.zero_le _) (0,[],List.replicate n (-1)) ⟨rfl,Nat.zero_le _,⟨by simp,List.nodup_nil,fun k x hx=>by simp at hx,fun s v hv h0=>by
    rw [List.getElem?_replicate] at hv;split at hv
    ·cases hv;omega
    ·cases hv⟩,fun s v hv h0=>by
    dsimp only at hv;rw [List.getElem?_replicate] at hv;split at hv
    ·cases hv;omega
    ·cases hv⟩
 exact⟨o.1,o.2,h1,h2⟩
theorem yij(hr:Right a n)(hg:g.length=n)(hm:IncOk a n m){i:Nat}{Q d:List Int}(hd:DQs a g n Q d)(hi:i<Q.length)(z:List Int×List Int):
  ∃Q' d',iter (yX (a,u,m,g) ((i:Int),z) Q[i]) (0,Q,d)=some (Q',d')∧DQs a g n Q' d'∧Q.length≤Q'.length:=by
 have hl3:=hr.l3;have hnl:=hr.nl;obtain⟨ml,mm⟩:=hm Q[i];obtain⟨q,hq,hqn,vq,hvq,hvq0,_⟩:=hd.qd i _ (yGe hi);have hlq:=hd.lv q vq hvq hvq0;obtain⟨o,h1,h2,h3⟩:=yd (f:=yX (a,u,m,g) ((i:Int),z) Q[i]) (fun k s=>s.1=(k:Int)∧k≤((kget m Q[i]).getD []).length∧DQs a g n s.2.1 s.2.2∧Q.length≤s.2.1.length) (fun o=>DQs a g n o.1 o.2∧Q.length≤o.1.length) ((kget m Q[i]).getD []).length 0 (by omega) (fun k s hk ⟨e1,_,hd1,hle⟩=>by
   obtain⟨c,Q1,d1⟩:=s;dsimp only at e1 hd1 hle;subst e1;have hQl:=hd1.len;obtain⟨x0,x1,e,hxe⟩:=mm _ (List.getElem_mem hk);obtain⟨t,ht⟩:∃t:Nat,((kget m Q[i]).getD [])[k]=(t:Int):=⟨(((kget m Q[i]).getD [])[k]).toNat,by omega⟩;rw [ht] at hxe x1;have htg:t<g.length:=by omega
   have htd:t<d1.length:=by rw [hd1.dl];omega
   have hi1:i<Q1.length:=by omega
   have hj1:∀Q2 d2,yW ((k:Int),Q1,d1) Q2 d2=some (.inl (((k+1:Nat):Int),Q2,d2)):=fun Q2 d2=>by
    rw [yW];dsimp only;rw [nxt (by omega)]
   left;rw [yX];dsimp only;rw [if_pos (ct_lt hk),ya hk,yOb,ht,ya htg,yOb,ya htd];cases hgb:g[t] with
   | true=>
    have hgt:g[t]? =some true:=by rw [yGe htg,hgb]
    rw [if_pos rfl,yOb,yOb];by_cases hneg:d1[t]<0
    ·obtain ⟨q1,e1,e2,v1,e3,e4,e5⟩:=hd1.qd i _ (yGe hi1);have hq1d:q1<d1.length:=by rw [hd1.dl];exact e2
     have hv1:d1[q1]=v1:=by
      rw [yGe hq1d] at e3;exact Option.some.inj e3
     rw [if_pos (by simpa using hneg),ya hi1,yOb,e1,ya hq1d,yOb,yOb,y9o htd,yOb,yr (by simp;omega),yOb,hj1];refine⟨_,rfl,rfl,hk,hd1.add (by omega) (yGe htd) hneg ?_ ?_ (.st (e:=e) hgt ?_ hlq),by dsimp only;simp;omega⟩
     ·rw [hv1,W_of (by omega) (by omega)];omega
     ·rw [hv1,W_of (by omega) (by omega)];omega
     ·rw [←hq];exact hxe
    ·rw [if_neg (by simpa using hneg),hj1];exact⟨_,rfl,rfl,hk,hd1,hle⟩
   | false=>
    rw [if_neg (by simp),yOb,if_neg (by simp),hj1];exact⟨_,rfl,rfl,hk,hd1,hle⟩) (fun s ⟨e1,_,hd1,hle⟩=>by
   obtain⟨c,Q1,d1⟩:=s;dsimp only at e1 hd1 hle;subst e1;refine⟨(Q1,d1),?_,hd1,hle⟩;rw [yX];dsimp only;rw [if_neg ct_ge]) (Nat.zero_le _) (0,Q,d) ⟨rfl,Nat.zero_le _,hd,Nat.le_refl _⟩
 exact⟨o.1,o.2,h1,h2,h3⟩
theorem yfe(hr:Right a n)(hg:g.length=n)(hm:IncOk a n m):∃d,y1r (a,u,m,g)=some d∧d.length=n∧∀(s:Nat) (v:Int),d[s]? =some v→0≤v→LiveG a g s:=by
 have hnn:=hr.nn;have hnl:=hr.nl;have hf:iter (y1b (List.replicate n 0)) (0,List.replicate n 0)=some (List.replicate n (-1)):=by
  obtain⟨o,g1,rfl⟩:=yd (f:=y1b (List.replicate n 0)) (fun i s=>i≤n∧s=((i:Int),List.replicate i (-1)++List.replicate (n-i) 0)) (fun o=>o=List.replicate n (-1)) n 0 (by omega) (fun i s hi ⟨_,e1⟩=>by
    subst e1;refine .inl ⟨(((i+1:Nat):Int),List.replicate (i+1) (-1)++List.replicate (n-(i+1)) 0),?_,hi,rfl⟩;rw [y1b];dsimp only;rw [if_pos (by simp;omega),ya (by simp;omega),yOb,y9o (by simp;omega),yOb,nxt (by omega)];rw [List.set_append_right _ _ (by simp),List.length_replicate,Nat.sub_self,show n-i=(n-(i+1))+1 by omega,List.replicate_succ,List.set_cons_zero,List.replicate_succ',List.append_assoc];rfl) (fun s ⟨_,e1⟩=>by
    subst e1;refine⟨_,?_,rfl⟩;rw [y1b];dsimp only;rw [if_neg (by simp),Nat.sub_self];simp) (Nat.zero_le _) (0,List.replicate n 0) ⟨Nat.zero_le _,by simp⟩
  exact g1
 obtain⟨Q,d,h1,h2⟩:=yfy (u:=u) (m:=m) hr hg;obtain⟨o,h3,h4,h5⟩:=yd (f:=yY (a,u,m,g)) (fun i s=>s.1=(i:Int)∧i≤s.2.1.length∧DQs a g n s.2.1 s.2.2) (fun o=>o.length=n∧∀(s:Nat) (v:Int),o[s]? =some v→0≤v→LiveG a g s) n 0 (by omega) (fun i s hi ⟨e1,hle,hd⟩=>by
   obtain⟨c,Q,d⟩:=s;dsimp only at e1 hd hle;subst e1;by_cases hiq:i<Q.length
   ·left;obtain⟨Q',d',w1,w2,w3⟩:=yij (u:=u) hr hg hm hd hiq (Q,d);rw [yY];dsimp only;rw [if_pos (ct_lt hiq),ya hiq,yOb,w1,yOb,nxt (by omega)];exact⟨_,rfl,rfl,by dsimp only;omega,w2⟩
   ·right;obtain rfl:i=Q.length:=by omega
    refine⟨d,?_,hd.dl,hd.lv⟩;rw [yY];dsimp only;rw [if_neg ct_ge]) (fun s ⟨e1,hle,hd⟩=>by
   obtain⟨c,Q,d⟩:=s;dsimp only at e1 hd hle;subst e1;have:=hd.len;refine⟨d,?_,hd.dl,hd.lv⟩;rw [yY];dsimp only;rw [if_neg (by simp;omega)]) (Nat.zero_le _) (0,Q,d) ⟨rfl,Nat.zero_le _,h2⟩
 refine⟨o,?_,h4,h5⟩;rw [y1r];dsimp only;rw [hnn,y9b (by omega) (by omega),yOb,Int.toNat_natCast,hf,yOb,h1,yOb,h3];rfl
end
theorem ygo :∀{g g':List Bool},g'.length=g.length→(∀s:Nat,g'[s]? =some true→g[s]? =some true)→g'.count true≤g.count true
 | [],[],_,_=>Nat.le_refl _
 | [],_::_,h,_=>by simp at h
 | _::_,[],h,_=>by simp at h
 | x::g,y::g',h,hs=>by
  have ih:=ygo (g:=g) (g':=g') (by simpa using h) fun s hs'=>hs (s+1) (by simpa using hs');have h0:=hs 0;cases y with
  | true=>
   have:x=true:=by simpa using h0 rfl
   subst this;simp [ih]
  | false=>cases x <;> simp <;> omega
theorem ygp :∀{g g':List Bool},g'.length=g.length→(∀s:Nat,g'[s]? =some true→g[s]? =some true)→∀{s:Nat},g[s]? =some true→g'[s]? ≠some true→g'.count true<g.count true
 | [],[],_,_,s,h,_=>by simp at h
 | [],_::_,h,_,_,_,_=>by simp at h
 | _::_,[],h,_,_,_,_=>by simp at h
 | x::g,y::g',h,hs,0,h1,h2=>by
  have:=ygo (g:=g) (g':=g') (by simpa using h) fun s hs'=>hs (s+1) (by simpa using hs');have hx:x=true:=by simpa using h1
  subst hx;cases y with
  | true=>exact absurd rfl h2
  | false=>simp;omega
 | x::g,y::g',h,hs,s+1,h1,h2=>by
  have:=ygp (g:=g) (g':=g') (by simpa using h) (fun s hs'=>hs (s+1) (by simpa using hs')) (s:=s) (by simpa using h1) (by simpa using h2);have h0:=hs 0;cases y with
  | true=>
   have hx:x=true:=by simpa using h0 rfl
   subst hx;simp;omega
  | false=>cases x <;> simp <;> omega
theorem yfz{L:List (Int×Int×Int×Int)}(h:∀x∈L,0≤x.1∧x.1<4294967296)(hl:L.length≤4294967296):∃r,y2x L=some r:=by
 unfold y2x;by_cases h0:L= []
 ·subst h0;rw [dif_neg (by simp),if_pos rfl];exact⟨_,rfl⟩
 ·rw [dif_pos ⟨h,hl,List.length_pos_iff.2 h0⟩];exact⟨_,rfl⟩
def RemIn(g:List Bool)(L:List (Int×Int×Int×Int)):Prop:=∀x∈L,∃s:Nat,x.1=(s:Int)∧g[s]? =some true
theorem RemIn.app{g:List Bool}{L:List (Int×Int×Int×Int)}(h:RemIn g L){x:Int×Int×Int×Int}{s:Nat}(hx:x.1=(s:Int))(hg:g[s]? =some true):RemIn g (L++[x]):=fun y hy=>by
 rcases List.mem_append.1 hy with hy|hy
 ·exact h y hy
 ·rw [List.mem_singleton.1 hy];exact⟨s,hx,hg⟩
section
variable{a:AutT}{n:Nat}{g:List Bool}{u:List Int}{m:List (Int×List Int)}
theorem yik(hr:Right a n)(hg:g.length=n)(hu:u.length<4611686018427387904)(k:Int):∃L,y3S (a,u,m,g) k=some L∧L.length≤a.2.2.2.length∧RemIn g L:=by
 have hl3:=hr.l3;have hnl:=hr.nl;obtain⟨o,h1,h2,h3⟩:=yd (f:=y2U (a,u,m,g) k) (fun i s=>s.1=(i:Int)∧i≤a.2.2.2.length∧s.2.length≤i∧RemIn g s.2) (fun o=>o.length≤a.2.2.2.length∧RemIn g o) a.2.2.2.length 0 (by omega) (fun i s hi ⟨e1,_,hL,hR⟩=>by
   obtain⟨c,L⟩:=s;dsimp only at e1 hL hR;subst e1;have hx:=hr.es _ (List.getElem_mem hi);obtain⟨q,hq⟩:∃q:Nat,(a.2.2.2[i]).1=(q:Int):=⟨(a.2.2.2[i]).1.toNat,by omega⟩;obtain⟨t,ht⟩:∃t:Nat,(a.2.2.2[i]).2.2=(t:Int):=⟨(a.2.2.2[i]).2.2.toNat,by omega⟩;have hqg:q<g.length:=by omega
   have htg:t<g.length:=by omega
   have hj1:∀L':List (Int×Int×Int×Int),L'.length≤i+1→RemIn g L'→∃s',y1g ((i:Int),L) L'=some (.inl s')∧s'.1=((i+1:Nat):Int)∧i+1≤a.2.2.2.length∧s'.2.length≤i+1∧RemIn g s'.2:=fun L' g1 g2=>by
    rw [y1g];dsimp only;rw [nxt (by omega)];exact⟨_,rfl,rfl,hi,g1,g2⟩
   have hj3:g[q]? =some true→∀b,∃s',y1O k ((i:Int),L) a.2.2.2[i] b=some (.inl s')∧s'.1=((i+1:Nat):Int)∧i+1≤a.2.2.2.length∧s'.2.length≤i+1∧RemIn g s'.2:=fun hgq b=>by
    rw [y1O];cases b with
    | true=>
     rw [if_pos rfl];exact hj1 _ (by dsimp only;omega) hR
    | false=>
     rw [if_neg (by simp)];dsimp only;rw [yr (by simp;omega),yOb];exact hj1 _ (by simp;omega) (hR.app hq hgq)
   left;rw [y2U];dsimp only;rw [if_pos (ct_lt hi),ya hi,yOb,hq,ya hqg,yOb];cases hgb:g[q] with
   | false=>
    rw [if_pos (show (!false)=true from rfl),yI,if_pos rfl];exact hj1 _ (by dsimp only;omega) hR
   | true=>
    have hgq:g[q]? =some true:=by rw [yGe hqg,hgb]
    rw [if_neg (by simp),ht,ya htg,yOb];cases g[t] with
    | true=>
     rw [if_pos rfl,yI,if_pos rfl];exact hj1 _ (by dsimp only;omega) hR
    | false=>
     rw [if_neg (by simp),y2d hu,yOb,yI];cases hasB u (a.2.2.2[i]).2.1 with
     | false=>
      rw [if_pos (show (!false)=true from rfl)];exact hj1 _ (by dsimp only;omega) hR
     | true=>
      rw [if_neg (by simp)];dsimp only;by_cases hL0:0<L.length
      ·rw [if_pos (by rw [decide_eq_true_eq];omega),show W ((L.length:Int)-1)=((L.length-1:Nat):Int) by rw [W_of (by omega) (by omega)];omega,ya (by omega),yOb];exact hj3 hgq _
      ·rw [if_neg (by rw [decide_eq_true_eq];omega)];exact hj3 hgq _) (fun s ⟨e1,_,hL,hR⟩=>by
   obtain⟨c,L⟩:=s;dsimp only at e1 hL hR;subst e1;refine⟨L,?_,hL,hR⟩;rw [y2U];dsimp only;rw [if_neg ct_ge]) (Nat.zero_le _) (0,[]) ⟨rfl,Nat.zero_le _,Nat.zero_le _,fun x hx=>by cases hx⟩
 exact⟨o,by rw [y3S,h1];rfl,h2,h3⟩
theorem yfA(hr:Right a n)(hg:g.length=n)(hm:IncOk a n m)(k:Int):∃L,y2V (a,u,m,g) k=some L∧L.length≤n∧RemIn g L∧(L= []→∀s:Nat,g[s]? =some true→LiveG a g s):=by
 have hnl:=hr.nl;obtain⟨d,d1,d2,d3⟩:=yfe (u:=u) hr hg hm;obtain⟨o,h1,h2,h3,h4⟩:=yd (f:=y2p (a,u,m,g) k d) (fun i s=>s.1=(i:Int)∧i≤n∧s.2.length≤i∧RemIn g s.2∧(s.2= []→∀t:Nat,t<i→g[t]? =some true→LiveG a g t)) (fun o=>o.length≤n∧RemIn g o∧(o= []→∀t:Nat,t<n→g[t]? =some true→LiveG a g t)) n 0 (by omega) (fun i s hi ⟨e1,_,hL,hR,hv⟩=>by
   obtain⟨c,L⟩:=s;dsimp only at e1 hL hR hv;subst e1;have hid:i<d.length:=by omega
   have hig:i<g.length:=by omega
   left;rw [y2p];dsimp only;rw [if_pos (by simp;omega),ya hid,yOb,ya hig,yOb];by_cases hb:g[i]=true∧d[i]<0
   ·rw [if_pos (by simp;exact hb),yr (by simp;omega),yOb,y1k];dsimp only;rw [nxt (by omega)];exact⟨_,rfl,rfl,hi,by simp;omega,hR.app rfl (by rw [yGe hig,hb.1]),fun h=>by simp at h⟩
   ·rw [if_neg (by simp;exact fun h=>Int.not_lt.1 fun h2=>hb ⟨h,h2⟩),y1k];dsimp only;rw [nxt (by omega)];refine⟨_,rfl,rfl,hi,by dsimp only;omega,hR,fun h t ht hgt=>?_⟩;by_cases e:t=i
    ·subst e;refine d3 t _ (yGe hid) (Int.not_lt.1 fun h2=>hb ⟨?_,h2⟩);rw [yGe hig] at hgt;exact Option.some.inj hgt
    ·exact hv h t (by omega) hgt) (fun s ⟨e1,_,hL,hR,hv⟩=>by
   obtain⟨c,L⟩:=s;dsimp only at e1 hL hR hv;subst e1;refine⟨L,?_,hL,hR,hv⟩;rw [y2p];dsimp only;rw [if_neg (by simp;omega)]) (Nat.zero_le _) (0,[]) ⟨rfl,Nat.zero_le _,Nat.zero_le _,fun x hx=>by(cases hx),fun _ t ht=>absurd ht (Nat.not_lt_zero _)⟩
 refine⟨o,by rw [y2V,d1,yOb,h1];rfl,h2,h3,fun h s hs=>h4 h s ?_ hs⟩;rw [←hg];exact(List.getElem?_eq_some_iff.1 hs).1
theorem yem(hr:Right a n)(hg:g.length=n)(hm:IncOk a n m)(hu:u.length<4611686018427387904)(k:Int):∃L,y3T (a,u,m,g) k true=some L∧L.length≤1000000∧RemIn g L∧(L= []→∀s:Nat,g[s]? =some true→LiveG a g s):=by
 have hl3:=hr.l3;have hnl:=hr.nl;obtain⟨L,h1,h2,h3⟩:=yik (m:=m) hr hg hu k;obtain⟨L',w1,w2,w3,w4⟩:=yfA (u:=u) hr hg hm k;rw [y3T,h1,yOb];by_cases h0:0<L.length
 ·rw [if_pos (by rw [decide_eq_true (show (L.length:Int)>0 by omega)];rfl)];exact⟨L,rfl,by omega,h3,fun h=>by rw [h] at h0;simp at h0⟩
 ·rw [if_neg (by rw [decide_eq_false (show ¬(L.length:Int)>0 by omega)];simp),w1];exact⟨L',rfl,by omega,w3,w4⟩
theorem ygq(hr:Right a n){f:List Int}(hf:∀x∈f,0≤x∧x<(n:Int))(hfl:f.length≤1000000)(u:List Int):∃m g,y6l a f u=some (a,u,m,g)∧g.length=n∧IncOk a n m:=by
 have hnn:=hr.nn;have hnl:=hr.nl;have hl3:=hr.l3;have h1:iter (y4d (List.replicate n false)) (0,List.replicate n false)=some (List.replicate n true):=by
  obtain⟨o,g1,rfl⟩:=yd (f:=y4d (List.replicate n false)) (fun i s=>i≤n∧s=((i:Int),List.replicate i true++List.replicate (n-i) false)) (fun o=>o=List.replicate n true) n 0 (by omega) (fun i s hi ⟨_,e1⟩=>by
    subst e1;refine .inl ⟨(((i+1:Nat):Int),List.replicate (i+1) true++List.replicate (n-(i+1)) false),?_,hi,rfl⟩;rw [y4d];dsimp only;rw [if_pos (by simp;omega),ya (by simp;omega),yOb,y9o (by simp;omega),yOb,nxt (by omega)];rw [List.set_append_right _ _ (by simp),List.length_replicate,Nat.sub_self,show n-i=(n-(i+1))+1 by omega,List.replicate_succ,List.set_cons_zero,List.replicate_succ',List.append_assoc];rfl) (fun s ⟨_,e1⟩=>by
    subst e1;refine⟨_,?_,rfl⟩;rw [y4d];dsimp only;rw [if_neg (by simp),Nat.sub_self];simp) (Nat.zero_le _) (0,List.replicate n false) ⟨Nat.zero_le _,by simp⟩
  exact g1
 obtain⟨g,h2,h3⟩:=yd (f:=y5q f) (fun i s=>s.1=(i:Int)∧i≤f.length∧s.2.length=n) (fun o=>o.length=n) f.length 0 (by omega) (fun i s hi ⟨e1,_,hl⟩=>by
   obtain⟨c,g⟩:=s;dsimp only at e1 hl;subst e1;have hx:=hf _ (List.getElem_mem hi);obtain⟨t,ht⟩:∃t:Nat,f[i]=(t:Int):=⟨(f[i]).toNat,by omega⟩;have htg:t<g.length:=by omega
   left;rw [y5q];dsimp only;rw [if_pos (ct_lt hi),ya hi,yOb,ht,ya htg,yOb,y9o htg,yOb,nxt (by omega)];exact⟨_,rfl,rfl,hi,by dsimp only;rw [List.length_set];exact hl⟩) (fun s ⟨e1,_,hl⟩=>by
   obtain⟨c,g⟩:=s;dsimp only at e1 hl;subst e1;refine⟨g,?_,hl⟩;rw [y5q];dsimp only;rw [if_neg ct_ge]) (Nat.zero_le _) (0,List.replicate n true) ⟨rfl,Nat.zero_le _,by simp⟩
 obtain⟨m,h4,h5⟩:=yd (f:=y5p a) (fun i s=>s.1=(i:Int)∧i≤a.2.2.2.length∧∀t,((kget s.2 t).getD []).length≤i∧∀x∈(kget s.2 t).getD [],0≤x∧x<(n:Int)∧∃e,(x,e,t)∈a.2.2.2) (fun o=>IncOk a n o) a.2.2.2.length 0 (by omega) (fun i s hi ⟨e1,_,hm⟩=>by
   obtain⟨c,m⟩:=s;dsimp only at e1 hm;subst e1;have hx:=hr.es _ (List.getElem_mem hi);obtain⟨m1,m2⟩:=hm (a.2.2.2[i]).2.2;left;rw [y5p];dsimp only;rw [if_pos (ct_lt hi),ya hi,yOb,yr (by simp;omega),yOb,nxt (by omega)];refine⟨_,rfl,rfl,hi,fun t=>?_⟩;dsimp only;rw [y5Z];by_cases e:t=(a.2.2.2[i]).2.2
   ·subst e;rw [if_pos rfl,Option.getD_some];refine⟨by simp;omega,fun x hx'=>?_⟩;rcases List.mem_append.1 hx' with hx'|hx'
    ·exact m2 x hx'
    ·rw [List.mem_singleton.1 hx'];exact⟨hx.1,hx.2.1,(a.2.2.2[i]).2.1,List.getElem_mem hi⟩
   ·rw [if_neg e];exact⟨by have:=(hm t).1;omega,(hm t).2⟩) (fun s ⟨e1,_,hm⟩=>by
   obtain⟨c,m⟩:=s;dsimp only at e1 hm;subst e1;refine⟨m,?_,hm⟩;rw [y5p];dsimp only;rw [if_neg ct_ge]) (Nat.zero_le _) (0,[]) ⟨rfl,Nat.zero_le _,fun t=>⟨by simp [kget],fun x hx=>by simp [kget] at hx⟩⟩
 refine⟨m,g,?_,h3,h5⟩;rw [y6l,hnn,y9b (by omega) (by omega),yOb,Int.toNat_natCast,h1,yOb,h2,yOb,h4];rfl
theorem yhp(hn:n≤4096)(hg:g.length=n){L:List (Int×Int×Int×Int)}(hL:RemIn g L)(hl:L.length≤1000000):∃g',iter (y3I L) (0,g)=some g'∧g'.length=n∧(∀s:Nat,g'[s]? =some true→g[s]? =some true)∧∀(k s:Nat) (h:k<L.length),(L[k]).1=(s:Int)→g'[s]? ≠some true:=by
 obtain⟨o,h1,h2,h3,h4⟩:=yd (f:=y3I L) (fun i s=>s.1=(i:Int)∧i≤L.length∧s.2.length=n∧(∀t:Nat,s.2[t]? =some true→g[t]? =some true)∧∀(k t:Nat) (h:k<L.length),k<i→(L[k]).1=(t:Int)→s.2[t]? ≠some true) (fun o=>o.length=n∧(∀t:Nat,o[t]? =some true→g[t]? =some true)∧∀(k t:Nat) (h:k<L.length),(L[k]).1=(t:Int)→o[t]? ≠some true) L.length 0 (by omega) (fun i s hi ⟨e1,_,q1,q2,q3⟩=>by
   obtain⟨c,g1⟩:=s;dsimp only at e1 q1 q2 q3;subst e1;obtain⟨t,ht,hgt⟩:=hL _ (List.getElem_mem hi);have htl:t<g1.length:=by
    have:=(List.getElem?_eq_some_iff.1 hgt).1;omega
   left;rw [y3I];dsimp only;rw [if_pos (ct_lt hi),ya hi,yOb,ht,ya htl,yOb,y9o htl,yOb,nxt (by omega)];refine⟨_,rfl,rfl,hi,by dsimp only;rw [List.length_set];exact q1,fun s' hs'=>?_,fun k s' hk hki e=>?_⟩
   ·dsimp only at hs';rw [List.getElem?_set] at hs';by_cases e2:t=s'
    ·subst e2;rw [if_pos rfl,if_pos htl] at hs';cases hs'
    ·rw [if_neg e2] at hs';exact q2 s' hs'
   ·dsimp only;rw [List.getElem?_set];by_cases e2:t=s'
    ·subst e2;rw [if_pos rfl,if_pos htl];simp
    ·rw [if_neg e2];by_cases e3:k=i
     ·subst e3;omega
     ·exact q3 k s' hk (by omega) e) (fun s ⟨e1,_,q1,q2,q3⟩=>by
   obtain⟨c,g1⟩:=s;dsimp only at e1 q1 q2 q3;subst e1;refine⟨g1,?_,q1,q2,fun k t h e=>q3 k t h h e⟩;rw [y3I];dsimp only;rw [if_neg ct_ge]) (Nat.zero_le _) (0,g) ⟨rfl,Nat.zero_le _,hg,fun t h=>h,fun k t h hk=>absurd hk (Nat.not_lt_zero _)⟩
 exact⟨o,h1,h2,h3,h4⟩
end
section
variable{a:AutT}{n:Nat}{u f:List Int}
structure SynOk (a:AutT) (n:Nat) (g:List Bool) (r:AutT) (X:List Int):Prop where
 gl:g.length=n
 can:CanOf (stK a g) a.1 a.2.2.1 r X
 le:X.length≤n
 kept:∀s∈X,0≤s∧s<(n:Int)∧g.getD s.toNat false=true
 live:∀s:Nat,g[s]? =some true→LiveG a g s
theorem ygr(hr:Right a n)(hn:n≤40)(hf:∀x∈f,0≤x∧x<(n:Int))(hfl:f.length≤1000000)(hu:u.length<4611686018427387904):
  ∃z k g r X,y5T a f u true=some (z,k,r,X)∧SynOk a n g r X:=by
 obtain⟨m,g0,s1,s2,s3⟩:=ygq hr hf hfl u;obtain⟨o1,h1,h2,h3⟩:=yd (f:=y5f f) (fun i s=>s.1=(i:Int)∧i≤f.length∧s.2.1.length≤i∧∀x∈s.2.1,0≤x.1∧x.1<(n:Int)) (fun o=>o.1.length≤f.length∧∀x∈o.1,0≤x.1∧x.1<(n:Int)) f.length 0 (by omega) (fun i s hi ⟨e1,_,q1,q2⟩=>by
   obtain⟨c,L,w⟩:=s;dsimp only at e1 q1 q2;subst e1;left;rw [y5f];dsimp only;rw [if_pos (ct_lt hi),ya hi,yOb,yr (by simp;omega),yOb,nxt (by omega)];refine⟨_,rfl,rfl,hi,by simp;omega,fun x hx=>?_⟩;dsimp only at hx;rcases List.mem_append.1 hx with hx|hx
   ·exact q2 x hx
   ·rw [List.mem_singleton.1 hx];exact hf _ (List.getElem_mem hi)) (fun s ⟨e1,_,q1,q2⟩=>by
   obtain⟨c,L,w⟩:=s;dsimp only at e1 q1 q2;subst e1;refine⟨(L,w),?_,q1,q2⟩;rw [y5f];dsimp only;rw [if_neg ct_ge]) (Nat.zero_le _) (0,[],0) ⟨rfl,Nat.zero_le _,Nat.zero_le _,fun x hx=>by cases hx⟩
 obtain⟨o2,h4,h5,h6,h7,h8⟩:=yd (f:=y5e true (a,u,m,g0)) (fun i s=>s.2.1.length≤1000000+i*1000000∧(∀x∈s.2.1,0≤x.1∧x.1<(n:Int))∧s.2.2.2.length=n∧i+s.2.2.2.count true≤n) (fun o=>o.1.length≤100000000∧(∀x∈o.1,0≤x.1∧x.1<(n:Int))∧o.2.2.length=n∧∀s:Nat,o.2.2[s]? =some true→LiveG a o.2.2 s) n 0 (by omega) (fun i s hi ⟨q1,q2,q3,q4⟩=>by
   obtain⟨c,L,w,g⟩:=s;dsimp only at q1 q2 q3 q4;obtain⟨R,r1,r2,r3,r4⟩:=yem (u:=u) hr q3 s3 hu c;rw [y5e];dsimp only;rw [r1,yOb];by_cases h0:R= []
   ·right;subst h0;rw [if_pos (by simp)];exact⟨_,rfl,by dsimp only;omega,q2,q3,r4 rfl⟩
   ·left;have hRl:0<R.length:=List.length_pos_iff.2 h0;obtain⟨g',w1,w2,w3,w4⟩:=yhp (n:=n) (by omega) q3 r3 r2;rw [if_neg (by simp [h0]),w1,yOb,yr (by omega),yOb];obtain⟨t,ht,hgt⟩:=r3 _ (List.getElem_mem hRl);have hc:=ygp (by omega) w3 hgt (w4 0 t hRl ht);refine⟨_,rfl,by simp;omega,fun x hx=>?_,w2,by dsimp only;omega⟩;dsimp only at hx;rcases List.mem_append.1 hx with hx|hx
    ·exact q2 x hx
    ·obtain ⟨s',e,hs'⟩:=r3 x hx;have:=(List.getElem?_eq_some_iff.1 hs').1;omega) (fun s ⟨q1,q2,q3,q4⟩=>by
   obtain⟨c,L,w,g⟩:=s;dsimp only at q1 q2 q3 q4;obtain⟨R,r1,r2,r3,r4⟩:=yem (u:=u) hr q3 s3 hu c;rw [y5e];dsimp only;rw [r1,yOb];by_cases h0:R= []
   ·subst h0;rw [if_pos (by simp)];exact⟨_,rfl,by dsimp only;omega,q2,q3,r4 rfl⟩
   ·exfalso;have hRl:0<R.length:=List.length_pos_iff.2 h0;obtain⟨t,ht,hgt⟩:=r3 _ (List.getElem_mem hRl);have:0<g.count true:=List.count_pos_iff.2 (List.mem_of_getElem? hgt);omega) (Nat.zero_le _) (2,o1.1,o1.2,g0) ⟨by dsimp only;omega,h3,s2,by
    dsimp only;have:=List.count_le_length (a:=true) (l:=g0);omega⟩
 obtain⟨rem,hrem⟩:=yfz (fun x hx=>by have:=h6 x hx;omega) (by omega:o2.1.length≤4294967296);obtain⟨d,d1,d2,d3⟩:=yfe (u:=u) hr h7 s3;obtain⟨o3,h9⟩:∃o3,iter (y3H o2 d) (0,[],[])=some o3:=by
  obtain⟨o,w,_⟩:=yd (f:=y3H o2 d) (fun i s=>s.1=(i:Int)∧i≤n∧s.2.1.length≤i∧s.2.2.length≤i) (fun o=>True) n 0 (by omega) (fun i s hi ⟨e1,_,q1,q2⟩=>by
    obtain⟨c,A,B⟩:=s;dsimp only at e1 q1 q2;subst e1;have hid:i<d.length:=by omega
    have hig:i<o2.2.2.length:=by omega
    left;rw [y3H];dsimp only;rw [if_pos (by simp;omega),ya hid,yOb,ya hig,yOb];cases o2.2.2[i] with
    | true=>
     rw [if_pos rfl,yr (by simp;omega),yOb,yr (by simp;omega),yOb,y3G];dsimp only;rw [nxt (by omega)];exact⟨_,rfl,rfl,hi,by simp;omega,by simp;omega⟩
    | false=>
     rw [if_neg (by simp),y3G];dsimp only;rw [nxt (by omega)];exact⟨_,rfl,rfl,hi,by dsimp only;omega,by dsimp only;omega⟩) (fun s ⟨e1,_,q1,q2⟩=>by
    obtain⟨c,A,B⟩:=s;dsimp only at e1 q1 q2;subst e1;refine⟨(A,B),?_,trivial⟩;rw [y3H];dsimp only;rw [if_neg (by simp;omega)]) (Nat.zero_le _) (0,[],[]) ⟨rfl,Nat.zero_le _,Nat.zero_le _,Nat.zero_le _⟩
  exact⟨o,w⟩
 obtain⟨r,X,x1,x2,x3,x4⟩:=yho hr h7 (a,u,m,o2.2.2) rfl rfl;refine⟨(o3.1,o3.2,rem),o2.2.1,o2.2.2,r,X,?_,h7,x2,x3,x4,h8⟩;rw [y5T,s1,yOb,h1,yOb];dsimp only;rw [h4,yOb,hrem,yOb,d1,yOb,h9,yOb,x1];rfl
theorem yiK(hr:Right a n)(hn:n≤40)(hfi:Inc f)(hf:∀x∈f,0≤x∧x<(n:Int))(hui:Inc u)(hur:∀x∈u,0≤x∧x<32):
  ∃z k g r X,y3s a f u=some ((z,k,r,X),0)∧SynOk a n g r X:=by
 have hfl:=y5N (n:=n) (lo:=0) hfi hf (Int.le_refl _);have hul:=Alp.len ⟨hui,hur⟩;obtain⟨z,k,g,r,X,h1,h2⟩:=ygr hr hn hf (by omega) (u:=u) (by omega);refine⟨z,k,g,r,X,?_,h2⟩;have hc:y6k a f u=some 0:=by
  rw [y6k,yeE hr.l1 hr.l2 hr.l3,hr.err,yOb,if_neg (by simp),hr.nn,yb7 (by omega),y6R hfi hf (fun q hq=>by cases hq),yOb,if_neg (by simp),yb7 (by omega),y6R hui hur (fun q hq=>by cases hq)];rfl
 rw [y3s,hc,yOb,if_neg (by simp),h1];rfl
theorem ydD(hr:Right a n)(s e:Int):y4c a s e=some ((st1 a s e).getD (-1)):=by
 have hl3:=hr.l3;obtain⟨o,h1,h2⟩:=yd (f:=y4l a s e) (fun i c=>c=(i:Int)∧i≤a.2.2.2.length∧∀k (h:k<a.2.2.2.length),k<i→¬((a.2.2.2[k]).1=s∧(a.2.2.2[k]).2.1=e)) (fun o=>match o with
  | .inl _=>st1 a s e=none
  | .inr t=>st1 a s e=some t) a.2.2.2.length 0 (by omega) (fun i c hi ⟨e1,_,hk⟩=>by
   subst e1;rw [y4l,if_pos (ct_lt hi),ya hi,yOb];by_cases hx:(a.2.2.2[i]).1=s∧(a.2.2.2[i]).2.1=e
   ·right;rw [if_pos (by simpa using hx.1),yOb,yOb,if_pos (by simpa using hx.2),yOb];refine⟨_,rfl,?_⟩;dsimp only;rw [y6V hr,←hx.1,←hx.2];exact List.getElem_mem hi
   ·left;refine⟨((i+1:Nat):Int),?_,rfl,hi,fun k h hki=>?_⟩
    ·by_cases h1:(a.2.2.2[i]).1=s
     ·rw [if_pos (by simpa using h1),yOb,yOb,if_neg (by simpa using fun h2=>hx ⟨h1,h2⟩),nxt (by omega)]
     ·rw [if_neg (by simpa using h1),yOb,if_neg (by simp),nxt (by omega)]
    ·by_cases e:k=i
     ·subst e;exact hx
     ·exact hk k h (by omega)) (fun c ⟨e1,_,hk⟩=>by
   subst e1;refine⟨.inl (),by rw [y4l,if_neg ct_ge],?_⟩;dsimp only;cases hst:st1 a s e with
   | none=>rfl
   | some t=>
    exfalso;obtain⟨k,h,e2⟩:=List.getElem_of_mem ((y6V hr).1 hst);exact hk k h h (by rw [e2];exact⟨rfl,rfl⟩)) (Nat.zero_le _) 0 ⟨rfl,Nat.zero_le _,fun k h hk=>absurd hk (Nat.not_lt_zero _)⟩
 rw [y4c,h1,yOb];cases o with
 | inl _=>dsimp only at h2 ⊢;rw [h2];rfl
 | inr t=>dsimp only at h2 ⊢;rw [h2];rfl
end
theorem LoopZ.few{P S p:AutT}{T:List (List Int)}{n n1 n2:Nat}(h:LoopZ P S p T n)(hP:P.2.1=(n1:Int))(hS:S.2.1=(n2:Int)):n≤n1*n2:=by
 rw [←h.tl];have hx:∀t∈T,∃x y:Nat,t= [(x:Int),(y:Int)]∧x<n1∧y<n2:=fun t ht=>by
  obtain⟨x,y,e,g1,g2,g3,g4⟩:=h.tt t ht;exact⟨x.toNat,y.toNat,by rw [e,Int.toNat_of_nonneg g1,Int.toNat_of_nonneg g3],by omega,by omega⟩
 have:=y8g (n1*n2) (T.map fun t=>match t with
  | [x,y]=>x.toNat*n2+y.toNat
  | _=>0) (by
  unfold List.Nodup;rw [List.pairwise_map];refine h.nd.imp_of_mem fun {s t} hs ht hst=>?_;obtain⟨x,y,rfl,g1,g2⟩:=hx s hs;obtain⟨x',y',rfl,g3,g4⟩:=hx t ht;dsimp only;rw [Int.toNat_natCast,Int.toNat_natCast,Int.toNat_natCast,Int.toNat_natCast];intro e;refine hst ?_;have e1:x=x':=by
   have a1:(x*n2+y)/n2=x:=by rw [Nat.mul_comm,Nat.mul_add_div (by omega),Nat.div_eq_of_lt g2,Nat.add_zero]
   have a2:(x'*n2+y')/n2=x':=by rw [Nat.mul_comm,Nat.mul_add_div (by omega),Nat.div_eq_of_lt g4,Nat.add_zero]
   rw [←a1,e,a2]
  subst e1;have:y=y':=by omega
  rw [this]) (fun v hv=>by
  obtain⟨t,ht,rfl⟩:=List.mem_map.1 hv;obtain⟨x,y,rfl,g1,g2⟩:=hx t ht;dsimp only;rw [Int.toNat_natCast,Int.toNat_natCast]
  calc x*n2+y<x*n2+n2:=by omega
   _=(x+1)*n2:=by rw [Nat.succ_mul]
   _≤n1*n2:=Nat.mul_le_mul_right _ g1)
 simpa using this
theorem yil{q:ProbT}{n1 n:Nat}{A:AutT}{T:List (List Int)}{z:Int}(hP:Right q.1 n1)(hA:Right A n)(hu:q.2.2.length≤32)(hT:∀t∈T,∃x y,t= [x,y]){i:Nat}(hi:i<T.length){o:List Int}(ho:o.length≤1000000):
  ∃o',iter (y3d q (A,T,z) ((i:Int),o)) 0=some o'∧(o'=o∨o'=o++[(i:Int)]):=by
 obtain⟨x,y,hxy⟩:=hT _ (List.getElem_mem hi);obtain⟨o',h1,h2⟩:=yd (f:=y3d q (A,T,z) ((i:Int),o)) (fun j c=>c=(j:Int)∧j≤q.2.2.length) (fun o'=>o'=o∨o'=o++[(i:Int)]) q.2.2.length 0 (by omega) (fun j c hj ⟨e1,_⟩=>by
   subst e1;have hj1:∀b,(∃s',y2g ((i:Int),o) (j:Int) b=some (.inl s')∧s'=((j+1:Nat):Int)∧j+1≤q.2.2.length)∨∃o',y2g ((i:Int),o) (j:Int) b=some (.inr o')∧(o'=o∨o'=o++[(i:Int)]):=fun b=>by
    rw [y2g];cases b with
    | true=>
     right;rw [if_pos rfl];dsimp only;rw [yr (by simp;omega)];exact⟨_,rfl,.inr rfl⟩
    | false=>
     left;rw [if_neg (by simp),nxt (by omega)];exact⟨_,rfl,rfl,hj⟩
   rw [y3d];dsimp only;rw [if_pos (ct_lt hj),ya hj,yOb,ya hi,yOb,hxy,show idx [x,y] 0=some x from rfl,yOb,ydD hP,yOb];split
   ·rw [ydD hA,yOb];exact hj1 _
   ·exact hj1 _) (fun c ⟨e1,_⟩=>by
   subst e1;refine⟨o,?_,.inl rfl⟩;rw [y3d];dsimp only;rw [if_neg ct_ge]) (Nat.zero_le _) 0 ⟨rfl,Nat.zero_le _⟩
 exact⟨o',h1,h2⟩
theorem yim{q:ProbT}{n1 n:Nat}{A:AutT}{T:List (List Int)}{z:Int}(hP:Right q.1 n1)(hA:Right A n)(hu:q.2.2.length≤32)(hT:∀t∈T,∃x y,t= [x,y])(hl:T.length≤4000):
  ∃o,iter (y2h q (A,T,z)) (0,[])=some o∧Inc o∧∀x∈o,0≤x∧x<(T.length:Int):=by
 obtain⟨o,h1,h2,h3⟩:=yd (f:=y2h q (A,T,z)) (fun i s=>s.1=(i:Int)∧i≤T.length∧Inc s.2∧∀x∈s.2,0≤x∧x<(i:Int)) (fun o=>Inc o∧∀x∈o,0≤x∧x<(T.length:Int)) T.length 0 (by omega) (fun i s hi ⟨e1,_,q1,q2⟩=>by
   obtain⟨c,o⟩:=s;dsimp only at e1 q1 q2;subst e1;have hol:=y5N (n:=i) (lo:=0) q1 q2 (Int.le_refl _);obtain⟨o',w1,w2⟩:=yil (z:=z) hP hA hu hT hi (o:=o) (by omega);left;rw [y2h];dsimp only;rw [if_pos (ct_lt hi),w1,yOb,nxt (by omega)];refine⟨_,rfl,rfl,hi,?_⟩;dsimp only;rcases w2 with rfl|rfl
   ·exact ⟨q1,fun x hx=>by have:=q2 x hx;omega⟩
   ·refine ⟨?_,fun x hx=>?_⟩
    ·unfold Inc at q1 ⊢;rw [List.pairwise_append];exact⟨q1,List.pairwise_singleton _ _,fun c hc b hb=>by rw [List.mem_singleton.1 hb];exact(q2 c hc).2⟩
    ·rcases List.mem_append.1 hx with hx|hx
     ·have:=q2 x hx;omega
     ·rw [List.mem_singleton.1 hx];omega) (fun s ⟨e1,_,q1,q2⟩=>by
   obtain⟨c,o⟩:=s;dsimp only at e1 q1 q2;subst e1;refine⟨o,?_,q1,q2⟩;rw [y2h];dsimp only;rw [if_neg ct_ge]) (Nat.zero_le _) (0,[]) ⟨rfl,Nat.zero_le _,List.Pairwise.nil,fun x hx=>by cases hx⟩
 exact⟨o,h1,h2,h3⟩
theorem yin{q:ProbT}{m1 m2:Nat}(h:PbOk q m1 m2)(l1:m1≤5)(l2:m2≤5):∃A T n o z k g r X,yz [q.1,q.2.1]=some (A,T,0)∧iter (y2h q (A,T,0)) (0,[])=some o∧y3s A o q.2.2=some ((z,k,r,X),0)∧LoopZ q.1 q.2.1 A T n∧n≤25∧SynOk A n g r X∧PbOk (q.1,r,q.2.2) m1 X.length:=by
 obtain⟨t,A,T,k1,k2,n,_,hk,hs⟩:=h.open;have hL:=hk.loop;have hn:n≤25:=Nat.le_trans (hL.few h.rP.nn h.rS.nn) (Nat.mul_le_mul l1 l2);have hul:=Alp.len ⟨h.iu,h.ur⟩;obtain⟨o,o1,o2,o3⟩:=yim (z:=0) h.rP hL.right hul (fun t ht=>by
  obtain⟨x,y,e,_⟩:=hL.tt t ht;exact⟨x,y,e⟩) (by rw [hL.tl];exact hL.le)
 rw [hL.tl] at o3;obtain⟨z,k,g,r,X,s1,s2⟩:=yiK hL.right (by omega) o2 o3 h.iu h.ur;refine⟨A,T,n,o,z,k,g,r,X,hs,o1,s1,hL,hn,s2,h.rP,s2.can.right,h.l1,by have:=s2.le;omega,fun x hx=>?_,h.iu,h.ur⟩;dsimp only at hx;rw [s2.can.ale,hL.ev] at hx;exact hx.elim id (h.sub x)
theorem yfB{d:Des26}(hd:Des26In d)(keep:Bool):∃q n1 n2,y5r d keep=some q∧PbOk q n1 n2∧n1≤5∧n2≤25∧∀x∈q.1.1,0≤x∧x<5:=by
 obtain⟨q,n1,n2,h1,h2,h3,h4,h5⟩:=ygn hd;rw [y5r,h1,yOb];cases keep with
 | false=>
  rw [if_pos (show (!false)=true from rfl)];exact⟨q,n1,n2,rfl,h2,h3,by omega,h5⟩
 | true=>
  obtain⟨A,T,n,o,z,k,g,r,X,s1,s2,s3,s4,s5,s6,s7⟩:=yin h2 h3 h4;rw [if_neg (by simp),s1,yOb];dsimp only;rw [s2,yOb,s3];exact⟨_,n1,X.length,rfl,s7,h3,by have:=s6.le;omega,h5⟩
theorem ya1{xs:List Int}{n:Int}(hl:xs.length<4611686018427387904):y1M xs n=some (yD n none xs):=y8Z hl
end Go.Proofs.YtecmobjeeonmaaaGreatDoor
