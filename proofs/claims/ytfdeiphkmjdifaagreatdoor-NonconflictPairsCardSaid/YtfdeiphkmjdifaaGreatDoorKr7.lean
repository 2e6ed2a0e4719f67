/- NonconflictPairs returns true for all arguments, and leaves its arguments as they were. The condition: three tables of Go's library (math/bits, internal/strconv) hold what their source text lays, and the card ties this to the text. -/
import Derived.Deep.Slices
import Derived.ChangeSame
import Derived.ProofKit
import Derived.OpenShut
import Derived.Test.YtfdeiphkmjdifaaGreatDoorRows
import Derived.Test.YtfdeiphkmjdifaaGreatDoorTie
import Derived.Test.YtfdeiphkmjdifaaGreatDoorCards
import Derived.Test.YtfdeiphkmjdifaaGreatDoorProg
import Derived.Lay
import Derived.LaidMore
import Derived.LaidHandle
import Derived.SevenTiedAt
import Derived.Stop.Joined
import Derived.Test.YtfdeiphkmjdifaaGreatDoorKr6
set_option maxRecDepth 100000
namespace Go.Proofs.YtfdeiphkmjdifaaGreatDoor
section
open Go.Proofs.Tryz Go Go.RowKit
variable{s:Int}{l:List AutT}{a:AutT}{e:Int}{i:Nat}{v:Int}{st:Int→Int→Option Int}{al:LI}{j:Nat}{ev:LI}
theorem y9t{p:AutT}{tg:LI}:∀(k:Nat) (s:Int),yS (edsOf p) tg k s→∃t∈tg,Star (ltsA p).nxt1 s t
 | 0,s,h=>⟨s,h,.refl _⟩
 | k+1,s,⟨x,hx,e,h⟩=>by
  obtain⟨y,hy,rfl⟩:=yMp.1 hx;obtain⟨t,ht,g⟩:=y9t k _ h;have e:y.1=s:=e;subst e;exact⟨t,ht,g.head ⟨y.2.1,hy⟩⟩
theorem yaV{p:AutT}{tg:LI}{t:Int}(ht:t∈tg)(h:Star (ltsA p).nxt1 s t):∃k,yS (edsOf p) tg k s:=by
 suffices g:∀{s u:Int},Star (ltsA p).nxt1 s u→∀k,yS (edsOf p) tg k u→∃k,yS (edsOf p) tg k s from g h 0 ht
 intro s u h
 induction h with
 | refl=>exact fun k hk=>⟨k,hk⟩
 | tail _ g ih=>
  intro k hk;obtain⟨e,g⟩:=g;exact ih (k+1) ⟨toEd (_,e,_),yMp.2 ⟨_,g,rfl⟩,rfl,hk⟩
theorem ycQ{p:AutT}{T:List LI}{n:Nat}(hs:yz l=some (p,T,0))(hR:Right p n):∃w b,y1Y l=some (w,b,0)∧w.length≤4096∧(b=true↔(ltsA p).NB):=by
 have hn:=hR.nl;have hnn:=hR.nn;have hbk:=ygT hR hR.msr;rw [y1Y,hs,yOb,iN (by simp)];dsimp only;rw [sprd hR hR.l2 hR.msr,yOb,ydE (by rw [hbk];omega),hbk,yOb];have hneg:∀s:Int,s∈negL (y1R n (edsOf p) p.2.2.1) n↔(0≤s∧s<(n:Int))∧¬ ∃t,Star (ltsA p).nxt1 s t∧(ltsA p).fin t:=fun s=>by
  have hd:=fun(i:Nat) (hi:i<n)=>ybW (es:=edsOf p) (tg:=p.2.2.1) (n:=n) (by omega) hR.ein hR.msr i hi;unfold negL;rw [yMp];constructor
  ·rintro ⟨i,hi,rfl⟩;obtain⟨h1,h2⟩:=List.mem_filter.1 hi;have h1:=List.mem_range.1 h1;have h2:=of_decide_eq_true h2;refine⟨⟨by omega,by omega⟩,?_⟩;rintro⟨t,g,hm⟩;obtain⟨k,hk⟩:=yaV (p:=p) hm g;rcases hd i h1 with ⟨_,h3⟩|⟨m,h3,_⟩
   ·exact h3 k hk
   ·omega
  ·rintro ⟨⟨h0,h1⟩,hno⟩;refine⟨s.toNat,List.mem_filter.2 ⟨List.mem_range.2 (by omega),?_⟩,by omega⟩;rcases hd s.toNat (by omega) with ⟨h3,_⟩|⟨m,h3,h4,_⟩
   ·rw [h3];rfl
   ·rw [show ((s.toNat:Nat):Int)=s by omega] at h4;obtain⟨t,ht,g⟩:=y9t m s h4;exact absurd ⟨t,g,ht⟩ hno
 by_cases h0:n=0
 ·subst h0;refine⟨[],true,?_,by simp,fun _=>fun s ⟨i,hi,_⟩=>?_,fun _=>rfl⟩
  ·rw [y3S,iP (by simp;omega),yOb];rfl
  ·have:=(y6g.1 hi).2;omega
 ·obtain ⟨r,h1,hS⟩:=ygm hR (x:=0) (Int.le_refl _) (by omega) (yfp n _) (ygn n fun i=>decide ((y1R n (edsOf p) p.2.2.1).getD i 0<0)) (by have:=ycr (y1R n (edsOf p) p.2.2.1) n;unfold negL at this;omega);have h1:y3e p 0 (negL (y1R n (edsOf p) p.2.2.1) n) (allL n)=some r:=h1;have hS:PathSays (edsOf p) (negL (y1R n (edsOf p) p.2.2.1) n) 0 r:=hS;rw [yfq hR (by omega) h1,yOb];refine⟨_,_,rfl,?_,?_⟩
  ·dsimp only;cases hb:r.2.1 with
   | false=>rw [(hS.no hb).1];simp
   | true=>
    obtain⟨g1,g2⟩:=hS.yes hb;have hd:=yaa (es:=edsOf p) (tg:=negL (y1R n (edsOf p) p.2.2.1) n) (n:=n) (by omega) hR.ein (fun s hs=>((hneg s).1 hs).1) 0 (by omega);have:y8R (edsOf p) (negL (y1R n (edsOf p) p.2.2.1) n) ((0:Nat):Int) (r.1.length:Int):= .inr ⟨_,rfl,g1,g2⟩;have:=this.unique hd.1;omega
  ·dsimp only;rw [Bool.not_eq_true'];constructor
   ·intro hb s hs;obtain⟨i,hi,hp⟩:=hs;obtain⟨rfl,_⟩:=y6g.1 hi;refine Classical.byContradiction fun hno=>?_;have hin:0≤s∧s<(n:Int):=by
     cases hp with
     | refl=>omega
     | tail _ g=>obtain⟨e,g⟩:=g;have:=hR.es _ g;dsimp only at this;omega
    obtain⟨k,hk⟩:=yaV (p:=p) ((hneg s).2 ⟨hin,hno⟩) hp;exact(hS.no hb).2 k hk
   ·intro hN;cases hb:r.2.1 with
    | false=>rfl
    | true=>
     obtain⟨t,ht,g⟩:=y9t _ _ (hS.yes hb).1;exact absurd (hN t ⟨0,y6g.2 ⟨rfl,by omega⟩,g⟩) ((hneg t).1 ht).2
theorem yeL{xs:List E3}(h:xs.length≤4294967296):y2N xs=some xs:=by
 rw [y2N,y4o (by simpa using h)];rfl
theorem ygx{n:Nat}(hr:Right a n):yQ a=some (fromN a,0):=by
 have h1:=hr.l1;have h2:=hr.l2;have h3:=hr.l3;rw [yQ,hr.check,yOb,iN (by simp),y7J (by omega),yOb,y7J (by omega),yOb,yeL (by omega),yOb];unfold fromN;by_cases h:a.2.1>0
 ·rw [iP (decide_eq_true h),yV,iP h]
 ·rw [iN (by simpa using h),yV,iN h]
structure SmL (l:List AutT):Prop where
 len:l.length≤4
 right:∀a∈l,∃n:Nat,n≤3∧Right a n∧∀e∈a.1,e<5
theorem SmL.rgt(h:SmL l):∀a∈l,Rgt a:=fun a ha=>by
 obtain⟨n,_,hr,_⟩:=h.right a ha;exact⟨n,hr⟩
theorem yeM{B:Nat}:∀{l:List AutT} {t u:LI},(∀a∈l,∃n:Nat,n≤B∧Right a n)→(∀x∈t,0≤x∧x<(B:Int))→tup l t e=some u→∀x∈u,0≤x∧x<(B:Int)
 | [],[],u,_,_,h=>by cases h;intro x hx;cases hx
 | [],_::_,_,_,_,h=>by cases h
 | _::_,[],_,_,_,h=>by cases h
 | a::l,x::t,u,hr,ht,h=>by
  unfold tup at h;cases h1:cst a x e with
  | none=>rw [h1] at h;cases h
  | some y=>
   rw [h1,yOb] at h;cases h2:tup l t e with
   | none=>rw [h2] at h;cases h
   | some v=>
    rw [h2] at h;have h:some (y::v)=some u:=h;cases h;have ih:=yeM (fun b hb=>hr b (.tail _ hb)) (fun z hz=>ht z (.tail _ hz)) h2;intro z hz;rcases yMo.1 hz with rfl|hz
    ·obtain ⟨n,hn,hrn⟩:=hr a (.head _);unfold cst at h1;split at h1
     ·have:=ybi hrn h1;omega
     ·cases h1;exact ht _ (.head _)
    ·exact ih z hz
theorem ygy{B:Nat}(hr:∀a∈l,∃n:Nat,n≤B∧Right a n)(h1:1≤B)(h2:B≤99)(h3:B ^ l.length≤4000):RchP l (fun t=>t.length=l.length∧∀x∈t,0≤x∧x<(B:Int)) (B ^ l.length) where
 st t e u ht h:=⟨(ya1 h).2,yeM hr ht.2 h⟩
 i0:=⟨by simp,fun x hx=>by
  have:=(List.mem_replicate.1 hx).2;omega⟩
 hu t ht:=⟨ht.1,fun x hx=>by have:=ht.2 x hx;omega⟩
 bd T hn hT:=by
  have h:=y8k (B ^ l.length) (T.map (y4W B)) ?_ ?_
  ·rwa [yLm] at h
  ·rw [List.Nodup,List.pairwise_map];refine List.Pairwise.imp_of_mem (fun {a b} ha hb hab e=>hab ?_) hn;exact yaP ((hT a ha).1.trans (hT b hb).1.symm) (hT a ha).2 (hT b hb).2 e
  ·intro x hx;obtain⟨t,ht,rfl⟩:=yMp.1 hx;rw [←(hT t ht).1];exact ybK (hT t ht).2
 m:=h3
theorem SmL.prod(h:SmL l):∃p T n,yz l=some (p,T,0)∧PrG l p T n∧n≤81:=by
 have hlen:=h.len;have hp:3 ^ l.length≤3 ^ 4:=Nat.pow_le_pow_right (by omega) hlen;obtain⟨p,T,n,h1,h2,h3⟩:=ygw (ygy (B:=3) (fun a ha=>by
  obtain⟨n,hn,hr,_⟩:=h.right a ha;exact⟨n,hn,hr⟩) (by omega) (by omega) (by omega)) (by omega) h.rgt
 exact⟨p,T,n,h1,h2,by omega⟩
theorem inc5{xs:LI}(hi:Inc xs)(h:∀x∈xs,0≤x∧x<5):xs.length≤5:=by
 have:=y5c (n:=5) (lo:=0) hi h (Int.le_refl _);omega
theorem SmL.nb(h:SmL l):∃w b s,y1Y l=some (w,b,0)∧w.length≤4096∧(b=true↔(Lts.TL (l.map ltsA)).NB)∧∃p T,yz l=some (p,T,0)∧yQ p=some (fromN p,0)∧y1r (fromN p)=some s∧(s= []↔(Lts.TL (l.map ltsA)).NB):=by
 obtain⟨p,T,n,h1,hG,hn⟩:=h.prod;have hR:=hG.right;have hnb:=hG.nb h.rgt;obtain⟨w,b,k1,k2,k3⟩:=ycQ h1 hR;have hal:p.1.length≤5:=inc5 hR.ali fun e he=>by
  obtain⟨a,ha,hae⟩:=(hG.ev e).1 he;obtain⟨_,_,_,h5⟩:=h.right a ha;exact⟨(hR.alr e he).1,h5 e hae⟩
 have hel:p.2.2.2.length≤65536:=by
  have h3:=hG.el;have h4:p.1.length*n≤5*81:=Nat.mul_le_mul hal hn;omega
 obtain⟨s,_,_,j3,_,j5⟩:=ycP (yfG hR hel);exact⟨w,b,s,k1,k2,k3.trans hnb,p,T,h1,ygx hR,j3,j5.trans hnb⟩
theorem SmL.sub{q:List AutT}(h:SmL l)(hq:q.length≤4)(hm:∀a∈q,a∈l):SmL q:=⟨hq,fun a ha=>h.right a (hm a ha)⟩
def pick(l:List AutT)(is:LI):List AutT:=is.filterMap fun i=>l[i.toNat]?
theorem yfH{is:LI}(h:a∈pick l is):a∈l:=by
 obtain⟨i,_,h⟩:=List.mem_filterMap.1 h;exact List.mem_of_getElem? h
theorem yeN{is:LI}{i:Int}(h:i.toNat<l.length):pick l (is++[i])=pick l is++[l[i.toNat]]:=by
 unfold pick;rw [List.filterMap_append];simp [yGe h]
theorem ycD(l:List AutT)(is:LI):(pick l is).length≤is.length:=List.length_filterMap_le _ _
theorem ybR{f:Int×List AutT→Option ((Int×List AutT)⊕List AutT)}{is:LI}(hi:∀i∈is,0≤i∧i<(l.length:Int))(hl:is.length≤1000)
  (step:∀j (hj:j<is.length) (o:List AutT),f ((j:Int),o)=(idx l is[j]).bind fun x=>(app o [x]).bind fun y=>some (.inl (W ((j:Int)+1),y))) (last:∀o,f ((is.length:Int),o)=some (.inr o)):iter f (0,[])=some (pick l is):=by
 obtain⟨o,ho,he⟩:=yd (f:=f) (fun j st=>st=((j:Int),pick l (is.take j))) (fun o=>o=pick l is) is.length 0 (by omega) (fun j st hj e1=>by
   subst e1;have h:=hi _ (yGm hj);have hp:=ycD l (is.take j);rw [yLt,Nat.min_eq_left (by omega)] at hp;have hx:idx l is[j]=some (l[is[j].toNat]'(by omega)):=by
    unfold idx;rw [iP h.1,yGe (by omega)]
   refine .inl ⟨_,?_,rfl⟩;rw [step j hj,hx,yOb,y4o (by simp;omega),yOb,nxt (by omega),yTs hj,yeN (by omega)])
  (fun st e1=>by
   subst e1;exact⟨_,last _,by rw [List.take_length]⟩) (by omega) (0,[]) rfl
 rw [ho,he]
theorem yfI(s:LI):((s.length:Int)==0)=decide (s= []):=by
 cases s with
 | nil=>rfl
 | cons x l=>
  have:((x::l).length:Int)≠0:=by rw [yLc];omega
  rw [beq_eq_false_iff_ne.2 this,decide_eq_false (by simp)]
theorem ycR(h:SmL l){is:LI}(hi:∀i∈is,0≤i∧i<(l.length:Int))(hl:is.length≤4):∃b,y3c l is=some (!b,0)∧y2C l is=some b:=by
 have hq:=h.sub (q:=pick l is) (Nat.le_trans (ycD l is) hl) fun a ha=>yfH ha;obtain⟨w,b,s,k1,_,k3,p,T,k4,k5,k6,k7⟩:=hq.nb;refine⟨b,?_,?_⟩
 ·rw [y3c,ybR (f:=y2o l is) hi (by omega) (fun j hj o=>by
   unfold y2o;simp only [ct_lt hj,if_true,yc hj,yOb]) (fun o=>by
   unfold y2o;simp),yOb,y3m,k1,yOb,iN (by simp),yOb]
 ·rw [y2C,ybR (f:=y1W l is) hi (by omega) (fun j hj o=>by
   unfold y1W;simp only [ct_lt hj,if_true,yc hj,yOb]) (fun o=>by
   unfold y1W;simp),yOb,k4,yOb,iN (by simp),k5,yOb,k6,yOb,yfI]
  have:s= []↔b=true:=k7.trans k3.symm;congr 1;rw [Bool.eq_iff_iff,decide_eq_true_iff,this]
def hdl(S:AutT):Int→LI→Int×Nat
 | s,[]=>(s,0)
 | s,e::l=>if hasB S.1 e=true then(match st1 S s e with
   | none=>(s,0)
   | some u=>((hdl S u l).1,(hdl S u l).2+1)) else((hdl S s l).1,(hdl S s l).2+1)
structure SR (st:Int→Int→Option Int) (al:LI) (n i j:Nat) (T:LI) (kn:List (Int×Int)) (E:List (Int×Int×Int)):Prop where
 f:Fnd st al i j T E
 k1:∀s v,kget kn s=some v→∃q:Nat,v=(q:Int)∧T[q]? =some s
 k2:∀s∈T,(kget kn s).isSome=true
 nd:T.Nodup
 tr:∀s∈T,0≤s∧s<(n:Int)
 so:E.Pairwise fun x y=>x.1<y.1∨(x.1=y.1∧x.2.1<y.2.1)
 ei:∀x∈E,x.1<(i:Int)∨(x.1=(i:Int)∧∃b,∃hb:b<al.length,b<j∧al[b]=x.2.1)
 ea:∀x∈E,x.2.1∈al
 el:E.length≤32*i+j
namespace SR
variable{st:Int→Int→Option Int}{al:List Int}{n i j:Nat}{T:List Int}{kn:List (Int×Int)}{E:List (Int×Int×Int)}
theorem len(h:SR st al n i j T kn E):T.length≤n:=by
 have:=y8k n (T.map Int.toNat) (by
  unfold List.Nodup;rw [List.pairwise_map];refine h.nd.imp_of_mem fun {a b} ha hb hab=>?_;have h1:=h.tr a ha;have h2:=h.tr b hb;omega) (fun x hx=>by
  obtain⟨y,hy,rfl⟩:=List.mem_map.1 hx;have:=h.tr y hy;omega)
 simpa using this
theorem skip(h:SR st al n i j T kn E)(ht:T[i]? =some s)(he:al[j]? =some e)(hs:st s e=none):SR st al n i (j+1) T kn E:=
 ⟨h.f.skip ht he hs,h.k1,h.k2,h.nd,h.tr,h.so,fun x hx=>by
  rcases h.ei x hx with h1|⟨h1,b,hb,h2,h3⟩
  ·exact .inl h1
  ·exact .inr ⟨h1,b,hb,by omega,h3⟩,h.ea,by have:=h.el;omega⟩
theorem next(h:SR st al n i j T kn E)(hj:al.length≤j)(hj2:j≤32):SR st al n (i+1) 0 T kn E:=
 ⟨h.f.next hj,h.k1,h.k2,h.nd,h.tr,h.so,fun x hx=>by
  rcases h.ei x hx with h1|⟨h1,_⟩
  ·exact .inl (by omega)
  ·exact .inl (by omega),h.ea,by have:=h.el;omega⟩
theorem pw(h:SR st al n i j T kn E)(ia:Inc al)(hj:j<al.length)(v:Int):(E++[((i:Int),al[j],v)]).Pairwise fun x y=>x.1<y.1∨(x.1=y.1∧x.2.1<y.2.1):=by
 rw [List.pairwise_append];refine⟨h.so,List.pairwise_singleton _ _,fun x hx y hy=>?_⟩;rw [yMs.1 hy];rcases h.ei x hx with h1|⟨h1,b,hb,h2,h3⟩
 ·exact .inl h1
 ·refine .inr ⟨h1,?_⟩;rw [←h3];exact List.pairwise_iff_getElem.1 ia b j hb hj h2
theorem ei'(h:SR st al n i j T kn E)(hj:j<al.length)(v:Int):∀x∈E++[((i:Int),al[j],v)],x.1<(i:Int)∨(x.1=(i:Int)∧∃b,∃hb:b<al.length,b<j+1∧al[b]=x.2.1):=fun x hx=>by
 rcases yMa.1 hx with hx|hx
 ·rcases h.ei x hx with h1|⟨h1,b,hb,h2,h3⟩
  ·exact .inl h1
  ·exact .inr ⟨h1,b,hb,by omega,h3⟩
 ·rw [yMs.1 hx];exact .inr ⟨rfl,j,hj,by omega,rfl⟩
theorem ea'(h:SR st al n i j T kn E)(hj:j<al.length)(v:Int):∀x∈E++[((i:Int),al[j],v)],x.2.1∈al:=fun x hx=>by
 rcases yMa.1 hx with hx|hx
 ·exact h.ea x hx
 ·rw [yMs.1 hx];exact yGm hj
theorem edge(h:SR st al n i j T kn E)(ia:Inc al)(hj:j<al.length){q:Nat}(ht:T[i]? =some s)(hs:st s al[j]=some v)(hq:T[q]? =some v):SR st al n i (j+1) T kn (E++[((i:Int),al[j],(q:Int))]):=
 ⟨h.f.edge ht (yGe hj) hs hq,h.k1,h.k2,h.nd,h.tr,h.pw ia hj _,h.ei' hj _,h.ea' hj _,by have:=h.el;simp;omega⟩
theorem new(h:SR st al n i j T kn E)(ia:Inc al)(hj:j<al.length)(ht:T[i]? =some s)(hs:st s al[j]=some v)(hk:kget kn v=none)(v0:0≤v)(v1:v<(n:Int)):SR st al n i (j+1) (T++[v]) (kput kn v (T.length:Int)) (E++[((i:Int),al[j],(T.length:Int))]):=by
 have hi:=(List.getElem?_eq_some_iff.1 ht).1;refine⟨h.f.new hi ht (yGe hj) hs,fun s' w hw=>?_,fun s' hs'=>?_,?_,fun s' hs'=>?_,h.pw ia hj _,h.ei' hj _,h.ea' hj _,by have:=h.el;simp;omega⟩
 ·rw [y4p] at hw;split at hw
  ·rename_i e;subst e;cases hw;exact⟨T.length,rfl,by rw [List.getElem?_append_right (Nat.le_refl _)];simp⟩
  ·obtain ⟨q,h1,h2⟩:=h.k1 s' w hw;exact⟨q,h1,by rw [List.getElem?_append_left (List.getElem?_eq_some_iff.1 h2).1,h2]⟩
 ·rw [y4p];split
  ·rfl
  ·rename_i e;rcases yMa.1 hs' with hs'|hs'
   ·exact h.k2 s' hs'
   ·exact absurd (yMs.1 hs') e
 ·unfold List.Nodup;rw [List.pairwise_append];refine⟨h.nd,List.pairwise_singleton _ _,fun a ha b hb e=>?_⟩;rw [yMs.1 hb] at e;subst e;have:=h.k2 a ha;rw [hk] at this;cases this
 ·rcases yMa.1 hs' with hs'|hs'
  ·exact h.tr s' hs'
  ·rw [yMs.1 hs'];exact⟨v0,v1⟩
end SR
structure CanOf (st:Int→Int→Option Int) (al ms:List Int) (r:AutT) (X:List Int):Prop where
 right:Right r X.length
 ale:r.1=al
 x0:0<X.length→X[0]? =some 0
 disc:Disc st al X r.2.2.2
 mkd:∀(i:Nat) (s:Int),X[i]? =some s→((i:Int)∈r.2.2.1↔s∈ms)
theorem y9u{S R:Type}{f:S→Option (S⊕(Unit⊕R))}(mk:Int→S)(n:Nat)(hn:n≤4000000)(b:Nat→Bool)(r:Nat→R)(step:∀i,i<n→f (mk (i:Int))=if b i=true then some (.inr (.inr (r i))) else some (.inl (mk ((i+1:Nat):Int))))(last:f (mk (n:Int))=some (.inr (.inl ()))):
  ∃o,iter f (mk 0)=some o∧((o= .inl ()∧∀i,i<n→b i=false)∨∃i,i<n∧o= .inr (r i)∧b i=true∧∀j,j<i→b j=false):=by
 refine yd (f:=f) (fun i s=>s=mk (i:Int)∧∀j,j<i→b j=false) _ n 0 (by omega) (fun i s hi ⟨e1,g1⟩=>?_) (fun s ⟨e1,g1⟩=>?_) (yZl _) (mk 0) ⟨rfl,fun j hj=>absurd hj (by omega)⟩
 ·subst e1;rw [step i hi];cases hb:b i with
  | true=>exact .inr ⟨_,rfl,.inr ⟨i,hi,rfl,hb,g1⟩⟩
  | false=>
   refine .inl ⟨_,by rw [if_neg (by simp)],rfl,fun j hj=>?_⟩;by_cases e:j=i
   ·rw [e];exact hb
   ·exact g1 j (by omega)
 ·subst e1;exact⟨_,last,.inl ⟨rfl,g1⟩⟩
theorem yfJ(p:Int):∃ev,y2e p=some ev∧Inc ev∧(∀x∈ev,0≤x∧x<5)∧ev.length≤5:=by
 obtain⟨o,h1,h2⟩:=yd (f:=y1s p) (fun i s=>s.1=(i:Int)∧Inc s.2∧(∀x∈s.2,0≤x∧x<(i:Int))∧s.2.length≤i) (fun o=>Inc o∧(∀x∈o,0≤x∧x<5)∧o.length≤5) 5 0 (by omega) (fun i s hi ⟨e1,e2,e3,e4⟩=>by
   obtain⟨s1,s2⟩:=s;dsimp only at e1 e2 e3 e4;subst e1;have hj:∀l:List Int,yH ((i:Int),s2) l=some (.inl (((i+1:Nat):Int),l)):=fun l=>by
    rw [yH];dsimp only;rw [nxt (by omega)]
   left;rw [y1s];dsimp only;rw [if_pos (by simp;omega),show ng (i:Int)=some () from if_neg (by omega),yOb];split
   ·rw [y4d (by simp;omega),yOb,hj];refine⟨_,rfl,rfl,?_,fun x hx=>?_,by simp;omega⟩
    ·unfold Inc at e2 ⊢;rw [List.pairwise_append];exact⟨e2,List.pairwise_singleton ..,fun a ha b hb=>by rw [yMs.1 hb];exact(e3 a ha).2⟩
    ·dsimp only at hx;rcases yMa.1 hx with h|h
     ·have:=e3 x h;omega
     ·rw [yMs.1 h];omega
   ·rw [hj];exact⟨_,rfl,rfl,e2,fun x hx=>by have:=e3 x hx;omega,by dsimp only;omega⟩) (fun s ⟨e1,e2,e3,e4⟩=>by
   obtain⟨s1,s2⟩:=s;dsimp only at e1 e2 e3 e4;subst e1;refine⟨s2,?_,e2,e3,e4⟩;rw [y1s];dsimp only;rw [if_neg (by simp)]) (by omega) (0,[]) ⟨rfl,List.Pairwise.nil,fun x hx=>(by cases hx),by simp⟩
 exact⟨o,by rw [y2e,h1];rfl,h2⟩
theorem ybS{xs:List Int}(h:xs.length≤1000000):y1q xs=some (xs,0,[],[]):=by
 rw [y1q,y4d (by simp;omega)];rfl
theorem ydp{xs:List Int}{x:Int}(hl:xs.length≤1000000):y2O xs x=some (hasB xs x):=by
 obtain⟨o,h1,h2⟩:=y9u (f:=y3b xs x) (fun i=>i) xs.length (by omega) (fun i=>xs[i]? == some x) (fun _=>()) (fun i hi=>by
  rw [y3b];rw [if_pos (ct_lt hi),yc hi,yOb,nxt (by omega),yGe hi];by_cases e:xs[i]=x
  ·rw [if_pos (by simpa using e),if_pos (by simpa using e)]
  ·rw [if_neg (by simpa using e),if_neg (by simpa using e)]) (by
  rw [y3b];rw [if_neg ct_ge])
 rw [y2O,h1,yOb];rcases h2 with ⟨rfl,h3⟩|⟨i,hi,rfl,h3,h4⟩
 ·have:hasB xs x=false:=by
   rw [←Bool.not_eq_true,yi];intro hm;obtain⟨k,hk,e⟩:=List.getElem_of_mem hm;have:=h3 k hk;rw [yGe hk,e] at this;simp at this
  rw [this]
 ·have:hasB xs x=true:=by
   rw [yi];rw [yGe hi] at h3;have h3:xs[i]=x:=by simpa using h3
   exact h3▸yGm hi
  rw [this]
theorem yeO{xs:List Int}{x:Int}(hl:xs.length≤1000000)(hm:x∈xs):∃k:Nat,y3o xs x=some (k:Int)∧xs[k]? =some x:=by
 obtain⟨o,h1,h2⟩:=y9u (f:=y2B xs x) (fun i=>i) xs.length (by omega) (fun i=>xs[i]? == some x) (fun i=>(i:Int)) (fun i hi=>by
  rw [y2B];rw [if_pos (ct_lt hi),yc hi,yOb,nxt (by omega),yGe hi];by_cases e:xs[i]=x
  ·rw [if_pos (by simpa using e),if_pos (by simpa using e)]
  ·rw [if_neg (by simpa using e),if_neg (by simpa using e)]) (by
  rw [y2B];rw [if_neg ct_ge])
 rw [y3o,h1,yOb];rcases h2 with ⟨rfl,h3⟩|⟨i,hi,rfl,h3,h4⟩
 ·exfalso;obtain⟨k,hk,e⟩:=List.getElem_of_mem hm;have:=h3 k hk;rw [yGe hk,e] at this;simp at this
 ·exact ⟨i,rfl,by simpa using h3⟩
theorem yfK(h:∀x∈a.2.2.2,¬(x.1=s∧x.2.1=e)):st1 a s e=none:=by
 unfold st1;rw [Option.map_eq_none_iff,List.find?_eq_none];intro x hx;have:=h x hx;simpa using this
theorem ycE{n:Nat}(hr:Right a n)(s e:Int):y2z a s e=some ((st1 a s e).getD (-1)):=by
 have hl:=hr.l3;obtain⟨o,h1,h2⟩:=y9u (f:=y2H a s e) (fun i=>i) a.2.2.2.length (by omega) (fun i=>match a.2.2.2[i]? with | some x=>x.1==s&&x.2.1==e|none=>false) (fun i=>(a.2.2.2.getD i (0,0,0)).2.2) (fun i hi=>by
  rw [y2H];rw [if_pos (ct_lt hi),yc hi,yOb,nxt (by omega),yGe hi,List.getD_eq_getElem?_getD,yGe hi];dsimp only [Option.getD_some];by_cases e1:a.2.2.2[i].1=s
  ·rw [if_pos (by simpa using e1),yOb,yOb,yOb];by_cases e2:a.2.2.2[i].2.1=e
   ·rw [if_pos (by simpa using e2),if_pos (by simp [e1,e2])]
   ·rw [if_neg (by simpa using e2),if_neg (by simp [e2])]
  ·rw [if_neg (by simpa using e1),yOb,if_neg (by simp),if_neg (by simp [e1])]) (by
  rw [y2H];rw [if_neg ct_ge])
 rw [y2z,h1,yOb];rcases h2 with ⟨rfl,h3⟩|⟨i,hi,rfl,h3,h4⟩
 ·rw [yfK fun x hx hxx=>?_]
  ·rfl
  ·obtain ⟨k,hk,e'⟩:=List.getElem_of_mem hx;have:=h3 k hk;rw [yGe hk,e'] at this;simp [hxx.1,hxx.2] at this
 ·rw [yGe hi] at h3;have h3:a.2.2.2[i].1=s∧a.2.2.2[i].2.1=e:=by simpa using h3
  have:st1 a s e=some a.2.2.2[i].2.2:=by
   rw [yau hr,←h3.1,←h3.2];exact yGm hi
  rw [this,List.getD_eq_getElem?_getD,yGe hi];rfl
section
variable{a:AutT}{n:Nat}
theorem yfL(hr:Right a n)(hal:a.1.length≤32){y:List Int}{X:List Int}{kn:List (Int×Int)}{E:List (Int×Int×Int)}(hS:SR (st1 a) a.1 n i 0 X kn E)(hi:i<X.length):
  ∃kn' X' E',iter (y1B a ((i:Int),y)) (0,X)=some X'∧SR (st1 a) a.1 n (i+1) 0 X' kn' E'∧∃U,X'=X++U:=by
 have hnl:=hr.nl;obtain⟨o,h1,kn',E',hS',hU⟩:=yd (f:=y1B a ((i:Int),y)) (fun j s=>s.1=(j:Int)∧∃kn E,SR (st1 a) a.1 n i j s.2 kn E∧∃U,s.2=X++U) (fun o=>∃kn E,SR (st1 a) a.1 n (i+1) 0 o kn E∧∃U,o=X++U) a.1.length 0 (by omega) (fun j s hj ⟨e1,kn1,E1,hS1,U,hU⟩=>by
   obtain⟨c,X1⟩:=s;dsimp only at e1 hS1 hU;subst e1;have hX1:=hS1.len;have hi1:i<X1.length:=by rw [hU,List.length_append];omega
   have hj2:∀l:List Int,y1A ((j:Int),X1) l=some (.inl (((j+1:Nat):Int),l)):=fun l=>by
    rw [y1A];dsimp only;rw [nxt (by omega)]
   left;rw [y1B];dsimp only;rw [if_pos (ct_lt hj),yc hi1,yOb,yc hj,yOb,ycE hr,yOb];cases hst:st1 a X1[i] a.1[j] with
   | none=>
    rw [Option.getD_none,if_neg (by simp),yOb,if_neg (by simp),hj2];exact⟨_,rfl,rfl,kn1,E1,hS1.skip (yGe hi1) (yGe hj) hst,U,hU⟩
   | some t=>
    have ht:=ybi hr hst;rw [Option.getD_some,if_pos (by simp;omega),ydp (by omega),yOb,yOb];by_cases hm:t∈X1
    ·obtain ⟨q,hq⟩:=List.getElem?_of_mem hm;rw [yi.2 hm,if_neg (by simp),hj2];exact⟨_,rfl,rfl,kn1,_,hS1.edge hr.ali hj (yGe hi1) hst hq,U,hU⟩
    ·have hb:hasB X1 t=false:=by rw [←Bool.not_eq_true,yi];exact hm
     rw [hb,if_pos (by simp),y4d (by simp;omega),yOb,hj2];have hk:kget kn1 t=none:=by
      cases hk:kget kn1 t with
      | none=>rfl
      | some v=>
       obtain⟨q,_,hq⟩:=hS1.k1 _ _ hk;exact absurd (List.mem_of_getElem? hq) hm
     exact⟨_,rfl,rfl,_,_,hS1.new hr.ali hj (yGe hi1) hst hk ht.2.2.1 ht.2.2.2.1,U++[t],by dsimp only;rw [hU,List.append_assoc]⟩) (fun s ⟨e1,kn1,E1,hS1,hU⟩=>by
   obtain⟨c,X1⟩:=s;dsimp only at e1 hS1 hU;subst e1;rw [y1B];dsimp only;rw [if_neg ct_ge];exact⟨_,rfl,kn1,E1,hS1.next (Nat.le_refl _) hal,hU⟩) (yZl _) (0,X) ⟨rfl,kn,E,hS,[],(List.append_nil _).symm⟩
 exact⟨kn',o,E',h1,hS',hU⟩
theorem yfM(hr:Right a n)(h0:0<n):∃X kn E,y3n a=some X∧SR (st1 a) a.1 n X.length 0 X kn E∧X[0]? =some 0:=by
 have hnl:=hr.nl;have hal:a.1.length≤32:=Alp.len ⟨hr.ali,hr.alr⟩;have hS0:SR (st1 a) a.1 n 0 0 [0] (kput [] 0 0) []:=by
  refine⟨Fnd.start (by simp),fun s v hv=>?_,fun s hs=>?_,by simp,fun s hs=>?_,List.Pairwise.nil,fun x hx=>(by cases hx),fun x hx=>(by cases hx),by simp⟩
  ·rw [y4p] at hv;split at hv
   ·rename_i e;subst e;cases hv;exact⟨0,rfl,rfl⟩
   ·cases hv
  ·rw [yMs.1 hs,y4p,if_pos rfl];rfl
  ·rw [yMs.1 hs];omega
 obtain⟨o,h1,kn,E,h2,h3⟩:=yd (f:=y1C a) (fun i s=>s.1=(i:Int)∧i≤s.2.length∧∃kn E,SR (st1 a) a.1 n i 0 s.2 kn E∧s.2[0]? =some 0) (fun o=>∃kn E,SR (st1 a) a.1 n o.length 0 o kn E∧o[0]? =some 0) n 0 (by omega) (fun i s hi ⟨e1,hle,kn,E,hS,x0⟩=>by
   obtain⟨c,X⟩:=s;dsimp only at e1 hle hS x0;subst e1;have hXl:=hS.len;rw [y1C];dsimp only;by_cases hix:i<X.length
   ·left;obtain⟨kn',X',E',w1,w2,U,hU⟩:=yfL hr hal (y:=X) hS hix;rw [if_pos (ct_lt hix),w1,yOb,nxt (by omega)];exact⟨_,rfl,rfl,by dsimp only;rw [hU,List.length_append];omega,kn',E',w2,by dsimp only;rw [hU,List.getElem?_append_left (by omega)];exact x0⟩
   ·right;obtain rfl:i=X.length:=by omega
    rw [if_neg ct_ge];exact⟨_,rfl,kn,E,hS,x0⟩) (fun s ⟨e1,hle,kn,E,hS,x0⟩=>by
   obtain⟨c,X⟩:=s;dsimp only at e1 hle hS x0;subst e1;have hXl:=hS.len;have hX:n=X.length:=by omega
   rw [y1C];dsimp only;rw [if_neg (by simp;omega)];exact⟨_,rfl,kn,E,by rw [←hX];exact hX▸hS,x0⟩) (yZl _) (0,[0]) ⟨rfl,by simp,kput [] 0 0,[],hS0,rfl⟩
 refine⟨o,kn,E,?_,h2,h3⟩;rw [y3n,if_pos (by rw [hr.nn];simp;omega),y4d (by simp),yOb,y2A,show iter (y1C a) (0,([]:List Int)++[0])=some o from h1];rfl
structure EL (st:Int→Int→Option Int) (al X:List Int) (i j:Nat) (E:List (Int×Int×Int)):Prop where
 so:E.Pairwise fun x y=>x.1<y.1∨(x.1=y.1∧x.2.1<y.2.1)
 ei:∀x∈E,x.1<(i:Int)∨(x.1=(i:Int)∧∃b,∃hb:b<al.length,b<j∧al[b]=x.2.1)
 sn:∀x∈E,∃(a q:Nat) (t r:Int),x.1=(a:Int)∧x.2.2=(q:Int)∧X[a]? =some t∧X[q]? =some r∧x.2.1∈al∧st t x.2.1=some r
 ed:∀(a b:Nat) (t e r:Int),(a<i∨(a=i∧b<j))→X[a]? =some t→al[b]? =some e→st t e=some r→∃q:Nat,((a:Int),e,(q:Int))∈E∧X[q]? =some r
 el:E.length≤32*i+j
theorem EL.skip{X:List Int}{E:List (Int×Int×Int)}(h:EL st al X i j E)(ht:X[i]? =some s)(he:al[j]? =some e)(hs:st s e=none):EL st al X i (j+1) E:=by
 refine⟨h.so,fun x hx=>?_,h.sn,fun a b t' e' r hab ha hb hst=>?_,by have:=h.el;omega⟩
 ·rcases h.ei x hx with h1|⟨h1,b,hb,h2,h3⟩
  ·exact .inl h1
  ·exact .inr ⟨h1,b,hb,by omega,h3⟩
 ·by_cases hx:a=i∧b=j
  ·obtain ⟨rfl,rfl⟩:=hx;rw [ht] at ha;rw [he] at hb;cases ha;cases hb;rw [hs] at hst;cases hst
  ·exact h.ed a b t' e' r (by omega) ha hb hst
theorem EL.edge{X:List Int}{E:List (Int×Int×Int)}(h:EL st al X i j E)(ia:Inc al)(hj:j<al.length){q:Nat}(ht:X[i]? =some s)(hs:st s al[j]=some v)(hq:X[q]? =some v):EL st al X i (j+1) (E++[((i:Int),al[j],(q:Int))]):=by
 refine⟨?_,fun x hx=>?_,fun x hx=>?_,fun a b t' e' r hab ha hb hst=>?_,by have:=h.el;rw [List.length_append,List.length_singleton];omega⟩
 ·rw [List.pairwise_append];refine⟨h.so,List.pairwise_singleton _ _,fun x hx y hy=>?_⟩;rw [yMs.1 hy];rcases h.ei x hx with h1|⟨h1,b,hb,h2,h3⟩
  ·exact .inl h1
  ·refine .inr ⟨h1,?_⟩;rw [←h3];exact List.pairwise_iff_getElem.1 ia b j hb hj h2
 ·rcases yMa.1 hx with hx|hx
  ·rcases h.ei x hx with h1|⟨h1,b,hb,h2,h3⟩
   ·exact .inl h1
   ·exact .inr ⟨h1,b,hb,by omega,h3⟩
  ·rw [yMs.1 hx];exact .inr ⟨rfl,j,hj,by omega,rfl⟩
 ·rcases yMa.1 hx with hx|hx
  ·exact h.sn x hx
  ·rw [yMs.1 hx];exact⟨i,q,s,v,rfl,rfl,ht,hq,yGm hj,hs⟩
 ·by_cases hx:a=i∧b=j
  ·obtain ⟨rfl,rfl⟩:=hx;rw [ht] at ha;rw [yGe hj] at hb;cases ha;cases hb;rw [hs] at hst;cases hst;exact⟨q,List.mem_append_right _ (yMs.2 rfl),hq⟩
  ·obtain ⟨q',g1,g2⟩:=h.ed a b t' e' r (by omega) ha hb hst;exact⟨q',List.mem_append_left _ g1,g2⟩
theorem EL.next{X:List Int}{E:List (Int×Int×Int)}(h:EL st al X i j E)(hj:al.length≤j)(hj2:j≤32):EL st al X (i+1) 0 E:=
 ⟨h.so,fun x hx=>by
  rcases h.ei x hx with h1|⟨h1,_⟩
  ·exact .inl (by omega)
  ·exact .inl (by omega),h.sn,fun a b t e r hab ha hb hst=>h.ed a b t e r (by have:=(List.getElem?_eq_some_iff.1 hb).1;omega) ha hb hst,by have:=h.el;omega⟩
theorem yeP(hr:Right a n)(hal:a.1.length≤32){X:List Int}{kn:List (Int×Int)}{E0:List (Int×Int×Int)}(hS:SR (st1 a) a.1 n X.length 0 X kn E0)(hi:i<X.length){ms:List Int}{y E:List (Int×Int×Int)}(hE:EL (st1 a) a.1 X i 0 E):
  ∃E',iter (yN a X ((i:Int),ms,y)) (0,E)=some E'∧EL (st1 a) a.1 X (i+1) 0 E':=by
 have hnl:=hr.nl;have hXl:=hS.len;refine yd (f:=yN a X ((i:Int),ms,y)) (fun j s=>s.1=(j:Int)∧EL (st1 a) a.1 X i j s.2) (fun o=>EL (st1 a) a.1 X (i+1) 0 o) a.1.length 0 (by omega) (fun j s hj ⟨e1,hE1⟩=>?_) (fun s ⟨e1,hE1⟩=>?_) (yZl _) (0,E) ⟨rfl,hE⟩
 ·obtain ⟨c,E1⟩:=s;dsimp only at e1 hE1;subst e1;have hel:=hE1.el;have hj2:∀l:List (Int×Int×Int),yM ((j:Int),E1) l=some (.inl (((j+1:Nat):Int),l)):=fun l=>by
   rw [yM];dsimp only;rw [nxt (by omega)]
  left;rw [yN];dsimp only;rw [if_pos (ct_lt hj),yc hi,yOb,yc hj,yOb,ycE hr,yOb];cases hst:st1 a X[i] a.1[j] with
  | none=>
   rw [Option.getD_none,if_neg (by simp),hj2];exact⟨_,rfl,rfl,hE1.skip (yGe hi) (yGe hj) hst⟩
  | some t=>
   have ht:=ybi hr hst;obtain⟨q,_,hq⟩:=hS.f.ed i j X[i] a.1[j] t (.inl hi) (yGe hi) (yGe hj) hst;obtain⟨k,hk,hk2⟩:=yeO (xs:=X) (x:=t) (by omega) (List.mem_of_getElem? hq);rw [Option.getD_some,if_pos (by simp;omega),yOb,hk,yOb,y4d (by simp;omega),yOb,hj2];exact⟨_,rfl,rfl,hE1.edge hr.ali hj (yGe hi) hst hk2⟩
 ·obtain ⟨c,E1⟩:=s;dsimp only at e1 hE1;subst e1;rw [yN];dsimp only;rw [if_neg ct_ge];exact⟨_,rfl,hE1.next (Nat.le_refl _) hal⟩
theorem yeQ(hr:Right a n)(h0:0<n):∃r X,y2m a=some r∧CanOf (st1 a) a.1 a.2.2.1 r X∧0<X.length∧X.length≤n:=by
 have hnl:=hr.nl;have hl1:=hr.l1;have hl2:=hr.l2;have hal:a.1.length≤32:=Alp.len ⟨hr.ali,hr.alr⟩;obtain⟨X,kn,E0,hf,hS,x0⟩:=yfM hr h0;have hXl:=hS.len;have hX0:0<X.length:=(List.getElem?_eq_some_iff.1 x0).1;obtain⟨o,h1,hE,m1,m2,mk⟩:=yd (f:=y1I a X) (fun i s=>s.1=(i:Int)∧i≤X.length∧EL (st1 a) a.1 X i 0 s.2.2∧Inc s.2.1∧(∀x∈s.2.1,0≤x∧x<(i:Int))∧∀(c:Nat) (x:Int),c<i→X[c]? =some x→((c:Int)∈s.2.1↔x∈a.2.2.1))
   (fun o=>EL (st1 a) a.1 X X.length 0 o.2∧Inc o.1∧(∀x∈o.1,0≤x∧x<(X.length:Int))∧∀(c:Nat) (x:Int),X[c]? =some x→((c:Int)∈o.1↔x∈a.2.2.1)) X.length 0 (by omega) (fun i s hi ⟨e1,_,hE,m1,m2,mk⟩=>by
   obtain⟨c,M,E⟩:=s;dsimp only at e1 hE m1 m2 mk;subst e1;have hMl:=y5c (n:=i) (lo:=0) m1 m2 (Int.le_refl _);have hj1:∀M':List Int,Inc M'→(∀x∈M',0≤x∧x<((i+1:Nat):Int))→(∀x:Int,x≠(i:Int)→(x∈M'↔x∈M))→((i:Int)∈M'↔X[i]∈a.2.2.1)→
     ∃s',yO a X ((i:Int),M,E) M'=some (.inl s')∧s'.1=((i+1:Nat):Int)∧i+1≤X.length∧EL (st1 a) a.1 X (i+1) 0 s'.2.2∧Inc s'.2.1∧(∀x∈s'.2.1,0≤x∧x<((i+1:Nat):Int))∧∀(c:Nat) (x:Int),c<i+1→X[c]? =some x→((c:Int)∈s'.2.1↔x∈a.2.2.1):=fun M' q1 q2 q3 q4=>by
    obtain⟨E',w1,w2⟩:=yeP hr hal hS hi (ms:=M) (y:=E) hE;rw [yO];dsimp only;rw [w1,yOb,nxt (by omega)];refine⟨_,rfl,rfl,hi,w2,q1,q2,fun c x hc hx=>?_⟩;dsimp only;by_cases e:c=i
    ·subst e;rw [yGe hi] at hx;cases hx;exact q4
    ·rw [q3 _ (by omega)];exact mk c x (by omega) hx
   left;rw [y1I];dsimp only;rw [if_pos (ct_lt hi),yc hi,yOb,ydp (by omega),yOb];cases hm:hasB a.2.2.1 X[i] with
   | true=>
    rw [if_pos rfl,y4d (by simp;omega),yOb];refine hj1 _ ?_ (fun x hx=>?_) (fun x hx=>?_) ⟨fun _=>yi.1 hm,fun _=>List.mem_append_right _ (yMs.2 rfl)⟩
    ·unfold Inc at m1 ⊢;rw [List.pairwise_append];exact⟨m1,List.pairwise_singleton _ _,fun c hc b hb=>by rw [yMs.1 hb];exact(m2 c hc).2⟩
    ·rcases yMa.1 hx with hx|hx
     ·have:=m2 x hx;omega
     ·rw [yMs.1 hx];omega
    ·rw [yMa,yMs];exact⟨fun h=>h.resolve_right hx,.inl⟩
   | false=>
    rw [if_neg (by simp)];refine hj1 M m1 (fun x hx=>by have:=m2 x hx;omega) (fun x _=>Iff.rfl) ⟨fun hx=>by have:=m2 _ hx;omega,fun hx=>?_⟩;rw [yi.2 hx] at hm;cases hm) (fun s ⟨e1,_,hE,m1,m2,mk⟩=>by
   obtain⟨c,M,E⟩:=s;dsimp only at e1 hE m1 m2 mk;subst e1;rw [y1I];dsimp only;rw [if_neg ct_ge];exact⟨_,rfl,hE,m1,m2,fun c x hx=>mk c x (List.getElem?_eq_some_iff.1 hx).1 hx⟩) (yZl _) (0,[],[]) ⟨rfl,yZl _,⟨List.Pairwise.nil,fun x hx=>(by cases hx),fun x hx=>(by cases hx),fun a b t e r hab=>by omega,by simp⟩,List.Pairwise.nil,fun x hx=>(by cases hx),fun c x hc=>absurd hc (Nat.not_lt_zero _)⟩
 obtain⟨M,E⟩:=o;dsimp only at hE m1 m2 mk;have hMl:=y5c (n:=X.length) (lo:=0) m1 m2 (Int.le_refl _);have hD:=hS.f.disc hS.nd hS.so hS.ea hr.alr;have hEE:E=E0:=yaQ (lt:=fun x y=>x.1<y.1∨(x.1=y.1∧x.2.1<y.2.1)) (fun a b h1 h2=>by omega) hE.so hD.so fun x=>by
  have same:∀{a q q':Nat} {t r r':Int},X[a]? =some t→X[q]? =some r→X[q']? =some r→q=q':=fun {a q q' t r r'} _ h1 h2=>by
   have e1:=(List.getElem?_eq_some_iff.1 h1).2;have e2:=(List.getElem?_eq_some_iff.1 h2).2;exact(List.getElem_inj hS.nd).1 (e1.trans e2.symm)
  constructor
  ·intro hx;obtain⟨c,q,t,r,g1,g2,g3,g4,g5,g6⟩:=hE.sn x hx;obtain⟨q',k1,k2⟩:=hD.ed c t x.2.1 r g3 g5 g6;have:=same (r':=r) g3 g4 k2;subst this;rw [←g1,←g2] at k1;exact k1
  ·intro hx;obtain⟨c,q,t,r,g1,g2,g3,g4,g5,g6⟩:=hD.sn x hx;obtain⟨b,hb,hbe⟩:=List.getElem_of_mem g5;obtain⟨q',k1,k2⟩:=hE.ed c b t x.2.1 r (.inl (List.getElem?_eq_some_iff.1 g3).1) g3 (by rw [yGe hb,hbe]) g6;have:=same (r':=r) g3 g4 k2;subst this;rw [←g1,←g2] at k1;exact k1
 subst hEE;have hEl:=hE.el;refine⟨(a.1,(X.length:Int),M,E),X,?_,⟨⟨rfl,by omega,hr.ali,hr.alr,m1,m2,fun x hx=>?_,hE.so,hl1,by dsimp only;omega,by dsimp only;omega⟩,rfl,fun _=>x0,hD,mk⟩,hX0,hXl⟩
 ·rw [y2m,hf,yOb,ybS (by omega),yOb,h1];rfl
 ·obtain ⟨c,q,t,r,g1,g2,g3,g4,g5,_⟩:=hE.sn x hx;have e3:=(List.getElem?_eq_some_iff.1 g3).1;have e4:=(List.getElem?_eq_some_iff.1 g4).1;exact⟨by omega,by omega,by omega,by omega,g5⟩
end
abbrev Row5 :=Int×Int×Int×Int×Int
def ya2(g:Row5×Row5×Row5×Row5×Row5):List Int:=
 [g.1.1,g.1.2.1,g.1.2.2.1,g.1.2.2.2.1,g.1.2.2.2.2,g.2.1.1,g.2.1.2.1,g.2.1.2.2.1,g.2.1.2.2.2.1,g.2.1.2.2.2.2,g.2.2.1.1,g.2.2.1.2.1,g.2.2.1.2.2.1,g.2.2.1.2.2.2.1,g.2.2.1.2.2.2.2,g.2.2.2.1.1,g.2.2.2.1.2.1,g.2.2.2.1.2.2.1,g.2.2.2.1.2.2.2.1,g.2.2.2.1.2.2.2.2,g.2.2.2.2.1,g.2.2.2.2.2.1,g.2.2.2.2.2.2.1,g.2.2.2.2.2.2.2.1,g.2.2.2.2.2.2.2.2]
structure GrIn (g:yg):Prop where
 s:0≤g.1∧g.1<256
 c:∀y∈ya2 g.2.2,0≤y∧y<256
structure MG (ev:List Int) (n i j:Nat) (E:List (Int×Int×Int)):Prop where
 er:∀x∈E,0≤x.1∧x.1≤(i:Int)∧x.2.1∈ev∧0≤x.2.2∧x.2.2<(n:Int)
 es:∀x∈E,x.1=(i:Int)→∃b,∃hb:b<ev.length,b<j∧ev[b]=x.2.1
 so:E.Pairwise fun x y=>x.1<y.1∨(x.1=y.1∧x.2.1<y.2.1)
 el:E.length≤5*i+j
theorem MG.push{n:Nat}{E:List (Int×Int×Int)}{q:Int}(h:MG ev n i j E)(ie:Inc ev)(hj:j<ev.length)(h0:0≤q)(h1:q<(n:Int)):MG ev n i (j+1) (E++[((i:Int),ev[j],q)]):=by
 refine⟨fun x hx=>?_,fun x hx e=>?_,?_,by have:=h.el;rw [List.length_append,List.length_singleton];omega⟩
 ·rcases yMa.1 hx with hx|hx
  ·exact h.er x hx
  ·rw [yMs.1 hx];exact⟨by dsimp only;omega,by dsimp only;omega,yGm hj,h0,h1⟩
 ·rcases yMa.1 hx with hx|hx
  ·obtain ⟨b,hb,h2,h3⟩:=h.es x hx e;exact⟨b,hb,by omega,h3⟩
  ·rw [yMs.1 hx];exact⟨j,hj,by omega,rfl⟩
 ·rw [List.pairwise_append];refine⟨h.so,List.pairwise_singleton _ _,fun a ha b hb=>?_⟩;rw [yMs.1 hb];have h2:=h.er a ha;by_cases e:a.1=(i:Int)
  ·obtain ⟨b,hb,h3,h4⟩:=h.es a ha e;refine .inr ⟨e,?_⟩;rw [←h4];exact List.pairwise_iff_getElem.1 ie b j hb hj h3
  ·exact .inl (by dsimp only;omega)
theorem MG.skip{n:Nat}{E:List (Int×Int×Int)}(h:MG ev n i j E):MG ev n i (j+1) E:=⟨h.er,fun x hx e=>by
 obtain⟨b,hb,h2,h3⟩:=h.es x hx e;exact⟨b,hb,by omega,h3⟩,h.so,by have:=h.el;omega⟩
theorem MG.next{n:Nat}{E:List (Int×Int×Int)}(h:MG ev n i j E)(hj:j≤5):MG ev n (i+1) 0 E:=⟨fun x hx=>by
 have:=h.er x hx;exact⟨this.1,by omega,this.2.2⟩,fun x hx e=>by have:=h.er x hx;omega,h.so,by have:=h.el;omega⟩
theorem yfN(ie:Inc ev)(he:∀x∈ev,0≤x∧x<32)(hel:ev.length≤5){g:yg}(hg:GrIn g):∃r n,y3x ev g=some r∧Right r n∧n≤5∧r.1=ev∧(n:Int)≤1+g.1 % 5∧(250≤g.1→n=0):=by
 obtain⟨s,m,c⟩:=g;obtain⟨hs,hc⟩:=hg;dsimp only at hs hc;rw [y3x,ybS (by omega)];dsimp only;by_cases h250:s≥250
 ·rw [if_pos (by simpa using h250),yOb];exact⟨_,0,rfl,⟨rfl,by omega,ie,he,List.Pairwise.nil,fun x hx=>(by cases hx),fun x hx=>(by cases hx),List.Pairwise.nil,by dsimp only;omega,by simp,by simp⟩,by omega,rfl,by omega,fun _=>rfl⟩
 rw [if_neg (by simpa using h250),yOb];obtain⟨n,hn0,hn5,hns,hn⟩:∃n:Nat,0<n∧n≤5∧(n:Int)=1+s % 5∧W (1+W (s.tmod 5))=(n:Int):=by
  refine⟨(1+s % 5).toNat,by omega,by omega,by omega,?_⟩;rw [Int.tmod_eq_emod_of_nonneg hs.1,W_of (x:=s % 5) (by omega) (by omega),W_of (by omega) (by omega)];omega
 have hn2:W ((n:Int)+2)=((n+2:Nat):Int):=by rw [show (n:Int)+2=((n+2:Nat):Int) by omega,W_nat (by omega)]
 rw [hn];obtain⟨o,h1,m1,m2,hM⟩:=yd (f:=y2J ev (s,m,c)) (fun i t=>t.1=(i:Int)∧Inc t.2.1∧(∀x∈t.2.1,0≤x∧x<(i:Int))∧MG ev n i 0 t.2.2) (fun o=>Inc o.1∧(∀x∈o.1,0≤x∧x<(n:Int))∧MG ev n n 0 o.2) n 0 (by omega) (fun i t hi ⟨e1,m1,m2,hM⟩=>by
   obtain⟨t1,t2,t3⟩:=t;dsimp only at e1 m1 m2 hM;subst e1;have hMl:=y5c (n:=i) (lo:=0) m1 m2 (Int.le_refl _);have hj:∀l:List Int,Inc l→(∀x∈l,0≤x∧x<((i+1:Nat):Int))→∃s',y1N ev (s,m,c) ((i:Int),t2,t3) l=some (.inl s')∧s'.1=((i+1:Nat):Int)∧Inc s'.2.1∧(∀x∈s'.2.1,0≤x∧x<((i+1:Nat):Int))∧MG ev n (i+1) 0 s'.2.2:=by
    intro l hl1 hl2;obtain⟨o,h1,h2⟩:=yd (f:=y2I ev (s,m,c) ((i:Int),t2,t3)) (fun k t=>t.1=(k:Int)∧MG ev n i k t.2) (fun o=>MG ev n i ev.length o) ev.length 0 (by omega) (fun k t hk ⟨g1,g2⟩=>by
      obtain⟨u1,u2⟩:=t;dsimp only at g1 g2;subst g1;have hel2:=g2.el;have hj2:∀l:List (Int×Int×Int),y1M ((k:Int),u2) l=some (.inl (((k+1:Nat):Int),l)):=fun l=>by
       rw [y1M];dsimp only;rw [nxt (by omega)]
      left;have hlt:i*5+k*1<(ya2 c).length:=by show _<25;omega
      obtain⟨v,hcell,hv⟩:∃v,(ya2 c)[i*5+k*1]? =some v∧0≤v∧v<256:=⟨_,yGe hlt,hc _ (yGm hlt)⟩;rw [ya2] at hcell;rw [y2I];dsimp only;rw [if_pos (by simp;omega),show rng (i:Int) 5=some () from if_pos (by simp;omega),yOb,show rng (k:Int) 5=some () from if_pos (by simp;omega),yOb,Int.toNat_natCast,Int.toNat_natCast,hcell,yOb,hn,hn2,show nz ((n+2:Nat):Int)=some () from if_neg (by omega),yOb,W_of (x:=v) (by omega) (by omega),Int.tmod_eq_emod_of_nonneg hv.1];have hm0:=Int.emod_nonneg v (show ((n+2:Nat):Int)≠0 by omega);by_cases hlt2:v % ((n+2:Nat):Int)<(n:Int)
      ·rw [if_pos (decide_eq_true hlt2),yc hk,yOb,y4d (by rw [List.length_cons,List.length_nil];omega),yOb,hj2];exact⟨_,rfl,rfl,g2.push ie hk hm0 hlt2⟩
      ·rw [if_neg (by simpa using hlt2),hj2];exact⟨_,rfl,rfl,g2.skip⟩) (fun t ⟨g1,g2⟩=>by
      obtain⟨u1,u2⟩:=t;dsimp only at g1 g2;subst g1;rw [y2I];dsimp only;rw [if_neg (by simp)];exact⟨_,rfl,g2⟩) (yZl _) (0,t3) ⟨rfl,hM⟩
    rw [y1N];dsimp only;rw [h1,yOb,nxt (by omega)];exact⟨_,rfl,rfl,hl1,hl2,h2.next hel⟩
   left;rw [y2J];dsimp only;rw [hn,if_pos (by simp;omega),show ng (i:Int)=some () from if_neg (by omega),yOb];split
   ·rw [y4d (by simp;omega),yOb];refine hj _ ?_ (fun x hx=>?_)
    ·unfold Inc at m1 ⊢;rw [List.pairwise_append];exact⟨m1,List.pairwise_singleton _ _,fun c hc b hb=>by rw [yMs.1 hb];exact(m2 c hc).2⟩
    ·rcases yMa.1 hx with hx|hx
     ·have:=m2 x hx;omega
     ·rw [yMs.1 hx];omega
   ·exact hj _ m1 (fun x hx=>by have:=m2 x hx;omega)) (fun t ⟨e1,m1,m2,hM⟩=>by
   obtain⟨t1,t2,t3⟩:=t;dsimp only at e1 m1 m2 hM;subst e1;rw [y2J];dsimp only;rw [hn,if_neg (by simp)];exact⟨_,rfl,m1,m2,hM⟩) (yZl _) (0,[],[]) ⟨rfl,List.Pairwise.nil,fun x hx=>(by cases hx),⟨fun x hx=>(by cases hx),fun x hx=>(by cases hx),List.Pairwise.nil,by simp⟩⟩
 obtain⟨M,E⟩:=o;dsimp only at m1 m2 hM;have hMl:=y5c (n:=n) (lo:=0) m1 m2 (Int.le_refl _);have hel2:=hM.el;have hR:Right (ev,(n:Int),M,E) n:=⟨rfl,by omega,ie,he,m1,m2,fun x hx=>by
  have h:=hM.er x hx;refine⟨h.1,?_,h.2.2.2.1,h.2.2.2.2,h.2.2.1⟩;by_cases e:x.1=(n:Int)
  ·obtain ⟨b,_,hb,_⟩:=hM.es x hx e;omega
  ·omega,hM.so,by dsimp only;omega,by dsimp only;omega,by dsimp only;omega⟩
 obtain⟨r,X,hc1,hc2,hc3,hc4⟩:=yeQ hR hn0;rw [h1,yOb,hc1,yOb];exact⟨r,X.length,rfl,hc2.right,by omega,hc2.ale,by omega,fun h=>absurd h h250⟩
abbrev GrpT :=(Int×Int×Int×Int)×(yg×yg×yg×yg)×Int
structure GrpIn (p:GrpT):Prop where
 g0:GrIn p.2.1.1
 g1:GrIn p.2.1.2.1
 g2:GrIn p.2.1.2.2.1
 g3:GrIn p.2.1.2.2.2
 c:0≤p.2.2∧p.2.2<256
theorem yfO{p:GrpT}(hp:GrpIn p):∃l,y3y p=some l∧SmL l:=by
 obtain⟨n,hn,hc⟩:∃n:Nat,n≤4∧W (p.2.2.tmod 5)=(n:Int):=by
  have h0:=hp.c;refine⟨(p.2.2 % 5).toNat,by omega,?_⟩;rw [Int.tmod_eq_emod_of_nonneg h0.1,W_of (by omega) (by omega)];omega
 obtain⟨o,h1,h2⟩:=yd (f:=y1P p) (fun i s=>s.1=(i:Int)∧s.2.length=i∧∀a∈s.2,∃n:Nat,n≤3∧Right a n∧∀e∈a.1,e<5) (fun o=>SmL o) n 0 (by omega) (fun i s hi ⟨e1,e2,e3⟩=>by
   obtain⟨k,out⟩:=s;dsimp only at e1 e2 e3;subst e1;left;obtain⟨g,hg,hgi⟩:∃g,([p.2.1.1,p.2.1.2.1,p.2.1.2.2.1,p.2.1.2.2.2]:List yg)[i]? =some g∧GrIn g:=by
    have:i=0∨i=1∨i=2∨i=3:=by omega
    rcases this with rfl|rfl|rfl|rfl
    ·exact ⟨_,rfl,hp.g0⟩
    ·exact ⟨_,rfl,hp.g1⟩
    ·exact ⟨_,rfl,hp.g2⟩
    ·exact ⟨_,rfl,hp.g3⟩
   obtain⟨s,hs⟩:∃s,([p.1.1,p.1.2.1,p.1.2.2.1,p.1.2.2.2]:List Int)[i*1]? =some s:=⟨_,yGe (by rw [show ([p.1.1,p.1.2.1,p.1.2.2.1,p.1.2.2.2]:List Int).length=4 from rfl];omega)⟩;obtain⟨ev,he,hi1,hi2,hi3⟩:=yfJ s;have hj:∀m:Int,0≤m∧m<256→(m<250→m<3)→∃r,y1O p ((i:Int),out) g m=some (.inl (((i+1:Nat):Int),out++[r]))∧∃n:Nat,n≤3∧Right r n∧∀e∈r.1,e<5:=fun m hm hm3=>by
    obtain⟨r,k,k1,k2,_,k4,k5,k6⟩:=yfN hi1 (fun x hx=>by have:=hi2 x hx;omega) hi3 (g:=(m,g.2)) ⟨hm,hgi.c⟩;refine⟨r,?_,k,?_,k2,fun e hee=>by rw [k4] at hee;exact(hi2 e hee).2⟩
    ·rw [y1O];dsimp only;rw [show rng (i:Int) 4=some () from yeD (by omega),yOb,Int.toNat_natCast,hs,yOb,he,yOb,k1,yOb,y4o (by simp;omega),yOb,nxt (by omega)]
    ·dsimp only at k5 k6;by_cases h250:250≤m
     ·have:=k6 h250;omega
     ·have:=hm3 (by omega);omega
   have hgs:=hgi.s;have hmain:∃r,y1P p ((i:Int),out)=some (.inl (((i+1:Nat):Int),out++[r]))∧∃n:Nat,n≤3∧Right r n∧∀e∈r.1,e<5:=by
    rw [y1P];dsimp only;rw [hc,if_pos (ct_lt hi),show rng (i:Int) 4=some () from yeD (by omega),yOb,Int.toNat_natCast,hg,yOb];by_cases h250:g.1<250
    ·rw [if_pos (decide_eq_true h250),Int.tmod_eq_emod_of_nonneg hgs.1];exact hj _ (by omega) (fun _=>by omega)
    ·rw [if_neg (by simpa using h250)];exact hj _ hgs (fun h=>absurd h h250)
   obtain⟨r,k1,k2⟩:=hmain;refine⟨_,k1,rfl,by simp [e2],fun a ha=>?_⟩;rcases yMa.1 ha with ha|ha
   ·exact e3 a ha
   ·rw [yMs.1 ha];exact k2)
  (fun s ⟨e1,e2,e3⟩=>by
   obtain⟨k,out⟩:=s;dsimp only at e1 e2 e3;subst e1;refine⟨out,?_,by omega,e3⟩;rw [y1P];dsimp only;rw [hc,if_neg ct_ge]) (yZl _) (0,[]) ⟨rfl,rfl,fun a ha=>by cases ha⟩
 exact⟨o,by rw [y3y,h1];rfl,h2⟩
theorem ycF(h:SmL l):y2K l=some 0:=by
 have hl:=h.len;rw [y2K,ydn (by omega) h.rgt,yOb,if_neg (by simp),if_neg (by simp;omega)]
section
variable{l:List AutT}(h:SmL l)
include h
theorem yfP{k:Nat}(hk:k<l.length){out s1:List (Int×Int)}(ho:out.length≤16):
  ∃out',iter (yE l ((k:Int),s1)) (((k+1:Nat):Int),out)=some (.inl out')∧iter (yf l ((k:Int),s1)) (((k+1:Nat):Int),out)=some out'∧out'.length≤out.length+4:=by
 have hl:=h.len;have hstep:∀(i:Nat) (o:List (Int×Int)),i<l.length→o.length≤20→∃o',yE l ((k:Int),s1) ((i:Int),o)=some (.inl (((i+1:Nat):Int),o'))∧yf l ((k:Int),s1) ((i:Int),o)=some (.inl (((i+1:Nat):Int),o'))∧o'.length≤o.length+1:=fun i o hi ho=>by
  obtain⟨b,h1,h2⟩:=ycR h (is:=[(k:Int),(i:Int)]) (fun x hx=>by
   rcases List.mem_cons.1 hx with rfl|hx
   ·omega
   ·rw [yMs.1 hx];omega) (by simp)
  have hj1:∀u:List (Int×Int),y2a ((i:Int),o) u=some (.inl (((i+1:Nat):Int),u)):=fun u=>by
   rw [y2a];dsimp only;rw [nxt (by omega)]
  have hj2:∀u:List (Int×Int),yq ((i:Int),o) u=some (.inl (((i+1:Nat):Int),u)):=fun u=>by
   rw [yq];dsimp only;rw [nxt (by omega)]
  cases b with
  | true=>
   refine⟨o,?_,?_,by omega⟩
   ·rw [yE];dsimp only;rw [if_pos (ct_lt hi),h1,yOb,if_neg (by simp),if_neg (by simp),hj1]
   ·rw [yf];dsimp only;rw [if_pos (ct_lt hi),h2,yOb,if_neg (by simp),hj2]
  | false=>
   refine⟨o++[((k:Int),(i:Int))],?_,?_,by simp⟩
   ·rw [yE];dsimp only;rw [if_pos (ct_lt hi),h1,yOb,if_neg (by simp),if_pos (by simp),y4o (by simp;omega),yOb,hj1]
   ·rw [yf];dsimp only;rw [if_pos (ct_lt hi),h2,yOb,if_pos (by simp),y4o (by simp;omega),yOb,hj2]
 have key:∀(d i:Nat) (o:List (Int×Int)),i+d=l.length→o.length+d≤20→∃o',iterF (yE l ((k:Int),s1)) (d+1) ((i:Int),o)=some (.inl o')∧iterF (yf l ((k:Int),s1)) (d+1) ((i:Int),o)=some o'∧o'.length≤o.length+d:=by
  intro d
  induction d with
  | zero=>
   intro i o hi _;refine⟨o,?_,?_,by omega⟩
   ·rw [yk,yE];dsimp only;rw [if_neg (by simp;omega)]
   ·rw [yk,yf];dsimp only;rw [if_neg (by simp;omega)]
  | succ d ih=>
   intro i o hi hol;obtain⟨o1,h1,h2,h3⟩:=hstep i o (by omega) (by omega);obtain⟨o2,h4,h5,h6⟩:=ih (i+1) o1 (by omega) (by omega);refine⟨o2,?_,?_,by omega⟩
   ·rw [yk,h1];exact h4
   ·rw [yk,h2];exact h5
 obtain⟨o',h1,h2,h3⟩:=key (l.length-(k+1)) (k+1) out (by omega) (by omega);exact⟨o',y4w (by omega) h1,y4w (by omega) h2,by omega⟩
theorem ydK :∃out,iter (y2b l) (0,([]:List (Int×Int)))=some (.inl out)∧iter (yr l) (0,([]:List (Int×Int)))=some out∧out.length≤16:=by
 have hl:=h.len;have key:∀(d i:Nat) (o:List (Int×Int)),i+d=l.length→o.length+4*d≤16→∃o',iterF (y2b l) (d+1) ((i:Int),o)=some (.inl o')∧iterF (yr l) (d+1) ((i:Int),o)=some o'∧o'.length≤16:=by
  intro d
  induction d with
  | zero=>
   intro i o hi _;refine⟨o,?_,?_,by omega⟩
   ·rw [yk,y2b];dsimp only;rw [if_neg (by simp;omega)]
   ·rw [yk,yr];dsimp only;rw [if_neg (by simp;omega)]
  | succ d ih=>
   intro i o hi hol;have hil:i<l.length:=by omega
   obtain⟨o1,h1,h2,h3⟩:=yfP h hil (out:=o) (s1:=o) (by omega);obtain⟨o2,h4,h5,h6⟩:=ih (i+1) o1 (by omega) (by omega);refine⟨o2,?_,?_,h6⟩
   ·rw [yk,y2b];dsimp only;rw [if_pos (ct_lt hil),nxt (by omega),h1,yOb];exact h4
   ·rw [yk,yr];dsimp only;rw [if_pos (ct_lt hil),nxt (by omega),h2,yOb];exact h5
 obtain⟨o',h1,h2,h3⟩:=key l.length 0 [] (by omega) (by simp;omega);exact⟨o',y4w (by omega) h1,y4w (by omega) h2,h3⟩
end
theorem yeR{p:GrpT}(hp:GrpIn p):y2g p=some true:=by
 obtain⟨l,hm,h⟩:=yfO hp;obtain⟨out,h1,h2,h3⟩:=ydK h;rw [y2g,ygp,yOb,if_neg (by simp),hm,yOb,y4y,ycF h,yOb,if_neg (by simp),h1,yOb];dsimp only;rw [yOb,h2,yOb];dsimp only;rw [if_pos (by simp),yfv (by omega)];rfl
end
section
open Go.Proofs.Tryz Go Go.RowKit Go.ChangeShapes Go.WideShapes Go.Deep
def Op(P:Program){α:Type}(r:Rep α)(Q:α→Prop)(t:TypeId):Prop:=
 ∀(H:Type) (enc:TypeId×Value→H) (w:World) (fuel:Nat) (cs:List Value) (x:DataW H×List MemPlace),DataW.trod enc P w 0 (fun _=>true) true fuel t cs=some x→∃y:α,r.rd ⟨w,fun _=>0⟩ cs y∧Q y
section
variable{P:Program}{α β:Type}{r:Rep α}{q:Rep β}{Q:α→Prop}{R:β→Prop}{t e:TypeId}
theorem ygX{w:World}{base:Nat}{v:Value}{fs:Array Field}{ts:List TypeId}(ht:P.underlying t=some (.struct fs))(hts:P.cellTypes P.depth t=some ts)(hsz:P.cellsOf t=ts.length)(hok:Value.okWide P w .any base t v):
  ∃cs,v= .agg cs∧cs.size=ts.length∧∀(i:Nat) (u:TypeId),ts[i]? =some u→∃c:Value,cs[i]? =some c∧Cell.okWide P w .any base u c:=by
 simp only [Value.okWide,ht] at hok;obtain⟨cs,rfl,h1,ts',h2,h3,h4⟩:=hok;rw [hts] at h2;cases h2;refine⟨cs,rfl,by omega,fun i u hu=>?_⟩;have hlt:i<ts.length:=(yGs.1 hu).1;obtain⟨u',g1,g2⟩:=h4 i cs[i] (Array.getElem?_eq_getElem (by omega));rw [Nat.mod_eq_of_lt hlt,hu] at g1;cases g1;exact⟨_,Array.getElem?_eq_getElem (by omega),g2⟩
end
end
section
open Go.Proofs.Tryz Go Go.ChangeShapes Go.WideShapes Go.ChangeAt Go.RowKit Go.Deep
theorem Fw.law{P:Program}{f:FuncId}{ts:List TV}(h:Fw P f ⟨0,[]⟩ ts [] (.b true) []){w:World}{vs:List Value}(ha:All3 (fun _=> .bool false) ⟨w,fun _=>0⟩ ts vs):Calls P f vs.toArray w fun e w'=>e= .returned (.bool true)∧Below w.heap.size w w':=
 Calls.mono (h.is [] (fun _=> .bool false) ⟨w,fun _=>0⟩ vs rfl (yNr _) List.nodup_nil (fun t ht=>by cases ht) ha (fun i o h=>by simp at h)) fun e W' ⟨v,s',hw,he,hm,β',_,hv,_⟩=>by
  obtain⟨hv,_⟩:=hv;subst hw;subst hv;exact⟨he,(hm.weak (S':=No) fun t ⟨i,hi,_⟩=>by cases hi).below⟩
theorem All3.c{β:Nat→Value}{s:Sig}{x:TV}{xs:List TV}{v:Value}{us:List Value}(h:x.p β s v)(h2:All3 β s xs us):All3 β s (x::xs) (v::us):=⟨v,us,h,h2,rfl⟩
theorem ygz{w:World}{r:Reach}{base:Nat}{v:Value}(h:Cell.okWide prog w r base 5 v):∃n:Int,v= .int .u8 n∧0≤n∧n<256:=by
 simp only [Cell.okWide,underlying5] at h;cases v <;> simp_all [Cell.ok];rename_i k n;obtain⟨rfl,h2⟩:=h;simp [IntKind.has,IntKind.min,IntKind.max,IntKind.signed,IntKind.bits] at h2;omega
theorem ydL{α:Type}[Inhabited α]{n:Nat}{p:Nat→α→Prop}(h:∀i,i<n→∃x,p i x):∃f:Nat→α,∀i,i<n→p i (f i):=
 ⟨fun i=>if hi:i<n then Classical.choose (h i hi) else default,fun i hi=>by
  dsimp only;rw [dif_pos hi];exact Classical.choose_spec (h i hi)⟩
def gpT :List TypeId:=List.replicate 4 40++List.replicate 109 5
theorem yfQ :prog.cellTypes prog.depth 48=some gpT:=by kernel_rfl
theorem yfR :prog.cellsOf 48=gpT.length:=by kernel_rfl
section
variable{H:Type}{enc:TypeId×Value→H}{w:World}{base:Nat}{v:Value}{d:DataW H}{ps:List MemPlace}
/-- A described group. -/
theorem ygA(hok:Value.okWide prog w .any base 48 v):∃x:GrpT,GrpIn x∧∀β s,(TV.a (lx48 x)).p β s v:=by
 obtain⟨cs,rfl,h1,h2⟩:=ygX underlying48 yfQ yfR hok;have h1':cs.size=113:=h1;obtain⟨f,hf⟩:=ydL (α:=Int) (n:=113) (p:=fun i n=>cs[i]? =some (.int .u8 n)∧0≤n∧n<256) (fun i hi=>by
  obtain⟨u,hu,hu2⟩:∃u,gpT[i]? =some u∧(u=40∨u=5):=by
   refine⟨gpT[i]'hi,yGe (l:=gpT) hi,?_⟩;have:=yGm (l:=gpT) hi;generalize gpT[i]'hi=u at this;simp only [gpT,yMa,List.mem_replicate] at this;rcases this with h|h
   ·exact .inl h.2
   ·exact .inr h.2
  obtain⟨c,g1,g2⟩:=h2 i u hu;have g2':Cell.okWide prog w .any base 5 c:=by
   rcases hu2 with rfl|rfl
   ·simp only [Cell.okWide,Cell.ok,underlying40,underlying5] at g2 ⊢;exact g2
   ·exact g2
  obtain⟨n,rfl,g3⟩:=ygz g2';exact⟨n,g1,g3⟩)
 have hcs:cs=((List.range 113).map fun i=>Value.int .u8 (f i)).toArray:=by
  apply Array.ext_getElem?;intro i;by_cases hi:i<113
  ·rw [(hf i hi).1];simp [hi]
  ·rw [Array.getElem?_eq_none (by omega),Array.getElem?_eq_none (by simp;omega)]
 have gr:∀o,o+27≤113→GrIn (f o,f (o+1),((f (o+2),f (o+3),f (o+4),f (o+5),f (o+6)),(f (o+7),f (o+8),f (o+9),f (o+10),f (o+11)),(f (o+12),f (o+13),f (o+14),f (o+15),f (o+16)),(f (o+17),f (o+18),f (o+19),f (o+20),f (o+21)),(f (o+22),f (o+23),f (o+24),f (o+25),f (o+26)))):=fun o ho=>by
  refine⟨(hf o (by omega)).2,fun y hy=>?_⟩;have hy2:y∈(List.range 25).map fun i=>f (o+(i+2)):=hy;obtain⟨i,hi,rfl⟩:=yMp.1 hy2;have:=List.mem_range.1 hi;exact(hf (o+(i+2)) (by omega)).2
 refine⟨((f 0,f 1,f 2,f 3),((f 4,f 5,((f 6,f 7,f 8,f 9,f 10),(f 11,f 12,f 13,f 14,f 15),(f 16,f 17,f 18,f 19,f 20),(f 21,f 22,f 23,f 24,f 25),(f 26,f 27,f 28,f 29,f 30))),(f 31,f 32,((f 33,f 34,f 35,f 36,f 37),(f 38,f 39,f 40,f 41,f 42),(f 43,f 44,f 45,f 46,f 47),(f 48,f 49,f 50,f 51,f 52),(f 53,f 54,f 55,f 56,f 57))),(f 58,f 59,((f 60,f 61,f 62,f 63,f 64),(f 65,f 66,f 67,f 68,f 69),(f 70,f 71,f 72,f 73,f 74),(f 75,f 76,f 77,f 78,f 79),(f 80,f 81,f 82,f 83,f 84))),(f 85,f 86,((f 87,f 88,f 89,f 90,f 91),(f 92,f 93,f 94,f 95,f 96),(f 97,f 98,f 99,f 100,f 101),(f 102,f 103,f 104,f 105,f 106),(f 107,f 108,f 109,f 110,f 111)))),f 112),⟨gr 4 (by omega),gr 31 (by omega),gr 58 (by omega),gr 85 (by omega),(hf 112 (by omega)).2⟩,fun β s=>?_⟩;refine⟨((List.range 113).map fun i=>Value.int .u8 (f i)),?_,by rw [hcs]⟩;exact y8D (cs:=(List.range 113).map fun i=>Value.int .u8 (f i)) (yAt.2 fun x hx=>by
  obtain⟨i,_,rfl⟩:=yMp.1 hx;rfl)
end
theorem yOwn :ownKnob prog.godebug=none:=by kernel_rfl
theorem yLaid :laidOutB prog=true:=by kernel_rfl
section
variable{H:Type}{enc:TypeId×Value→H}
def ycG(P:Program)(ts:List TypeId):Bool:=ts.all fun t=>P.readableRec t&&decide (t<P.types.size)
theorem y9y{P:Program}(hl:laidOutB P=true){W W':World}(hb:Below W.heap.size W W'){sp:Nat→Bool}:∀{ts:List TypeId} {vs:List Value} {ds:List (DataW H)} {ps:List MemPlace},ycG P ts=true→
  DataW.TrodAll enc P W 0 (fun _=>true) true ts vs ds ps→(∀x∈ps,x.block<W.heap.size)→(∀x∈ps,sp x.block=true)→DataW.TrodAll enc P W' 0 sp true ts vs ds ps
 | [],[],[],_,_,h,_,_=>h
 | [],_::_,_,_,_,h,_,_=>h.elim
 | [],[],_::_,_,_,h,_,_=>h.elim
 | t::ts,[],_,_,_,h,_,_=>h.elim
 | t::ts,_::_,[],_,_,h,_,_=>h.elim
 | t::ts,v::vs,d::ds,ps,hc,⟨p,q,h1,h2,e⟩,hlt,hsp=>by
  subst e;unfold ycG at hc;rw [List.all_cons,yAe,yAe] at hc;exact⟨p,q,WideElems.Trod_stays hl hc.1.1 (of_decide_eq_true hc.1.2) h1 (fun x hx=>hb.same (hlt x (yMl _ hx))) (fun x hx=>hsp x (yMl _ hx)),
   y9y hl hb hc.2 h2 (fun x hx=>hlt x (yMr _ hx)) (fun x hx=>hsp x (yMr _ hx)),rfl⟩
theorem yfS{P:Program}(hl:laidOutB P=true){f:Func}{s:ChangeSpec}{apart fresh handsOn again:Bool}{W W':World}{args:Array Value}{ds:List (DataW H)}{before:List MemPlace}{tb:TypeId}{b:Bool}
  (hW:DataW.Whole enc P f.params.toList s.vars apart W args.toList ds [] before) (hv:s.vars= []) (hc:ycG P f.params.toList=true) (hrt:f.resultTypes= #[tb]) (ht:P.underlying tb=some .bool)
  (hr:(s.fn H (ds++[])).results= [.lit (.bool b)]) (ha:(s.fn H (ds++[])).args=ds) (hvn:(s.fn H (ds++[])).vars= []) (hb:Below W.heap.size W W'):
  s.post enc P f apart fresh handsOn again W args (.bool b) W':=by
 have hlt:∀p∈before,p.block<W.heap.size:=fun p hp=>hW.lt p hp;have hWc:=hW;obtain⟨p,q,hA,hV,rfl,hz,hn⟩:=hWc;rw [hv] at hV;obtain⟨-,rfl⟩:=trodVars_none hV;rw [List.append_nil] at hlt hz hn;have hargs:∀sp:Nat→Bool,(∀x∈p,sp x.block=true)→DataW.TrodAll enc P W' 0 sp true f.params.toList args.toList (s.fn H (ds++[])).args p:=fun sp hsp=>by
  rw [ha];exact y9y hl hb hc hA hlt hsp
 have hres:∀(b0:Nat) (sp:Nat→Bool) (hd:Bool),DataW.TrodAll enc P W' b0 sp hd f.resultTypes.toList ((Value.bool b).resultList f.resultTypes.size) (s.fn H (ds++[])).results []:=fun _ _ _=>by
  rw [hr,hrt];exact trodAll_mk1 (shut_bool ht b)
 have hvars:∀sp:Nat→Bool,DataW.TrodVars enc P W' sp s.vars (s.fn H (ds++[])).vars []:=fun sp=>by rw [hv,hvn];rfl
 have hold:∀x∈p,(fun b=>decide (b<W.heap.size)) x.block=true:=fun x hx=>by simpa using hlt x hx
 refine⟨ds,[],p++[],[],p,[],hW,hres _ _ _,hargs _ hold,hvars _,World.keptBut_mono (fun x hx=>?_) (hb.frame (· ∈p)),fun _=>?_⟩
 ·exact ⟨by rwa [List.append_nil],Or.inr (.inl hx)⟩
 ·have hok:=ok_one (f:=f) (W':=W') (by rw [hrt]) rfl (okWide_bool_mk (W':=W') ht b);refine⟨hok,_,_,([]++p)++[],⟨[]++p,[],trodAll_append (hargs _ (fun _ _=>rfl)) (hres _ _ _),hvars _,rfl,?_,?_⟩,?_⟩
  ·intro b0 off hp;have hin:MemPlace.cell b0 off∈p:=by simpa using hp
   rw [hb.frozen (hlt _ hin)];exact hz b0 off hin
  ·intro hap;simpa using hn hap
  ·intro x hx _;simpa using hx
end
def lay24 : List (String × DataW Unit) := [("math/bits.deBruijn32tab", Rows.laid_math_bits_deBruijn32tab), ("math/bits.deBruijn64tab", Rows.laid_math_bits_deBruijn64tab), ("internal/strconv.uint64pow10", Rows.laid_internal_strconv_uint64pow10)]
theorem yeS(os:Os)(args:Array Value):laidMetH prog lay24 ((World.laidAll prog os lay24).forCall (fun _ _=>0) ⟨#[],args,[]⟩).memory:=
 laidMetH_of_parts3 (fuel:=8) (laidMet_laidAll args (by kernel_rfl) (by kernel_rfl)) (by kernel_rfl) (by kernel_rfl)
theorem y8f(os:Os)(started:os.Started)(H:Type)(enc:TypeId×Value→H):
  ReturnsInHanded {} Tryz.checked os 7 .any (fun w args=>(Rows.nonconflictPairsSpec.pre enc prog Tryz.f7 [] false w args∧laidMetH prog lay24 w)∧sizedMet enc prog Tryz.f7 (OpenSpec.ofChange Rows.nonconflictPairsSpec) false w args) (Rows.nonconflictPairsSpec.post enc prog Tryz.f7 false true false false):=by
 refine returnsInHanded_of_change_and (C:=Tryz.checked) (X:=fun w _=>laidMetH prog lay24 w) (fun _ _ _ hh h=>h.of_heap hh) yOwn started (by kernel_rfl) func7
  (ChangeSpec.witness_shaped (enc:=enc) (C:=Tryz.checked) (os:=os) (X:=fun w _=>laidMetH prog lay24 w) false (World.laidAll prog os lay24) #[.agg (Array.replicate 113 (.int .u8 0))] 8 (World.laidAll_os _ _ _) (World.shaped_of_ZipB (by kernel_rfl) (by kernel_rfl)) (by kernel_rfl) (by kernel_rfl) (by kernel_rfl) (yeS os _)) ?_
 intro W base args ds gs before hval0 hW _ _ _ _;have hval:∀(j:Nat) t v,Tryz.f7.params[j]? =some t→args[j]? =some v→Value.okWide prog W .any base t v:=hval0;have hW':=hW;obtain⟨p,q,hA0,hV,rfl,hfz,hnd⟩:=hW;have hA:DataW.TrodAll enc prog W 0 (fun _=>true) true Tryz.f7.params.toList args.toList ds p:=hA0;rw [Tryz.params7] at hA hval;obtain⟨v0,d0,rfl,rfl,h0⟩:=trodAll_one hA;obtain⟨x,g0,r0⟩:=ygA (hval 0 48 v0 rfl rfl);obtain⟨rfl,rfl⟩:=trodVars_none hV;clear hA0 hval0;refine Calls.mono ((y5l (yeR g0)).law (All3.c (r0 _ _) rfl)) fun e W' ⟨he,hbl⟩=>?_;subst he;exact⟨_,rfl,yfS yLaid hW' rfl (by kernel_rfl) (by kernel_rfl) underlying4 rfl rfl rfl hbl⟩
end
section
open Go.Proofs.Tryz Go Go.RowKit
set_option maxRecDepth 100000
theorem ygB :prog.stopsHeard=true:=by kernel_rfl
theorem ygC :prog.mayEnter=true:=by kernel_rfl
theorem ygD :(laidOutB prog&&mapsRowed prog)=true:=by kernel_rfl
theorem ygE :(prog.stops==[])=true:=by kernel_rfl
theorem yfT :(prog.stopKnobs==[])=true:=by kernel_rfl
theorem yfU :false=prog.looks []:=by kernel_rfl
end
section
open Go.Proofs.Tryz Go Go.ChangeShapes Go.WideShapes Go.ChangeAt Go.RowKit Go.Deep
theorem y9C :(Rows.nonconflictPairsRow.inPlace==prog.inPlace 7)=true:=by kernel_rfl
theorem y9D :(Rows.nonconflictPairsRow.unfollowed==prog.unfollowed 7)=true:=by kernel_rfl
theorem y9E :(Rows.nonconflictPairsRow.recurses==prog.recurses 7)=true:=by kernel_rfl
theorem y9F :(Rows.nonconflictPairsRow.named==prog.varsNamed 7)=true:=by kernel_rfl
theorem y9G :(Rows.nonconflictPairsRow.lifted==prog.liftsFinal)=true:=by kernel_rfl
theorem y8g :joinedFacts prog 7 Tryz.f7 Rows.nonconflictPairsSpec Rows.nonconflictPairsRow=true:=by
 have h8:=ygD;rw [yAe] at h8;unfold joinedFacts;rw [h8.1,h8.2,y9C,y9D,y9E,y9F,y9G,ygB,ygC,ygE,yfT];change (_:Bool)=true;kernel_rfl
theorem y8B :Rows.NonconflictPairsSaid:=
 OpenClaim.holds_of_wide 7 Tryz.f7 rfl rfl rfl rfl rfl rfl rfl ⟨rfl,rfl,rfl,rfl,rfl⟩ rfl rfl rfl rfl rfl (by kernel_rfl) func7 y8g
  (of_decide_eq_true (by kernel_rfl)) (by unfold Func.isWrapper;first | (rw [iP (by decide +kernel)];kernel_rfl)|(rw [iN (by decide +kernel)];exact⟨rfl,rfl⟩))
  (fun os started H enc _=>y8f os started H enc)
theorem nonconflictPairs_k12 :false=Rows.nonconflictPairsRow.goesBy prog:=by kernel_rfl
theorem nonconflictPairs_k13 : prog.funcNamed "overseer/overseerlaw33.NonconflictPairs" = some 7 := by kernel_rfl
theorem nonconflictPairs_k14 :(Tryz.f7.params.toList.all fun u=>!(prog.wantsStandIn u))=true:=by kernel_rfl
theorem nonconflictPairs_k15 :Rows.nonconflictPairsRow.wfByText (OpenSpec.ofChange Rows.nonconflictPairsSpec)=true:=by kernel_rfl
theorem nonconflictPairs_card_holds :Rows.NonconflictPairsCardSaid:=
 Claim7.holds_tied_plain_at .later [] [.data,.data,.data] true _ false
  y8B (fun _ h=>by cases h) nonconflictPairs_k15 (fun _ h=>by cases h) nonconflictPairs_row_tie rfl ⟨rfl,rfl⟩ (by kernel_rfl) rfl
  (fun f fn hf hfn=>by
   obtain rfl:f=7:=ySi (nonconflictPairs_k13.symm.trans hf) |>.symm;obtain rfl:fn=Tryz.f7:=(ySi (func7.symm.trans hfn)).symm;exact⟨yfU,fun j t ht=>by
    have hm:t∈Tryz.f7.params:=Array.mem_of_getElem? ht;exact(show prog.wantsStandIn t=false by simpa using yAt.1 nonconflictPairs_k14 t (Array.mem_toList_iff.2 hm))⟩)
  nonconflictPairs_k12
end
end Go.Proofs.YtfdeiphkmjdifaaGreatDoor
