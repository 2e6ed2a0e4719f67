/- SimulationObeys returns true for all arguments, and leaves its arguments as they were. The condition: three tables of Go's library (math/bits, internal/strconv) hold what their source text lays, and the card ties this to the text. -/
import Derived.Deep.Slices
import Derived.ChangeSame
import Derived.ProofKit
import Derived.Test.YtecmobjeeonmaaaGreatDoorRows
import Derived.Test.YtecmobjeeonmaaaGreatDoorTie
import Derived.Test.YtecmobjeeonmaaaGreatDoorCards
import Derived.Test.YtecmobjeeonmaaaGreatDoorProg
import Derived.Lay
import Derived.LaidMore
import Derived.LaidHandle
import Derived.SevenTiedAt
import Derived.Stop.Joined
import Derived.Test.YtecmobjeeonmaaaGreatDoorQo7
set_option maxRecDepth 100000
namespace Go.Proofs.YtecmobjeeonmaaaGreatDoor
open Go Go.RowKit
theorem ye1(P:AutT):∀(l:List Int) (x:Int),stw (st1 P) x (trE P l x).2=some (trE P l x).1
 | [],_=>rfl
 | e::l,x=>by
  rw [trE];cases h:st1 P x e with
  | none=>exact ye1 P l x
  | some t=>
   dsimp only;rw [stw,h];exact ye1 P l t
theorem yb9{q:PbT}:∀(w:List Int) {x y x' y':Int},w.foldl (flw q) (x,y,false)=(x',y',false)→hdl q.2.1 y w=(y',w.length)
 | [],x,y,x',y',h=>by
  cases h;rfl
 | e::w,x,y,x',y',h=>by
  rw [List.foldl_cons,flw,if_neg (by simp)] at h;dsimp only at h;rw [hdl];cases h1:st1 q.1 x e with
  | none=>
   rw [h1] at h;dsimp only at h;rw [yd2 q w _ rfl] at h;cases h
  | some t=>
   rw [h1] at h;dsimp only at h;cases hb:hasB q.2.1.1 e with
   | true=>
    rw [hb,if_pos rfl] at h;rw [if_pos rfl];cases h2:st1 q.2.1 y e with
    | none=>
     rw [h2] at h;dsimp only at h;rw [yd2 q w _ rfl] at h;cases h
    | some u=>
     rw [h2] at h;dsimp only at h ⊢;rw [yb9 w h];rfl
   | false=>
    rw [hb,if_neg (by simp)] at h;rw [if_neg (by simp),yb9 w h];rfl
theorem yd4{S:AutT}:∀(l:List Int) {y y':Int} (al:Bool),hdl S y l=(y',l.length)→(l.filter (hasB S.1)).foldl (hnS S) (y,al)=(y',al)
 | [],y,y',al,h=>by
  cases h;rfl
 | e::l,y,y',al,h=>by
  rw [hdl] at h;cases hb:hasB S.1 e with
  | true=>
   rw [hb,if_pos rfl] at h;rw [List.filter_cons_of_pos hb,List.foldl_cons,hnS];dsimp only;cases h2:st1 S y e with
   | none=>
    rw [h2] at h;cases h
   | some u=>
    rw [h2] at h;dsimp only at h ⊢;have h3:hdl S u l=(y',l.length):=by
     have e1:=congrArg Prod.fst h;have e2:=congrArg Prod.snd h;rw [List.length_cons] at e2;exact Prod.ext e1 (Nat.succ.inj e2)
    exact yd4 l al h3
  | false=>
   rw [hb,if_neg (by simp)] at h;rw [List.filter_cons_of_neg (by simp [hb])];have h3:hdl S y l=(y',l.length):=by
    have e1:=congrArg Prod.fst h;have e2:=congrArg Prod.snd h;rw [List.length_cons] at e2;exact Prod.ext e1 (Nat.succ.inj e2)
   exact yd4 l al h3
theorem yk4{S:AutT}{n:Nat}(hS:Right S n){l:List Int}(hn:l.Nodup):imL S l 32=(isL l).filter (hasB S.1):=by
 refine ybx ydX ?_ fun e=>?_
 ·have hp:=y6T l;have hd:(isL l).Nodup:=hp.nodup_iff.2 hn;exact List.Pairwise.filter _ ((ydg _).imp₂ (fun _ _ h1 h2=>by omega) hd)
 ·rw [ycs hS,List.mem_filter,yb,(y6T l).mem_iff]
theorem ygg{S:AutT}{n:Nat}(hS:Right S n){w:List Int}{y y':Int}(al:Bool)(hn:w.Nodup)(h:hdl S y w=(y',w.length))(ho:2≤w.length→okB S y w=true):hnL S w (y,al)=(y',al):=by
 have hs:hdl S y (isL w)=(y',(isL w).length):=by
  have hl:(isL w).length=w.length:=(y6T w).length_eq;by_cases h2:2≤w.length
  ·have hk:=ho h2;unfold okB at hk;simp only [Bool.and_eq_true,beq_iff_eq] at hk;obtain⟨⟨_,k2⟩,k3⟩:=hk;rw [h] at k3;rw [hl];refine Prod.ext k3.symm ?_;show(hdl S y (isL w)).2=w.length;omega
  ·have:isL w=w:=by
    match w,h2 with
    | [],_=>rfl
    | [e],_=>rfl
    | _::_::_,h2=>simp at h2
   rw [this];exact h
 rw [hnL,yk4 hS hn];exact yd4 _ al hs
structure ObIn (q:PbT) (p:AutT) (T:List (List Int)):Prop where
 pr:∀(k:Nat) (x y e:Int),T[k]? =some [x,y]→e∈q.1.1→e∈q.2.2→(st1 q.1 x e).isSome=true→hasB q.2.1.1 e=true→(st1 q.2.1 y e).isSome=true
 or:∀(k:Nat) (x y:Int) (b:List Int),T[k]? =some [x,y]→(∃v,IsRun q.1 q.2.2 x b v)→2≤b.length→b.length≤3→okB q.2.1 y b=true
 de:∀(k:Nat) (x y u c:Int),T[k]? =some [x,y]→u∈q.1.1→c∈q.1.1→u∈q.2.2→c∉q.2.2→dB q.1 p T (k:Int) u c=false
section
variable{q:PbT}{p:AutT}{T:List (List Int)}{n n1 n2:Nat}
theorem ye2(h:LoopZ q.1 q.2.1 p T n){k:Nat}{x y e t:Int}(hk:T[k]? =some [x,y])(he:e∈q.1.1)(ht:st1 q.1 x e=some t)(hs:hasB q.2.1.1 e=true→(st1 q.2.1 y e).isSome=true):
  ∃(k':Nat) (y':Int),st1 p (k:Int) e=some (k':Int)∧T[k']? =some [t,y']∧flw q (x,y,false) e=(t,y',false):=by
 have hp:e∈p.1:=(h.ev e).2 (.inl he);have hy:=h.yes k x y e;rw [pst,if_pos (yb.2 he),ht] at hy;rw [flw,if_neg (by simp)];dsimp only;rw [ht];dsimp only;by_cases hb:hasB q.2.1.1 e=true
 ·rw [if_pos hb] at hy;rw [if_pos hb];obtain⟨u,hu⟩:=Option.isSome_iff_exists.1 (hs hb);rw [hu] at hy;obtain⟨k',g1,g2⟩:=hy t u hk hp rfl;exact⟨k',u,g1,g2,by rw [hu]⟩
 ·rw [if_neg hb] at hy;rw [if_neg hb];obtain⟨k',g1,g2⟩:=hy t y hk hp rfl;exact⟨k',y,g1,g2,rfl⟩
theorem ydq(h:LoopZ q.1 q.2.1 p T n)(ho:ObIn q p T):∀(l:List Int) {k:Nat} {x y:Int},T[k]? =some [x,y]→(∀e∈l,e∈q.1.1∧e∈q.2.2)→
  ∃(k':Nat) (y':Int),T[k']? =some [(trE q.1 l x).1,y']∧(trE q.1 l x).2.foldl (flw q) (x,y,false)=((trE q.1 l x).1,y',false)∧∀c,c∈q.1.1→c∉q.2.2→(st1 p (k:Int) c).isSome=true→aft q.1 c l x=true→(st1 p (k':Int) c).isSome=true
 | [],k,x,y,hk,_=>⟨k,y,hk,rfl,fun _ _ _ h _=>h⟩
 | e::l,k,x,y,hk,hl=>by
  obtain⟨he,heu⟩:=hl e (List.mem_cons_self ..);have hl':∀e∈l,e∈q.1.1∧e∈q.2.2:=fun e he=>hl e (List.mem_cons_of_mem _ he);have ha:∀c,aft q.1 c (e::l) x=_:=fun c=>yiY q.1 c e l x;rw [trE];cases hs:st1 q.1 x e with
  | none=>
   obtain⟨k',y',w1,w2,w3⟩:=ydq h ho l hk hl';refine⟨k',y',w1,w2,fun c c1 c2 c3 c4=>w3 c c1 c2 c3 ?_⟩;rw [ha,hs] at c4;exact c4
  | some t=>
   obtain⟨k1,y1,g1,g2,g3⟩:=ye2 h hk he hs fun hb=>ho.pr k x y e hk he heu (by rw [hs];rfl) hb;obtain⟨k',y',w1,w2,w3⟩:=ydq h ho l g2 hl';refine⟨k',y',w1,by rw [List.foldl_cons,g3];exact w2,fun c hc hcu hc1 ha'=>?_⟩;rw [ha,hs] at ha';simp only [Bool.and_eq_true] at ha';refine w3 c hc hcu ?_ ha'.2;have hd:=ho.de k x y e c hk he hc heu hcu;rw [dB,g1] at hd;dsimp only at hd;rw [Int.toNat_natCast,g2,hc1] at hd;dsimp only at hd;rw [ha'.1] at hd;cases hn:st1 p (k1:Int) c with
   | none=>rw [hn] at hd;simp at hd
   | some v=>rfl
theorem yd5(h:LoopZ q.1 q.2.1 p T n)(ho:ObIn q p T)(hP:Right q.1 n1)(hS:Right q.2.1 n2){k:Nat}{x y:Int}(hk:T[k]? =some [x,y]){c:CycT}(hc:CycIn q c){pr:List Int}(hpr:∀e∈pr,e= -1∨(e∈q.1.1∧e∉q.2.2)):
  ∃(k':Nat) (x' y':Int),T[k']? =some [x',y']∧finR q (midR q (x,y,false) c) c (chP q pr (midR q (x,y,false) c))=(x',y',false)∧(wdR (stpR q (x,y,false) c (chP q pr))).foldl (flw q) (x,y,false)=(x',y',false)∧
   hdl q.2.1 y (trE q.1 c.1 x).2=((midR q (x,y,false) c).2.1,(trE q.1 c.1 x).2.length):=by
 have burst:∀{l:List Int} {k:Nat} {x y:Int},T[k]? =some [x,y]→l.length≤3→l.Nodup→(∀e∈l,e∈q.1.1∧e∈q.2.2)→∀{y':Int} (al:Bool),hdl q.2.1 y (trE q.1 l x).2=(y',(trE q.1 l x).2.length)→hnL q.2.1 (trE q.1 l x).2 (y,al)=(y',al):=by
  intro l k x y hk hl hn hin y' al hh;have hsub:=y9k q.1 l x;refine ygg hS al (hn.sublist hsub) hh fun h2=>ho.or k x y _ hk ⟨(trE q.1 l x).1,ye1 q.1 l x,fun e he=>(hin e (hsub.subset he)).2,hn.sublist hsub⟩ h2 (Nat.le_trans hsub.length_le hl)
 obtain⟨k1,y1,a1,a2,_⟩:=ydq h ho c.1 hk hc.i1;have a3:=yb9 _ a2;have a4:=burst hk hc.l1 hc.d1 hc.i1 false a3;have hm:midR q (x,y,false) c=((trE q.1 c.1 x).1,y1,false):=by
  rw [midR];dsimp only;rw [a4]
 have hw:wdR (stpR q (x,y,false) c (chP q pr))=(trE q.1 c.1 x).2++(trE q.1 c.2.1 (midR q (x,y,false) c).1).2++(if dnR q (midR q (x,y,false) c) c (chP q pr (midR q (x,y,false) c))=true then [chP q pr (midR q (x,y,false) c)] else []):=rfl;rw [hw,hm];dsimp only;obtain⟨k2,y2,b1,b2,b3⟩:=ydq h ho c.2.1 a1 hc.i2;have b4:=burst a1 hc.l2 hc.d2 hc.i2 false (yb9 _ b2);rw [List.foldl_append,List.foldl_append,a2,b2,finR];dsimp only;rw [b4];have hcs:=yc4 q pr ((trE q.1 c.1 x).1,y1,false);generalize chP q pr ((trE q.1 c.1 x).1,y1,false)=cm at *;cases hd:dnR q ((trE q.1 c.1 x).1,y1,false) c cm with
 | false=>
  rw [if_neg (by simp),if_neg (by simp)];exact⟨k2,_,_,b1,rfl,rfl,a3⟩
 | true=>
  rw [if_pos rfl,if_pos rfl];have hd2:=hd;rw [dnR,Bool.and_eq_true] at hd2;have hne:cm≠ -1:=by simpa using hd2.1
  obtain⟨hmem,hp⟩:=hcs.resolve_left hne;obtain⟨c1,c2⟩:=(hpr cm hmem).resolve_left hne;have hpe:=hp;rw [perm,Bool.and_eq_true] at hpe;obtain⟨t,ht⟩:=Option.isSome_iff_exists.1 hpe.1;obtain⟨k3,_,g1,_,_⟩:=ye2 h a1 c1 ht fun hb=>by
   have:=hpe.2;rw [hb] at this;simpa using this
  have hlive:=b3 cm c1 c2 (by rw [g1];rfl) hd2.2;obtain⟨v,hv⟩:=Option.isSome_iff_exists.1 hlive;have hpst:∃x' y',pst q.1 q.2.1 (trE q.1 c.2.1 (trE q.1 c.1 x).1).1 y2 cm=some (x',y'):=by
   cases hps:pst q.1 q.2.1 (trE q.1 c.2.1 (trE q.1 c.1 x).1).1 y2 cm with
   | none=>
    have:=h.no k2 _ _ cm b1 ((h.ev cm).2 (.inl c1)) hps;rw [this] at hv;cases hv
   | some z=>exact⟨z.1,z.2,rfl⟩
  obtain⟨x',y',hps⟩:=hpst;rw [pst,if_pos (yb.2 c1)] at hps;obtain⟨t2,ht2,hps⟩:=Option.bind_eq_some_iff.1 hps;obtain⟨k4,y4,e1,e2,e3⟩:=ye2 h b1 c1 ht2 fun hb=>by
   rw [if_pos hb] at hps;cases h2:st1 q.2.1 y2 cm with
   | none=>rw [h2] at hps;cases hps
   | some u=>rfl
  have e4:hnL q.2.1 [cm] (y2,false)=(y4,false):=ygg hS false (by simp) (yb9 [cm] (by rw [List.foldl_cons,List.foldl_nil];exact e3)) fun h=>by simp at h
  rw [e4,ht2,List.foldl_cons,List.foldl_nil,e3];exact⟨k4,_,_,e2,rfl,rfl,a3⟩
end
theorem yew{a:AutT}{n:Nat}(hr:Right a n):∃o,y4C a=some o∧∀q:Int×Int,kget o q=st1 a q.1 q.2:=by
 obtain⟨o,h1,h2⟩:=ybv hr;rw [y6q] at h1;obtain⟨o',h3,h4⟩:=Option.bind_eq_some_iff.1 h1;obtain rfl:o'=o:=congrArg Prod.snd (Option.some.inj h4);have h5:iter (y7X a) (0,[])=some o':=h3;exact⟨o',by rw [y4C,h5];rfl,h2⟩
abbrev CpT :=(List KeyT)×(List KeyT)×List Int×List Int×AutT×List (List Int)
theorem yj3{x2:CpT}{a:AutT}{n:Nat}(ha:x2.2.2.2.2.1=a)(hr:Right a n)(hn:Num (edsOf a) n){k:Nat}(hk:k<n)(hnl:n≤4096):∃o,iter (y3m x2) ((k:Int),[])=some o∧o.length≤k:=by
 have hl3:=hr.l3;obtain⟨o,h1,h2⟩:=ye (f:=y3m x2) (fun i s=>∃k':Nat,s.1=(k':Int)∧k'+i≤k∧s.2.length≤i) (fun o=>o.length≤k) k 0 (by omega) (fun i s hi ⟨k',e1,g1,g2⟩=>by
   obtain⟨c,out⟩:=s;dsimp only at e1 g2;subst e1;rw [y3m];dsimp only;by_cases h0:0<k'
   ·left;rw [if_pos (by simp;omega),ha];obtain⟨x,hx,hf,ht,hx0,hxk,hw⟩:=hn.step h0 (by omega);obtain⟨r,q1,q2⟩:=yg8 (xs:=a.2.2.2) (f:=y6X (k':Int)) (g:=fun y=>y.2.2==(k':Int)) (fun y _=>rfl) (by omega);rw [q1,yOb];rcases q2 with ⟨_,q3⟩|⟨j,hj,rfl,q3,q4⟩
    ·obtain ⟨y,hy,rfl⟩:=List.mem_map.1 hx;have:=q3 y hy;have ht:y.2.2=(k':Int):=ht;simp [ht] at this
    ·have he:toEd a.2.2.2[j]=x:=by
      have:(edsOf a).find? (fun y=>y.t==(k':Int))=some (toEd a.2.2.2[j]):=by
       rw [List.find?_eq_some_iff_getElem];refine⟨q3,j,by simpa [edsOf] using hj,by simp [edsOf],fun i hi=>?_⟩;have:=q4 i (by omega) hi;have e2:(edsOf a)[i]'(by simp [edsOf];omega)=toEd a.2.2.2[i]:=by simp [edsOf]
       rw [e2];show(!(a.2.2.2[i].2.2==(k':Int)))=true;rw [this];rfl
      rw [hf] at this;exact(Option.some.inj this).symm
     rw [ya hj,yOb,yi (by simp;omega),yOb,yOb];refine⟨_,rfl,x.f.toNat,?_,by omega,by simp;omega⟩;dsimp only;rw [←he];rw [←he] at hx0;exact(Int.toNat_of_nonneg hx0).symm
   ·right;obtain rfl:k'=0:=by omega
    rw [if_neg (by simp)];exact⟨_,rfl,by omega⟩) (fun s ⟨k',e1,g1,g2⟩=>by
   obtain⟨c,out⟩:=s;dsimp only at e1 g2;subst e1;obtain rfl:k'=0:=by omega
   refine⟨_,?_,g2⟩;rw [y3m];dsimp only;rw [if_neg (by simp)]) (yZl _) ((k:Int),[]) ⟨k,rfl,by omega,by simp⟩
 exact⟨o,h1,h2⟩
section
variable{q:PbT}{n1 n2 n:Nat}{p:AutT}{T:List (List Int)}
def refB(q:PbT)(x y e:Int):Bool:=(st1 q.1 x e).isSome && !(st1 q.2.1 y e).isSome&&hasB q.2.1.1 e
theorem ygS{o1 o2:List KeyT}{u:List Int}(g1:∀z:Int×Int,kget o1 z=st1 q.1 z.1 z.2)(g2:∀z:Int×Int,kget o2 z=st1 q.2.1 z.1 z.2)(hS:Right q.2.1 n2)(hu:u.length≤1000000)(hun:∀e∈u,0≤e){k:Nat}{x y:Int}(hk:T[k]? =some [x,y]):
  ∃r,y2H (o1,o2,q.2.1.1,u,p,T) (k:Int)=some r∧((r= -1∧∀e∈u,refB q x y e=false)∨0≤r):=by
 have hT:idx T (k:Int)=some [x,y]:=by rw [y7d,hk]
 have hl:=hS.l1;obtain⟨o,h1,h2⟩:=ye (f:=y1V (o1,o2,q.2.1.1,u,p,T) (k:Int)) (fun i s=>s=(i:Int)∧∀e∈u.take i,refB q x y e=false) (fun o=>(o= .inl ()∧∀e∈u,refB q x y e=false)∨∃e,o= .inr e∧0≤e) u.length 0 (by omega) (fun i s hi ⟨e1,e2⟩=>by
  subst e1;rw [y1V];dsimp only;rw [if_pos (ct_lt hi),ya hi,yOb,hT,yOb,show idx [x,y] 0=some x from rfl,yOb,yOb,show idx [x,y] 1=some y from rfl,yOb,g1,g2];have hb:(if ((st1 q.1 x u[i]).isSome && !(st1 q.2.1 y u[i]).isSome)=true then(y1m q.2.1.1 u[i]).bind fun r30=>some r30 else some false)=some (refB q x y u[i]):=by
   unfold refB;cases (st1 q.1 x u[i]).isSome && !(st1 q.2.1 y u[i]).isSome with
   | true=>rw [if_pos rfl,y6x (by omega) hS.ali,yOb,Bool.true_and]
   | false=>rw [if_neg (by simp),Bool.false_and]
  dsimp only;rw [hb,yOb];cases hr:refB q x y u[i] with
  | true=>exact .inr ⟨_,by rw [if_pos rfl],.inr ⟨_,rfl,hun _ (yGm hi)⟩⟩
  | false=>
   refine .inl ⟨_,by rw [if_neg (by simp),nxt (by omega)],rfl,fun e he=>?_⟩;rw [yTs hi] at he;rcases yMa.1 he with he|he
   ·exact e2 e he
   ·rw [yMs.1 he];exact hr) (fun s ⟨e1,e2⟩=>by
  subst e1;rw [List.take_length] at e2;refine⟨_,by rw [y1V];dsimp only;rw [if_neg ct_ge],.inl ⟨rfl,e2⟩⟩) (yZl _) 0 ⟨rfl,fun e he=>by simp at he⟩
 rw [y2H,h1,yOb];rcases h2 with ⟨rfl,g⟩|⟨e,rfl,g⟩
 ·exact ⟨_,rfl,.inl ⟨rfl,g⟩⟩
 ·exact ⟨_,rfl,.inr g⟩
theorem yhW(h:PbOk q n1 n2)(hp:yo [q.1,q.2.1]=some (p,T,0))(hL:LoopZ q.1 q.2.1 p T n):∃w ev b,y6p q.1 q.2.1 q.2.2=some (w,ev,b,0)∧(b=true→∀(k:Nat) (x y e:Int),T[k]? =some [x,y]→e∈q.1.1→e∈q.2.2→(st1 q.1 x e).isSome=true→hasB q.2.1.1 e=true→(st1 q.2.1 y e).isSome=true):=by
 have hul:=Alp.len ⟨h.iu,h.ur⟩;have hle:=hL.le;have hl1:=h.rP.l1;have hl2:=h.rS.l1;obtain⟨o1,a1,a2⟩:=yew h.rP;obtain⟨o2,b1,b2⟩:=yew h.rS;have hc:iter (y3G q.1 q.2.1) 0=some (.inl ()):=by
  refine y2M (n:=3) (by omega) ?_;rw [yc,y3G,if_pos (by simp),show idx [q.1,q.2.1] 0=some q.1 from rfl,yOb,h.rP.check,yOb,if_neg (by simp)];dsimp only;rw [yc,y3G,show W (0+1)=1 from rfl,if_pos (by simp),show idx [q.1,q.2.1] 1=some q.2.1 from rfl,yOb,h.rS.check,yOb,if_neg (by simp)];dsimp only;rw [yc,y3G,show W (1+1)=2 from rfl,if_neg (by simp)]
 have hse:yu 32 none q.2.2=0:=y6S h.iu h.ur nofun;have hsb:yA q.2.1.1 q.1.1=some true:=by
  have:=Alp.len ⟨h.rP.ali,h.rP.alr⟩;have:=Alp.len ⟨h.rS.ali,h.rS.alr⟩;rw [yc2 (by omega) (by omega) h.rS.ali h.rP.ali];exact congrArg some (yAt.2 fun x hx=>yb.2 (h.sub x hx))
 have hmg:=y4G (fun a b=>a&&b) q.2.2 q.1.1 h.iu h.rP.ali;generalize hu:mg (fun a b=>a&&b) q.2.2 q.1.1=u at *;have hum:∀e,e∈u↔e∈q.2.2∧e∈q.1.1:=fun e=>by
  rw [hmg.2,Bool.and_eq_true,yb,yb];exact⟨fun h=>h.2,fun h=>⟨.inl h.1,h⟩⟩
 have hulen:=Alp.len ⟨hmg.1,fun e he=>h.ur e ((hum e).1 he).1⟩;have ho:y6F q.1 q.2.1 q.2.2=some (some (o1,o2,q.2.1.1,u,p,T),0):=by
  rw [y6F,hc,yOb];dsimp only;rw [y8F (by omega),hse,yOb,if_neg (by simp),hsb,yOb,if_neg (by simp),hp,yOb,if_neg (by simp),a1,yOb,b1,yOb,yc1 (by omega) hl1,hu,yOb]
 rw [y6p,ho,yOb,if_neg (by simp),yOb];obtain⟨o,h1,h2⟩:=ye (f:=y4O (o1,o2,q.2.1.1,u,p,T)) (fun i s=>s=(i:Int)∧∀(k:Nat) (x y e:Int),k<i→T[k]? =some [x,y]→e∈u→refB q x y e=false) (fun o=>(o= .inl ()∧∀(k:Nat) (x y e:Int),T[k]? =some [x,y]→e∈u→refB q x y e=false)∨∃z,o= .inr z) n 0 (by omega) (fun i s hi ⟨e1,e2⟩=>by
  subst e1;obtain⟨x,y,hxy,_⟩:=hL.tt _ (yGm (show i<T.length by rw [hL.tl];exact hi));have hk:T[i]? =some [x,y]:=by rw [yGe (by rw [hL.tl];exact hi),hxy]
  obtain⟨r,r1,r2⟩:=ygS (p:=p) a2 b2 h.rS (by omega) (fun e he=>(h.ur e ((hum e).1 he).1).1) hk;rw [y4O];dsimp only;rw [hL.right.nn,if_pos (ct_lt hi),r1,yOb];rcases r2 with ⟨rfl,r2⟩|r2
  ·refine .inl ⟨_,by rw [if_pos (by rfl),nxt (by omega)],rfl,fun k x' y' e hk' hT he=>?_⟩;by_cases hki:k=i
   ·subst hki;rw [hk] at hT;cases hT;exact r2 e he
   ·exact e2 k x' y' e (by omega) hT he
  ·obtain ⟨o,p1,p2⟩:=yj3 (x2:=(o1,o2,q.2.1.1,u,p,T)) rfl hL.right hL.num hi (by omega);refine .inr ⟨_,by rw [if_neg (by simp;omega),p1,yOb,y1w,if_pos (by omega),yOb],.inr ⟨_,rfl⟩⟩) (fun s ⟨e1,e2⟩=>by
  subst e1;refine⟨_,by rw [y4O];dsimp only;rw [hL.right.nn,if_neg ct_ge],.inl ⟨rfl,fun k x y e hT he=>e2 k x y e ?_ hT he⟩⟩;obtain⟨hlt,_⟩:=List.getElem?_eq_some_iff.1 hT;rw [hL.tl] at hlt;exact hlt) (yZl _) 0 ⟨rfl,fun k x y e hk=>by omega⟩
 rw [h1,yOb];rcases h2 with ⟨rfl,g⟩|⟨z,rfl⟩
 ·refine ⟨_,_,_,rfl,fun _ k x y e hT he1 he2 hx hb=>?_⟩;have:=g k x y e hT ((hum e).2 ⟨he2,he1⟩);rw [refB,hx,hb] at this;simpa using this
 ·exact ⟨_,_,_,rfl,fun h=>by cases h⟩
end
abbrev LpT :=BenT×Int×Bool
theorem yhX{z:LpT}{n:Nat}(hP:Right z.1.1.1 n)(e:Int):y3L z e=some ((st1 z.1.1.1 z.1.2.2.1 e).getD (-1)):=by
 obtain⟨k,h1,h2⟩:=ydU (xs:=z.1.1.1.2.2.2) (p:=y1U (some z) e) (q:=fun x=>x.1==z.1.2.2.1&&x.2.1==e) hP.l3 (fun x=>by
  rw [y1U,yOb];by_cases hx:(x.1==z.1.2.2.1)=true
  ·rw [if_pos hx,y1r,hx,Bool.true_and]
  ·rw [if_neg hx,y1r];simp only [Bool.not_eq_true] at hx;rw [hx,Bool.false_and])
 rw [y3L,h1,yOb];unfold st1;rcases h2 with ⟨rfl,g⟩|⟨i,hi,rfl,g⟩
 ·rw [g,if_pos (by simp)];rfl
 ·rw [g,if_neg (by simp),yOb,ya hi,yOb];rfl
def lpZ(q:PbT)(c:CodT×List Bool×List Bool)(z:RunT):LpT:=((q,c.1,z.1,c.2),z.2)
theorem yj4{q:PbT}{n1 n2:Nat}(hP:Right q.1 n1)(hS:Right q.2.1 n2)(c:CodT×List Bool×List Bool)(z:RunT)(e:Int):y4z (lpZ q c z) e=some (lpZ q c (flw q z e)):=by
 obtain⟨pl,su,lo⟩:=z;rw [y4z,flw];dsimp only [lpZ];cases lo with
 | true=>rfl
 | false=>
  rw [if_neg (by simp),y6v,yhX (by dsimp only;exact hP),yOb];dsimp only;rw [yb7 hP];cases h1:st1 q.1 pl e with
  | none=>
   rw [if_neg (by simp),y2i,yOb];rfl
  | some t=>
   have ht:=yb7 hP pl e;rw [h1] at ht;rw [if_pos (by rfl),y2i,yOb];have ht2:decide (t≥0)=true:=ht;show y2j e ((q,c.1,t,c.2),su,!(decide (t≥0)))=_;rw [ht2,show(!true)=false from rfl,y2j];dsimp only;rw [if_neg (by simp),y1b (by have:=hS.l1;omega),yOb,y3s];cases hb:hasB q.2.1.1 e with
   | false=>rfl
   | true=>
    rw [if_neg (by simp),if_pos rfl];obtain⟨k,g1,g2⟩:=ydU (xs:=q.2.1.2.2.2) (p:=y3K (some ((q,c.1,t,c.2),su,false)) e) (q:=fun x=>x.1==su&&x.2.1==e) hS.l3 (fun x=>by
     rw [y3K,yOb];by_cases hx:(x.1==su)=true
     ·rw [if_pos hx,y1G,hx,Bool.true_and]
     ·rw [if_neg hx,y1G];simp only [Bool.not_eq_true] at hx;rw [hx,Bool.false_and])
    dsimp only [Option.getD_some];rw [g1,yOb];unfold st1;rcases g2 with ⟨rfl,g⟩|⟨i,hi,rfl,g⟩
    ·rw [g];rfl
    ·rw [g,if_neg (by simp),ya hi,yOb];rfl
theorem yj5{q:PbT}{n1 n2:Nat}(hP:Right q.1 n1)(hS:Right q.2.1 n2)(c:CodT×List Bool×List Bool)(z:RunT){w:List Int}(hl:w.length≤1000000):iter (y2s w) (0,lpZ q c z)=some (lpZ q c (w.foldl (flw q) z)):=by
 have e0:((0:Int),lpZ q c z)=(fun k:Nat=>((k:Int),lpZ q c ((w.take k).foldl (flw q) z))) 0:=rfl;refine Eq.trans (congrArg _ e0) (y2Q (f:=y2s w) (fun k:Nat=>((k:Int),lpZ q c ((w.take k).foldl (flw q) z))) w.length (by omega) (fun k hk=>?_) ?_)
 ·rw [y2s,if_pos (ct_lt hk),ya hk,yOb,yj4 hP hS,yOb,nxt (by omega),yTs hk,List.foldl_append];rfl
 ·rw [y2s,if_neg ct_ge,List.take_length]
theorem yj6{xs:List Int}{p:Int→Option Bool}{g:Int→Bool}(hl:xs.length≤1000000)(hp:∀x∈xs,p x=some (g x)):y4f xs p=some (xs.any g):=by
 obtain⟨o,h1,h2⟩:=ye (f:=y4d xs p) (fun i s=>s=(i:Int)∧xs.any g=(xs.drop i).any g) (fun o=>(o= .inl ()∧xs.any g=false)∨∃i:Nat,o= .inr (i:Int)∧xs.any g=true) xs.length 0 (by omega) (fun i s hi ⟨e1,e2⟩=>by
  subst e1;rw [List.drop_eq_getElem_cons hi,List.any_cons] at e2;rw [y4d,if_pos (ct_lt hi),ya hi,yOb,hp _ (yGm hi),yOb];cases hg:g xs[i] with
  | true=>
   rw [hg] at e2;exact .inr ⟨_,by rw [if_pos rfl],.inr ⟨i,rfl,e2⟩⟩
  | false=>
   rw [hg] at e2;exact .inl ⟨_,by rw [if_neg (by simp),nxt (by omega)],rfl,e2⟩) (fun s ⟨e1,e2⟩=>by
  subst e1;rw [List.drop_length] at e2;exact⟨_,by rw [y4d,if_neg ct_ge],.inl ⟨rfl,e2⟩⟩) (yZl _) 0 ⟨rfl,rfl⟩
 rw [y4f,y6W,h1,yOb];rcases h2 with ⟨rfl,e⟩|⟨i,rfl,e⟩
 ·rw [e];rfl
 ·rw [e];show some (decide ((i:Int)≥0))=some true;simp
def bad55(q:PbT)(l:List StpR):Bool:=(l.flatMap wdR).any fun e=>!hasB q.1.1 e
theorem yey{q:PbT}{n1 n2:Nat}(hP:Right q.1 n1)(hS:Right q.2.1 n2){e:Int}(he:yD q=some e){l:List StpR}(hs:Shw l)(hl:l.length≤1000):
  y2o q l=some (if e≠0 then(0,0,false,e) else if bad55 q l=true then(0,0,false,9) else((difR q 0 (0,0,false) l).1,(difR q 0 (0,0,false) l).2.1,(difR q 0 (0,0,false) l).2.2,0)):=by
 have hfl:=yev hs;rw [y2o,he,yOb];by_cases h0:e=0
 case neg=>rw [if_pos (by simpa using h0),if_pos h0]
 rw [if_neg (by simpa using h0),if_neg (show ¬e≠0 from fun h=>h h0),yk1 hs hl,yOb,yj6 (g:=fun e=>!hasB q.1.1 e) (by omega) (fun x _=>by rw [y4g,y1b (by have:=hP.l1;omega),yOb]),yOb];cases hb:bad55 q l with
 | true=>
  unfold bad55 at hb;rw [hb,if_pos rfl,if_pos rfl]
 | false=>
  unfold bad55 at hb;rw [hb,if_neg (by simp),if_neg (by simp)];obtain⟨o,h1,h2⟩:=ye (f:=y2t l) (fun i s=>s.1=(i:Int)∧∃z,s.2=lpZ q ((((0,0,0,[],[]),[],[],0):CodT),[],[]) z∧difR q 0 (0,0,false) l=difR q (i:Int) z (l.drop i)) (fun o=>(o= .inl ()∧difR q 0 (0,0,false) l=(0,0,false))∨∃u:Int×Int,o= .inr u∧difR q 0 (0,0,false) l=(u.2,u.1,true)) l.length 0 (by omega) (fun i s hi ⟨e1,z,e2,e3⟩=>by
   obtain⟨j,y⟩:=s;dsimp only at e1 e2;subst e1 e2;have hw:=hs _ (yGm hi);have hwl:=ydZ hw;rw [List.drop_eq_getElem_cons hi,difR] at e3;rw [y2t,if_pos (ct_lt hi),ya hi,yOb,yhL hw,yOb,yj5 hP hS _ _ (by omega),yOb];generalize (wdR l[i]).foldl (flw q) z=z2 at *;obtain⟨z1,zs,zl⟩:=z2;dsimp only at e3;rw [show lpZ q ((((0,0,0,[],[]),[],[],0):CodT),[],[]) (z1,zs,zl)=((q,((0,0,0,[],[]),[],[],0),z1,[],[]),zs,zl) from rfl];dsimp only;cases zl with
   | true=>
    rw [if_pos (by rfl)] at e3;exact .inr ⟨_,by rw [if_pos (by rfl)],.inr ⟨(1,(i:Int)),rfl,e3⟩⟩
   | false=>
    rw [if_neg (by simp)] at e3;rw [if_neg (by simp)];generalize l[i]=s at *;obtain⟨s1,s2,s3,s4,s5,s6,s7⟩:=s;dsimp only at e3 ⊢;cases s7 with
    | true=>
     rw [if_pos (by rfl)] at e3;exact .inr ⟨_,by rw [if_pos (by rfl)],.inr ⟨(2,(i:Int)),rfl,e3⟩⟩
    | false=>
     rw [if_neg (by simp)] at e3;rw [if_neg (by simp)];cases c3:s6 != zs with
     | true=>
      rw [c3,if_pos (by rfl)] at e3;exact .inr ⟨_,by rw [if_pos (by rfl)],.inr ⟨(3,(i:Int)),rfl,e3⟩⟩
     | false=>
      rw [c3,if_neg (by simp)] at e3;exact .inl ⟨(_,_),by rw [if_neg (by simp),nxt (by omega)],rfl,(z1,zs,false),rfl,e3⟩) (fun s ⟨e1,z,e2,e3⟩=>by
   obtain⟨j,y⟩:=s;dsimp only at e1;subst e1;rw [List.drop_length,difR] at e3;exact⟨_,by rw [y2t,if_neg ct_ge],.inl ⟨rfl,e3⟩⟩) (yZl _) (0,lpZ q ((((0,0,0,[],[]),[],[],0):CodT),[],[]) (0,0,false)) ⟨rfl,_,rfl,rfl⟩
  have h1:iter (y2t l) (0,(q,((0,0,0,[],[]),[],[],0),0,[],[]),0,false)=some o:=h1;rw [h1,yOb];rcases h2 with ⟨rfl,g⟩|⟨u,rfl,g⟩
  ·rw [g]
  ·rw [g]
theorem yfh{q:PbT}{ch:CycT→RunT→Int}:∀(l:List CycT) (r:RunT) (i:Nat) (hi:i<l.length),(y4c q ch r l)[i]? =some (stpR q (runR q ch r (l.take i)) l[i] (ch l[i]))
 | [],_,_,hi=>by simp at hi
 | c::l,r,0,_=>rfl
 | c::l,r,i+1,hi=>by
  rw [y4c,List.getElem?_cons_succ,yfh l (cycR q ch r c) i (by simpa using hi)];rfl
def alS(S:AutT)(y:Int)(w:List Int):Int:=w.foldl (fun s e=>(st1 S s e).getD s) y
theorem yj7{S:AutT}{n:Nat}(hS:Right S n)(y:Int){w:List Int}(hl:w.length≤1000000):y5M S y w=some (alS S y w):=by
 have e0:((0:Int),y)=(fun k:Nat=>((k:Int),alS S y (w.take k))) 0:=rfl;have hi:iter (y3c S w) (0,y)=some (alS S y w):=by
  refine Eq.trans (congrArg _ e0) (y2Q (f:=y3c S w) (fun k:Nat=>((k:Int),alS S y (w.take k))) w.length (by omega) (fun k hk=>?_) ?_)
  ·rw [y3c,if_pos (ct_lt hk),ya hk,yOb,yby hS,yOb,yb7 hS,yTs hk,alS,alS,List.foldl_append,List.foldl_cons,List.foldl_nil];dsimp only;cases st1 S (List.foldl (fun s e=>(st1 S s e).getD s) y (w.take k)) w[k] with
   | none=>rw [if_neg (by simp),y3b,nxt (by omega)];rfl
   | some t=>rw [if_pos (by rfl),y3b,nxt (by omega)];rfl
  ·rw [y3c,if_neg ct_ge,List.take_length]
 rw [y5M,hi,yOb]
theorem yc6{S:AutT}{n:Nat}(hS:Right S n):∀(w:List Int) {y y':Int},hdl S y w=(y',w.length)→alS S y w=y'
 | [],y,y',h=>by
  cases h;rfl
 | e::w,y,y',h=>by
  rw [hdl] at h;rw [alS,List.foldl_cons];cases hb:hasB S.1 e with
  | true=>
   rw [hb,if_pos rfl] at h;cases h2:st1 S y e with
   | none=>
    rw [h2] at h;cases h
   | some u=>
    rw [h2] at h;dsimp only at h;refine yc6 hS w (y:=u) ?_;have e1:=congrArg Prod.fst h;have e2:=congrArg Prod.snd h;rw [List.length_cons] at e2;exact Prod.ext e1 (Nat.succ.inj e2)
  | false=>
   rw [hb,if_neg (by simp)] at h;cases h2:st1 S y e with
   | some u=>
    have:=(y7A hS h2).2.2.2.2;rw [yb.2 this] at hb;cases hb
   | none=>
    refine yc6 hS w (y:=y) ?_;have e1:=congrArg Prod.fst h;have e2:=congrArg Prod.snd h;rw [List.length_cons] at e2;exact Prod.ext e1 (Nat.succ.inj e2)
section
variable{q:PbT}{p:AutT}{T:List (List Int)}{n n1 n2:Nat}
def evO(q:PbT)(y:Int)(k:Nat):List Int:=((List.range k).map fun i:Nat=>(i:Int)).filter fun e=>hasB q.2.1.1 e && !hasB q.2.2 e&&(st1 q.2.1 y e).isSome
theorem yj8(hS:Right q.2.1 n2)(hu:q.2.2.length≤1000000)(y:Int):iter (yR q y) (0,[])=some (evO q y 5):=by
 have e0:((0:Int),([]:List Int))=(fun k:Nat=>((k:Int),evO q y k)) 0:=rfl;refine Eq.trans (congrArg _ e0) (y2Q (f:=yR q y) (fun k:Nat=>((k:Int),evO q y k)) 5 (by omega) (fun k hk=>?_) ?_)
 ·have hle:(evO q y k).length≤k:=Nat.le_trans (List.length_filter_le _ _) (by simp);have hs:evO q y (k+1)=evO q y k++(if (hasB q.2.1.1 (k:Int) && !hasB q.2.2 (k:Int)&&(st1 q.2.1 y (k:Int)).isSome)=true then [(k:Int)] else []):=by
   unfold evO;rw [List.range_succ,List.map_append,List.filter_append];congr 1;rw [List.map_cons,List.map_nil,List.filter_cons,List.filter_nil]
  have hlt:decide ((k:Int)<5)=true:=by simp;omega
  rw [yR,if_pos hlt,has55 hS.l1,yOb,hs];dsimp only;have h1:(if hasB q.2.1.1 (k:Int)=true then(y1n q.2.2 (k:Int)).bind fun r103=>some (!r103) else some false)=some (hasB q.2.1.1 (k:Int) && !hasB q.2.2 (k:Int)):=by
   cases hasB q.2.1.1 (k:Int) with
   | true=>rw [if_pos rfl,has55 hu,yOb,Bool.true_and]
   | false=>rfl
  rw [h1,yOb];have h2:(if (hasB q.2.1.1 (k:Int) && !hasB q.2.2 (k:Int))=true then(y1x q.2.1 y (k:Int)).bind fun r102=>some (decide (r102≥0)) else some false)=some (hasB q.2.1.1 (k:Int) && !hasB q.2.2 (k:Int)&&(st1 q.2.1 y (k:Int)).isSome):=by
   cases hasB q.2.1.1 (k:Int) && !hasB q.2.2 (k:Int) with
   | true=>rw [if_pos rfl,yby hS,yOb,yb7 hS,Bool.true_and]
   | false=>rfl
  rw [h2,yOb];cases hasB q.2.1.1 (k:Int) && !hasB q.2.2 (k:Int)&&(st1 q.2.1 y (k:Int)).isSome with
  | true=>rw [if_pos rfl,if_pos rfl,yi (by simp;omega),yOb,yQ,nxt (by omega)]
  | false=>rw [if_neg (by simp),if_neg (by simp),List.append_nil,yQ,nxt (by omega)]
 ·rw [yR,if_neg (by simp)]
theorem ykq(hS:Right q.2.1 n2)(h5:∀e∈q.2.1.1,0≤e∧e<5)(y:Int):evO q y 5=enR q y:=by
 refine ybx ?_ ?_ fun e=>?_
 ·unfold evO Inc;refine List.Pairwise.filter _ ?_;rw [List.pairwise_map];exact List.pairwise_lt_range.imp fun h=>by omega
 ·exact List.Pairwise.sublist (List.filter_sublist.trans List.filter_sublist) hS.ali
 ·unfold evO enR cmdL;rw [List.mem_filter,List.mem_filter,List.mem_filter,Bool.and_eq_true,Bool.and_eq_true,yb];constructor
  ·rintro ⟨_,⟨g1,g2⟩,g3⟩;exact⟨⟨g1,g2⟩,g3⟩
  ·rintro ⟨⟨g1,g2⟩,g3⟩;have:=h5 e g1;exact⟨List.mem_map.2 ⟨e.toNat,List.mem_range.2 (by omega),by omega⟩,⟨g1,g2⟩,g3⟩
theorem yhY(h:LoopZ q.1 q.2.1 p T n)(ho:ObIn q p T)(hP:Right q.1 n1)(hS:Right q.2.1 n2):∀(l:List CycT) {k:Nat} {x y:Int},T[k]? =some [x,y]→(∀c∈l,CycIn q c)→∃(k':Nat) (x' y':Int),T[k']? =some [x',y']∧runR q (fun c=>chP q [c.2.2]) (x,y,false) l=(x',y',false)
 | [],k,x,y,hk,_=>⟨k,x,y,hk,rfl⟩
 | c::l,k,x,y,hk,hl=>by
  have hc:=hl c (List.mem_cons_self ..);obtain⟨k',x',y',g1,g2,_⟩:=yd5 h ho hP hS hk hc (pr:=[c.2.2]) fun e he=>by rw [yMs.1 he];exact hc.cm
  have:runR q (fun c=>chP q [c.2.2]) (x,y,false) (c::l)=runR q (fun c=>chP q [c.2.2]) (x',y',false) l:=by
   rw [runR,List.foldl_cons,cycR,g2];rfl
  rw [this];exact yhY h ho hP hS l g1 fun c hc=>hl c (List.mem_cons_of_mem _ hc)
theorem yfi(h:LoopZ q.1 q.2.1 p T n)(ho:ObIn q p T)(hP:Right q.1 n1)(hS:Right q.2.1 n2):∀(l:List CycT) (i:Int) {k:Nat} {x y:Int},T[k]? =some [x,y]→(∀c∈l,CycIn q c)→difR q i (x,y,false) (y4c q (fun c=>chP q [c.2.2]) (x,y,false) l)=(0,0,false)
 | [],_,_,_,_,_,_=>rfl
 | c::l,i,k,x,y,hk,hl=>by
  have hc:=hl c (List.mem_cons_self ..);obtain⟨k',x',y',g1,g2,g3,_⟩:=yd5 h ho hP hS hk hc (pr:=[c.2.2]) fun e he=>by rw [yMs.1 he];exact hc.cm
  rw [y4c,difR,g3,if_neg (by simp)];have e1:(stpR q (x,y,false) c (chP q [c.2.2])).2.2.2.2.2=(finR q (midR q (x,y,false) c) c (chP q [c.2.2] (midR q (x,y,false) c))).2:=rfl;rw [e1,g2,if_neg (by simp),if_neg (by simp)];have e2:cycR q (fun c=>chP q [c.2.2]) (x,y,false) c=(x',y',false):=g2;rw [e2];exact yfi h ho hP hS l (i+1) g1 fun c hc=>hl c (List.mem_cons_of_mem _ hc)
theorem yk5{pr:CycT→List Int}{r:RunT}{l:List CycT}(hl:∀c∈l,CycIn q c)(hpr:∀c∈l,∀e∈pr c,e= -1∨(e∈q.1.1∧e∉q.2.2)):bad55 q (y4c q (fun c=>chP q (pr c)) r l)=false:=by
 unfold bad55;rw [List.any_eq_false];intro e he;obtain⟨s,g1,g2⟩:=List.mem_flatMap.1 he;obtain⟨r',c,hc,rfl⟩:=ybA g1;have hi:=hl c hc;have:e∈q.1.1:=by
  rcases yMa.1 g2 with g2|g2
  ·rcases yMa.1 g2 with g2|g2
   ·exact (hi.i1 e ((y9k q.1 c.1 r'.1).subset g2)).1
   ·exact (hi.i2 e ((y9k q.1 c.2.1 (midR q r' c).1).subset g2)).1
  ·split at g2
   ·rename_i hd;rw [yMs.1 g2];have hd:dnR q (midR q r' c) c (chP q (pr c) (midR q r' c))=true:=hd;rw [dnR,Bool.and_eq_true] at hd;have hne:chP q (pr c) (midR q r' c)≠ -1:=by simpa using hd.1
    obtain⟨hm,_⟩:=(yc4 q (pr c) (midR q r' c)).resolve_left hne;exact((hpr c hc _ hm).resolve_left hne).1
   ·cases g2
 rw [yb.2 this];simp
end
theorem yhZ{x:Des26×Bool}(hd:Des26In x.1){d:List (Int×Int×Int×Int)}(hdr:∀y∈d,0≤y.2.2.2∧y.2.2.2<256):y4i x d=some true:=by
 obtain⟨q,m1,m2,e,h1,hP,h5,_,_,h2,h3,hs⟩:=yk3 hd;have hul:=Alp.len ⟨hP.iu,hP.ur⟩;rw [y4i,yjZ,yOb,if_neg (by simp),h1,yOb,h2,yOb];by_cases h0:e=0
 case neg=>rw [if_pos (by simpa using h0)]
 have hk:=hs h0;obtain⟨t,p,T,n1,n2,n,ho,ht,hsy⟩:=hP.open;have hL:=ht.loop;obtain⟨w,ev,b,c1,c2⟩:=yhW hP hsy hL;obtain⟨r6,o1,o2⟩:=yhV ht ho (z:=3) (by omega) (by omega);obtain⟨r7,d1,d2⟩:=yhA ht ho;have o1:y7v q 3=some r6:=o1;rw [if_neg (by simpa using h0),y4B,yOb,c1,yOb,o1,yOb,d1,yOb];have e6:r6.2.2=0:=by
  rcases o2 with ⟨rfl,_⟩|⟨_,_,_,_,_,rfl⟩ <;> rfl
 have e7:r7.2.2=0:=by
  rcases d2 with ⟨rfl,_⟩|⟨_,_,_,_,_,rfl⟩ <;> rfl
 rw [e6,e7,if_neg (by simp)];dsimp only;by_cases hb:((!b || !r6.2.1) || !r7.2.1)=true
 ·rw [if_pos hb]
 rw [if_neg hb];simp only [Bool.or_eq_true,Bool.not_eq_true',not_or,Bool.not_eq_false] at hb;obtain⟨⟨b1,b2⟩,b3⟩:=hb;have hor:∀k,k<T.length→FB (oK q T 3 (k:Int)) none:=by
  rcases o2 with ⟨_,g⟩|⟨_,_,_,_,_,rfl⟩
  ·exact g
  ·cases b2
 have hde:∀k,k<T.length→FD q.1.1 (dL q p T (k:Int)) none:=by
  rcases d2 with ⟨_,g⟩|⟨_,_,_,_,_,rfl⟩
  ·exact g
  ·cases b3
 have hO:ObIn q p T:=⟨c2 b1,fun k x y b hT hr hb2 hb3=>by
   obtain⟨hlt,_⟩:=List.getElem?_eq_some_iff.1 hT;have:=hor k hlt b;cases hok:okB q.2.1 y b with
   | true=>rfl
   | false=>exact absurd ⟨x,y,by rw [Int.toNat_natCast];exact hT,hr,hb2,hb3,hok⟩ this,fun k x y u c hT hu hc huu hcu=>by
   obtain⟨hlt,_⟩:=List.getElem?_eq_some_iff.1 hT;have:=hde k hlt u hu c hc;rw [dL,yb.2 huu] at this;have hcf:hasB q.2.2 c=false:=by rw [←Bool.not_eq_true,yb];exact hcu
   rw [hcf] at this;simpa using this⟩
 obtain⟨l,g1,g2,g3⟩:=yj2 hP.rP (by omega) hdr;have hc:∀c∈l,c.1.length≤50∧c.2.1.length≤50:=fun c hc=>by
  have:=(g3 c hc).l1;have:=(g3 c hc).l2;omega
 have hn0:0<n:=by
  have:=hL.zero;have h1:=hk.p0;have h2:=hk.g.n0;rw [hP.rP.nn,hP.rS.nn] at this;omega
 have hT0:=hL.t0 hn0;have hf:=yhR hk (pr:=fun c=> [c.2.2]) (r:=(0,0,false)) hc;have hlen:=ybz q (fun c=>chP q [c.2.2]) l (0,0,false);have hbad:=yk5 (q:=q) (pr:=fun c=> [c.2.2]) (r:=(0,0,false)) g3 fun c hc e he=>by rw [yMs.1 he];exact(g3 c hc).cm
 have hdif:=yfi hL hO hP.rP hP.rS l 0 hT0 g3;rw [g1,yOb,ykp (by omega) hP.rP h2 hs (by omega) (fun c h=>by have:=hc c h;omega),yOb,if_neg (show ¬e≠0 from fun h=>h h0),if_neg (show ¬scE q l≠0 from fun h=>h (yfg.2 g3))];dsimp only;rw [yey hP.rP hP.rS h2 (fun s hm=>(hf s hm).1) (by omega),yOb,if_neg (show ¬e≠0 from fun h=>h h0),hbad,if_neg (show ¬(false=true) by simp),hdif];dsimp only;rw [if_neg (by simp)];obtain⟨o,u1,u2⟩:=ye (f:=y1L q (y4c q (fun c=>chP q [c.2.2]) (0,0,false) l,0)) (fun i s=>s.1=(i:Int)∧i≤l.length∧∃x,runR q (fun c=>chP q [c.2.2]) (0,0,false) (l.take i)=(x,s.2,false)) (fun o=>o= .inl ()) l.length 0 (by omega) (fun i s hi ⟨e1,_,x,e2⟩=>by
  obtain⟨j,y⟩:=s;dsimp only at e1 e2;subst e1;have hmem:=yGm hi;have hci:=g3 _ hmem;obtain⟨k,x',y',v1,v2⟩:=yhY hL hO hP.rP hP.rS (l.take i) hT0 fun c hc=>g3 c (List.mem_of_mem_take hc);rw [e2] at v2;cases v2;obtain⟨k',x2,y2,w1,w2,_,w4⟩:=yd5 hL hO hP.rP hP.rS v1 hci (pr:=[l[i].2.2]) fun e he=>by rw [yMs.1 he];exact hci.cm
  have hat:=yfh (q:=q) (ch:=fun c=>chP q [c.2.2]) l (0,0,false) i hi;rw [e2] at hat;have hix:idx (y4c q (fun c=>chP q [c.2.2]) (0,0,false) l) (i:Int)=some (stpR q (x,y,false) l[i] (chP q [l[i].2.2])):=by rw [y7d,hat]
  have hsp:(stpR q (x,y,false) l[i] (chP q [l[i].2.2])).1=(trE q.1 l[i].1 x).2:=rfl;have hsl:(trE q.1 l[i].1 x).2.length≤50:=Nat.le_trans (y9j ..) (hc _ hmem).1;have hen:(stpR q (x,y,false) l[i] (chP q [l[i].2.2])).2.2.1=enR q (midR q (x,y,false) l[i]).2.1:=rfl;have hel:(enR q (midR q (x,y,false) l[i]).2.1).length≤32:=Nat.le_trans (List.length_filter_le _ _) hk.g.ct;left;rw [y1L];dsimp only;rw [hlen,if_pos (ct_lt hi),hix,yOb,hsp,yj7 hP.rS _ (by omega),yOb,yc6 hP.rS _ w4,yj8 hP.rS (by omega),yOb,yOb,hen,ykq hP.rS (fun e he=>h5 e (hP.sub e he)),ygQ (by omega),yOb,if_neg (by simp),yOb,nxt (by omega)];refine⟨_,rfl,rfl,hi,x2,?_⟩;rw [yTs hi,yeu,e2,cycR,w2];dsimp only;have:(stpR q (x,y,false) l[i] (chP q [l[i].2.2])).2.2.2.2.2.1=(finR q (midR q (x,y,false) l[i]) l[i] (chP q [l[i].2.2] (midR q (x,y,false) l[i]))).2.1:=rfl;rw [this,w2]) (fun s ⟨e1,_,x,e2⟩=>by
  obtain⟨j,y⟩:=s;dsimp only at e1;subst e1;exact⟨_,by rw [y1L];dsimp only;rw [hlen,if_neg ct_ge],rfl⟩) (yZl _) (0,0) ⟨rfl,yZl _,0,rfl⟩
 rw [u1,u2];rfl
end Go.Proofs.YtecmobjeeonmaaaGreatDoor
namespace Go.Proofs.YtecmobjeeonmaaaGreatDoor
open Go Go.RowKit Go.ChangeShapes Go.WideShapes Go.Deep
def Op(P:Program){α:Type}(r:Rep α)(Q:α→Prop)(t:TypeId):Prop:=
 ∀(H:Type) (enc:TypeId×Value→H) (w:World) (fuel:Nat) (cs:List Value) (x:DataW H×List MemPlace),DataW.trod enc P w 0 (fun _=>true) true fuel t cs=some x→∃y:α,r.rd ⟨w,fun _=>0⟩ cs y∧Q y
section
variable{P:Program}{α β:Type}{r:Rep α}{q:Rep β}{Q:α→Prop}{R:β→Prop}{t e:TypeId}
theorem Op.int{k:IntKind}(ht:P.underlying t=some (.int k)):Op P (rK k) (fun n=>k.min≤n∧n≤k.max) t:=by
 intro H enc w fuel cs x h;obtain⟨n,h1,h2,h3⟩:=DataW.trod_int ht h;refine⟨n,h1,?_⟩;simpa [Lit.wf] using h3
theorem Op.bool(ht:P.underlying t=some .bool):Op P rB (fun _=>True) t:=by
 intro H enc w fuel cs x h;obtain⟨b,h1,h2⟩:=DataW.trod_bool ht h;exact⟨b,h1,trivial⟩
theorem yi0{H:Type}{enc:TypeId×Value→H}{w:World}{fuel:Nat}{vs:List Value}{x:DataW H×List MemPlace}(ht:P.underlying t=some (.slice e))(hc:P.cellsOf e=r.sz)(ho:Op P r Q e)(hz:0<r.sz)
  (h:DataW.trod enc P w 0 (fun _=>true) true fuel t vs=some x):∃(a:Option Addr) (c:Nat) (xs:List α),vs= [.slice a xs.length c]∧RdL r ⟨w,fun _=>0⟩ a c xs∧∀y∈xs,Q y:=by
 rcases open_slice ht h with ⟨h1,-⟩|⟨a,len,cap,m,n,D,Pl,h1,-,h3,h4,h5,-,h7⟩
 ·exact ⟨none,0,[],h1,⟨[],⟨by simp,by simp,by simp,fun _=>rfl,fun ad e=>(by cases e),fun ad e=>(by cases e)⟩,fun ad e=>(by cases e),rfl⟩,fun y hy=>(by cases hy)⟩
 ·subst h1;rw [if_pos rfl] at h5;subst h5;by_cases hlen:len=0
  ·subst hlen;exact⟨some a,m,[],rfl,⟨[],⟨by simp,yZl _,h4,fun e=>(by cases e),fun ad e h0=>(by simp at h0),fun ad e j hj=>(by simp at hj)⟩,fun ad e h0=>(by simp at h0),rfl⟩,fun y hy=>(by cases hy)⟩
  have hsp:a.spot=none:=by
   obtain⟨cs',k1,_⟩:=h7 0 (by omega);obtain⟨-,k5,k6⟩:=World.cells?_some k1;have:=k6 0 (by rw [hc];exact hz);rw [Nat.zero_mul,yGe (show 0<cs'.length by rw [k5,hc];exact hz)] at this;have:=World.cell?_spot this;simpa [Addr.add] using this
  have hadd:∀k,a.add k=⟨a.block,a.off+k,none⟩:=fun k=>by
   obtain⟨b,o,sp⟩:=a;dsimp only at hsp;subst hsp;unfold Addr.add;split
   ·rename_i hk;subst hk;rfl
   ·rfl
  have key:∀k,k≤len→∃(xs:List α) (cs:List Value),xs.length=k∧Cells r ⟨w,fun _=>0⟩ cs xs∧(∀y∈xs,Q y)∧∀j (hj:j<cs.length),w.cell? ⟨a.block,a.off+j,none⟩=some cs[j]:=by
   intro k
   induction k with
   | zero=>intro _;exact⟨[],[],rfl,rfl,fun y hy=>(by cases hy),fun j hj=>absurd hj (Nat.not_lt_zero _)⟩
   | succ k ih=>
    intro hk;obtain⟨xs,cs,g1,g2,g3,g4⟩:=ih (by omega);obtain⟨cs',k1,k2⟩:=h7 k (by omega);obtain⟨y,k3,k4⟩:=ho H enc w n cs' _ k2;obtain⟨-,k5,k6⟩:=World.cells?_some k1;have hl:=g2.len;rw [g1] at hl;rw [hc] at k5 k6;refine⟨xs++[y],cs++cs',by simp [g1],g2.append ⟨cs',[],by simp,k3,rfl⟩,fun z hz=>?_,fun j hj=>?_⟩
    ·rcases yMa.1 hz with hz|hz
     ·exact g3 z hz
     ·rw [yMs.1 hz];exact k4
    ·by_cases hlt:j<cs.length
     ·rw [List.getElem_append_left hlt];exact g4 j hlt
     ·have hj2:j-cs.length<cs'.length:=by rw [List.length_append] at hj;omega
      rw [List.getElem_append_right (by omega)];have:=k6 (j-cs.length) (by omega);rw [add_add,hadd,yGe hj2] at this;rw [←this];congr 2;omega
  obtain⟨xs,cs,g1,g2,g3,g4⟩:=key len (Nat.le_refl _);subst g1;refine⟨some a,m,xs,rfl,⟨cs,⟨g2.len,h3,h4,fun e=>(by cases e),fun ad e _=>(by cases e;exact hsp),fun ad e j hj=>(by cases e;exact g4 j hj)⟩,fun _ _ _=>rfl,g2⟩,g3⟩
theorem yj9{H:Type}{enc:TypeId×Value→H}{w:World}{base fuel:Nat}{v:Value}{x:DataW H×List MemPlace}(ht:P.underlying t=some (.slice e))(hc:P.cellsOf e=r.sz)(ho:Op P r Q e)(_hok:Cell.okWide P w .any base t v)
  (h:DataW.trod enc P w 0 (fun _=>true) true fuel t [v]=some x) (hz:0<r.sz:=by decide):∃(a:Option Addr) (c:Nat) (xs:List α),v= .slice a xs.length c∧RdL r ⟨w,fun _=>0⟩ a c xs∧∀y∈xs,Q y:=by
 obtain⟨a,c,xs,h1,h2⟩:=yi0 ht hc ho hz h;rw [List.cons.injEq] at h1;exact⟨a,c,xs,h1.1,h2⟩
theorem ykr{w:World}{base:Nat}{v:Value}{fs:Array Field}{ts:List TypeId}(ht:P.underlying t=some (.struct fs))(hts:P.cellTypes P.depth t=some ts)(hsz:P.cellsOf t=ts.length)(hok:Value.okWide P w .any base t v):
  ∃cs,v= .agg cs∧cs.size=ts.length∧∀(i:Nat) (u:TypeId),ts[i]? =some u→∃c:Value,cs[i]? =some c∧Cell.okWide P w .any base u c:=by
 simp only [Value.okWide,ht] at hok;obtain⟨cs,rfl,h1,ts',h2,h3,h4⟩:=hok;rw [hts] at h2;cases h2;refine⟨cs,rfl,by omega,fun i u hu=>?_⟩;have hlt:i<ts.length:=(List.getElem?_eq_some_iff.1 hu).1;obtain⟨u',g1,g2⟩:=h4 i cs[i] (Array.getElem?_eq_getElem (by omega));rw [Nat.mod_eq_of_lt hlt,hu] at g1;cases g1;exact⟨_,Array.getElem?_eq_getElem (by omega),g2⟩
theorem ybB{H:Type}{enc:TypeId×Value→H}{w:World}{fuel:Nat}{cs:List Value}{x:DataW H×List MemPlace}{fs:Array Field}(ht:P.underlying t=some (.struct fs))(h:DataW.trod enc P w 0 (fun _=>true) true fuel t cs=some x){i:Nat}{f:Field}(hf:fs[i]? =some f):
  ∃n y,DataW.trod enc P w 0 (fun _=>true) true n f.type ((cs.drop f.offset).take (P.cellsOf f.type))=some y:=by
 obtain⟨xs,n,_,_,_,h5,h6⟩:=DataW.trod_struct ht h;have hlt:=(Array.getElem?_eq_some_iff.1 hf).1;exact⟨n,xs[i]'(by omega),by rw [h6 i f hf,yGe (by omega)]⟩
end
end Go.Proofs.YtecmobjeeonmaaaGreatDoor
namespace Go.Proofs.YtecmobjeeonmaaaGreatDoor
open Go Go.ChangeShapes Go.WideShapes Go.ChangeAt Go.RowKit Go.Deep
theorem Fw.law{P:Program}{f:FuncId}{ts:List TV}(h:Fw P f ⟨0,[]⟩ ts [] (.b true) []){w:World}{vs:List Value}(ha:All3 (fun _=> .bool false) ⟨w,fun _=>0⟩ ts vs):Calls P f vs.toArray w fun e w'=>e= .returned (.bool true)∧Below w.heap.size w w':=
 Calls.mono (h.is [] (fun _=> .bool false) ⟨w,fun _=>0⟩ vs rfl (Nat.le_refl _) List.nodup_nil (fun t ht=>by cases ht) ha (fun i o h=>by simp at h)) fun e W' ⟨v,s',hw,he,hm,β',_,hv,_⟩=>by
  obtain⟨hv,_⟩:=hv;subst hw;subst hv;exact⟨he,(hm.weak (S':=No) fun t ⟨i,hi,_⟩=>by cases hi).below⟩
theorem All3.c{β:Nat→Value}{s:Sig}{x:TV}{xs:List TV}{v:Value}{us:List Value}(h:x.p β s v)(h2:All3 β s xs us):All3 β s (x::xs) (v::us):=⟨v,us,h,h2,rfl⟩
theorem ygT{α:Type}[Inhabited α]{n:Nat}{p:Nat→α→Prop}(h:∀i,i<n→∃x,p i x):∃f:Nat→α,∀i,i<n→p i (f i):=
 ⟨fun i=>if hi:i<n then Classical.choose (h i hi) else default,fun i hi=>by
  dsimp only;rw [dif_pos hi];exact Classical.choose_spec (h i hi)⟩
abbrev yks :=(Int×y1d)×(Int×y1d)×Int
def pbT :List TypeId:=[22]++List.replicate 27 5++[22]++List.replicate 27 5++[22]
section
variable{H:Type}{enc:TypeId×Value→H}{w:World}{base:Nat}{v:Value}{d:DataW H}{ps:List MemPlace}
theorem op_u8 :Op Tryz.prog (rK .u8) (fun n=>0≤n∧n<256) 5:=by
 intro H enc w fuel cs x h;obtain⟨y,h1,h2⟩:=(Op.int (P:=Tryz.prog) (k:= .u8) Tryz.underlying5) H enc w fuel cs x h;refine⟨y,h1,?_⟩;simp [IntKind.min,IntKind.max,IntKind.signed,IntKind.bits] at h2;omega
end
theorem Tryz.own :ownKnob Tryz.prog.godebug=none:=by kernel_rfl
theorem Tryz.laidOut :laidOutB Tryz.prog=true:=by kernel_rfl
section
variable{H:Type}{enc:TypeId×Value→H}
def yfj(P:Program)(ts:List TypeId):Bool:=ts.all fun t=>P.readableRec t&&decide (t<P.types.size)
theorem ybG{P:Program}(hl:laidOutB P=true){W W':World}(hb:Below W.heap.size W W'){sp:Nat→Bool}:∀{ts:List TypeId} {vs:List Value} {ds:List (DataW H)} {ps:List MemPlace},yfj P ts=true→
  DataW.TrodAll enc P W 0 (fun _=>true) true ts vs ds ps→(∀x∈ps,x.block<W.heap.size)→(∀x∈ps,sp x.block=true)→DataW.TrodAll enc P W' 0 sp true ts vs ds ps
 | [],[],[],_,_,h,_,_=>h
 | [],_::_,_,_,_,h,_,_=>h.elim
 | [],[],_::_,_,_,h,_,_=>h.elim
 | t::ts,[],_,_,_,h,_,_=>h.elim
 | t::ts,_::_,[],_,_,h,_,_=>h.elim
 | t::ts,v::vs,d::ds,ps,hc,⟨p,q,h1,h2,e⟩,hlt,hsp=>by
  subst e;unfold yfj at hc;rw [List.all_cons,Bool.and_eq_true,Bool.and_eq_true] at hc;exact⟨p,q,WideElems.Trod_stays hl hc.1.1 (of_decide_eq_true hc.1.2) h1 (fun x hx=>hb.same (hlt x (List.mem_append_left _ hx))) (fun x hx=>hsp x (List.mem_append_left _ hx)),
   ybG hl hb hc.2 h2 (fun x hx=>hlt x (List.mem_append_right _ hx)) (fun x hx=>hsp x (List.mem_append_right _ hx)),rfl⟩
theorem yja{P:Program}(hl:laidOutB P=true){f:Func}{s:ChangeSpec}{apart fresh handsOn again:Bool}{W W':World}{args:Array Value}{ds:List (DataW H)}{before:List MemPlace}{tb:TypeId}{b:Bool}
  (hW:DataW.Whole enc P f.params.toList s.vars apart W args.toList ds [] before) (hv:s.vars= []) (hc:yfj P f.params.toList=true) (hrt:f.resultTypes= #[tb]) (ht:P.underlying tb=some .bool)
  (hr:(s.fn H (ds++[])).results= [.lit (.bool b)]) (ha:(s.fn H (ds++[])).args=ds) (hvn:(s.fn H (ds++[])).vars= []) (hb:Below W.heap.size W W'):
  s.post enc P f apart fresh handsOn again W args (.bool b) W':=by
 have hlt:∀p∈before,p.block<W.heap.size:=fun p hp=>hW.lt p hp;have hWc:=hW;obtain⟨p,q,hA,hV,rfl,hz,hn⟩:=hWc;rw [hv] at hV;obtain⟨-,rfl⟩:=trodVars_none hV;rw [List.append_nil] at hlt hz hn;have hargs:∀sp:Nat→Bool,(∀x∈p,sp x.block=true)→DataW.TrodAll enc P W' 0 sp true f.params.toList args.toList (s.fn H (ds++[])).args p:=fun sp hsp=>by
  rw [ha];exact ybG hl hb hc hA hlt hsp
 have hres:∀(b0:Nat) (sp:Nat→Bool) (hd:Bool),DataW.TrodAll enc P W' b0 sp hd f.resultTypes.toList ((Value.bool b).resultList f.resultTypes.size) (s.fn H (ds++[])).results []:=fun _ _ _=>by
  rw [hr,hrt];exact trodAll_mk1 (shut_bool ht b)
 have hvars:∀sp:Nat→Bool,DataW.TrodVars enc P W' sp s.vars (s.fn H (ds++[])).vars []:=fun sp=>by rw [hv,hvn];rfl
 have hold:∀x∈p,(fun b=>decide (b<W.heap.size)) x.block=true:=fun x hx=>by simpa using hlt x hx
 refine⟨ds,[],p++[],[],p,[],hW,hres _ _ _,hargs _ hold,hvars _,World.keptBut_mono (fun x hx=>?_) (hb.frame (· ∈p)),fun _=>?_⟩
 ·exact ⟨by rwa [List.append_nil],Or.inr (.inl hx)⟩
 ·have hok:=ok_one (f:=f) (W':=W') (by rw [hrt]) rfl (okWide_bool_mk (W':=W') ht b);refine⟨hok,_,_,([]++p)++[],⟨[]++p,[],trodAll_append (hargs _ (fun _ _=>rfl)) (hres _ _ _),hvars _,rfl,?_,?_⟩,?_⟩
  ·intro b0 off hp;have hin:MemPlace.cell b0 off∈p:=by simpa using hp
   rw [hb.frozen (hlt _ hin)];exact hz b0 off hin
  ·intro hap;simpa using hn hap
  ·intro x hx _;simpa using hx
end
def lay24 : List (String × DataW Unit) := [("math/bits.deBruijn32tab", Rows.laid_math_bits_deBruijn32tab), ("math/bits.deBruijn64tab", Rows.laid_math_bits_deBruijn64tab), ("internal/strconv.uint64pow10", Rows.laid_internal_strconv_uint64pow10)]
theorem yi1(os:Os)(args:Array Value):laidMetH Tryz.prog lay24 ((World.laidAll Tryz.prog os lay24).forCall (fun _ _=>0) ⟨#[],args,[]⟩).memory:=
 laidMetH_of_parts3 (fuel:=8) (laidMet_laidAll args (by kernel_rfl) (by kernel_rfl)) (by kernel_rfl) (by kernel_rfl)
theorem yjb :Tryz.prog.cellTypes Tryz.prog.depth 84=some (pbT++[4]):=by kernel_rfl
theorem yjc :Tryz.prog.cellsOf 84=(pbT++[4]).length:=by kernel_rfl
section
variable{H:Type}{enc:TypeId×Value→H}{w:World}{base:Nat}{v:Value}{d:DataW H}{ps:List MemPlace}
theorem yjd(hok:Value.okWide Tryz.prog w .any base 84 v):∃x:yks×Bool,GrIn x.1.1.2∧GrIn x.1.2.1.2∧∀β s,(TV.a (lx84 x)).p β s v:=by
 obtain⟨cs,rfl,h1,h2⟩:=ykr Tryz.underlying84 yjb yjc hok;have h1':cs.size=58:=h1;obtain⟨f,hf⟩:=ygT (α:=Int) (n:=57) (p:=fun i n=>cs[i]? =some (.int .u8 n)∧0≤n∧n<256) (fun i hi=>by
  obtain⟨u,hu,hu2⟩:∃u,pbT[i]? =some u∧(u=22∨u=5):=by
   refine⟨pbT[i]'hi,yGe (l:=pbT) hi,?_⟩;have:=yGm (l:=pbT) hi;generalize pbT[i]'hi=u at this;simp only [pbT,yMa,yMs,List.mem_replicate] at this;rcases this with (((h|h)|h)|h)|h
   ·exact .inl h
   ·exact .inr h.2
   ·exact .inl h
   ·exact .inr h.2
   ·exact .inl h
  obtain⟨c,g1,g2⟩:=h2 i u (by rw [List.getElem?_append_left hi];exact hu);have g2':Cell.okWide Tryz.prog w .any base 5 c:=by
   rcases hu2 with rfl|rfl
   ·simp only [Cell.okWide,Cell.ok,Tryz.underlying22,Tryz.underlying5] at g2 ⊢;exact g2
   ·exact g2
  obtain⟨n,rfl,g3⟩:∃n:Int,c= .int .u8 n∧0≤n∧n<256:=by
   simp only [Cell.okWide,Tryz.underlying5] at g2';cases c <;> simp_all [Cell.ok];rename_i k n;obtain⟨rfl,h2⟩:=g2';simp [IntKind.has,IntKind.min,IntKind.max,IntKind.signed,IntKind.bits] at h2;omega
  exact⟨n,g1,g3⟩)
 obtain⟨b,hb⟩:∃b,cs[57]? =some (.bool b):=by
  obtain⟨c,g1,g2⟩:=h2 57 4 rfl;simp only [Cell.okWide,Tryz.underlying4] at g2;cases c <;> simp_all [Cell.ok]
 have hcs:cs=((List.range 57).map (fun i=>Value.int .u8 (f i))++[Value.bool b]).toArray:=by
  apply Array.ext_getElem?;intro i;by_cases hi:i<57
  ·rw [(hf i hi).1,List.getElem?_toArray,List.getElem?_append_left (by simpa using hi)];simp [hi]
  ·by_cases hi2:i=57
   ·subst hi2;rw [hb];rfl
   ·rw [Array.getElem?_eq_none (by omega),Array.getElem?_eq_none (by simp;omega)]
 have gr:∀o,o+27≤57→GrIn (f o,f (o+1),((f (o+2),f (o+3),f (o+4),f (o+5),f (o+6)),(f (o+7),f (o+8),f (o+9),f (o+10),f (o+11)),(f (o+12),f (o+13),f (o+14),f (o+15),f (o+16)),(f (o+17),f (o+18),f (o+19),f (o+20),f (o+21)),(f (o+22),f (o+23),f (o+24),f (o+25),f (o+26)))):=fun o ho=>by
  refine⟨(hf o (by omega)).2,fun y hy=>?_⟩;have hy2:y∈(List.range 25).map fun i=>f (o+(i+2)):=hy;obtain⟨i,hi,rfl⟩:=List.mem_map.1 hy2;have:=List.mem_range.1 hi;exact(hf (o+(i+2)) (by omega)).2
 refine⟨(((f 0,f 1,f 2,((f 3,f 4,f 5,f 6,f 7),(f 8,f 9,f 10,f 11,f 12),(f 13,f 14,f 15,f 16,f 17),(f 18,f 19,f 20,f 21,f 22),(f 23,f 24,f 25,f 26,f 27))),(f 28,f 29,f 30,((f 31,f 32,f 33,f 34,f 35),(f 36,f 37,f 38,f 39,f 40),(f 41,f 42,f 43,f 44,f 45),(f 46,f 47,f 48,f 49,f 50),(f 51,f 52,f 53,f 54,f 55))),f 56),b),gr 1 (by omega),gr 29 (by omega),fun β s=>?_⟩;refine⟨(List.range 57).map (fun i=>Value.int .u8 (f i))++[Value.bool b],?_,by rw [hcs]⟩;exact yaD (cs:=(List.range 57).map (fun i=>Value.int .u8 (f i))++[Value.bool b]) (yAt.2 fun x hx=>by
  rcases yMa.1 hx with hx|hx
  ·obtain ⟨i,_,rfl⟩:=List.mem_map.1 hx;rfl
  ·rw [yMs.1 hx];rfl)
end
theorem Op.struct4{α β γ δ:Type}{r:Rep α}{q:Rep β}{u:Rep γ}{z:Rep δ}{Q:α→Prop}{R:β→Prop}{U:γ→Prop}{Z':δ→Prop}{P:Program}{t:TypeId}{f0 f1 f2 f3:Field}(ht:P.underlying t=some (.struct #[f0,f1,f2,f3]))(h0:Op P r Q f0.type)(h1:Op P q R f1.type)(h2:Op P u U f2.type)(h3:Op P z Z' f3.type)(o0:f0.offset=0)(o1:f1.offset=r.sz)(o2:f2.offset=r.sz+q.sz)(o3:f3.offset=r.sz+q.sz+u.sz)
  (c0:P.cellsOf f0.type=r.sz) (c1:P.cellsOf f1.type=q.sz) (c2:P.cellsOf f2.type=u.sz) (c3:P.cellsOf f3.type=z.sz) (c:P.cellsOf t=r.sz+q.sz+u.sz+z.sz):Op P (rP r (rP q (rP u z))) (fun y=>Q y.1∧R y.2.1∧U y.2.2.1∧Z' y.2.2.2) t:=by
 intro H enc w fuel cs x h;obtain⟨xs,n,_,_,hl,h5,h6⟩:=DataW.trod_struct ht h;obtain⟨n0,x0,g0⟩:=ybB (i:=0) (f:=f0) ht h rfl;obtain⟨n1,x1,g1⟩:=ybB (i:=1) (f:=f1) ht h rfl;obtain⟨n2,x2,g2⟩:=ybB (i:=2) (f:=f2) ht h rfl;obtain⟨n3,x3,g3⟩:=ybB (i:=3) (f:=f3) ht h rfl;obtain⟨y0,a0,b0⟩:=h0 _ _ _ _ _ _ g0;obtain⟨y1,a1,b1⟩:=h1 _ _ _ _ _ _ g1;obtain⟨y2,a2,b2⟩:=h2 _ _ _ _ _ _ g2;obtain⟨y3,a3,b3⟩:=h3 _ _ _ _ _ _ g3;rw [o0,c0] at a0;rw [o1,c1] at a1;rw [o2,c2] at a2;rw [o3,c3] at a3;refine⟨(y0,y1,y2,y3),⟨_,_,?_,a0,_,_,rfl,a1,_,_,rfl,a2,a3⟩,b0,b1,b2,b3⟩;have e3:((cs.drop (r.sz+q.sz+u.sz)).take z.sz)=cs.drop (r.sz+q.sz+u.sz):=List.take_of_length_le (by rw [List.length_drop];omega);rw [e3,List.drop_zero,show cs.drop (r.sz+q.sz+u.sz)=((cs.drop r.sz).drop q.sz).drop u.sz by simp [List.drop_drop,Nat.add_assoc],show cs.drop (r.sz+q.sz)=(cs.drop r.sz).drop q.sz by simp [List.drop_drop],List.take_append_drop,List.take_append_drop,List.take_append_drop]
section
variable{H:Type}{enc:TypeId×Value→H}{w:World}{base:Nat}{v:Value}{d:DataW H}{ps:List MemPlace}
/-- A draft. -/
theorem yi2(hok:Value.okWide Tryz.prog w .any base 86 v)(h:DataW.Trod enc Tryz.prog w 0 (fun _=>true) true 86 v d ps):∃xs:List (Int×Int×Int×Int),(∀y∈xs,0≤y.2.2.2∧y.2.2.2<256)∧∀β,(TV.f (rP (rK .u8) (rP (rK .u8) (rP (rK .u8) (rK .u8)))) xs).p β ⟨w,fun _=>0⟩ v:=by
 obtain⟨fuel,hf⟩:=h;simp only [Value.okWide,Tryz.underlying86] at hok;have hv:v.cells.toList= [v]:=by
  simp only [Cell.okWide,Tryz.underlying86] at hok;cases v <;> simp_all [Cell.ok,Value.cells]
 rw [hv] at hf;obtain⟨a,c,xs,rfl,h1,h2⟩:=yj9 Tryz.underlying86 (by kernel_rfl) (Op.struct4 Tryz.underlying209 op_u8 op_u8 op_u8 op_u8 rfl rfl rfl rfl (by kernel_rfl) (by kernel_rfl) (by kernel_rfl) (by kernel_rfl) (by kernel_rfl)) hok hf;exact⟨xs,fun y hy=>(h2 y hy).2.2.2,fun β=>⟨a,c,rfl,h1⟩⟩
end
theorem yay(os:Os)(started:os.Started)(H:Type)(enc:TypeId×Value→H):
  ReturnsInHanded {} Tryz.checked os 13 .any (fun w args=>(Rows.simulationObeysSpec.pre enc Tryz.prog Tryz.f13 [] false w args∧laidMetH Tryz.prog lay24 w)∧sizedMet enc Tryz.prog Tryz.f13 (OpenSpec.ofChange Rows.simulationObeysSpec) false w args) (Rows.simulationObeysSpec.post enc Tryz.prog Tryz.f13 false true false false):=by
 refine returnsInHanded_of_change_and (C:=Tryz.checked) (X:=fun w _=>laidMetH Tryz.prog lay24 w) (fun _ _ _ hh h=>h.of_heap hh) Tryz.own started (by kernel_rfl) Tryz.func13
  (ChangeSpec.witness_shaped (enc:=enc) (C:=Tryz.checked) (os:=os) (X:=fun w _=>laidMetH Tryz.prog lay24 w) false (World.laidAll Tryz.prog os lay24) #[.agg (Array.replicate 57 (.int .u8 0) ++ #[.bool false]),.slice none 0 0] 8 (World.laidAll_os _ _ _) (World.shaped_of_ZipB (by kernel_rfl) (by kernel_rfl)) (by kernel_rfl) (by kernel_rfl) (by kernel_rfl) (yi1 os _)) ?_
 intro W base args ds gs before hval0 hW _ _ _ _;have hval:∀(j:Nat) t v,Tryz.f13.params[j]? =some t→args[j]? =some v→Value.okWide Tryz.prog W .any base t v:=hval0;have hW':=hW;obtain⟨p,q,hA0,hV,rfl,hfz,hnd⟩:=hW;have hA:DataW.TrodAll enc Tryz.prog W 0 (fun _=>true) true Tryz.f13.params.toList args.toList ds p:=hA0;rw [Tryz.params13] at hA hval;obtain⟨v0,v1,d0,d1,p0,p1,rfl,rfl,rfl,h0,h1⟩:=trodAll_two hA;obtain⟨x,g1,g2,r0⟩:=yjd (hval 0 84 v0 rfl rfl);obtain⟨y,hd,r1⟩:=yi2 (hval 1 86 v1 rfl rfl) h1;obtain⟨rfl,rfl⟩:=trodVars_none hV;clear hA0 hval0;refine Calls.mono ((y8g (yhZ (x:=x) ⟨g1,g2⟩ hd)).law (All3.c (r0 _ _) (All3.c (r1 _) rfl))) fun e W' ⟨he,hbl⟩=>?_;subst he;exact⟨_,rfl,yja Tryz.laidOut hW' rfl (by kernel_rfl) (by kernel_rfl) Tryz.underlying4 rfl rfl rfl hbl⟩
end Go.Proofs.YtecmobjeeonmaaaGreatDoor
namespace Go.Proofs.YtecmobjeeonmaaaGreatDoor
open Go Go.RowKit
set_option maxRecDepth 100000
theorem yk6 :Tryz.prog.stopsHeard=true:=by kernel_rfl
theorem yk7 :Tryz.prog.mayEnter=true:=by kernel_rfl
theorem yk8 :(laidOutB Tryz.prog&&mapsRowed Tryz.prog)=true:=by kernel_rfl
theorem yk9 :(Tryz.prog.stops==[])=true:=by kernel_rfl
theorem yje :(Tryz.prog.stopKnobs==[])=true:=by kernel_rfl
theorem yjf :false=Tryz.prog.looks []:=by kernel_rfl
end Go.Proofs.YtecmobjeeonmaaaGreatDoor
namespace Go.Proofs.YtecmobjeeonmaaaGreatDoor
open Go Go.ChangeShapes Go.WideShapes Go.ChangeAt Go.RowKit Go.Deep
theorem yc7 :(Rows.simulationObeysRow.inPlace==Tryz.prog.inPlace 13)=true:=by kernel_rfl
theorem yc8 :(Rows.simulationObeysRow.unfollowed==Tryz.prog.unfollowed 13)=true:=by kernel_rfl
theorem yc9 :(Rows.simulationObeysRow.recurses==Tryz.prog.recurses 13)=true:=by kernel_rfl
theorem yca :(Rows.simulationObeysRow.named==Tryz.prog.varsNamed 13)=true:=by kernel_rfl
theorem ycb :(Rows.simulationObeysRow.lifted==Tryz.prog.liftsFinal)=true:=by kernel_rfl
theorem yaz :joinedFacts Tryz.prog 13 Tryz.f13 Rows.simulationObeysSpec Rows.simulationObeysRow=true:=by
 have h8:=yk8;rw [Bool.and_eq_true] at h8;unfold joinedFacts;rw [h8.1,h8.2,yc7,yc8,yc9,yca,ycb,yk6,yk7,yk9,yje];change (_:Bool)=true;kernel_rfl
theorem yba :Rows.SimulationObeysSaid:=
 OpenClaim.holds_of_wide 13 Tryz.f13 rfl rfl rfl rfl rfl rfl rfl ⟨rfl,rfl,rfl,rfl,rfl⟩ rfl rfl rfl rfl rfl (by kernel_rfl) Tryz.func13 yaz
  (of_decide_eq_true (by kernel_rfl)) (by unfold Func.isWrapper;first | (rw [if_pos (by decide +kernel)];kernel_rfl)|(rw [if_neg (by decide +kernel)];exact⟨rfl,rfl⟩))
  (fun os started H enc _=>yay os started H enc)
theorem simulationObeys_k12 :false=Rows.simulationObeysRow.goesBy Tryz.prog:=by kernel_rfl
theorem simulationObeys_k13 : Tryz.prog.funcNamed "overseer/overseerlaw55.SimulationObeys" = some 13 := by kernel_rfl
theorem simulationObeys_k14 :(Tryz.f13.params.toList.all fun u=>!(Tryz.prog.wantsStandIn u))=true:=by kernel_rfl
theorem simulationObeys_k15 :Rows.simulationObeysRow.wfByText (OpenSpec.ofChange Rows.simulationObeysSpec)=true:=by kernel_rfl
theorem simulationObeys_card_holds :Rows.SimulationObeysCardSaid:=
 Claim7.holds_tied_plain_at .later [] [.data,.data,.data] true _ false
  yba (fun _ h=>by cases h) simulationObeys_k15 (fun _ h=>by cases h) simulationObeys_row_tie rfl ⟨rfl,rfl⟩ (by kernel_rfl) rfl
  (fun f fn hf hfn=>by
   obtain rfl:f=13:=Option.some.inj (simulationObeys_k13.symm.trans hf) |>.symm;obtain rfl:fn=Tryz.f13:=(Option.some.inj (Tryz.func13.symm.trans hfn)).symm;exact⟨yjf,fun j t ht=>by
    have hm:t∈Tryz.f13.params:=Array.mem_of_getElem? ht;exact(show Tryz.prog.wantsStandIn t=false by simpa using yAt.1 simulationObeys_k14 t (Array.mem_toList_iff.2 hm))⟩)
  simulationObeys_k12
end Go.Proofs.YtecmobjeeonmaaaGreatDoor
