/- SimulationDifference returns true for all arguments, and leaves its arguments as they were. The condition: three tables of Go's library (math/bits, internal/strconv) hold what their source text lays, and the card ties this to the text. -/
import Derived.Deep.Slices
import Derived.ChangeSame
import Derived.ProofKit
import Derived.Test.YtecmobjeeonmaaaGreatDoorRows
import Derived.Test.YtecmobjeeonmaaaGreatDoorTie
import Derived.Test.YtecmobjeeonmaaaGreatDoorCards
import Derived.Test.YtecmobjeeonmaaaGreatDoorProg
import Derived.Lay
import Derived.LaidMore
import Derived.LaidHandle
import Derived.SevenTiedAt
import Derived.Stop.Joined
import Derived.Test.YtecmobjeeonmaaaGreatDoorQi6
set_option maxRecDepth 100000
namespace Go.Proofs.YtecmobjeeonmaaaGreatDoor
def y4R :Nat→List Int→List Int→List Int→List Int
 | 0,_,_,out=>out
 | _+1,[],[],out=>out
 | f+1,[],_::vs,out=>y4R f [] vs out
 | f+1,a::us,[],out=>y4R f us [] (out++[a])
 | f+1,a::us,b::vs,out=>if a<b then y4R f us (b::vs) (out++[a]) else if b<a then y4R f (a::us) vs out else y4R f us vs out
theorem y6A :∀(f:Nat) (us vs out:List Int),Inc us→Inc vs→us.length+vs.length≤f→y4R f us vs out=out++us.filter fun x=>!hasB vs x
 | 0,us,vs,out,_,_,h=>by
  have ha:us= []:=List.eq_nil_of_length_eq_zero (by omega);rw [ha,y4R];simp
 | f+1,[],[],out,_,_,_=>by rw [y4R];simp
 | f+1,[],b::vs,out,ha,hb,h=>by
  rw [y4R,y6A f [] vs out ha (List.pairwise_cons.1 hb).2 (by simp at h ⊢;omega)];simp
 | f+1,a::us,[],out,ha,hb,h=>by
  rw [y4R,y6A f us [] _ (List.pairwise_cons.1 ha).2 hb (by simp at h ⊢;omega),List.filter_cons_of_pos (by simp [hasB]),List.append_assoc];rfl
 | f+1,a::us,b::vs,out,ha,hb,h=>by
  obtain⟨ha1,ha2⟩:=List.pairwise_cons.1 ha;obtain⟨hb1,hb2⟩:=List.pairwise_cons.1 hb;rw [List.length_cons,List.length_cons] at h;rw [y4R];by_cases h1:a<b
  ·have hn:hasB (b::vs) a=false:=by
    rw [y9d];intro hm;rcases List.mem_cons.1 hm with h2|h2
    ·omega
    ·have:=hb1 a h2;omega
   rw [if_pos h1,y6A f us (b::vs) _ ha2 hb (by rw [List.length_cons];omega),List.filter_cons_of_pos (by rw [hn];rfl),List.append_assoc];rfl
  ·rw [if_neg h1];by_cases h2:b<a
   ·rw [if_pos h2,y6A f (a::us) vs out ha hb2 (by rw [List.length_cons];omega)];congr 1;apply List.filter_congr;intro x hx;have hx2:a≤x:=by
     rcases List.mem_cons.1 hx with h3|h3
     ·omega
     ·have:=ha1 x h3;omega
    congr 1;rw [Bool.eq_iff_iff,yh,yh,List.mem_cons];exact⟨.inr,fun h3=>h3.elim (fun h4=>by omega) id⟩
   ·have hab:a=b:=by omega
    subst hab;rw [if_neg h2,y6A f us vs out ha2 hb2 (by omega),List.filter_cons_of_neg (by rw [yh.2 (List.mem_cons_self ..)];simp)];congr 1;apply List.filter_congr;intro x hx;have hx2:=ha1 x hx;congr 1;rw [Bool.eq_iff_iff,yh,yh,List.mem_cons];exact⟨.inr,fun h3=>h3.elim (fun h4=>by omega) id⟩
def subB(us vs:List Int):Bool:=us.all (hasB vs)
theorem yfl{us vs:List Int}(ha:Inc us)(hb:Inc vs):(y4R (us.length+vs.length) us vs []= [])↔subB us vs=true:=by
 rw [y6A _ us vs [] ha hb (Nat.le_refl _),List.nil_append,List.filter_eq_nil_iff,subB,List.all_eq_true];exact⟨fun h x hx=>by simpa using h x hx,fun h x hx=>by rw [h x hx];simp⟩
end Go.Proofs.YtecmobjeeonmaaaGreatDoor
namespace Go.Proofs.YtecmobjeeonmaaaGreatDoor
open Go Go.RowKit
theorem yg6 :∀(f:Nat) (us vs out:List Int),us.length+vs.length≤f→out.length+us.length≤4294967296→iterF (yc yD) (f+1) (out,us,vs)=some (y4R f us vs out):=by
 intro f
 induction f with
 | zero=>
  intro us vs out h _;have h1:us= []:=List.eq_nil_of_length_eq_zero (by omega);have h2:vs= []:=List.eq_nil_of_length_eq_zero (by omega);subst h1;subst h2;rfl
 | succ f ih=>
  intro us vs out h ho;rw [yd];cases us with
  | nil=>
   cases vs with
   | nil=>rfl
   | cons b vs=>
    have e:yc yD (out,[],b::vs)=some (.inl (out,[],vs)):=by
     rw [yc];dsimp only;rw [if_pos (by simp),if_neg (by simp),yv];dsimp only;rw [if_pos (by simp),if_pos (by simp),yl,if_neg (by simp),yi,if_pos rfl];dsimp only;rw [y1Q,yOb,y4W,yOb];rfl
    rw [e];exact ih [] vs out (by simp at h ⊢;omega) ho
  | cons a us=>
   rw [List.length_cons] at h ho;have ho':app out ([a]:List Int)=some (out++[a]):=yo (by simp;omega);cases vs with
   | nil=>
    have e:yc yD (out,a::us,[])=some (.inl (out++[a],us,[])):=by
     rw [yc];dsimp only;rw [if_pos (by simp),if_pos (by simp),if_pos (by simp),yv];dsimp only;rw [if_neg (by simp),yl,if_pos rfl];dsimp only;rw [y1Q,yOb,y4W,yOb,yi,if_neg (by simp),yp,show yD true false=some true from rfl,yOb,if_pos rfl];dsimp only;rw [ho',yOb]
    rw [e];exact ih us [] (out++[a]) (by simp at h ⊢;omega) (by simp;omega)
   | cons b vs=>
    rw [List.length_cons] at h;have e0:yc yD (out,a::us,b::vs)=yl yD (out,a::us,b::vs) (decide (a≤b)) (decide (b≤a)):=by
     rw [yc];dsimp only;rw [if_pos (by simp),if_pos (by simp),if_neg (by simp;omega),y1Q,yOb,y1Q,yOb,yv];dsimp only;rw [if_pos (by simp),if_neg (by simp;omega),y1Q,yOb,y1Q,yOb]
    rw [e0,y4R,yl];dsimp only;by_cases h1:a<b
    ·rw [if_pos (show decide (a≤b)=true by simp;omega),y1Q,yOb,y4W,yOb,yi,if_neg (by simp;omega),yp,show decide (a≤b)=true by simp;omega,show decide (b≤a)=false by simp;omega,
      show yD true false=some true from rfl,yOb,if_pos rfl,if_pos h1]
     dsimp only;rw [ho',yOb];exact ih us (b::vs) (out++[a]) (by simp;omega) (by simp;omega)
    ·rw [if_neg h1];by_cases h2:b<a
     ·rw [if_neg (show ¬decide (a≤b)=true by simp;omega),yi,if_pos (show decide (b≤a)=true by simp;omega)];dsimp only;rw [y1Q,yOb,y4W,yOb,yp,show decide (a≤b)=false by simp;omega,show decide (b≤a)=true by simp;omega,
       show yD false true=some false from rfl,yOb,if_neg (by simp),if_pos h2]
      exact ih (a::us) vs out (by simp;omega) (by simp;omega)
     ·rw [if_pos (show decide (a≤b)=true by simp;omega),y1Q,yOb,y4W,yOb,yi,if_pos (show decide (b≤a)=true by simp;omega)];dsimp only;rw [y1Q,yOb,y4W,yOb,yp,show decide (a≤b)=true by simp;omega,show decide (b≤a)=true by simp;omega,
       show yD true true=some false from rfl,yOb,if_neg (by simp),if_neg h2]
      exact ih us vs out (by omega) (by omega)
theorem yg7{us vs:List Int}(hu:us.length≤4294967296)(hv:vs.length≤4294967296):y3u us vs=some (y4R (us.length+vs.length) us vs []):=by
 have h:iter (yc yD) (([]:List Int),us,vs)=some (y4R (us.length+vs.length) us vs []):=y5a (by omega) (yg6 _ us vs [] (Nat.le_refl _) (by simpa using hu));rw [y3u,y2N,h];rfl
theorem yfm{us vs:List Int}(hu:us.length≤4294967296)(hv:vs.length≤4294967296)(iu:Inc us)(iv:Inc vs):y1a us vs=some (subB us vs):=by
 rw [y1a,yg7 hu hv,yOb];have h:=yfl iu iv;cases hb:subB us vs with
 | true=>rw [h.2 hb];rfl
 | false=>
  have hn:y4R (us.length+vs.length) us vs []≠ []:=fun e=>by rw [h.1 e] at hb;cases hb
  have:(y4R (us.length+vs.length) us vs []).length≠0:=fun e=>hn (List.eq_nil_of_length_eq_zero e);rw [show (((y4R (us.length+vs.length) us vs []).length:Int)==0)=false from by simpa using hn]
theorem ygU :y5m=some true:=by kernel_rfl
theorem yeh{xs:List (Int×Int×Int)}{p:(Int×Int×Int)→Option Bool}{q:(Int×Int×Int)→Bool}(hl:xs.length≤1000000)(hp:∀x,p x=some (q x)):
  ∃k,y1R xs p=some k∧((k= -1∧xs.find? q=none)∨∃(i:Nat) (h:i<xs.length),k=(i:Int)∧xs.find? q=some xs[i]):=by
 obtain⟨o,h1,h2⟩:=yb (f:=y1U xs p) (fun i s=>s=(i:Int)∧i≤xs.length∧xs.find? q=(xs.drop i).find? q) (fun o=>(o= .inl ()∧xs.find? q=none)∨∃(i:Nat) (h:i<xs.length),o= .inr (i:Int)∧xs.find? q=some xs[i]) xs.length 0 (by omega) (fun i s hi ⟨e1,_,e2⟩=>by
  subst e1;rw [List.drop_eq_getElem_cons hi] at e2;cases hq:q xs[i] with
  | true=>
   right;refine⟨_,?_,.inr ⟨i,hi,rfl,by rw [e2,List.find?_cons_of_pos hq]⟩⟩;rw [y1U,if_pos (ct_lt hi),ya hi,yOb,hp,hq,yOb,if_pos rfl]
  | false=>
   left;refine⟨((i+1:Nat):Int),?_,rfl,by omega,by rw [e2,List.find?_cons_of_neg (by rw [hq];simp)]⟩;rw [y1U,if_pos (ct_lt hi),ya hi,yOb,hp,hq,yOb,if_neg (by simp),nxt (by omega)]) (fun s ⟨e1,_,e2⟩=>by
  subst e1;rw [List.drop_length] at e2;exact⟨_,by rw [y1U,if_neg ct_ge],.inl ⟨rfl,e2⟩⟩) (Nat.zero_le _) 0 ⟨rfl,Nat.zero_le _,rfl⟩
 rw [y1R,h1,yOb];rcases h2 with ⟨rfl,g⟩|⟨i,hi,rfl,g⟩
 ·exact ⟨_,rfl,.inl ⟨rfl,g⟩⟩
 ·exact ⟨_,rfl,.inr ⟨i,hi,rfl,g⟩⟩
def trF(P:AutT)(c:Int):List Int→Int→Bool→List Int→Int×Bool×List Int
 | [],s,ok,out=>(s,ok,out)
 | e::l,s,ok,out=>match st1 P s e with
  | none=>trF P c l s ok out
  | some t=>trF P c l t (ok&&(st1 P t c).isSome) (out++[e])
theorem y7c{P:AutT}{n:Nat}(hP:Right P n)(s e:Int):decide ((st1 P s e).getD (-1)≥0)=(st1 P s e).isSome:=by
 cases hs:st1 P s e with
 | none=>rfl
 | some t=>
  have ht:=((hP.es _ ((y7b hP).1 hs)).2.2.1:(0:Int)≤t);simpa using ht
theorem ydz{r:PbT×Int×Int×Bool}{n:Nat}(hP:Right r.1.1 n){l:List Int}(hl:l.length≤1000000)(c:Int):
  y2M r l c=some ((trF r.1.1 c l r.2.1 (st1 r.1.1 r.2.1 c).isSome []).2.2,(trF r.1.1 c l r.2.1 (st1 r.1.1 r.2.1 c).isSome []).2.1,(r.1,(trF r.1.1 c l r.2.1 (st1 r.1.1 r.2.1 c).isSome []).1,r.2.2)):=by
 obtain⟨o,h1,h2⟩:=yb (f:=y2T r l c) (fun i s=>s.2.1=(i:Int)∧s.2.2.2.length≤i∧trF r.1.1 c l r.2.1 (st1 r.1.1 r.2.1 c).isSome []=trF r.1.1 c (l.drop i) s.1 s.2.2.1 s.2.2.2) (fun o=>o=trF r.1.1 c l r.2.1 (st1 r.1.1 r.2.1 c).isSome []) l.length 0 (by omega) (fun i s hi ⟨e1,e5,e6⟩=>by
  obtain⟨b3,j,ok,out⟩:=s;dsimp only at e1 e5 e6;subst e1;left;rw [List.drop_eq_getElem_cons hi,trF] at e6;rw [y2T,if_pos (ct_lt hi),ya hi,yOb,y5o hP,yOb,y7c hP];cases hs:st1 r.1.1 b3 l[i] with
  | none=>
   rw [hs] at e6;refine⟨(b3,((i+1:Nat):Int),ok,out),?_,rfl,Nat.le_succ_of_le e5,e6⟩;rw [if_neg (by simp),yK,nxt (by omega)]
  | some t=>
   rw [hs] at e6;refine⟨(t,((i+1:Nat):Int),(ok&&(st1 r.1.1 t c).isSome),out++[l[i]]),?_,rfl,by simp;omega,e6⟩;rw [if_pos (by rfl),yOb,yo (by simp;omega),yOb,Option.getD_some];cases ok with
   | true=>rw [if_pos rfl,y5o hP,yOb,yK,y7c hP,nxt (by omega),Bool.true_and]
   | false=>rw [if_neg (by simp),yK,nxt (by omega),Bool.false_and]) (fun s ⟨e1,e5,e6⟩=>by
  obtain⟨b3,j,ok,out⟩:=s;dsimp only at e1 e5 e6;subst e1;rw [List.drop_length,trF] at e6;exact⟨_,by rw [y2T,if_neg ct_ge],by rw [e6]⟩) (Nat.zero_le _) (r.2.1,0,(st1 r.1.1 r.2.1 c).isSome,[]) ⟨rfl,Nat.le_refl _,rfl⟩
 rw [y2M,y5o hP,yOb,y7c hP,h1,yOb,h2]
theorem has55{xs:List Int}(hl:xs.length≤1000000)(x:Int):yF xs x=some (hasB xs x):=by
 obtain⟨o,h1,h2⟩:=yb (f:=y3d xs x) (fun i s=>s=(i:Int)∧∀j (h:j<xs.length),j<i→xs[j]≠x) (fun o=>(o= .inl ()∧x∉xs)∨(o= .inr ()∧x∈xs)) xs.length 0 (by omega) (fun i s hi ⟨e1,e2⟩=>by
  subst e1;by_cases he:xs[i]=x
  ·right;refine⟨_,?_,.inr ⟨rfl,he▸List.getElem_mem hi⟩⟩;rw [y3d,if_pos (ct_lt hi),ya hi,yOb,if_pos (by simpa using he)]
  ·left;refine⟨((i+1:Nat):Int),?_,rfl,fun j h hj=>?_⟩
   ·rw [y3d,if_pos (ct_lt hi),ya hi,yOb,if_neg (by simpa using he),nxt (by omega)]
   ·by_cases e:j=i
    ·subst e;exact he
    ·exact e2 j h (by omega)) (fun s ⟨e1,e2⟩=>by
  subst e1;refine⟨_,by rw [y3d,if_neg ct_ge],.inl ⟨rfl,fun hm=>?_⟩⟩;obtain⟨j,hj,e⟩:=List.mem_iff_getElem.1 hm;exact e2 j hj hj e) (Nat.zero_le _) 0 ⟨rfl,fun j h hj=>by omega⟩
 rw [yF,h1,yOb];rcases h2 with ⟨rfl,g⟩|⟨rfl,g⟩
 ·have:hasB xs x=false:=by
   cases hb:hasB xs x with
   | false=>rfl
   | true=>exact absurd (yh.1 hb) g
  rw [this]
 ·rw [yh.2 g]
def hnS(S:AutT)(x:Int×Bool)(e:Int):Int×Bool:=match st1 S x.1 e with
 | none=>(x.1,true)
 | some t=>(t,x.2)
def imL(S:AutT)(im:List Int)(k:Nat):List Int:=((List.range k).map fun i:Nat=>(i:Int)).filter fun e=>hasB im e&&hasB S.1 e
theorem yg8{S:AutT}{im:List Int}{k:Nat}:imL S im (k+1)=imL S im k++(if (hasB im (k:Int)&&hasB S.1 (k:Int))=true then [(k:Int)] else []):=by
 unfold imL;rw [List.range_succ,List.map_append,List.filter_append];congr 1;rw [List.map_cons,List.map_nil,List.filter_cons,List.filter_nil]
theorem ya0{r:PbT×Int×Int×Bool}{n:Nat}(hS:Right r.1.2.1 n){im:List Int}(hl:im.length≤1000000):
  y1i r im=some (r.1,r.2.1,(imL r.1.2.1 im 32).foldl (hnS r.1.2.1) r.2.2):=by
 obtain⟨o,h1,h2⟩:=yb (f:=y2k r im) (fun i s=>s.2.2=(i:Int)∧(s.1,s.2.1)=(imL r.1.2.1 im i).foldl (hnS r.1.2.1) r.2.2) (fun o=>o=(imL r.1.2.1 im 32).foldl (hnS r.1.2.1) r.2.2) 32 0 (by omega) (fun i s hi ⟨e1,e2⟩=>by
  obtain⟨a,al,j⟩:=s;dsimp only at e1 e2;subst e1;left;have hlt:decide ((i:Int)<32)=true:=by simp;omega
  rw [y2k,if_pos hlt,has55 hl,yOb];have hsu:=yg8 (S:=r.1.2.1) (im:=im) (k:=i);cases hb:hasB im (i:Int) with
  | false=>
   rw [hb] at hsu;refine⟨(a,al,((i+1:Nat):Int)),?_,rfl,?_⟩
   ·rw [if_pos (by simp),yOb,if_pos rfl,yr,nxt (by omega)]
   ·rw [hsu,if_neg (by simp),List.append_nil];exact e2
  | true=>
   rw [hb] at hsu;rw [if_neg (by simp),has55 hS.l1,yOb,yOb];cases hc:hasB r.1.2.1.1 (i:Int) with
   | false=>
    rw [hc] at hsu;refine⟨(a,al,((i+1:Nat):Int)),?_,rfl,?_⟩
    ·rw [if_pos (by simp),yr,nxt (by omega)]
    ·rw [hsu,if_neg (by simp),List.append_nil];exact e2
   | true=>
    rw [hc] at hsu;rw [if_neg (by simp),y5o hS,yOb,y7c hS];rw [if_pos (by simp)] at hsu;cases hs:st1 r.1.2.1 a (i:Int) with
    | none=>
     refine⟨(a,true,((i+1:Nat):Int)),?_,rfl,?_⟩
     ·rw [if_neg (by simp),yr,nxt (by omega)]
     ·rw [hsu,List.foldl_append,←e2,List.foldl_cons,List.foldl_nil,hnS];dsimp only;rw [hs]
    | some t=>
     refine⟨(t,al,((i+1:Nat):Int)),?_,rfl,?_⟩
     ·rw [if_pos (by rfl),yr,nxt (by omega),Option.getD_some]
     ·rw [hsu,List.foldl_append,←e2,List.foldl_cons,List.foldl_nil,hnS];dsimp only;rw [hs]) (fun s ⟨e1,e2⟩=>by
  obtain⟨a,al,j⟩:=s;dsimp only at e1 e2;subst e1;exact⟨_,by rw [y2k,if_neg (by simp)],e2⟩) (Nat.zero_le _) (r.2.2.1,r.2.2.2,0) ⟨rfl,rfl⟩
 rw [y1i,h1,yOb,h2]
def cmdL(q:PbT):List Int:=q.2.1.1.filter fun e=>!hasB q.2.2 e
theorem ybz{q:PbT}(h1:q.2.1.1.length≤1000000)(h2:q.2.2.length≤1000000):y2z q=some (cmdL q):=by
 obtain⟨o,g1,g2⟩:=yb (f:=y2G q) (fun i s=>s.1=(i:Int)∧i≤q.2.1.1.length∧s.2=(q.2.1.1.take i).filter fun e=>!hasB q.2.2 e) (fun o=>o=cmdL q) q.2.1.1.length 0 (by omega) (fun i s hi ⟨e1,_,e2⟩=>by
  obtain⟨j,out⟩:=s;dsimp only at e1 e2;subst e1;left;have hle:=List.length_filter_le (fun e=>!hasB q.2.2 e) (q.2.1.1.take i);rw [List.length_take,←e2] at hle;refine⟨(((i+1:Nat):Int),(q.2.1.1.take (i+1)).filter fun e=>!hasB q.2.2 e),?_,rfl,by omega,rfl⟩;rw [y2G,if_pos (ct_lt hi),ya hi,yOb,has55 h2,yOb,List.take_succ_eq_append_getElem hi,List.filter_append,←e2,List.filter_cons,List.filter_nil];cases hb:hasB q.2.2 q.2.1.1[i] with
  | true=>rw [if_neg (by simp),y1M,nxt (by omega),if_neg (by simp),List.append_nil]
  | false=>rw [if_pos (by rfl),yOb,yo (by simp;omega),yOb,y1M,nxt (by omega),if_pos (by rfl)]) (fun s ⟨e1,_,e2⟩=>by
  obtain⟨j,out⟩:=s;dsimp only at e1 e2;subst e1;exact⟨_,by rw [y2G,if_neg ct_ge],by rw [e2,List.take_length];rfl⟩) (Nat.zero_le _) (0,[]) ⟨rfl,Nat.zero_le _,by simp⟩
 rw [y2z,g1,yOb,g2]
theorem yei{q:PbT}(h1:q.2.1.1.length≤1000000)(h2:q.2.2.length≤1000000):y4S q=yT q.2.1 (cmdL q):=by
 obtain⟨o,g1,g2⟩:=yb (f:=y4N q) (fun i s=>s.1=(i:Int)∧i≤q.2.1.1.length∧s.2=(q.2.1.1.take i).filter fun e=>!hasB q.2.2 e) (fun o=>o=cmdL q) q.2.1.1.length 0 (by omega) (fun i s hi ⟨e1,_,e2⟩=>by
  obtain⟨j,out⟩:=s;dsimp only at e1 e2;subst e1;left;have hle:=List.length_filter_le (fun e=>!hasB q.2.2 e) (q.2.1.1.take i);rw [List.length_take,←e2] at hle;refine⟨(((i+1:Nat):Int),(q.2.1.1.take (i+1)).filter fun e=>!hasB q.2.2 e),?_,rfl,by omega,rfl⟩;rw [y4N,if_pos (ct_lt hi),ya hi,yOb,y6z (by omega),yOb,List.take_succ_eq_append_getElem hi,List.filter_append,←e2,List.filter_cons,List.filter_nil];cases hb:hasB q.2.2 q.2.1.1[i] with
  | true=>rw [if_neg (by simp),y3H,nxt (by omega),if_neg (by simp),List.append_nil]
  | false=>rw [if_pos (by rfl),yo (by simp;omega),yOb,y3H,nxt (by omega),if_pos (by rfl)]) (fun s ⟨e1,_,e2⟩=>by
  obtain⟨j,out⟩:=s;dsimp only at e1 e2;subst e1;exact⟨_,by rw [y4N,if_neg ct_ge],by rw [e2,List.take_length];rfl⟩) (Nat.zero_le _) (0,[]) ⟨rfl,Nat.zero_le _,by simp⟩
 rw [y4S,g1,yOb,g2];cases yT q.2.1 (cmdL q) <;> rfl
theorem ygV{q:PbT}(h1:q.2.1.1.length≤1000000)(h2:q.2.2.length≤1000000):y1q q=y2A q:=by
 rw [y1q,y2A,ybz h1 h2,yOb,yei h1 h2]
def trE(P:AutT):List Int→Int→Int×List Int
 | [],s=>(s,[])
 | e::l,s=>match st1 P s e with
  | none=>trE P l s
  | some t=>((trE P l t).1,e::(trE P l t).2)
theorem yas(P:AutT)(c:Int):∀(l:List Int) (s:Int) (ok:Bool) (out:List Int),trF P c l s ok out=((trE P l s).1,ok&&(trF P c l s true []).2.1,out++(trE P l s).2)
 | [],s,ok,out=>by simp [trF,trE]
 | e::l,s,ok,out=>by
  rw [trF,trE,trF];cases h:st1 P s e with
  | none=>exact yas P c l s ok out
  | some t=>
   dsimp only;rw [yas P c l t (ok&&_),yas P c l t (true&&_),Bool.true_and,Bool.and_assoc,List.append_assoc];rfl
def aft(P:AutT)(c:Int)(l:List Int)(s:Int):Bool:=(trF P c l s true []).2.1
theorem yg9(P:AutT)(c e:Int)(l:List Int)(s:Int):aft P c (e::l) s=match st1 P s e with
  | none=>aft P c l s
  | some t=>(st1 P t c).isSome&&aft P c l t:=by
 unfold aft;rw [trF];cases st1 P s e with
 | none=>rfl
 | some t=>
  dsimp only;rw [yas,Bool.true_and]
theorem ycD(P:AutT)(c:Int):∀(l:List Int) (s:Int),(st1 P s c).isSome=true→aft P c l s=true→(st1 P (trE P l s).1 c).isSome=true
 | [],_,h,_=>h
 | e::l,s,h,ha=>by
  rw [yg9] at ha;rw [trE];cases hs:st1 P s e with
  | none=>
   rw [hs] at ha;exact ycD P c l s h ha
  | some t=>
   rw [hs] at ha;simp only [Bool.and_eq_true] at ha;exact ycD P c l t ha.1 ha.2
theorem y9r(P:AutT):∀(l:List Int) (s:Int),(trE P l s).2.length≤l.length
 | [],_=>Nat.le_refl _
 | e::l,s=>by
  rw [trE];cases st1 P s e with
  | none=>exact Nat.le_succ_of_le (y9r P l s)
  | some t=>exact Nat.succ_le_succ (y9r P l t)
abbrev RunT :=Int×Int×Bool
def hnL(S:AutT)(im:List Int)(z:Int×Bool):Int×Bool:=(imL S im 32).foldl (hnS S) z
def midR(q:PbT)(r:RunT)(c:CycT):RunT:=((trE q.1 c.1 r.1).1,hnL q.2.1 (trE q.1 c.1 r.1).2 r.2)
def dnR(q:PbT)(m:RunT)(c:CycT)(cm:Int):Bool:=cm != -1&&aft q.1 cm c.2.1 m.1
def finR(q:PbT)(m:RunT)(c:CycT)(cm:Int):RunT:=
 if dnR q m c cm=true then((st1 q.1 (trE q.1 c.2.1 m.1).1 cm).getD (trE q.1 c.2.1 m.1).1,hnL q.2.1 [cm] (hnL q.2.1 (trE q.1 c.2.1 m.1).2 m.2))
 else((trE q.1 c.2.1 m.1).1,hnL q.2.1 (trE q.1 c.2.1 m.1).2 m.2)
def enR(q:PbT)(s:Int):List Int:=(cmdL q).filter fun e=>(st1 q.2.1 s e).isSome
def perm(q:PbT)(m:RunT)(e:Int):Bool:=(st1 q.1 m.1 e).isSome&&(!hasB q.2.1.1 e||(st1 q.2.1 m.2.1 e).isSome)
abbrev StpR :=List Int×List Int×List Int×Int×Bool×Int×Bool
def stpR(q:PbT)(r:RunT)(c:CycT)(ch:RunT→Int):StpR:=
 ((trE q.1 c.1 r.1).2,(trE q.1 c.2.1 (midR q r c).1).2,enR q (midR q r c).2.1,ch (midR q r c),dnR q (midR q r c) c (ch (midR q r c)),(finR q (midR q r c) c (ch (midR q r c))).2.1,(finR q (midR q r c) c (ch (midR q r c))).2.2)
def cycR(q:PbT)(ch:CycT→RunT→Int)(r:RunT)(c:CycT):RunT:=finR q (midR q r c) c (ch c (midR q r c))
def y5X(q:PbT)(ch:CycT→RunT→Int):RunT→List CycT→List StpR
 | _,[]=> []
 | r,c::l=>stpR q r c (ch c)::y5X q ch (cycR q ch r c) l
def runR(q:PbT)(ch:CycT→RunT→Int)(r:RunT)(l:List CycT):RunT:=l.foldl (cycR q ch) r
theorem yaM(q:PbT)(ch:CycT→RunT→Int):∀(l:List CycT) (r:RunT),(y5X q ch r l).length=l.length
 | [],_=>rfl
 | c::l,r=>by rw [y5X,List.length_cons,List.length_cons,yaM]
theorem ybA(q:PbT)(ch:CycT→RunT→Int)(c:CycT):∀(l:List CycT) (r:RunT),y5X q ch r (l++[c])=y5X q ch r l++[stpR q (runR q ch r l) c (ch c)]
 | [],_=>rfl
 | d::l,r=>by
  rw [List.cons_append,y5X,y5X,ybA q ch c l,List.cons_append];rfl
theorem yfn(q:PbT)(ch:CycT→RunT→Int)(c:CycT)(l:List CycT)(r:RunT):runR q ch r (l++[c])=cycR q ch (runR q ch r l) c:=List.foldl_append ..
def chP(q:PbT)(pr:List Int)(m:RunT):Int:=(pr.find? (perm q m)).getD (-1)
theorem yfo(q:PbT)(pr:List Int)(m:RunT):chP q pr m= -1∨(chP q pr m∈pr∧perm q m (chP q pr m)=true):=by
 unfold chP;cases h:pr.find? (perm q m) with
 | none=>exact .inl rfl
 | some x=>exact .inr ⟨List.mem_of_find?_eq_some h,List.find?_some h⟩
def wdR(s:StpR):List Int:=s.1++s.2.1++(if s.2.2.2.2.1=true then [s.2.2.2.1] else [])
def flw(q:PbT)(z:RunT)(e:Int):RunT:=if z.2.2=true then z else match st1 q.1 z.1 e with
 | none=>(z.1,z.2.1,true)
 | some t=>if hasB q.2.1.1 e=true then(match st1 q.2.1 z.2.1 e with
  | none=>(t,z.2.1,true)
  | some u=>(t,u,false)) else(t,z.2.1,false)
theorem ydA(q:PbT):∀(w:List Int) (z:RunT),z.2.2=true→w.foldl (flw q) z=z
 | [],_,_=>rfl
 | e::w,z,h=>by rw [List.foldl_cons,flw,if_pos h,ydA q w z h]
def sp1(S:AutT)(z:Int×Bool)(e:Int):Int×Bool:=if z.2=true then(if hasB S.1 e=true then((st1 S z.1 e).getD (-1),(st1 S z.1 e).isSome) else z) else z
theorem ybW{q:PbT}{p:AutT}{T:List (List Int)}{n:Nat}(h:LoopZ q.1 q.2.1 p T n):∀(w:List Int) (k:Nat) (x y:Int),(∀e∈w,e∈q.1.1)→T[k]? =some [x,y]→
  ((w.foldl (flw q) (x,y,false)).2.2=true∧stw (st1 p) (k:Int) w=none)∨
  ∃(k':Nat) (x' y':Int),w.foldl (flw q) (x,y,false)=(x',y',false)∧stw (st1 p) (k:Int) w=some (k':Int)∧T[k']? =some [x',y']∧w.foldl (sp1 q.2.1) (y,true)=(y',true)
 | [],k,x,y,_,hk=> .inr ⟨k,x,y,rfl,rfl,hk,rfl⟩
 | e::w,k,x,y,hw,hk=>by
  have he:=hw e (List.mem_cons_self ..);have hp:e∈p.1:=(h.ev e).2 (.inl he);have hn:=h.no k x y e hk hp;have hy:=h.yes k x y e;rw [pst,if_pos (yh.2 he)] at hn hy;rw [List.foldl_cons,List.foldl_cons,stw,flw,sp1,if_neg (by simp),if_pos rfl];dsimp only;have lost:∀{z:RunT},z.2.2=true→st1 p (k:Int) e=none→((w.foldl (flw q) z).2.2=true∧((st1 p (k:Int) e).bind fun r=>stw (st1 p) r w)=none):=fun {z} hz hs=>by
   rw [ydA q w z hz,hs];exact⟨hz,rfl⟩
  cases h1:st1 q.1 x e with
  | none=>
   rw [h1] at hn;exact .inl (lost rfl (hn rfl))
  | some t=>
   rw [h1] at hn hy;dsimp only;by_cases hS:hasB q.2.1.1 e=true
   ·rw [if_pos hS] at hn hy;rw [if_pos hS,if_pos hS];cases h2:st1 q.2.1 y e with
    | none=>
     rw [h2] at hn;exact .inl (lost rfl (hn rfl))
    | some u=>
     rw [h2] at hy;obtain⟨k1,g1,g2⟩:=hy t u hk hp rfl;rw [g1];exact ybW h w k1 t u (fun e he=>hw e (List.mem_cons_of_mem _ he)) g2
   ·rw [if_neg hS] at hn hy;rw [if_neg hS,if_neg hS];obtain⟨k1,g1,g2⟩:=hy t y hk hp rfl;rw [g1];exact ybW h w k1 t y (fun e he=>hw e (List.mem_cons_of_mem _ he)) g2
def difR(q:PbT):Int→RunT→List StpR→Int×Int×Bool
 | _,_,[]=>(0,0,false)
 | i,z,s::l=>if((wdR s).foldl (flw q) z).2.2=true then(i,1,true) else if s.2.2.2.2.2.2=true then(i,2,true) else if(s.2.2.2.2.2.1 != ((wdR s).foldl (flw q) z).2.1)=true then(i,3,true) else difR q (i+1) ((wdR s).foldl (flw q) z) l
theorem yeG{a b:List Int}(h:a.length+b.length≤100000):y4V [a,b]=some (a++b):=by
 have h1:iter (y3b [a,b]) (0,0)=some ((a.length+b.length:Nat):Int):=by
  refine y5a (n:=3) (by omega) ?_;rw [yd,y3b,if_pos (by simp),show idx [a,b] 0=some a from rfl,yOb];dsimp only;rw [show (0:Int)+(a.length:Int)=((a.length:Nat):Int) by omega,W_nat (by omega),if_neg (by simp),y4c];dsimp only;rw [yd,y3b,show W (0+1)=1 from rfl,if_pos (by simp),show idx [a,b] 1=some b from rfl,yOb];dsimp only;rw [show (a.length:Int)+(b.length:Int)=((a.length+b.length:Nat):Int) by omega,W_nat (by omega),if_neg (by simp;omega),y4c];dsimp only;rw [yd,y3b,show W (1+1)=2 from rfl,if_neg (by simp)]
 have h2:iter (y3a [a,b]) (0,[])=some (a++b):=by
  refine y5a (n:=3) (by omega) ?_;rw [yd,y3a,if_pos (by simp),show idx [a,b] 0=some a from rfl,yOb,yo (by simp;omega),yOb,show W (0+1)=1 from rfl];dsimp only;rw [yd,y3a,if_pos (by simp),show idx [a,b] 1=some b from rfl,yOb,yo (by simp;omega),yOb,show W (1+1)=2 from rfl];dsimp only;rw [yd,y3a,if_neg (by simp)];rfl
 rw [y4V,h1,yOb,y5s,if_pos ⟨rfl,by omega,by omega⟩,yOb,h2,yOb]
def Shw(l:List StpR):Prop:=∀s∈l,s.1.length+s.2.1.length≤100
theorem ycE{s:StpR}(h:s.1.length+s.2.1.length≤100):(wdR s).length≤101:=by
 unfold wdR;rw [List.length_append,List.length_append];split <;> simp <;> omega
theorem yfp{s:StpR}(h:s.1.length+s.2.1.length≤100):y3c s=some (wdR s):=by
 rw [y3c,yeG (by omega),yOb,wdR];cases s.2.2.2.2.1 with
 | true=>rw [if_pos rfl,yo (by simp;omega),yOb,if_pos rfl];rfl
 | false=>rw [if_neg (by simp),if_neg (by simp),List.append_nil];rfl
theorem y9T{l:List StpR}(h:Shw l):(l.flatMap wdR).length≤l.length*101:=by
 induction l with
 | nil=>simp
 | cons s l ih=>
  have h1:=ycE (h s (List.mem_cons_self ..));have h2:=ih fun x hx=>h x (List.mem_cons_of_mem _ hx);rw [List.flatMap_cons,List.length_append,List.length_cons];omega
theorem Shw.take{l:List StpR}(h:Shw l)(i:Nat):Shw (l.take i):=fun s hs=>h s (List.mem_of_mem_take hs)
theorem yca(l:List StpR)(s:StpR):(l++[s]).flatMap wdR=l.flatMap wdR++wdR s:=by simp
theorem ycF{l:List StpR}(h:Shw l)(hl:l.length≤1000):y3e l=some (l.flatMap wdR):=by
 have e0:((0:Int),([]:List Int))=(fun k:Nat=>((k:Int),(l.take k).flatMap wdR)) 0:=rfl;have hi:iter (y3K l) (0,[])=some (l.flatMap wdR):=by
  refine Eq.trans (congrArg _ e0) (y6L (f:=y3K l) (fun k:Nat=>((k:Int),(l.take k).flatMap wdR)) l.length (by omega) (fun k hk=>?_) ?_)
  ·have h1:=h _ (List.getElem_mem hk);have h2:=ycE h1;have h3:=y9T (h.take k);rw [List.length_take] at h3;have h4:min k l.length*101≤1000*101:=Nat.mul_le_mul_right _ (by omega);rw [y3K,if_pos (ct_lt hk),ya hk,yOb,yfp h1,yOb,yo (by dsimp only;omega),yOb];dsimp only;rw [nxt (by omega),List.take_succ_eq_append_getElem hk,yca]
  ·rw [y3K,if_neg ct_ge,List.take_length]
 rw [y3e,hi,yOb]
def mx(a b:Int):Int:=if a<b then b else a
structure SimOk (q:PbT) (n1 n2:Nat):Prop where
 rP:Right q.1 n1
 rS:Right q.2.1 n2
 g:GenIn (toAut q.2.1) (cmdL q) n2
 ic:Inc (cmdL q)
 p0:0<n1
 u:q.2.2.length≤1000000
 gen:yT q.2.1 (cmdL q)=some (codeP (toAut q.2.1) (cmdL q) n2,0)
abbrev LpT :=BenT×Int×Bool
theorem yfq{z:LpT}{n:Nat}(hP:Right z.1.1.1 n)(e:Int):y2R z e=some ((st1 z.1.1.1 z.1.2.2.1 e).getD (-1)):=by
 obtain⟨k,h1,h2⟩:=yeh (xs:=z.1.1.1.2.2.2) (p:=y1v (some z) e) (q:=fun x=>x.1==z.1.2.2.1&&x.2.1==e) hP.l3 (fun x=>by
  rw [y1v,yOb];by_cases hx:(x.1==z.1.2.2.1)=true
  ·rw [if_pos hx,y1d,hx,Bool.true_and]
  ·rw [if_neg hx,y1d];simp only [Bool.not_eq_true] at hx;rw [hx,Bool.false_and])
 rw [y2R,h1,yOb];unfold st1;rcases h2 with ⟨rfl,g⟩|⟨i,hi,rfl,g⟩
 ·rw [g,if_pos (by simp)];rfl
 ·rw [g,if_neg (by simp),yOb,ya hi,yOb];rfl
def lpZ(q:PbT)(c:CodT×List Bool×List Bool)(z:RunT):LpT:=((q,c.1,z.1,c.2),z.2)
theorem yga{q:PbT}{n1 n2:Nat}(hP:Right q.1 n1)(hS:Right q.2.1 n2)(c:CodT×List Bool×List Bool)(z:RunT)(e:Int):y3A (lpZ q c z) e=some (lpZ q c (flw q z e)):=by
 obtain⟨pl,su,lo⟩:=z;rw [y3A,flw];dsimp only [lpZ];cases lo with
 | true=>rfl
 | false=>
  rw [if_neg (by simp),y4Q,yfq (by dsimp only;exact hP),yOb];dsimp only;rw [y7c hP];cases h1:st1 q.1 pl e with
  | none=>
   rw [if_neg (by simp),y1J,yOb];rfl
  | some t=>
   have ht:=y7c hP pl e;rw [h1] at ht;rw [if_pos (by rfl),y1J,yOb];have ht2:decide (t≥0)=true:=ht;show y1K e ((q,c.1,t,c.2),su,!(decide (t≥0)))=_;rw [ht2,show(!true)=false from rfl,y1K];dsimp only;rw [if_neg (by simp),y6z (by have:=hS.l1;omega),yOb,y2F];cases hb:hasB q.2.1.1 e with
   | false=>rfl
   | true=>
    rw [if_neg (by simp),if_pos rfl];obtain⟨k,g1,g2⟩:=yeh (xs:=q.2.1.2.2.2) (p:=y2Q (some ((q,c.1,t,c.2),su,false)) e) (q:=fun x=>x.1==su&&x.2.1==e) hS.l3 (fun x=>by
     rw [y2Q,yOb];by_cases hx:(x.1==su)=true
     ·rw [if_pos hx,y1n,hx,Bool.true_and]
     ·rw [if_neg hx,y1n];simp only [Bool.not_eq_true] at hx;rw [hx,Bool.false_and])
    dsimp only [Option.getD_some];rw [g1,yOb];unfold st1;rcases g2 with ⟨rfl,g⟩|⟨i,hi,rfl,g⟩
    ·rw [g];rfl
    ·rw [g,if_neg (by simp),ya hi,yOb];rfl
theorem ygb{q:PbT}{n1 n2:Nat}(hP:Right q.1 n1)(hS:Right q.2.1 n2)(c:CodT×List Bool×List Bool)(z:RunT){w:List Int}(hl:w.length≤1000000):iter (y1V w) (0,lpZ q c z)=some (lpZ q c (w.foldl (flw q) z)):=by
 have e0:((0:Int),lpZ q c z)=(fun k:Nat=>((k:Int),lpZ q c ((w.take k).foldl (flw q) z))) 0:=rfl;refine Eq.trans (congrArg _ e0) (y6L (f:=y1V w) (fun k:Nat=>((k:Int),lpZ q c ((w.take k).foldl (flw q) z))) w.length (by omega) (fun k hk=>?_) ?_)
 ·rw [y1V,if_pos (ct_lt hk),ya hk,yOb,yga hP hS,yOb,nxt (by omega),List.take_succ_eq_append_getElem hk,List.foldl_append];rfl
 ·rw [y1V,if_neg ct_ge,List.take_length]
theorem ygc{xs:List Int}{p:Int→Option Bool}{g:Int→Bool}(hl:xs.length≤1000000)(hp:∀x∈xs,p x=some (g x)):y3j xs p=some (xs.any g):=by
 obtain⟨o,h1,h2⟩:=yb (f:=y3h xs p) (fun i s=>s=(i:Int)∧xs.any g=(xs.drop i).any g) (fun o=>(o= .inl ()∧xs.any g=false)∨∃i:Nat,o= .inr (i:Int)∧xs.any g=true) xs.length 0 (by omega) (fun i s hi ⟨e1,e2⟩=>by
  subst e1;rw [List.drop_eq_getElem_cons hi,List.any_cons] at e2;rw [y3h,if_pos (ct_lt hi),ya hi,yOb,hp _ (List.getElem_mem hi),yOb];cases hg:g xs[i] with
  | true=>
   rw [hg] at e2;exact .inr ⟨_,by rw [if_pos rfl],.inr ⟨i,rfl,e2⟩⟩
  | false=>
   rw [hg] at e2;exact .inl ⟨_,by rw [if_neg (by simp),nxt (by omega)],rfl,e2⟩) (fun s ⟨e1,e2⟩=>by
  subst e1;rw [List.drop_length] at e2;exact⟨_,by rw [y3h,if_neg ct_ge],.inl ⟨rfl,e2⟩⟩) (Nat.zero_le _) 0 ⟨rfl,rfl⟩
 rw [y3j,y5d,h1,yOb];rcases h2 with ⟨rfl,e⟩|⟨i,rfl,e⟩
 ·rw [e];rfl
 ·rw [e];show some (decide ((i:Int)≥0))=some true;simp
def bad55(q:PbT)(l:List StpR):Bool:=(l.flatMap wdR).any fun e=>!hasB q.1.1 e
theorem yaP{q:PbT}{n1 n2:Nat}(hP:Right q.1 n1)(hS:Right q.2.1 n2){e:Int}(he:y1q q=some e){l:List StpR}(hs:Shw l)(hl:l.length≤1000):
  y1j q l=some (if e≠0 then(0,0,false,e) else if bad55 q l=true then(0,0,false,9) else((difR q 0 (0,0,false) l).1,(difR q 0 (0,0,false) l).2.1,(difR q 0 (0,0,false) l).2.2,0)):=by
 have hfl:=y9T hs;rw [y1j,he,yOb];by_cases h0:e=0
 case neg=>rw [if_pos (by simpa using h0),if_pos h0]
 rw [if_neg (by simpa using h0),if_neg (show ¬e≠0 from fun h=>h h0),ycF hs hl,yOb,ygc (g:=fun e=>!hasB q.1.1 e) (by omega) (fun x _=>by rw [y3l,y6z (by have:=hP.l1;omega),yOb]),yOb];cases hb:bad55 q l with
 | true=>
  unfold bad55 at hb;rw [hb,if_pos rfl,if_pos rfl]
 | false=>
  unfold bad55 at hb;rw [hb,if_neg (by simp),if_neg (by simp)];obtain⟨o,h1,h2⟩:=yb (f:=y1W l) (fun i s=>s.1=(i:Int)∧∃z,s.2=lpZ q ((((0,0,0,[],[]),[],[],0):CodT),[],[]) z∧difR q 0 (0,0,false) l=difR q (i:Int) z (l.drop i)) (fun o=>(o= .inl ()∧difR q 0 (0,0,false) l=(0,0,false))∨∃u:Int×Int,o= .inr u∧difR q 0 (0,0,false) l=(u.2,u.1,true)) l.length 0 (by omega) (fun i s hi ⟨e1,z,e2,e3⟩=>by
   obtain⟨j,y⟩:=s;dsimp only at e1 e2;subst e1 e2;have hw:=hs _ (List.getElem_mem hi);have hwl:=ycE hw;rw [List.drop_eq_getElem_cons hi,difR] at e3;rw [y1W,if_pos (ct_lt hi),ya hi,yOb,yfp hw,yOb,ygb hP hS _ _ (by omega),yOb];generalize (wdR l[i]).foldl (flw q) z=z2 at *;obtain⟨z1,zs,zl⟩:=z2;dsimp only at e3;rw [show lpZ q ((((0,0,0,[],[]),[],[],0):CodT),[],[]) (z1,zs,zl)=((q,((0,0,0,[],[]),[],[],0),z1,[],[]),zs,zl) from rfl];dsimp only;cases zl with
   | true=>
    rw [if_pos (by rfl)] at e3;exact .inr ⟨_,by rw [if_pos (by rfl)],.inr ⟨(1,(i:Int)),rfl,e3⟩⟩
   | false=>
    rw [if_neg (by simp)] at e3;rw [if_neg (by simp)];generalize l[i]=s at *;obtain⟨s1,s2,s3,s4,s5,s6,s7⟩:=s;dsimp only at e3 ⊢;cases s7 with
    | true=>
     rw [if_pos (by rfl)] at e3;exact .inr ⟨_,by rw [if_pos (by rfl)],.inr ⟨(2,(i:Int)),rfl,e3⟩⟩
    | false=>
     rw [if_neg (by simp)] at e3;rw [if_neg (by simp)];cases c3:s6 != zs with
     | true=>
      rw [c3,if_pos (by rfl)] at e3;exact .inr ⟨_,by rw [if_pos (by rfl)],.inr ⟨(3,(i:Int)),rfl,e3⟩⟩
     | false=>
      rw [c3,if_neg (by simp)] at e3;exact .inl ⟨(_,_),by rw [if_neg (by simp),nxt (by omega)],rfl,(z1,zs,false),rfl,e3⟩) (fun s ⟨e1,z,e2,e3⟩=>by
   obtain⟨j,y⟩:=s;dsimp only at e1;subst e1;rw [List.drop_length,difR] at e3;exact⟨_,by rw [y1W,if_neg ct_ge],.inl ⟨rfl,e3⟩⟩) (Nat.zero_le _) (0,lpZ q ((((0,0,0,[],[]),[],[],0):CodT),[],[]) (0,0,false)) ⟨rfl,_,rfl,rfl⟩
  have h1:iter (y1W l) (0,(q,((0,0,0,[],[]),[],[],0),0,[],[]),0,false)=some o:=h1;rw [h1,yOb];rcases h2 with ⟨rfl,g⟩|⟨u,rfl,g⟩
  ·rw [g]
  ·rw [g]
theorem ycG{q:PbT}{n:Nat}(hP:Right q.1 n){m:RunT}{e:Int}(h:perm q m e=true):0≤e∧(st1 q.1 m.1 e).isSome=true:=by
 rw [perm,Bool.and_eq_true] at h;obtain⟨t,ht⟩:=Option.isSome_iff_exists.1 h.1;exact⟨(hP.alr e (ycB hP ht).2.2.2.2).1,h.1⟩
section
variable{q:PbT}{n1 n2:Nat}
theorem ycb(rP:Right q.1 n1)(rS:Right q.2.1 n2)(m:RunT)(e:Int):y1N (q,m) e=some (perm q m e):=by
 rw [y1N,y5o rP,yOb,y7c rP,perm];cases st1 q.1 m.1 e with
 | none=>rfl
 | some t=>
  rw [if_pos (show (some t).isSome=true from rfl),has55 rS.l1,yOb];dsimp only;cases hasB q.2.1.1 e with
  | false=>rfl
  | true=>
   rw [if_neg (by simp),y5o rS,yOb,y7c rS];rfl
theorem ygW(rP:Right q.1 n1)(rS:Right q.2.1 n2)(m:RunT){pr:List Int}(hl:pr.length≤1000000):iter (y1y (q,m) pr) (0,-1)=some (chP q pr m):=by
 obtain⟨o,h1,h2⟩:=yb (f:=y1y (q,m) pr) (fun i s=>s.1=(i:Int)∧i≤pr.length∧((s.2= -1∧pr.find? (perm q m)=(pr.drop i).find? (perm q m))∨(0≤s.2∧pr.find? (perm q m)=some s.2))) (fun o=>o=chP q pr m) pr.length 0 (by omega) (fun i s hi ⟨e1,_,e2⟩=>by
  obtain⟨j,cm⟩:=s;dsimp only at e1 e2;subst e1;rw [y1y];dsimp only;rcases e2 with ⟨rfl,e2⟩|⟨h0,e2⟩
  ·left;rw [if_pos (by simp;omega),ya hi,yOb];rw [List.drop_eq_getElem_cons hi,List.find?_cons] at e2;cases hp:perm q m pr[i] with
   | true=>
    rw [hp] at e2;have h0:=(ycG rP hp).1;rw [if_pos (by simpa using h0),yOb,ycb rP rS,yOb,yOb,hp,if_pos rfl,yOb,y1x,nxt (by omega)];exact⟨_,rfl,rfl,hi,.inr ⟨h0,e2⟩⟩
   | false=>
    rw [hp] at e2;have:(if decide (pr[i]≥0)=true then(some pr[i]).bind fun x54=>(y1N (q,m) x54).bind fun r55=>some r55 else some false)=some false:=by
     split
     ·rw [yOb,ycb rP rS,yOb,hp]
     ·rfl
    rw [this,yOb,if_neg (by simp),y1x,nxt (by omega)];exact⟨_,rfl,rfl,hi,.inl ⟨rfl,e2⟩⟩
  ·right;rw [if_neg (by simp;omega)];exact⟨_,rfl,by rw [chP,e2];rfl⟩) (fun s ⟨e1,_,e2⟩=>by
  obtain⟨j,cm⟩:=s;dsimp only at e1 e2;subst e1;refine⟨cm,by rw [y1y];dsimp only;rw [if_neg (by simp)],?_⟩;rw [List.drop_length] at e2;rcases e2 with ⟨rfl,e2⟩|⟨_,e2⟩
  ·rw [chP,e2];rfl
  ·rw [chP,e2];rfl) (Nat.zero_le _) (0,-1) ⟨rfl,Nat.zero_le _,.inl ⟨rfl,rfl⟩⟩
 rw [h1,h2]
theorem yhf(rS:Right q.2.1 n2)(m:RunT):iter (y1B (q,m) (cmdL q)) (0,[])=some (enR q m.2.1):=by
 have hcl:(cmdL q).length≤1000000:=Nat.le_trans (List.length_filter_le _ _) rS.l1;obtain⟨o,h1,h2⟩:=yb (f:=y1B (q,m) (cmdL q)) (fun i s=>s.1=(i:Int)∧i≤(cmdL q).length∧s.2=((cmdL q).take i).filter fun e=>(st1 q.2.1 m.2.1 e).isSome) (fun o=>o=enR q m.2.1) (cmdL q).length 0 (by omega) (fun i s hi ⟨e1,_,e2⟩=>by
  obtain⟨j,out⟩:=s;dsimp only at e1 e2;subst e1;left;have hle:=List.length_filter_le (fun e=>(st1 q.2.1 m.2.1 e).isSome) ((cmdL q).take i);rw [List.length_take,←e2] at hle;refine⟨(((i+1:Nat):Int),((cmdL q).take (i+1)).filter fun e=>(st1 q.2.1 m.2.1 e).isSome),?_,rfl,by omega,rfl⟩;rw [y1B,if_pos (ct_lt hi),ya hi,yOb,y5o rS,yOb,y7c rS,List.take_succ_eq_append_getElem hi,List.filter_append,←e2,List.filter_cons,List.filter_nil];dsimp only;cases hb:(st1 q.2.1 m.2.1 (cmdL q)[i]).isSome with
  | true=>rw [if_pos rfl,yOb,yo (by simp;omega),yOb,y1A,nxt (by omega),if_pos rfl]
  | false=>rw [if_neg (by simp),y1A,nxt (by omega),if_neg (by simp),List.append_nil]) (fun s ⟨e1,_,e2⟩=>by
  obtain⟨j,out⟩:=s;dsimp only at e1 e2;subst e1;exact⟨_,by rw [y1B,if_neg ct_ge],by rw [e2,List.take_length];rfl⟩) (Nat.zero_le _) (0,[]) ⟨rfl,Nat.zero_le _,by simp⟩
 rw [h1,h2]
theorem yfr(rP:Right q.1 n1)(rS:Right q.2.1 n2)(hu:q.2.2.length≤1000000)(r:RunT){c:CycT}(l1:c.1.length≤1000000)(l2:c.2.1.length≤1000000){pr:List Int}(hl:pr.length≤1000000)(auto:Bool):
  y2h (q,r) c pr auto=some (stpR q r c (chP q (if auto=true then pr else [c.2.2])),(q,cycR q (fun c=>chP q (if auto=true then pr else [c.2.2])) r c)):=by
 have k1:=y9r q.1 c.1 r.1;have k2:=y9r q.1 c.2.1 (midR q r c).1;have j1:∀{pr:List Int} (hl:pr.length≤1000000) (ok:Bool),y1z c ((trE q.1 c.1 r.1).2,ok,(q,(midR q r c).1,r.2)) (q,midR q r c) (enR q (midR q r c).2.1) pr=some (stpR q r c (chP q pr),(q,finR q (midR q r c) c (chP q pr (midR q r c)))):=by
  intro pr hl ok;have hcs:=yfo q pr (midR q r c);rw [y1z,ygW rP rS _ hl,yOb,ydz (r:=(q,midR q r c)) rP l2,yOb,yas,stpR];dsimp only;generalize chP q pr (midR q r c)=cm at *;rw [List.nil_append,ya0 (r:=(q,(trE q.1 c.2.1 (midR q r c).1).1,(midR q r c).2)) rS (by omega),yOb];have hdn:(decide (cm≥0)&&((st1 q.1 (midR q r c).1 cm).isSome&&(trF q.1 cm c.2.1 (midR q r c).1 true []).2.1))=dnR q (midR q r c) c cm:=by
   rcases hcs with rfl|⟨_,hp⟩
   ·rfl
   ·obtain ⟨h0,h1⟩:=ycG rP hp;rw [h1,dnR,aft,Bool.true_and];have:(cm != -1)=true:=by simp;omega
    rw [this,decide_eq_true h0]
  dsimp only;rw [hdn,finR];cases hd:dnR q (midR q r c) c cm with
  | true=>
   have hd2:=hd;rw [dnR,Bool.and_eq_true] at hd2;have hp:perm q (midR q r c) cm=true:=by
    rcases hcs with rfl|⟨_,hp⟩
    ·simp at hd2
    ·exact hp
   obtain⟨t,ht⟩:=Option.isSome_iff_exists.1 (ycD q.1 cm c.2.1 (midR q r c).1 (ycG rP hp).2 hd2.2);rw [if_pos rfl,if_pos rfl,y5o rP,yOb,ht,Option.getD_some,Option.getD_some,ya0 (r:=(q,t,_)) rS (by simp),yOb,y1w];dsimp only;rw [hdn,hd];rfl
  | false=>
   rw [if_neg (by simp),if_neg (by simp),y1w];dsimp only;rw [hdn,hd];rfl
 rw [y2h,ydz (r:=(q,r)) rP l1,yOb,yas];dsimp only;rw [List.nil_append,ya0 (r:=(q,(trE q.1 c.1 r.1).1,r.2)) rS (by omega),yOb];dsimp only;rw [ybz rS.l1 hu,yOb];have hm:((q,(trE q.1 c.1 r.1).1,List.foldl (hnS q.2.1) r.2 (imL q.2.1 (trE q.1 c.1 r.1).2 32)):PbT×RunT)=(q,midR q r c):=rfl;rw [hm,yhf rS,yOb];cases auto with
 | false=>rw [if_pos (by rfl)];exact j1 (by simp) _
 | true=>rw [if_neg (by simp)];exact j1 hl _
theorem ygd(rP:Right q.1 n1)(rS:Right q.2.1 n2)(hu:q.2.2.length≤1000000){l:List CycT}(hll:l.length≤1000000)(hc:∀c∈l,c.1.length≤1000000∧c.2.1.length≤1000000){pr:List Int}(hl:pr.length≤1000000)(auto:Bool):
  y4C q l pr auto=some (y5X q (fun c=>chP q (if auto=true then pr else [c.2.2])) (0,0,false) l):=by
 generalize hch:(fun c:CycT=>chP q (if auto=true then pr else [c.2.2]))=ch;have hcy:∀(r:RunT) (c:CycT),c.1.length≤1000000→c.2.1.length≤1000000→y2h (q,r) c pr auto=some (stpR q r c (ch c),(q,cycR q ch r c)):=fun r c l1 l2=>by
  rw [yfr rP rS hu r l1 l2 hl auto,hch,←hch]
 obtain⟨o,h1,h2⟩:=yb (f:=y3B l pr auto) (fun i s=>s.1=(i:Int)∧i≤l.length∧s.2.1=y5X q ch (0,0,false) (l.take i)∧s.2.2=(q,runR q ch (0,0,false) (l.take i))) (fun o=>o=y5X q ch (0,0,false) l) l.length 0 (by omega) (fun i s hi ⟨e1,_,e2,e3⟩=>by
  obtain⟨j,out,z⟩:=s;dsimp only at e1 e2 e3;subst e1 e3;left;have hm:=hc _ (List.getElem_mem hi);have hol:out.length≤1000000:=by rw [e2,yaM,List.length_take];omega
  refine⟨(((i+1:Nat):Int),y5X q ch (0,0,false) (l.take (i+1)),(q,runR q ch (0,0,false) (l.take (i+1)))),?_,rfl,hi,rfl,rfl⟩;rw [y3B,if_pos (ct_lt hi),ya hi,yOb,hcy _ _ hm.1 hm.2,yOb,yo (by simp;omega),yOb,nxt (by omega),List.take_succ_eq_append_getElem hi,ybA,←e2,yfn]) (fun s ⟨e1,_,e2,e3⟩=>by
  obtain⟨j,out,z⟩:=s;dsimp only at e1 e2 e3;subst e1;exact⟨_,by rw [y3B,if_neg ct_ge],by rw [e2,List.take_length]⟩) (Nat.zero_le _) (0,[],q,0,0,false) ⟨rfl,Nat.zero_le _,rfl,rfl⟩
 rw [y4C,h1,yOb,h2]
end
structure CycIn (q:PbT) (c:CycT):Prop where
 l1:c.1.length≤3
 l2:c.2.1.length≤3
 d1:c.1.Nodup
 d2:c.2.1.Nodup
 i1:∀e∈c.1,e∈q.1.1∧e∈q.2.2
 i2:∀e∈c.2.1,e∈q.1.1∧e∈q.2.2
 cm:c.2.2= -1∨(c.2.2∈q.1.1∧c.2.2∉q.2.2)
theorem Right.err0{a:AutT}{n:Nat}(h:Right a n):(toAut a).err=0:=by
 have h1:=h.l1;have h2:=h.l2;have h3:=h.l3;have g:=yaI (a:=toAut a) (by show(a.2.2.2.map toEd).length<_;rw [List.length_map];omega) (by show a.1.length<_;omega) (by show a.2.2.1.length<_;omega);rw [y9h,h.check] at g;exact(Option.some.inj g).symm
theorem yfs{a:AutT}{n:Nat}(h:Right a n)(hn:n≤25)(he:∀x∈a.1,0≤x∧x<5):a.2.2.2.length≤125:=by
 have hx:∀x∈a.2.2.2,0≤x.1*5+x.2.1∧x.1*5+x.2.1<((125:Nat):Int):=fun x hx=>by
  have g:=h.es x hx;have:=he _ g.2.2.2.2;omega
 have hi:Inc (a.2.2.2.map fun x=>x.1*5+x.2.1):=by
  unfold Inc;rw [List.pairwise_map];refine(List.pairwise_iff_getElem.2 fun i j hi hj hij=>?_);have g:=List.pairwise_iff_getElem.1 h.so i j hi hj hij;have g1:=he _ (h.es _ (List.getElem_mem hi)).2.2.2.2;have g2:=he _ (h.es _ (List.getElem_mem hj)).2.2.2.2;omega
 have:=y5b (lo:=0) hi (fun y hy=>by
  obtain⟨x,h1,rfl⟩:=List.mem_map.1 hy;exact hx x h1) (Int.le_refl _)
 simpa using this
theorem yft{q:PbT}{n1 n2:Nat}(h:PbOk q n1 n2)(l2:n2≤25)(he:∀x∈q.1.1,0≤x∧x<5):∃e,y1q q=some e∧y2A q=some e∧(e=0→SimOk q n1 n2):=by
 obtain⟨t,p,T,k1,k2,n,ho,_⟩:=h.open;have hS:=h.rS;have hul:=Alp.len ⟨h.iu,h.ur⟩;have hal:=Alp.len ⟨hS.ali,hS.alr⟩;have hes:=yfs hS l2 fun x hx=>he x (h.sub x hx);have hsub:(cmdL q).Sublist q.2.1.1:=List.filter_sublist;have hic:Inc (cmdL q):=List.Pairwise.sublist hsub hS.ali;have hcr:∀x∈cmdL q,0≤x∧x<32:=fun x hx=>hS.alr x (hsub.subset hx);have hcl:=Alp.len ⟨hic,hcr⟩;rw [←ygV (by omega) (by omega),y1q,y6Q,ho,yOb,yOb,if_neg (by simp),h.rP.nn];by_cases h0:n1=0
 ·subst h0;exact⟨12,by rw [if_pos (by rfl)],by rw [if_pos (by rfl)],fun h=>by omega⟩
 rw [if_neg (by simp;omega),yei (by omega) (by omega)];have hsb:y1a (cmdL q) q.2.1.1=some true:=by
  rw [yfm (by omega) (by omega) hic hS.ali];exact congrArg some (List.all_eq_true.2 fun x hx=>yh.2 (hsub.subset hx))
 have hse:yS 32 none (cmdL q)=0:=y6Y hic hcr nofun;by_cases hz:n2=0
 ·subst hz;have:yT q.2.1 (cmdL q)=some (((0,0,0,[],[]),[],[],0),21):=by
   rw [yT,hS.check,yOb,if_neg (by simp),ybe (by omega),hse,yOb,if_neg (by simp),hsb,yOb,if_neg (by simp),if_pos (by rw [hS.nn];rfl)]
  rw [this,yOb];exact⟨21,rfl,rfl,fun h=>by omega⟩
 have hg:GenIn (toAut q.2.1) (cmdL q) n2:=⟨hS.nn,by omega,by omega,by show(q.2.1.2.2.2.map toEd).length≤256;rw [List.length_map];omega,hal,hcl,fun x hx=>by
  obtain⟨y,hy,rfl⟩:=List.mem_map.1 hx;have:=hS.es y hy;exact⟨this.1,this.2.1,this.2.2.1,this.2.2.2.1⟩⟩
 have hgen:=ydJ hg hS.l2 hS.err0 hse hsb;rw [y9h] at hgen;rw [hgen,yOb];exact⟨0,rfl,rfl,fun _=>⟨h.rP,hS,hg,hic,by omega,by omega,hgen⟩⟩
theorem ygX{x:Des26×Bool}(hd:Des26In x.1):∃q n1 n2 e,y3m x=some q∧PbOk q n1 n2∧(∀a∈q.1.1,0≤a∧a<5)∧n1≤5∧n2≤25∧y1q q=some e∧y2A q=some e∧(e=0→SimOk q n1 n2):=by
 obtain⟨q,n1,n2,h1,h2,h3,h4,h5⟩:=yeB hd x.2;obtain⟨e,g1,g2,g3⟩:=yft h2 h4 h5;refine⟨q,n1,n2,e,?_,h2,h5,h3,h4,g1,g2,g3⟩;rw [y3m,h1,yOb]
theorem yej{q:PbT}{n:Nat}(rP:Right q.1 n)(hu:q.2.2.length≤1000000)(mk:Int)(tn:Bool):∃l,y3L q mk tn=some l∧l.length≤3∧l.Nodup∧∀e∈l,e∈q.1.1∧e∈q.2.2:=by
 have hl:=rP.l1;obtain⟨o,h1,h2⟩:=yb (f:=y2L q mk tn) (fun i s=>s.1=(i:Int)∧i≤q.1.1.length∧s.2.length≤3∧s.2.Nodup∧∀e∈s.2,e∈q.1.1.take i∧e∈q.2.2) (fun o=>o.length≤3∧o.Nodup∧∀e∈o,e∈q.1.1∧e∈q.2.2) q.1.1.length 0 (by omega) (fun i s hi ⟨e1,_,e2,e3,e4⟩=>by
  obtain⟨j,out⟩:=s;dsimp only at e1 e2 e3 e4;subst e1;by_cases h3:out.length<3
  case neg=>
   right;rw [y2L,if_neg (by simp;omega)];exact⟨_,rfl,e2,e3,fun e he=>⟨List.mem_of_mem_take (e4 e he).1,(e4 e he).2⟩⟩
  left;rw [y2L,if_pos (by simp;omega),ya hi,yOb,has55 hu,yOb];have hsub:∀e∈q.1.1.take i,e∈q.1.1.take (i+1):=fun e he=>by
   rw [List.take_succ_eq_append_getElem hi];exact List.mem_append_left _ he
  have hx:q.1.1[i]∈q.1.1.take (i+1):=by
   rw [List.take_succ_eq_append_getElem hi];exact List.mem_append_right _ (List.mem_singleton_self _)
  have hnew:q.1.1[i]∉out:=fun hm=>by
   obtain⟨k,hk,e⟩:=List.getElem_of_mem (e4 _ hm).1;rw [List.length_take] at hk;rw [List.getElem_take] at e;have:=List.pairwise_iff_getElem.1 rP.ali k i (by omega) hi (by omega);omega
  have skip:∃s',yR ((i:Int),out) out=some (.inl s')∧s'.1=((i+1:Nat):Int)∧i+1≤q.1.1.length∧s'.2.length≤3∧s'.2.Nodup∧∀e∈s'.2,e∈q.1.1.take (i+1)∧e∈q.2.2:=
   ⟨(_,out),by rw [yR,nxt (by omega)],rfl,hi,e2,e3,fun e he=>⟨hsub e (e4 e he).1,(e4 e he).2⟩⟩
  cases hb:hasB q.2.2 q.1.1[i] with
  | false=>
   rw [if_neg (by simp),yOb,if_neg (by simp)];exact skip
  | true=>
   have hu:=yh.1 hb;rw [if_pos rfl,show ng (i:Int)=some () from if_neg (by omega),yOb,yOb];split
   ·cases tn with
    | true=>
     rw [if_pos rfl,yo (by simp;omega),yOb];refine⟨(_,_),by rw [yR,nxt (by omega)],rfl,hi,by simp;omega,?_,fun e he=>?_⟩
     ·exact List.nodup_cons.2 ⟨hnew,e3⟩
     ·rcases List.mem_cons.1 he with rfl|he
      ·exact ⟨hx,hu⟩
      ·exact ⟨hsub e (e4 e he).1,(e4 e he).2⟩
    | false=>
     rw [if_neg (by simp),yo (by simp;omega),yOb];refine⟨(_,_),by rw [yR,nxt (by omega)],rfl,hi,by simp;omega,?_,fun e he=>?_⟩
     ·dsimp only;rw [List.nodup_append];exact⟨e3,by simp,fun a ha b hb e=>by rw [List.mem_singleton.1 hb] at e;rw [e] at ha;exact hnew ha⟩
     ·rcases List.mem_append.1 he with he|he
      ·exact ⟨hsub e (e4 e he).1,(e4 e he).2⟩
      ·rw [List.mem_singleton.1 he];exact⟨hx,hu⟩
   ·exact skip) (fun s ⟨e1,_,e2,e3,e4⟩=>by
  obtain⟨j,out⟩:=s;dsimp only at e1 e2 e3 e4;subst e1;rw [List.take_length] at e4;exact⟨_,by rw [y2L,if_neg (by simp)],e2,e3,e4⟩) (Nat.zero_le _) (0,[]) ⟨rfl,Nat.zero_le _,by simp,by simp,fun e he=>by cases he⟩
 exact⟨o,by rw [y3L,h1,yOb],h2⟩
theorem yge{q:PbT}{n:Nat}(rP:Right q.1 n)(hu:q.2.2.length≤1000000){d:List (Int×Int×Int×Int)}(hd:∀x∈d,0≤x.2.2.2∧x.2.2.2<256):∃l,y2S d q=some l∧l.length≤8∧∀c∈l,CycIn q c:=by
 have hl:=rP.l1;obtain⟨o,h1,h2⟩:=yb (f:=y2j d q) (fun i s=>s.1=(i:Int)∧i≤8∧i≤d.length∧s.2.length≤i∧∀c∈s.2,CycIn q c) (fun o=>o.length≤8∧∀c∈o,CycIn q c) (min d.length 8) 0 (by omega) (fun i s hi ⟨e1,_,_,e2,e3⟩=>by
  obtain⟨j,out⟩:=s;dsimp only at e1 e2 e3;subst e1;have hi1:i<d.length:=by omega
  have hx:=hd _ (List.getElem_mem hi1);obtain⟨l1,p1,p2,p3,p4⟩:=yej rP hu d[i].1 ((d[i].2.2.1.tmod 2)==1);obtain⟨l2,r1,r2,r3,r4⟩:=yej rP hu d[i].2.1 (((IntKind.u8.wrap (d[i].2.2.1.tdiv 2)).tmod 2)==1);left;rw [y2j,if_pos (by simp;omega),ya hi1,yOb,yOb,p1,yOb,yOb,yOb,r1,yOb,yOb];have hfin:∀cm:Int,(cm= -1∨(cm∈q.1.1∧cm∉q.2.2))→∃s',y1o ((i:Int),out) l1 l2 cm=some (.inl s')∧s'.1=((i+1:Nat):Int)∧i+1≤8∧i+1≤d.length∧s'.2.length≤i+1∧∀c∈s'.2,CycIn q c:=fun cm hcm=>by
   rw [y1o];dsimp only;rw [yo (by simp;omega),yOb,nxt (by omega)];refine⟨_,rfl,rfl,by omega,hi1,by simp;omega,fun c hc=>?_⟩;rcases List.mem_append.1 hc with hc|hc
   ·exact e3 c hc
   ·rw [List.mem_singleton.1 hc];exact⟨p2,r2,p3,r3,p4,r4,hcm⟩
  rw [W_of (by omega) (by omega)];have hk:d[i].2.2.2.tmod 6=d[i].2.2.2 % 6:=Int.tmod_eq_emod_of_nonneg hx.1;obtain⟨k,hk2⟩:∃k:Nat,d[i].2.2.2.tmod 6=(k:Int):=⟨(d[i].2.2.2 % 6).toNat,by rw [hk];omega⟩;have hW:W d[i].2.2.2=d[i].2.2.2:=W_of (by omega) (by omega);split
  ·rename_i hlt;rw [hk2] at hlt ⊢;have hkl:k<q.1.1.length:=by simpa using hlt
   rw [ya hkl,yOb,has55 hu,yOb,y1p,hW,hk2];cases hb:hasB q.2.2 q.1.1[k] with
   | false=>
    rw [if_pos (by rfl),ya hkl,yOb];exact hfin _ (.inr ⟨List.getElem_mem hkl,fun hm=>by rw [yh.2 hm] at hb;cases hb⟩)
   | true=>
    rw [if_neg (by simp)];exact hfin _ (.inl rfl)
  ·rw [y1p,if_neg (by simp)];exact hfin _ (.inl rfl)) (fun s ⟨e1,_,_,e2,e3⟩=>by
  obtain⟨j,out⟩:=s;dsimp only at e1 e2 e3;subst e1;exact⟨_,by rw [y2j,if_neg (by simp;omega)],by omega,e3⟩) (Nat.zero_le _) (0,[]) ⟨rfl,by omega,Nat.zero_le _,by simp,fun c hc=>by cases hc⟩
 exact⟨o,by rw [y2S,h1,yOb],h2⟩
theorem ycc{q:PbT}{ch:CycT→RunT→Int}:∀{l:List CycT} {r:RunT} {s:StpR},s∈y5X q ch r l→∃r' c,c∈l∧s=stpR q r' c (ch c)
 | [],_,_,h=>by cases h
 | c::l,r,s,h=>by
  rcases List.mem_cons.1 h with rfl|h
  ·exact ⟨r,c,List.mem_cons_self ..,rfl⟩
  ·obtain ⟨r',c',h1,h2⟩:=ycc h;exact⟨r',c',List.mem_cons_of_mem _ h1,h2⟩
theorem ygY{p:AutT}{n:Nat}(hr:Right p n){w:List Int}(hl:w.length≤1000000):y3n p w=some (decide (0<n)&&(stw (st1 p) 0 w).isSome):=by
 obtain⟨o,h1,h2⟩:=yb (f:=y4e p w) (fun i s=>s.1=(i:Int)∧stw (st1 p) 0 w=stw (st1 p) s.2 (w.drop i)) (fun o=>(∃v,o= .inl v∧(stw (st1 p) 0 w).isSome=true)∨∃(i:Nat) (v:Int),i<w.length∧o= .inr ((i:Int),v)∧(stw (st1 p) 0 w).isSome=false) w.length 0 (by omega) (fun i s hi ⟨e1,e2⟩=>by
  obtain⟨j,v⟩:=s;dsimp only at e1 e2;subst e1;rw [List.drop_eq_getElem_cons hi,stw] at e2;rw [y4e,if_pos (ct_lt hi),ya hi,yOb,y5o hr,yOb];have hg:=y7c hr v w[i];cases hs:st1 p v w[i] with
  | none=>
   rw [hs] at e2;exact .inr ⟨_,by rw [if_pos (by rfl)],.inr ⟨i,v,hi,rfl,by rw [e2];rfl⟩⟩
  | some t=>
   rw [hs] at e2 hg;have h0:0≤t:=of_decide_eq_true hg;exact .inl ⟨(_,t),by rw [if_neg (by simpa using h0),nxt (by omega)];rfl,rfl,e2⟩) (fun s ⟨e1,e2⟩=>by
  obtain⟨j,v⟩:=s;dsimp only at e1 e2;subst e1;rw [List.drop_length,stw] at e2;exact⟨_,by rw [y4e,if_neg ct_ge],.inl ⟨v,rfl,by rw [e2];rfl⟩⟩) (Nat.zero_le _) (0,0) ⟨rfl,rfl⟩
 rw [y3n,y5J,h1,yOb,hr.nn];have hn:decide ((n:Int)>0)=decide (0<n):=by simp
 rcases h2 with ⟨v,rfl,e⟩|⟨i,v,hi,rfl,e⟩
 ·dsimp only;rw [yOb,e,hn];simp
 ·dsimp only;rw [yOb,e,hn];have:((i:Int)==(w.length:Int))=false:=by simp;omega
  rw [this]
theorem yfu{q:PbT}{n2:Nat}(hS:Right q.2.1 n2){w:List Int}(hl:w.length≤1000000):iter (yA q w) (0,true,0)=some (w.foldl (sp1 q.2.1) (0,true)).1:=by
 have stop:∀(u:List Int) (v:Int),u.foldl (sp1 q.2.1) (v,false)=(v,false):=fun u=>by
  induction u with
  | nil=>intro v;rfl
  | cons e u ih=>intro v;rw [List.foldl_cons,sp1,if_neg (by simp),ih]
 obtain⟨o,h1,h2⟩:=yb (f:=yA q w) (fun i s=>s.1=(i:Int)∧w.foldl (sp1 q.2.1) (0,true)=(w.drop i).foldl (sp1 q.2.1) (s.2.2,s.2.1)) (fun o=>o=(w.foldl (sp1 q.2.1) (0,true)).1) w.length 0 (by omega) (fun i s hi ⟨e1,e2⟩=>by
  obtain⟨j,b,v⟩:=s;dsimp only at e1 e2;subst e1;rw [yA];dsimp only;cases b with
  | false=>
   rw [stop] at e2;exact .inr ⟨_,by rw [if_neg (by simp)],by rw [e2]⟩
  | true=>
   rw [List.drop_eq_getElem_cons hi,List.foldl_cons,sp1,if_pos rfl] at e2;rw [if_pos (by simp;omega),ya hi,yOb,has55 hS.l1,yOb];cases hb:hasB q.2.1.1 w[i] with
   | true=>
    rw [hb,if_pos rfl] at e2;exact .inl ⟨(((i+1:Nat):Int),(st1 q.2.1 v w[i]).isSome,(st1 q.2.1 v w[i]).getD (-1)),by rw [if_pos rfl,yOb,y5o hS,yOb,yz,nxt (by omega),y7c hS],rfl,e2⟩
   | false=>
    rw [hb,if_neg (by simp)] at e2;exact .inl ⟨(((i+1:Nat):Int),true,v),by rw [if_neg (by simp),yz,nxt (by omega)],rfl,e2⟩) (fun s ⟨e1,e2⟩=>by
  obtain⟨j,b,v⟩:=s;dsimp only at e1 e2;subst e1;rw [List.drop_length,List.foldl_nil] at e2;exact⟨_,by rw [yA,if_neg (by simp)],by rw [e2]⟩) (Nat.zero_le _) (0,true,0) ⟨rfl,rfl⟩
 rw [h1,h2]
theorem ygf{q:PbT}{p:AutT}{T:List (List Int)}{n n2:Nat}(h:LoopZ q.1 q.2.1 p T n)(hS:Right q.2.1 n2)(h0:0<n){l:List StpR}(hs:Shw l)(hl:l.length≤1000)(hb:bad55 q l=false):
  ∃o,iter (yB q l ((difR q 0 (0,0,false) l).1,(difR q 0 (0,0,false) l).2.1,(difR q 0 (0,0,false) l).2.2,0) (p,0)) 0=some o∧(o= .inr true∨(o= .inl ()∧difR q 0 (0,0,false) l=(0,0,false))):=by
 generalize hd:difR q 0 (0,0,false) l=d;obtain⟨o,h1,h2⟩:=yb (f:=yB q l (d.1,d.2.1,d.2.2,0) (p,0)) (fun i s=>s=(i:Int)∧d=difR q (i:Int) (((l.take i).flatMap wdR).foldl (flw q) (0,0,false)) (l.drop i)) (fun o=>o= .inr true∨(o= .inl ()∧d=(0,0,false))) l.length 0 (by omega) (fun i s hi ⟨e1,e2⟩=>by
  subst e1;have ht:=hs.take (i+1);have hfl:=y9T ht;rw [List.length_take] at hfl;have hm:min (i+1) l.length*101≤1000*101:=Nat.mul_le_mul_right _ (by omega);rw [List.drop_eq_getElem_cons hi,difR,←List.foldl_append,←yca,←List.take_succ_eq_append_getElem hi] at e2;rw [yB,if_pos (ct_lt hi),nxt (by omega),yfX (by omega),yOb,ycF ht (by rw [List.length_take];omega),yOb,yfu hS (by omega),yOb,ygY h.right (by omega),yOb,decide_eq_true h0,Bool.true_and];have hev:∀e∈(l.take (i+1)).flatMap wdR,e∈q.1.1:=fun e he=>by
   obtain⟨s,g1,g2⟩:=List.mem_flatMap.1 he;have:(fun e=>!hasB q.1.1 e) e=false:=by
    have hb2:=hb;rw [bad55,List.any_eq_false] at hb2;exact Bool.not_eq_true _▸hb2 e (List.mem_flatMap.2 ⟨s,List.mem_of_mem_take g1,g2⟩)
   rw [←yh];simpa using this
  have hj:∀k:Int,k≠0→d=((i:Int),k,true)→∃o,yg (d.1,d.2.1,d.2.2,0) (i:Int) k=some (.inr o)∧(o= .inr true∨(o= .inl ()∧d=(0,0,false))):=fun k hk hd=>by
   rw [yg,if_pos (by simpa using hk),hd];exact⟨_,rfl,.inl (by simp)⟩
  rcases ybW h _ 0 0 0 hev (h.t0 h0) with ⟨g1,g2⟩|⟨k,x,y,g1,g2,g3,g4⟩
  ·have g2:stw (st1 p) 0 ((l.take (i+1)).flatMap wdR)=none:=g2;rw [if_pos g1] at e2;rw [g2,if_pos (by rfl)];exact .inr (hj 1 (by omega) e2)
  ·have g2:stw (st1 p) 0 ((l.take (i+1)).flatMap wdR)=some (k:Int):=g2;rw [g1,if_neg (by simp)] at e2;rw [g2,g4,if_neg (by simp),ya hi,yOb];dsimp only at e2 ⊢;generalize l[i]=s at *;obtain⟨s1,s2,s3,s4,s5,s6,s7⟩:=s;dsimp only at e2 ⊢;cases s7 with
   | true=>
    rw [if_pos (by rfl)] at e2 ⊢;exact .inr (hj 2 (by omega) e2)
   | false=>
    rw [if_neg (by simp)] at e2 ⊢;rw [yOb];dsimp only;cases c3:s6 != y with
    | true=>
     rw [c3,if_pos rfl] at e2;rw [if_pos rfl];exact .inr (hj 3 (by omega) e2)
    | false=>
     rw [c3,if_neg (by simp)] at e2;rw [if_neg (by simp),yg,if_neg (by simp),nxt (by omega)];exact .inl ⟨_,rfl,rfl,by rw [g1];exact e2⟩) (fun s ⟨e1,e2⟩=>by
  subst e1;rw [List.drop_length,difR] at e2;exact⟨_,by rw [yB,if_neg ct_ge],.inr ⟨rfl,e2⟩⟩) (Nat.zero_le _) 0 ⟨rfl,hd.symm⟩
 exact⟨o,h1,h2⟩
theorem ygZ{q:PbT}{n:Nat}(hP:Right q.1 n){l:List StpR}(hw:(l.flatMap wdR).length≤1000000):∃o,iter (yC q (l.flatMap wdR)) 0=some o∧((o= .inl ()∧bad55 q l=false)∨(o= .inr ()∧bad55 q l=true)):=by
 unfold bad55;generalize l.flatMap wdR=w at *;obtain⟨o,h1,h2⟩:=yb (f:=yC q w) (fun i s=>s=(i:Int)∧(w.any fun e=>!hasB q.1.1 e)=((w.drop i).any fun e=>!hasB q.1.1 e)) (fun o=>(o= .inl ()∧(w.any fun e=>!hasB q.1.1 e)=false)∨(o= .inr ()∧(w.any fun e=>!hasB q.1.1 e)=true)) w.length 0 (by omega) (fun i s hi ⟨e1,e2⟩=>by
  subst e1;rw [List.drop_eq_getElem_cons hi,List.any_cons] at e2;rw [yC,if_pos (ct_lt hi),ya hi,yOb,has55 hP.l1,yOb];cases hb:hasB q.1.1 w[i] with
  | false=>
   rw [hb] at e2;exact .inr ⟨_,by rw [if_pos (by rfl)],.inr ⟨rfl,e2⟩⟩
  | true=>
   rw [hb] at e2;exact .inl ⟨_,by rw [if_neg (by simp),nxt (by omega)],rfl,e2⟩) (fun s ⟨e1,e2⟩=>by
  subst e1;rw [List.drop_length] at e2;exact⟨_,by rw [yC,if_neg ct_ge],.inl ⟨rfl,e2⟩⟩) (Nat.zero_le _) 0 ⟨rfl,rfl⟩
 exact⟨o,h1,h2⟩
theorem yh0{L:List StpR}{k:Nat}{s:StpR}(h:∀s∈L,s.1.length+s.2.1.length≤99)(hs:s.1.length+s.2.1.length≤100):Shw (L.set k s):=fun x hx=>by
 rcases List.mem_or_eq_of_mem_set hx with hx|rfl
 ·have:=h x hx;omega
 ·exact hs
theorem yfv{L:List StpR}(hl:L.length≤1000)(h:∀s∈L,s.1.length+s.2.1.length≤99){how:Int}:∃L',y4d L how=some L'∧L'.length=L.length∧Shw L':=by
 have h0:Shw L:=fun s hs=>by have:=h s hs;omega
 rw [y4d,yo (by simp;omega),List.nil_append,yOb];by_cases hz:L.length=0
 ·exact ⟨L,by rw [if_pos (by simpa using hz)],rfl,h0⟩
 rw [if_neg (by simpa using hz),show nz (L.length:Int)=some () from if_neg (by simpa using hz),yOb];obtain⟨k,hk,hkl⟩:∃k:Nat,(W (IntKind.u8.wrap (how.tdiv 8))).tmod (L.length:Int)=(k:Int)∧k<L.length:=by
  have hw:0≤IntKind.u8.wrap (how.tdiv 8)∧IntKind.u8.wrap (how.tdiv 8)<256:=by
   simp only [IntKind.wrap,IntKind.signed,IntKind.bits];simp;omega
  rw [W_of (by omega) (by omega),Int.tmod_eq_emod_of_nonneg hw.1];have h1:=Int.emod_nonneg (IntKind.u8.wrap (how.tdiv 8)) (show (L.length:Int)≠0 by omega);have h2:=Int.emod_lt_of_pos (IntKind.u8.wrap (how.tdiv 8)) (show (0:Int)<L.length by omega);exact⟨(IntKind.u8.wrap (how.tdiv 8) % (L.length:Int)).toNat,by omega,by omega⟩
 rw [hk];have hs:=h _ (List.getElem_mem hkl);have hset:∀s:StpR,s.1.length+s.2.1.length≤100→∃L',(upd L (k:Int) s).bind (fun x=>yy x)=some L'∧L'.length=L.length∧Shw L':=fun s hs=>⟨L.set k s,by rw [y7S hkl];rfl,by simp,yh0 h hs⟩;have hsp:∀x:Int,∃L',((app ([]:List Int) L[k].1).bind fun x11=>(app x11 ([x]:List Int)).bind fun x12=>(some L[k]).bind fun x13=>(upd L (k:Int) (x12,x13.2)).bind fun x14=>yy x14)=some L'∧L'.length=L.length∧Shw L':=fun x=>by
  rw [yo (by simp;omega),List.nil_append,yOb,yo (by simp;omega),yOb,yOb];exact hset _ (by simp;omega)
 rw [ya hkl,yOb,yOb];split
 ·exact hset _ (by dsimp only;omega)
 ·split
  ·exact hset _ (by dsimp only;omega)
  ·split
   ·exact hsp 7
   ·split
    ·exact hsp 0
    ·split
     ·exact hset _ (by dsimp only;omega)
     ·exact ⟨L,rfl,rfl,h0⟩
theorem ycH{x:Des26×Bool}(hd:Des26In x.1){d:List (Int×Int×Int×Int)}(hdr:∀y∈d,0≤y.2.2.2∧y.2.2.2<256)(how:Int):y2d x d how=some true:=by
 obtain⟨q,n1,n2,e,h1,hP,_,hn1,hn2,h2,h3,hs⟩:=ygX hd;have hul:=Alp.len ⟨hP.iu,hP.ur⟩;rw [y2d,ygU,yOb,if_neg (by simp),h1,yOb,h3,yOb];by_cases h0:e=0
 case neg=>
  rw [if_pos (by simpa using h0),yaP hP.rP hP.rS h2 (fun s hs=>by cases hs) (by simp),yOb,if_pos h0];simp
 have hk:=hs h0;obtain⟨l,g1,g2,g3⟩:=yge hP.rP (by omega) hdr;have hc:∀c∈l,c.1.length≤3∧c.2.1.length≤3:=fun c hc=>⟨(g3 c hc).l1,(g3 c hc).l2⟩;rw [if_neg (by simpa using h0),g1,yOb,ygd hP.rP hP.rS (by omega) (by omega) (fun c h=>by have:=hc c h;omega) (by simp) false,yOb];have he:(fun c:CycT=>chP q (if false=true then([]:List Int) else [c.2.2]))=fun c=>chP q [c.2.2]:=rfl;rw [he];have hlen:=yaM q (fun c=>chP q [c.2.2]) l (0,0,false);have hsh:∀s∈y5X q (fun c=>chP q [c.2.2]) (0,0,false) l,s.1.length+s.2.1.length≤99:=fun s hs=>by
  obtain⟨r',c,hcm,rfl⟩:=ycc hs;have k:=hc c hcm;have k1:=y9r q.1 c.1 r'.1;have k2:=y9r q.1 c.2.1 (midR q r' c).1;show(trE q.1 c.1 r'.1).2.length+(trE q.1 c.2.1 (midR q r' c).1).2.length≤99;omega
 generalize y5X q (fun c=>chP q [c.2.2]) (0,0,false) l=L0 at *;obtain⟨L,w1,w2,w3⟩:=yfv (L:=L0) (by omega) hsh (how:=how);obtain⟨p,T,n,v1,v2⟩:=ydu hP.rP hP.rS (by omega) (by omega);have hn0:0<n:=by
  have:=v2.zero;have h1:=hk.p0;have h2:=hk.g.n0;rw [hP.rP.nn,hP.rS.nn] at this;omega
 have hfl:=y9T w3;rw [w1,yOb,yaP hP.rP hP.rS h2 w3 (by omega),yOb,if_neg (show ¬e≠0 from fun h=>h h0),y6a,v1,yOb,yOb,if_neg (by simp),ycF w3 (by omega),yOb];obtain⟨o,u1,u2⟩:=ygZ (q:=q) hP.rP (l:=L) (by omega);rw [u1,yOb];rcases u2 with ⟨rfl,hb⟩|⟨rfl,hb⟩
 ·dsimp only;rw [hb,if_neg (by simp)];obtain⟨o,t1,t2⟩:=ygf v2 hP.rS hn0 w3 (by omega) hb;rw [t1,yOb];rcases t2 with rfl|⟨rfl,t2⟩
  ·rfl
  ·rw [t2];rfl
 ·dsimp only;rw [hb,if_pos rfl];rfl
end Go.Proofs.YtecmobjeeonmaaaGreatDoor
namespace Go.Proofs.YtecmobjeeonmaaaGreatDoor
open Go Go.RowKit Go.ChangeShapes Go.WideShapes Go.Deep
def Op(P:Program){α:Type}(r:Rep α)(Q:α→Prop)(t:TypeId):Prop:=
 ∀(H:Type) (enc:TypeId×Value→H) (w:World) (fuel:Nat) (cs:List Value) (x:DataW H×List MemPlace),DataW.trod enc P w 0 (fun _=>true) true fuel t cs=some x→∃y:α,r.rd ⟨w,fun _=>0⟩ cs y∧Q y
section
variable{P:Program}{α β:Type}{r:Rep α}{q:Rep β}{Q:α→Prop}{R:β→Prop}{t e:TypeId}
theorem Op.int{k:IntKind}(ht:P.underlying t=some (.int k)):Op P (rK k) (fun n=>k.min≤n∧n≤k.max) t:=by
 intro H enc w fuel cs x h;obtain⟨n,h1,h2,h3⟩:=DataW.trod_int ht h;refine⟨n,h1,?_⟩;simpa [Lit.wf] using h3
theorem Op.bool(ht:P.underlying t=some .bool):Op P rB (fun _=>True) t:=by
 intro H enc w fuel cs x h;obtain⟨b,h1,h2⟩:=DataW.trod_bool ht h;exact⟨b,h1,trivial⟩
theorem ygg{H:Type}{enc:TypeId×Value→H}{w:World}{base fuel:Nat}{v:Value}{x:DataW H×List MemPlace}(ht:P.underlying t=some (.slice e))(hc:P.cellsOf e=r.sz)(ho:Op P r Q e)(hok:Cell.okWide P w .any base t v)
  (h:DataW.trod enc P w 0 (fun _=>true) true fuel t [v]=some x):∃(a:Option Addr) (c:Nat) (xs:List α),v= .slice a xs.length c∧RdL r ⟨w,fun _=>0⟩ a c xs∧∀y∈xs,Q y:=by
 rcases open_slice ht h with ⟨h1,-⟩|⟨a,len,cap,m,n,D,Pl,h1,-,h3,h4,h5,-,h7⟩
 ·rw [List.cons.injEq] at h1;refine⟨none,0,[],h1.1,⟨[],⟨by simp,by simp,by simp,fun _=>rfl,fun ad e=>(by cases e),fun ad e=>(by cases e)⟩,fun ad e=>(by cases e),rfl⟩,fun y hy=>(by cases hy)⟩
 ·rw [List.cons.injEq] at h1;have hv:=h1.1;subst hv;rw [if_pos rfl] at h5;subst h5;have hsp:a.spot=none:=by
   simp only [Cell.okWide,ht,Cell.ok] at hok;exact hok.2.2.2.1
  have hadd:∀k,a.add k=⟨a.block,a.off+k,none⟩:=fun k=>by
   obtain⟨b,o,sp⟩:=a;dsimp only at hsp;subst hsp;unfold Addr.add;split
   ·rename_i hk;subst hk;rfl
   ·rfl
  have key:∀k,k≤len→∃(xs:List α) (cs:List Value),xs.length=k∧Cells r ⟨w,fun _=>0⟩ cs xs∧(∀y∈xs,Q y)∧∀j (hj:j<cs.length),w.cell? ⟨a.block,a.off+j,none⟩=some cs[j]:=by
   intro k
   induction k with
   | zero=>intro _;exact⟨[],[],rfl,rfl,fun y hy=>(by cases hy),fun j hj=>absurd hj (Nat.not_lt_zero _)⟩
   | succ k ih=>
    intro hk;obtain⟨xs,cs,g1,g2,g3,g4⟩:=ih (by omega);obtain⟨cs',k1,k2⟩:=h7 k (by omega);obtain⟨y,k3,k4⟩:=ho H enc w n cs' _ k2;obtain⟨-,k5,k6⟩:=World.cells?_some k1;have hl:=g2.len;rw [g1] at hl;rw [hc] at k5 k6;refine⟨xs++[y],cs++cs',by simp [g1],g2.append ⟨cs',[],by simp,k3,rfl⟩,fun z hz=>?_,fun j hj=>?_⟩
    ·rcases List.mem_append.1 hz with hz|hz
     ·exact g3 z hz
     ·rw [List.mem_singleton.1 hz];exact k4
    ·by_cases hlt:j<cs.length
     ·rw [List.getElem_append_left hlt];exact g4 j hlt
     ·have hj2:j-cs.length<cs'.length:=by rw [List.length_append] at hj;omega
      rw [List.getElem_append_right (by omega)];have:=k6 (j-cs.length) (by omega);rw [add_add,hadd,yGe hj2] at this;rw [←this];congr 2;omega
  obtain⟨xs,cs,g1,g2,g3,g4⟩:=key len (Nat.le_refl _);subst g1;refine⟨some a,m,xs,rfl,⟨cs,⟨g2.len,h3,h4,fun e=>(by cases e),fun ad e=>(by cases e;exact hsp),fun ad e j hj=>(by cases e;exact g4 j hj)⟩,fun _ _ _=>rfl,g2⟩,g3⟩
theorem yhg{w:World}{base:Nat}{v:Value}{fs:Array Field}{ts:List TypeId}(ht:P.underlying t=some (.struct fs))(hts:P.cellTypes P.depth t=some ts)(hsz:P.cellsOf t=ts.length)(hok:Value.okWide P w .any base t v):
  ∃cs,v= .agg cs∧cs.size=ts.length∧∀(i:Nat) (u:TypeId),ts[i]? =some u→∃c:Value,cs[i]? =some c∧Cell.okWide P w .any base u c:=by
 simp only [Value.okWide,ht] at hok;obtain⟨cs,rfl,h1,ts',h2,h3,h4⟩:=hok;rw [hts] at h2;cases h2;refine⟨cs,rfl,by omega,fun i u hu=>?_⟩;have hlt:i<ts.length:=(List.getElem?_eq_some_iff.1 hu).1;obtain⟨u',g1,g2⟩:=h4 i cs[i] (Array.getElem?_eq_getElem (by omega));rw [Nat.mod_eq_of_lt hlt,hu] at g1;cases g1;exact⟨_,Array.getElem?_eq_getElem (by omega),g2⟩
theorem yaN{H:Type}{enc:TypeId×Value→H}{w:World}{fuel:Nat}{cs:List Value}{x:DataW H×List MemPlace}{fs:Array Field}(ht:P.underlying t=some (.struct fs))(h:DataW.trod enc P w 0 (fun _=>true) true fuel t cs=some x){i:Nat}{f:Field}(hf:fs[i]? =some f):
  ∃n y,DataW.trod enc P w 0 (fun _=>true) true n f.type ((cs.drop f.offset).take (P.cellsOf f.type))=some y:=by
 obtain⟨xs,n,_,_,_,h5,h6⟩:=DataW.trod_struct ht h;have hlt:=(Array.getElem?_eq_some_iff.1 hf).1;exact⟨n,xs[i]'(by omega),by rw [h6 i f hf,yGe (by omega)]⟩
end
end Go.Proofs.YtecmobjeeonmaaaGreatDoor
namespace Go.Proofs.YtecmobjeeonmaaaGreatDoor
open Go Go.ChangeShapes Go.WideShapes Go.ChangeAt Go.RowKit Go.Deep
theorem Fw.law{P:Program}{f:FuncId}{ts:List TV}(h:Fw P f ⟨0,[]⟩ ts [] (.b true) []){w:World}{vs:List Value}(ha:All3 (fun _=> .bool false) ⟨w,fun _=>0⟩ ts vs):Calls P f vs.toArray w fun e w'=>e= .returned (.bool true)∧Below w.heap.size w w':=
 Calls.mono (h.is [] (fun _=> .bool false) ⟨w,fun _=>0⟩ vs rfl (Nat.le_refl _) List.nodup_nil (fun t ht=>by cases ht) ha (fun i o h=>by simp at h)) fun e W' ⟨v,s',hw,he,hm,β',_,hv,_⟩=>by
  obtain⟨hv,_⟩:=hv;subst hw;subst hv;exact⟨he,(hm.weak (S':=No) fun t ⟨i,hi,_⟩=>by cases hi).below⟩
theorem All3.c{β:Nat→Value}{s:Sig}{x:TV}{xs:List TV}{v:Value}{us:List Value}(h:x.p β s v)(h2:All3 β s xs us):All3 β s (x::xs) (v::us):=⟨v,us,h,h2,rfl⟩
theorem yeH{α:Type}[Inhabited α]{n:Nat}{p:Nat→α→Prop}(h:∀i,i<n→∃x,p i x):∃f:Nat→α,∀i,i<n→p i (f i):=
 ⟨fun i=>if hi:i<n then Classical.choose (h i hi) else default,fun i hi=>by
  dsimp only;rw [dif_pos hi];exact Classical.choose_spec (h i hi)⟩
abbrev yhh :=(Int×y1C)×(Int×y1C)×Int
def pbT :List TypeId:=[22]++List.replicate 27 5++[22]++List.replicate 27 5++[22]
section
variable{H:Type}{enc:TypeId×Value→H}{w:World}{base:Nat}{v:Value}{d:DataW H}{ps:List MemPlace}
theorem op_u8 :Op Tryz.prog (rK .u8) (fun n=>0≤n∧n<256) 5:=by
 intro H enc w fuel cs x h;obtain⟨y,h1,h2⟩:=(Op.int (P:=Tryz.prog) (k:= .u8) Tryz.underlying5) H enc w fuel cs x h;refine⟨y,h1,?_⟩;simp [IntKind.min,IntKind.max,IntKind.signed,IntKind.bits] at h2;omega
end
section
variable{H:Type}{enc:TypeId×Value→H}{w:World}{base:Nat}{v:Value}{d:DataW H}{ps:List MemPlace}
theorem yhi(hok:Value.okWide Tryz.prog w .any base 5 v):∃n:Int,v= .int .u8 n∧0≤n:=by
 simp only [Value.okWide,Tryz.underlying5] at hok;simp only [Cell.okWide,Tryz.underlying5] at hok;cases v <;> simp_all [Cell.ok];rename_i k n;obtain⟨rfl,h2⟩:=hok;simp [IntKind.has,IntKind.min,IntKind.max,IntKind.signed,IntKind.bits] at h2;omega
end
theorem Tryz.own :ownKnob Tryz.prog.godebug=none:=by kernel_rfl
theorem Tryz.laidOut :laidOutB Tryz.prog=true:=by kernel_rfl
section
variable{H:Type}{enc:TypeId×Value→H}
def ydB(P:Program)(ts:List TypeId):Bool:=ts.all fun t=>P.readableRec t&&decide (t<P.types.size)
theorem yaQ{P:Program}(hl:laidOutB P=true){W W':World}(hb:Below W.heap.size W W'){sp:Nat→Bool}:∀{ts:List TypeId} {vs:List Value} {ds:List (DataW H)} {ps:List MemPlace},ydB P ts=true→
  DataW.TrodAll enc P W 0 (fun _=>true) true ts vs ds ps→(∀x∈ps,x.block<W.heap.size)→(∀x∈ps,sp x.block=true)→DataW.TrodAll enc P W' 0 sp true ts vs ds ps
 | [],[],[],_,_,h,_,_=>h
 | [],_::_,_,_,_,h,_,_=>h.elim
 | [],[],_::_,_,_,h,_,_=>h.elim
 | t::ts,[],_,_,_,h,_,_=>h.elim
 | t::ts,_::_,[],_,_,h,_,_=>h.elim
 | t::ts,v::vs,d::ds,ps,hc,⟨p,q,h1,h2,e⟩,hlt,hsp=>by
  subst e;unfold ydB at hc;rw [List.all_cons,Bool.and_eq_true,Bool.and_eq_true] at hc;exact⟨p,q,WideElems.Trod_stays hl hc.1.1 (of_decide_eq_true hc.1.2) h1 (fun x hx=>hb.same (hlt x (List.mem_append_left _ hx))) (fun x hx=>hsp x (List.mem_append_left _ hx)),
   yaQ hl hb hc.2 h2 (fun x hx=>hlt x (List.mem_append_right _ hx)) (fun x hx=>hsp x (List.mem_append_right _ hx)),rfl⟩
theorem ygh{P:Program}(hl:laidOutB P=true){f:Func}{s:ChangeSpec}{apart fresh handsOn again:Bool}{W W':World}{args:Array Value}{ds:List (DataW H)}{before:List MemPlace}{tb:TypeId}{b:Bool}
  (hW:DataW.Whole enc P f.params.toList s.vars apart W args.toList ds [] before) (hv:s.vars= []) (hc:ydB P f.params.toList=true) (hrt:f.resultTypes= #[tb]) (ht:P.underlying tb=some .bool)
  (hr:(s.fn H (ds++[])).results= [.lit (.bool b)]) (ha:(s.fn H (ds++[])).args=ds) (hvn:(s.fn H (ds++[])).vars= []) (hb:Below W.heap.size W W'):
  s.post enc P f apart fresh handsOn again W args (.bool b) W':=by
 have hlt:∀p∈before,p.block<W.heap.size:=fun p hp=>hW.lt p hp;have hWc:=hW;obtain⟨p,q,hA,hV,rfl,hz,hn⟩:=hWc;rw [hv] at hV;obtain⟨-,rfl⟩:=trodVars_none hV;rw [List.append_nil] at hlt hz hn;have hargs:∀sp:Nat→Bool,(∀x∈p,sp x.block=true)→DataW.TrodAll enc P W' 0 sp true f.params.toList args.toList (s.fn H (ds++[])).args p:=fun sp hsp=>by
  rw [ha];exact yaQ hl hb hc hA hlt hsp
 have hres:∀(b0:Nat) (sp:Nat→Bool) (hd:Bool),DataW.TrodAll enc P W' b0 sp hd f.resultTypes.toList ((Value.bool b).resultList f.resultTypes.size) (s.fn H (ds++[])).results []:=fun _ _ _=>by
  rw [hr,hrt];exact trodAll_mk1 (shut_bool ht b)
 have hvars:∀sp:Nat→Bool,DataW.TrodVars enc P W' sp s.vars (s.fn H (ds++[])).vars []:=fun sp=>by rw [hv,hvn];rfl
 have hold:∀x∈p,(fun b=>decide (b<W.heap.size)) x.block=true:=fun x hx=>by simpa using hlt x hx
 refine⟨ds,[],p++[],[],p,[],hW,hres _ _ _,hargs _ hold,hvars _,World.keptBut_mono (fun x hx=>?_) (hb.frame (· ∈p)),fun _=>?_⟩
 ·exact ⟨by rwa [List.append_nil],Or.inr (.inl hx)⟩
 ·have hok:=ok_one (f:=f) (W':=W') (by rw [hrt]) rfl (okWide_bool_mk (W':=W') ht b);refine⟨hok,_,_,([]++p)++[],⟨[]++p,[],trodAll_append (hargs _ (fun _ _=>rfl)) (hres _ _ _),hvars _,rfl,?_,?_⟩,?_⟩
  ·intro b0 off hp;have hin:MemPlace.cell b0 off∈p:=by simpa using hp
   rw [hb.frozen (hlt _ hin)];exact hz b0 off hin
  ·intro hap;simpa using hn hap
  ·intro x hx _;simpa using hx
end
def lay24 : List (String × DataW Unit) := [("math/bits.deBruijn32tab", Rows.laid_math_bits_deBruijn32tab), ("math/bits.deBruijn64tab", Rows.laid_math_bits_deBruijn64tab), ("internal/strconv.uint64pow10", Rows.laid_internal_strconv_uint64pow10)]
theorem yfw(os:Os)(args:Array Value):laidMetH Tryz.prog lay24 ((World.laidAll Tryz.prog os lay24).forCall (fun _ _=>0) ⟨#[],args,[]⟩).memory:=
 laidMetH_of_parts3 (fuel:=8) (laidMet_laidAll args (by kernel_rfl) (by kernel_rfl)) (by kernel_rfl) (by kernel_rfl)
theorem ygi :Tryz.prog.cellTypes Tryz.prog.depth 84=some (pbT++[4]):=by kernel_rfl
theorem ygj :Tryz.prog.cellsOf 84=(pbT++[4]).length:=by kernel_rfl
section
variable{H:Type}{enc:TypeId×Value→H}{w:World}{base:Nat}{v:Value}{d:DataW H}{ps:List MemPlace}
theorem ygk(hok:Value.okWide Tryz.prog w .any base 84 v):∃x:yhh×Bool,GrIn x.1.1.2∧GrIn x.1.2.1.2∧∀β s,(TV.a (lx84 x)).p β s v:=by
 obtain⟨cs,rfl,h1,h2⟩:=yhg Tryz.underlying84 ygi ygj hok;have h1':cs.size=58:=h1;obtain⟨f,hf⟩:=yeH (α:=Int) (n:=57) (p:=fun i n=>cs[i]? =some (.int .u8 n)∧0≤n∧n<256) (fun i hi=>by
  obtain⟨u,hu,hu2⟩:∃u,pbT[i]? =some u∧(u=22∨u=5):=by
   refine⟨pbT[i]'hi,yGe (l:=pbT) hi,?_⟩;have:=List.getElem_mem (l:=pbT) hi;generalize pbT[i]'hi=u at this;simp only [pbT,List.mem_append,List.mem_singleton,List.mem_replicate] at this;rcases this with (((h|h)|h)|h)|h
   ·exact .inl h
   ·exact .inr h.2
   ·exact .inl h
   ·exact .inr h.2
   ·exact .inl h
  obtain⟨c,g1,g2⟩:=h2 i u (by rw [List.getElem?_append_left hi];exact hu);have g2':Cell.okWide Tryz.prog w .any base 5 c:=by
   rcases hu2 with rfl|rfl
   ·simp only [Cell.okWide,Cell.ok,Tryz.underlying22,Tryz.underlying5] at g2 ⊢;exact g2
   ·exact g2
  obtain⟨n,rfl,g3⟩:∃n:Int,c= .int .u8 n∧0≤n∧n<256:=by
   simp only [Cell.okWide,Tryz.underlying5] at g2';cases c <;> simp_all [Cell.ok];rename_i k n;obtain⟨rfl,h2⟩:=g2';simp [IntKind.has,IntKind.min,IntKind.max,IntKind.signed,IntKind.bits] at h2;omega
  exact⟨n,g1,g3⟩)
 obtain⟨b,hb⟩:∃b,cs[57]? =some (.bool b):=by
  obtain⟨c,g1,g2⟩:=h2 57 4 rfl;simp only [Cell.okWide,Tryz.underlying4] at g2;cases c <;> simp_all [Cell.ok]
 have hcs:cs=((List.range 57).map (fun i=>Value.int .u8 (f i))++[Value.bool b]).toArray:=by
  apply Array.ext_getElem?;intro i;by_cases hi:i<57
  ·rw [(hf i hi).1,List.getElem?_toArray,List.getElem?_append_left (by simpa using hi)];simp [hi]
  ·by_cases hi2:i=57
   ·subst hi2;rw [hb];rfl
   ·rw [Array.getElem?_eq_none (by omega),Array.getElem?_eq_none (by simp;omega)]
 have gr:∀o,o+27≤57→GrIn (f o,f (o+1),((f (o+2),f (o+3),f (o+4),f (o+5),f (o+6)),(f (o+7),f (o+8),f (o+9),f (o+10),f (o+11)),(f (o+12),f (o+13),f (o+14),f (o+15),f (o+16)),(f (o+17),f (o+18),f (o+19),f (o+20),f (o+21)),(f (o+22),f (o+23),f (o+24),f (o+25),f (o+26)))):=fun o ho=>by
  refine⟨(hf o (by omega)).2,fun y hy=>?_⟩;have hy2:y∈(List.range 25).map fun i=>f (o+(i+2)):=hy;obtain⟨i,hi,rfl⟩:=List.mem_map.1 hy2;have:=List.mem_range.1 hi;exact(hf (o+(i+2)) (by omega)).2
 refine⟨(((f 0,f 1,f 2,((f 3,f 4,f 5,f 6,f 7),(f 8,f 9,f 10,f 11,f 12),(f 13,f 14,f 15,f 16,f 17),(f 18,f 19,f 20,f 21,f 22),(f 23,f 24,f 25,f 26,f 27))),(f 28,f 29,f 30,((f 31,f 32,f 33,f 34,f 35),(f 36,f 37,f 38,f 39,f 40),(f 41,f 42,f 43,f 44,f 45),(f 46,f 47,f 48,f 49,f 50),(f 51,f 52,f 53,f 54,f 55))),f 56),b),gr 1 (by omega),gr 29 (by omega),fun β s=>?_⟩;refine⟨(List.range 57).map (fun i=>Value.int .u8 (f i))++[Value.bool b],?_,by rw [hcs]⟩;exact ya6 (cs:=(List.range 57).map (fun i=>Value.int .u8 (f i))++[Value.bool b]) (List.all_eq_true.2 fun x hx=>by
  rcases List.mem_append.1 hx with hx|hx
  ·obtain ⟨i,_,rfl⟩:=List.mem_map.1 hx;rfl
  ·rw [List.mem_singleton.1 hx];rfl)
end
theorem Op.struct4{α β γ δ:Type}{r:Rep α}{q:Rep β}{u:Rep γ}{z:Rep δ}{Q:α→Prop}{R:β→Prop}{U:γ→Prop}{Z':δ→Prop}{P:Program}{t:TypeId}{f0 f1 f2 f3:Field}(ht:P.underlying t=some (.struct #[f0,f1,f2,f3]))(h0:Op P r Q f0.type)(h1:Op P q R f1.type)(h2:Op P u U f2.type)(h3:Op P z Z' f3.type)(o0:f0.offset=0)(o1:f1.offset=r.sz)(o2:f2.offset=r.sz+q.sz)(o3:f3.offset=r.sz+q.sz+u.sz)
  (c0:P.cellsOf f0.type=r.sz) (c1:P.cellsOf f1.type=q.sz) (c2:P.cellsOf f2.type=u.sz) (c3:P.cellsOf f3.type=z.sz) (c:P.cellsOf t=r.sz+q.sz+u.sz+z.sz):Op P (rP r (rP q (rP u z))) (fun y=>Q y.1∧R y.2.1∧U y.2.2.1∧Z' y.2.2.2) t:=by
 intro H enc w fuel cs x h;obtain⟨xs,n,_,_,hl,h5,h6⟩:=DataW.trod_struct ht h;obtain⟨n0,x0,g0⟩:=yaN (i:=0) (f:=f0) ht h rfl;obtain⟨n1,x1,g1⟩:=yaN (i:=1) (f:=f1) ht h rfl;obtain⟨n2,x2,g2⟩:=yaN (i:=2) (f:=f2) ht h rfl;obtain⟨n3,x3,g3⟩:=yaN (i:=3) (f:=f3) ht h rfl;obtain⟨y0,a0,b0⟩:=h0 _ _ _ _ _ _ g0;obtain⟨y1,a1,b1⟩:=h1 _ _ _ _ _ _ g1;obtain⟨y2,a2,b2⟩:=h2 _ _ _ _ _ _ g2;obtain⟨y3,a3,b3⟩:=h3 _ _ _ _ _ _ g3;rw [o0,c0] at a0;rw [o1,c1] at a1;rw [o2,c2] at a2;rw [o3,c3] at a3;refine⟨(y0,y1,y2,y3),⟨_,_,?_,a0,_,_,rfl,a1,_,_,rfl,a2,a3⟩,b0,b1,b2,b3⟩;have e3:((cs.drop (r.sz+q.sz+u.sz)).take z.sz)=cs.drop (r.sz+q.sz+u.sz):=List.take_of_length_le (by rw [List.length_drop];omega);rw [e3,List.drop_zero,show cs.drop (r.sz+q.sz+u.sz)=((cs.drop r.sz).drop q.sz).drop u.sz by simp [List.drop_drop,Nat.add_assoc],show cs.drop (r.sz+q.sz)=(cs.drop r.sz).drop q.sz by simp [List.drop_drop],List.take_append_drop,List.take_append_drop,List.take_append_drop]
section
variable{H:Type}{enc:TypeId×Value→H}{w:World}{base:Nat}{v:Value}{d:DataW H}{ps:List MemPlace}
/-- A draft. -/
theorem yfx(hok:Value.okWide Tryz.prog w .any base 86 v)(h:DataW.Trod enc Tryz.prog w 0 (fun _=>true) true 86 v d ps):∃xs:List (Int×Int×Int×Int),(∀y∈xs,0≤y.2.2.2∧y.2.2.2<256)∧∀β,(TV.f (rP (rK .u8) (rP (rK .u8) (rP (rK .u8) (rK .u8)))) xs).p β ⟨w,fun _=>0⟩ v:=by
 obtain⟨fuel,hf⟩:=h;simp only [Value.okWide,Tryz.underlying86] at hok;have hv:v.cells.toList= [v]:=by
  simp only [Cell.okWide,Tryz.underlying86] at hok;cases v <;> simp_all [Cell.ok,Value.cells]
 rw [hv] at hf;obtain⟨a,c,xs,rfl,h1,h2⟩:=ygg Tryz.underlying86 (by kernel_rfl) (Op.struct4 Tryz.underlying209 op_u8 op_u8 op_u8 op_u8 rfl rfl rfl rfl (by kernel_rfl) (by kernel_rfl) (by kernel_rfl) (by kernel_rfl) (by kernel_rfl)) hok hf;exact⟨xs,fun y hy=>(h2 y hy).2.2.2,fun β=>⟨a,c,rfl,h1⟩⟩
end
theorem y8Q(os:Os)(started:os.Started)(H:Type)(enc:TypeId×Value→H):
  ReturnsInHanded {} Tryz.checked os 9 .any (fun w args=>(Rows.simulationDifferenceSpec.pre enc Tryz.prog Tryz.f9 [] false w args∧laidMetH Tryz.prog lay24 w)∧sizedMet enc Tryz.prog Tryz.f9 (OpenSpec.ofChange Rows.simulationDifferenceSpec) false w args) (Rows.simulationDifferenceSpec.post enc Tryz.prog Tryz.f9 false true false false):=by
 refine returnsInHanded_of_change_and (C:=Tryz.checked) (X:=fun w _=>laidMetH Tryz.prog lay24 w) (fun _ _ _ hh h=>h.of_heap hh) Tryz.own started (by kernel_rfl) Tryz.func9
  (ChangeSpec.witness_shaped (enc:=enc) (C:=Tryz.checked) (os:=os) (X:=fun w _=>laidMetH Tryz.prog lay24 w) false (World.laidAll Tryz.prog os lay24) #[.agg (Array.replicate 57 (.int .u8 0) ++ #[.bool false]),.slice none 0 0,.int .u8 0] 8 (World.laidAll_os _ _ _) (World.shaped_of_ZipB (by kernel_rfl) (by kernel_rfl)) (by kernel_rfl) (by kernel_rfl) (by kernel_rfl) (yfw os _)) ?_
 intro W base args ds gs before hval0 hW _ _ _ _;have hval:∀(j:Nat) t v,Tryz.f9.params[j]? =some t→args[j]? =some v→Value.okWide Tryz.prog W .any base t v:=hval0;have hW':=hW;obtain⟨p,q,hA0,hV,rfl,hfz,hnd⟩:=hW;have hA:DataW.TrodAll enc Tryz.prog W 0 (fun _=>true) true Tryz.f9.params.toList args.toList ds p:=hA0;rw [Tryz.params9] at hA hval;obtain⟨v0,v1,v2,d0,d1,d2,p0,p1,p2,rfl,rfl,rfl,h0,h1,h2⟩:=trodAll_three hA;obtain⟨x,g1,g2,r0⟩:=ygk (hval 0 84 v0 rfl rfl);obtain⟨y,hd,r1⟩:=yfx (hval 1 86 v1 rfl rfl) h1;obtain⟨m,rfl,_⟩:=yhi (hval 2 5 v2 rfl rfl);obtain⟨rfl,rfl⟩:=trodVars_none hV;clear hA0 hval0;refine Calls.mono ((y6G (ycH (x:=x) ⟨g1,g2⟩ hd m)).law (All3.c (r0 _ _) (All3.c (r1 _) (All3.c ⟨rfl,rfl⟩ rfl)))) fun e W' ⟨he,hbl⟩=>?_;subst he;exact⟨_,rfl,ygh Tryz.laidOut hW' rfl (by kernel_rfl) (by kernel_rfl) Tryz.underlying4 rfl rfl rfl hbl⟩
end Go.Proofs.YtecmobjeeonmaaaGreatDoor
namespace Go.Proofs.YtecmobjeeonmaaaGreatDoor
open Go Go.RowKit
set_option maxRecDepth 100000
theorem yh1 :Tryz.prog.stopsHeard=true:=by kernel_rfl
theorem yh2 :Tryz.prog.mayEnter=true:=by kernel_rfl
theorem yh3 :(laidOutB Tryz.prog&&mapsRowed Tryz.prog)=true:=by kernel_rfl
theorem yh4 :(Tryz.prog.stops==[])=true:=by kernel_rfl
theorem ygl :(Tryz.prog.stopKnobs==[])=true:=by kernel_rfl
theorem ygm :false=Tryz.prog.looks []:=by kernel_rfl
end Go.Proofs.YtecmobjeeonmaaaGreatDoor
namespace Go.Proofs.YtecmobjeeonmaaaGreatDoor
open Go Go.ChangeShapes Go.WideShapes Go.ChangeAt Go.RowKit Go.Deep
theorem y9M :(Rows.simulationDifferenceRow.inPlace==Tryz.prog.inPlace 9)=true:=by kernel_rfl
theorem y9N :(Rows.simulationDifferenceRow.unfollowed==Tryz.prog.unfollowed 9)=true:=by kernel_rfl
theorem y9O :(Rows.simulationDifferenceRow.recurses==Tryz.prog.recurses 9)=true:=by kernel_rfl
theorem y9P :(Rows.simulationDifferenceRow.named==Tryz.prog.varsNamed 9)=true:=by kernel_rfl
theorem y9Q :(Rows.simulationDifferenceRow.lifted==Tryz.prog.liftsFinal)=true:=by kernel_rfl
theorem y8R :joinedFacts Tryz.prog 9 Tryz.f9 Rows.simulationDifferenceSpec Rows.simulationDifferenceRow=true:=by
 have h8:=yh3;rw [Bool.and_eq_true] at h8;unfold joinedFacts;rw [h8.1,h8.2,y9M,y9N,y9O,y9P,y9Q,yh1,yh2,yh4,ygl];change (_:Bool)=true;kernel_rfl
theorem y9b :Rows.SimulationDifferenceSaid:=
 OpenClaim.holds_of_wide 9 Tryz.f9 rfl rfl rfl rfl rfl rfl rfl ⟨rfl,rfl,rfl,rfl,rfl⟩ rfl rfl rfl rfl rfl (by kernel_rfl) Tryz.func9 y8R
  (of_decide_eq_true (by kernel_rfl)) (by unfold Func.isWrapper;first | (rw [if_pos (by decide +kernel)];kernel_rfl)|(rw [if_neg (by decide +kernel)];exact⟨rfl,rfl⟩))
  (fun os started H enc _=>y8Q os started H enc)
theorem simulationDifference_k12 :false=Rows.simulationDifferenceRow.goesBy Tryz.prog:=by kernel_rfl
theorem simulationDifference_k13 : Tryz.prog.funcNamed "overseer/overseerlaw55.SimulationDifference" = some 9 := by kernel_rfl
theorem simulationDifference_k14 :(Tryz.f9.params.toList.all fun u=>!(Tryz.prog.wantsStandIn u))=true:=by kernel_rfl
theorem simulationDifference_k15 :Rows.simulationDifferenceRow.wfByText (OpenSpec.ofChange Rows.simulationDifferenceSpec)=true:=by kernel_rfl
theorem simulationDifference_card_holds :Rows.SimulationDifferenceCardSaid:=
 Claim7.holds_tied_plain_at .later [] [.data,.data,.data] true _ false
  y9b (fun _ h=>by cases h) simulationDifference_k15 (fun _ h=>by cases h) simulationDifference_row_tie rfl ⟨rfl,rfl⟩ (by kernel_rfl) rfl
  (fun f fn hf hfn=>by
   obtain rfl:f=9:=Option.some.inj (simulationDifference_k13.symm.trans hf) |>.symm;obtain rfl:fn=Tryz.f9:=(Option.some.inj (Tryz.func9.symm.trans hfn)).symm;exact⟨ygm,fun j t ht=>by
    have hm:t∈Tryz.f9.params:=Array.mem_of_getElem? ht;exact(show Tryz.prog.wantsStandIn t=false by simpa using List.all_eq_true.1 simulationDifference_k14 t (Array.mem_toList_iff.2 hm))⟩)
  simulationDifference_k12
end Go.Proofs.YtecmobjeeonmaaaGreatDoor
