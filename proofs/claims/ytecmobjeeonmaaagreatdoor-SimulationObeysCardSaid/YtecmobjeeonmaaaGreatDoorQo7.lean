/- Parts of the proof, without what nothing here names. -/
import Derived.IntWalk
import Derived.Test.YtecmobjeeonmaaaGreatDoorQo6
namespace Go.Proofs.YtecmobjeeonmaaaGreatDoor
theorem yen{α:Type}(p q:α→Bool):∀(l:List α),(∀x∈l,p x=true→q x=false)→l.countP (fun x=>p x||q x)=l.countP p+l.countP q
 | [],_=>rfl
 | x::l,h=>by
  have ih:=yen p q l (fun y hy=>h y (List.mem_cons_of_mem _ hy));have hx:=h x (List.mem_cons_self ..);rw [List.countP_cons,List.countP_cons,List.countP_cons,ih];cases hp:p x with
  | true=>rw [hx hp];simp;omega
  | false=>cases hq:q x <;> simp;omega
theorem ydR{es:List Ed}{al:List Int}(hn:al.Nodup):∀k,k≤al.length→((List.range k).map fun i=>(es.filter fun x=>x.e==al.getD i 0).length).sum=es.countP fun x=>(al.take k).contains x.e
 | 0,_=>by simp
 | k+1,hk=>by
  have ih:=ydR (es:=es) hn k (by omega);rw [List.range_succ,List.map_append,List.sum_append,ih];simp only [List.map_cons,List.map_nil,List.sum_cons,List.sum_nil,Nat.add_zero];rw [←List.countP_eq_length_filter,←yen]
  ·apply List.countP_congr;intro x _;have ht:al.take (k+1)=al.take k++[al[k]]:=yTs (by omega);have hg:al.getD k 0=al[k]:=by rw [List.getD_eq_getElem?_getD,yGe (by omega)];rfl
   show((al.take k).contains x.e||x.e==al.getD k 0)=true↔(al.take (k+1)).contains x.e=true;rw [ht,hg,Bool.or_eq_true,List.contains_iff_mem,List.contains_iff_mem,yMa,yMs,beq_iff_eq]
  ·intro x _ hp;have hm:x.e∈al.take k:=by simpa using hp
   have hg:al.getD k 0=al[k]:=by rw [List.getD_eq_getElem?_getD,yGe (by omega)];rfl
   rw [hg,beq_eq_false_iff_ne];intro e;rw [e] at hm;obtain⟨j,hj,hje⟩:=List.mem_iff_getElem.1 hm;rw [List.length_take] at hj;rw [List.getElem_take] at hje;exact(List.pairwise_iff_getElem.1 hn j k (by omega) (by omega) (by omega)) hje
theorem ycE(moved alarm:Nat):∀(l:List (Nat×List (Nat×Nat))) (s:Nat),(y1c moved alarm l s).length=6*l.length+5*(l.map fun x=>x.2.length).sum
 | [],_=>rfl
 | (i,es)::l,s=>by
  rw [y1c,List.length_append,y6L,ycE moved alarm l,List.map_cons,List.sum_cons,List.length_cons];dsimp only;omega
theorem ybF :∀(l:List (Nat×List Nat)),(yF l).length≤3*l.length+(l.map fun x=>x.2.length).sum
 | []=>Nat.le_refl _
 | c::l=>by
  have hs:yF (c::l)=y2y c.1 c.2++yF l:=by simp [yF]
  have ih:=ybF l;have hc:(y2y c.1 c.2).length≤3+c.2.length:=by
   cases c.2 with
   | nil=>simp [y2y]
   | cons m ms=>simp [y2y];omega
  rw [hs,List.length_append,List.map_cons,List.sum_cons,List.length_cons];omega
theorem yiC{a:Aut}{ctrl:List Int}(ha:Inc a.al)(hc:Inc ctrl):(genP a ctrl).length≤6*a.al.length+3*ctrl.length+6*a.es.length:=by
 have hna:a.al.Nodup:=List.Pairwise.imp (fun {x y} (h:x<y)=>by omega) ha;have hnc:ctrl.Nodup:=List.Pairwise.imp (fun {x y} (h:x<y)=>by omega) hc;have h1:=ydR (es:=a.es) hna a.al.length (Nat.le_refl _);have h2:=ydR (es:=a.es) hnc ctrl.length (Nat.le_refl _);have h3:=List.countP_le_length (p:=fun x:Ed=>(a.al.take a.al.length).contains x.e) (l:=a.es);have h4:=List.countP_le_length (p:=fun x:Ed=>(ctrl.take ctrl.length).contains x.e) (l:=a.es);unfold genP genI;rw [List.length_append,ycE];have h5:=ybF ((cmsOf a ctrl).map fun x=>(a.al.length+x.1,x.2.map fun y=>a.al.length+(ctrl.length+1)+y));have e1:(((evsOf a).map fun x=>(x.1,x.2.map fun e=>(a.al.length+(ctrl.length+1)+e.1,a.al.length+(ctrl.length+1)+e.2))).map fun x=>x.2.length).sum=((List.range a.al.length).map fun i=>(a.es.filter fun x=>x.e==a.al.getD i 0).length).sum:=by
  unfold evsOf;rw [List.map_map,List.map_map];congr 1;apply List.map_congr_left;intro i _;simp
 have e2:(((cmsOf a ctrl).map fun x=>(a.al.length+x.1,x.2.map fun y=>a.al.length+(ctrl.length+1)+y)).map fun x=>x.2.length).sum=((List.range ctrl.length).map fun i=>(a.es.filter fun x=>x.e==ctrl.getD i 0).length).sum:=by
  unfold cmsOf;rw [List.map_map,List.map_map];congr 1;apply List.map_congr_left;intro i _;simp
 rw [e1];rw [e2] at h5;have l1:(evsOf a).length=a.al.length:=by simp [evsOf]
 have l2:(cmsOf a ctrl).length=ctrl.length:=by simp [cmsOf]
 rw [List.length_map,l1];rw [List.length_map,l2] at h5;omega
theorem yjR{m c n:Nat}{inp out mem:List Bool}{s:Nat}{al:Bool}(hi:inp.length=m)(ho:out.length=c+1)(hm:mem.length=n+1)(hs:∀j,j<n→mem.getD j false=decide (j=s))(ha:out.getD c false=al):View m c n inp s al (inp++out++mem):=by
 refine⟨by simp;omega,fun j hj=>?_,fun j hj=>?_,?_⟩
 ·rw [List.getD_eq_getElem?_getD,List.append_assoc,List.getElem?_append_left (by omega),←List.getD_eq_getElem?_getD]
 ·rw [←hs j hj,List.getD_eq_getElem?_getD,List.getElem?_append_right (by simp;omega),List.getD_eq_getElem?_getD];congr 2;simp;omega
 ·rw [←ha,List.getD_eq_getElem?_getD,List.append_assoc,List.getElem?_append_right (by omega),List.getElem?_append_left (by omega),List.getD_eq_getElem?_getD];congr 2;omega
theorem View.mem{m c n:Nat}{inp:List Bool}{s:Nat}{al:Bool}{b:List Bool}(h:View m c n inp s al b):(b.drop (m+(c+1))).length=n+1∧(∀j,j<n→(b.drop (m+(c+1))).getD j false=decide (j=s)):=by
 have hl:=h.len;refine⟨by simp;omega,fun j hj=>?_⟩;rw [←h.one j hj,List.getD_eq_getElem?_getD,List.getElem?_drop,←List.getD_eq_getElem?_getD]
theorem View.out{m c n:Nat}{inp:List Bool}{s:Nat}{al:Bool}{b:List Bool}(h:View m c n inp s al b):((b.drop m).take (c+1)).length=c+1∧((b.drop m).take (c+1)).getD c false=al∧∀j,j<c+1→((b.drop m).take (c+1)).getD j false=b.getD (m+j) false:=by
 have hl:=h.len;have hg:∀j,j<c+1→((b.drop m).take (c+1)).getD j false=b.getD (m+j) false:=fun j hj=>by
  rw [List.getD_eq_getElem?_getD,List.getElem?_take,if_pos hj,List.getElem?_drop,←List.getD_eq_getElem?_getD]
 exact⟨by simp;omega,by rw [hg c (by omega)];exact h.al,hg⟩
end Go.Proofs.YtecmobjeeonmaaaGreatDoor
namespace Go.Proofs.YtecmobjeeonmaaaGreatDoor
open Go Go.RowKit
theorem y8E{S R:Type}{f:S→Option (S⊕(Unit⊕R))}(mk:Int→S)(n:Nat)(hn:n≤4000000)(b:Nat→Bool)(r:Nat→R)(step:∀i,i<n→f (mk (i:Int))=if b i=true then some (.inr (.inr (r i))) else some (.inl (mk ((i+1:Nat):Int))))(last:f (mk (n:Int))=some (.inr (.inl ()))):
  ∃o,iter f (mk 0)=some o∧((o= .inl ()∧∀i,i<n→b i=false)∨∃i,i<n∧o= .inr (r i)∧b i=true∧∀j,j<i→b j=false):=by
 refine ye (f:=f) (fun i s=>s=mk (i:Int)∧∀j,j<i→b j=false) _ n 0 (by omega) (fun i s hi ⟨e1,g1⟩=>?_) (fun s ⟨e1,g1⟩=>?_) (yZl _) (mk 0) ⟨rfl,fun j hj=>absurd hj (by omega)⟩
 ·subst e1;rw [step i hi];cases hb:b i with
  | true=>exact .inr ⟨_,rfl,.inr ⟨i,hi,rfl,hb,g1⟩⟩
  | false=>
   refine .inl ⟨_,by rw [if_neg (by simp)],rfl,fun j hj=>?_⟩;by_cases e:j=i
   ·rw [e];exact hb
   ·exact g1 j (by omega)
 ·subst e1;exact⟨_,last,.inl ⟨rfl,g1⟩⟩
theorem ycZ(p:Int):∃ev,y1u p=some ev∧Inc ev∧(∀x∈ev,0≤x∧x<5)∧ev.length≤5:=by
 obtain⟨o,h1,h2⟩:=ye (f:=y2N p) (fun i s=>s.1=(i:Int)∧Inc s.2∧(∀x∈s.2,0≤x∧x<(i:Int))∧s.2.length≤i) (fun o=>Inc o∧(∀x∈o,0≤x∧x<5)∧o.length≤5) 5 0 (by omega) (fun i s hi ⟨e1,e2,e3,e4⟩=>by
   obtain⟨s1,s2⟩:=s;dsimp only at e1 e2 e3 e4;subst e1;have hj:∀l:List Int,y1C ((i:Int),s2) l=some (.inl (((i+1:Nat):Int),l)):=fun l=>by
    rw [y1C];dsimp only;rw [nxt (by omega)]
   left;rw [y2N];dsimp only;rw [if_pos (by simp;omega),show ng (i:Int)=some () from if_neg (by omega),yOb];split
   ·rw [yi (by simp;omega),yOb,hj];refine⟨_,rfl,rfl,?_,fun x hx=>?_,by simp;omega⟩
    ·unfold Inc at e2 ⊢;rw [List.pairwise_append];exact⟨e2,List.pairwise_singleton ..,fun a ha b hb=>by rw [yMs.1 hb];exact(e3 a ha).2⟩
    ·dsimp only at hx;rcases yMa.1 hx with h|h
     ·have:=e3 x h;omega
     ·rw [yMs.1 h];omega
   ·rw [hj];exact⟨_,rfl,rfl,e2,fun x hx=>by have:=e3 x hx;omega,by dsimp only;omega⟩) (fun s ⟨e1,e2,e3,e4⟩=>by
   obtain⟨s1,s2⟩:=s;dsimp only at e1 e2 e3 e4;subst e1;refine⟨s2,?_,e2,e3,e4⟩;rw [y2N];dsimp only;rw [if_neg (by simp)]) (by omega) (0,[]) ⟨rfl,List.Pairwise.nil,fun x hx=>(by cases hx),by simp⟩
 exact⟨o,by rw [y1u,h1];rfl,h2⟩
theorem yeo{xs:List Int}(h:xs.length≤1000000):y2L xs=some (xs,0,[],[]):=by
 rw [y2L,yi (by simp;omega)];rfl
theorem ygb{xs:List Int}{x:Int}(hl:xs.length≤1000000):y4S xs x=some (hasB xs x):=by
 obtain⟨o,h1,h2⟩:=y8E (f:=y5l xs x) (fun i=>i) xs.length (by omega) (fun i=>xs[i]? == some x) (fun _=>()) (fun i hi=>by
  rw [y5l];rw [if_pos (ct_lt hi),ya hi,yOb,nxt (by omega),yGe hi];by_cases e:xs[i]=x
  ·rw [if_pos (by simpa using e),if_pos (by simpa using e)]
  ·rw [if_neg (by simpa using e),if_neg (by simpa using e)]) (by
  rw [y5l];rw [if_neg ct_ge])
 rw [y4S,h1,yOb];rcases h2 with ⟨rfl,h3⟩|⟨i,hi,rfl,h3,h4⟩
 ·have:hasB xs x=false:=by
   rw [←Bool.not_eq_true,yb];intro hm;obtain⟨k,hk,e⟩:=List.getElem_of_mem hm;have:=h3 k hk;rw [yGe hk,e] at this;simp at this
  rw [this]
 ·have:hasB xs x=true:=by
   rw [yb];rw [yGe hi] at h3;have h3:xs[i]=x:=by simpa using h3
   exact h3▸yGm hi
  rw [this]
theorem yhr{xs:List Int}{x:Int}(hl:xs.length≤1000000)(hm:x∈xs):∃k:Nat,y5G xs x=some (k:Int)∧xs[k]? =some x:=by
 obtain⟨o,h1,h2⟩:=y8E (f:=y4m xs x) (fun i=>i) xs.length (by omega) (fun i=>xs[i]? == some x) (fun i=>(i:Int)) (fun i hi=>by
  rw [y4m];rw [if_pos (ct_lt hi),ya hi,yOb,nxt (by omega),yGe hi];by_cases e:xs[i]=x
  ·rw [if_pos (by simpa using e),if_pos (by simpa using e)]
  ·rw [if_neg (by simpa using e),if_neg (by simpa using e)]) (by
  rw [y4m];rw [if_neg ct_ge])
 rw [y5G,h1,yOb];rcases h2 with ⟨rfl,h3⟩|⟨i,hi,rfl,h3,h4⟩
 ·exfalso;obtain⟨k,hk,e⟩:=List.getElem_of_mem hm;have:=h3 k hk;rw [yGe hk,e] at this;simp at this
 ·exact ⟨i,rfl,by simpa using h3⟩
theorem yiD{a:AutT}{s e:Int}(h:∀x∈a.2.2.2,¬(x.1=s∧x.2.1=e)):st1 a s e=none:=by
 unfold st1;rw [Option.map_eq_none_iff,List.find?_eq_none];intro x hx;have:=h x hx;simpa using this
theorem yby{a:AutT}{n:Nat}(hr:Right a n)(s e:Int):y1x a s e=some ((st1 a s e).getD (-1)):=by
 have hl:=hr.l3;obtain⟨o,h1,h2⟩:=y8E (f:=y4I a s e) (fun i=>i) a.2.2.2.length (by omega) (fun i=>match a.2.2.2[i]? with | some x=>x.1==s&&x.2.1==e|none=>false) (fun i=>(a.2.2.2.getD i (0,0,0)).2.2) (fun i hi=>by
  rw [y4I];rw [if_pos (ct_lt hi),ya hi,yOb,nxt (by omega),yGe hi,List.getD_eq_getElem?_getD,yGe hi];dsimp only [Option.getD_some];by_cases e1:a.2.2.2[i].1=s
  ·rw [if_pos (by simpa using e1),yOb,yOb,yOb];by_cases e2:a.2.2.2[i].2.1=e
   ·rw [if_pos (by simpa using e2),if_pos (by simp [e1,e2])]
   ·rw [if_neg (by simpa using e2),if_neg (by simp [e2])]
  ·rw [if_neg (by simpa using e1),yOb,if_neg (by simp),if_neg (by simp [e1])]) (by
  rw [y4I];rw [if_neg ct_ge])
 rw [y1x,h1,yOb];rcases h2 with ⟨rfl,h3⟩|⟨i,hi,rfl,h3,h4⟩
 ·rw [yiD fun x hx hxx=>?_]
  ·rfl
  ·obtain ⟨k,hk,e'⟩:=List.getElem_of_mem hx;have:=h3 k hk;rw [yGe hk,e'] at this;simp [hxx.1,hxx.2] at this
 ·rw [yGe hi] at h3;have h3:a.2.2.2[i].1=s∧a.2.2.2[i].2.1=e:=by simpa using h3
  have:st1 a s e=some a.2.2.2[i].2.2:=by
   rw [y7q hr,←h3.1,←h3.2];exact yGm hi
  rw [this,List.getD_eq_getElem?_getD,yGe hi];rfl
section
variable{a:AutT}{n:Nat}
theorem yiE(hr:Right a n)(hal:a.1.length≤32){i:Nat}{y:List Int}{X:List Int}{kn:List (Int×Int)}{E:List (Int×Int×Int)}(hS:SR (st1 a) a.1 n i 0 X kn E)(hi:i<X.length):
  ∃kn' X' E',iter (y2Y a ((i:Int),y)) (0,X)=some X'∧SR (st1 a) a.1 n (i+1) 0 X' kn' E'∧∃U,X'=X++U:=by
 have hnl:=hr.nl;obtain⟨o,h1,kn',E',hS',hU⟩:=ye (f:=y2Y a ((i:Int),y)) (fun j s=>s.1=(j:Int)∧∃kn E,SR (st1 a) a.1 n i j s.2 kn E∧∃U,s.2=X++U) (fun o=>∃kn E,SR (st1 a) a.1 n (i+1) 0 o kn E∧∃U,o=X++U) a.1.length 0 (by omega) (fun j s hj ⟨e1,kn1,E1,hS1,U,hU⟩=>by
   obtain⟨c,X1⟩:=s;dsimp only at e1 hS1 hU;subst e1;have hX1:=hS1.len;have hi1:i<X1.length:=by rw [hU,List.length_append];omega
   have hj2:∀l:List Int,y2X ((j:Int),X1) l=some (.inl (((j+1:Nat):Int),l)):=fun l=>by
    rw [y2X];dsimp only;rw [nxt (by omega)]
   left;rw [y2Y];dsimp only;rw [if_pos (ct_lt hj),ya hi1,yOb,ya hj,yOb,yby hr,yOb];cases hst:st1 a X1[i] a.1[j] with
   | none=>
    rw [Option.getD_none,if_neg (by simp),yOb,if_neg (by simp),hj2];exact⟨_,rfl,rfl,kn1,E1,hS1.skip (yGe hi1) (yGe hj) hst,U,hU⟩
   | some t=>
    have ht:=y7A hr hst;rw [Option.getD_some,if_pos (by simp;omega),ygb (by omega),yOb,yOb];by_cases hm:t∈X1
    ·obtain ⟨q,hq⟩:=List.getElem?_of_mem hm;rw [yb.2 hm,if_neg (by simp),hj2];exact⟨_,rfl,rfl,kn1,_,hS1.edge hr.ali hj (yGe hi1) hst hq,U,hU⟩
    ·have hb:hasB X1 t=false:=by rw [←Bool.not_eq_true,yb];exact hm
     rw [hb,if_pos (by simp),yi (by simp;omega),yOb,hj2];have hk:kget kn1 t=none:=by
      cases hk:kget kn1 t with
      | none=>rfl
      | some v=>
       obtain⟨q,_,hq⟩:=hS1.k1 _ _ hk;exact absurd (List.mem_of_getElem? hq) hm
     exact⟨_,rfl,rfl,_,_,hS1.new hr.ali hj (yGe hi1) hst hk ht.2.2.1 ht.2.2.2.1,U++[t],by dsimp only;rw [hU,List.append_assoc]⟩) (fun s ⟨e1,kn1,E1,hS1,hU⟩=>by
   obtain⟨c,X1⟩:=s;dsimp only at e1 hS1 hU;subst e1;rw [y2Y];dsimp only;rw [if_neg ct_ge];exact⟨_,rfl,kn1,E1,hS1.next (Nat.le_refl _) hal,hU⟩) (yZl _) (0,X) ⟨rfl,kn,E,hS,[],(List.append_nil _).symm⟩
 exact⟨kn',o,E',h1,hS',hU⟩
theorem yiF(hr:Right a n)(h0:0<n):∃X kn E,y5F a=some X∧SR (st1 a) a.1 n X.length 0 X kn E∧X[0]? =some 0:=by
 have hnl:=hr.nl;have hal:a.1.length≤32:=Alp.len ⟨hr.ali,hr.alr⟩;have hS0:SR (st1 a) a.1 n 0 0 [0] (kput [] 0 0) []:=by
  refine⟨Fnd.start (by simp),fun s v hv=>?_,fun s hs=>?_,by simp,fun s hs=>?_,List.Pairwise.nil,fun x hx=>(by cases hx),fun x hx=>(by cases hx),by simp⟩
  ·rw [y5A] at hv;split at hv
   ·rename_i e;subst e;cases hv;exact⟨0,rfl,rfl⟩
   ·cases hv
  ·rw [yMs.1 hs,y5A,if_pos rfl];rfl
  ·rw [yMs.1 hs];omega
 obtain⟨o,h1,kn,E,h2,h3⟩:=ye (f:=y2Z a) (fun i s=>s.1=(i:Int)∧i≤s.2.length∧∃kn E,SR (st1 a) a.1 n i 0 s.2 kn E∧s.2[0]? =some 0) (fun o=>∃kn E,SR (st1 a) a.1 n o.length 0 o kn E∧o[0]? =some 0) n 0 (by omega) (fun i s hi ⟨e1,hle,kn,E,hS,x0⟩=>by
   obtain⟨c,X⟩:=s;dsimp only at e1 hle hS x0;subst e1;have hXl:=hS.len;rw [y2Z];dsimp only;by_cases hix:i<X.length
   ·left;obtain⟨kn',X',E',w1,w2,U,hU⟩:=yiE hr hal (y:=X) hS hix;rw [if_pos (ct_lt hix),w1,yOb,nxt (by omega)];exact⟨_,rfl,rfl,by dsimp only;rw [hU,List.length_append];omega,kn',E',w2,by dsimp only;rw [hU,List.getElem?_append_left (by omega)];exact x0⟩
   ·right;obtain rfl:i=X.length:=by omega
    rw [if_neg ct_ge];exact⟨_,rfl,kn,E,hS,x0⟩) (fun s ⟨e1,hle,kn,E,hS,x0⟩=>by
   obtain⟨c,X⟩:=s;dsimp only at e1 hle hS x0;subst e1;have hXl:=hS.len;have hX:n=X.length:=by omega
   rw [y2Z];dsimp only;rw [if_neg (by simp;omega)];exact⟨_,rfl,kn,E,by rw [←hX];exact hX▸hS,x0⟩) (yZl _) (0,[0]) ⟨rfl,by simp,kput [] 0 0,[],hS0,rfl⟩
 refine⟨o,kn,E,?_,h2,h3⟩;rw [y5F,if_pos (by rw [hr.nn];simp;omega),yi (by simp),yOb,y4l,show iter (y2Z a) (0,([]:List Int)++[0])=some o from h1];rfl
structure EL (st:Int→Int→Option Int) (al X:List Int) (i j:Nat) (E:List (Int×Int×Int)):Prop where
 so:E.Pairwise fun x y=>x.1<y.1∨(x.1=y.1∧x.2.1<y.2.1)
 ei:∀x∈E,x.1<(i:Int)∨(x.1=(i:Int)∧∃b,∃hb:b<al.length,b<j∧al[b]=x.2.1)
 sn:∀x∈E,∃(a q:Nat) (t r:Int),x.1=(a:Int)∧x.2.2=(q:Int)∧X[a]? =some t∧X[q]? =some r∧x.2.1∈al∧st t x.2.1=some r
 ed:∀(a b:Nat) (t e r:Int),(a<i∨(a=i∧b<j))→X[a]? =some t→al[b]? =some e→st t e=some r→∃q:Nat,((a:Int),e,(q:Int))∈E∧X[q]? =some r
 el:E.length≤32*i+j
theorem EL.skip{st:Int→Int→Option Int}{al X:List Int}{i j:Nat}{E:List (Int×Int×Int)}(h:EL st al X i j E){s e:Int}(ht:X[i]? =some s)(he:al[j]? =some e)(hs:st s e=none):EL st al X i (j+1) E:=by
 refine⟨h.so,fun x hx=>?_,h.sn,fun a b t' e' r hab ha hb hst=>?_,by have:=h.el;omega⟩
 ·rcases h.ei x hx with h1|⟨h1,b,hb,h2,h3⟩
  ·exact .inl h1
  ·exact .inr ⟨h1,b,hb,by omega,h3⟩
 ·by_cases hx:a=i∧b=j
  ·obtain ⟨rfl,rfl⟩:=hx;rw [ht] at ha;rw [he] at hb;cases ha;cases hb;rw [hs] at hst;cases hst
  ·exact h.ed a b t' e' r (by omega) ha hb hst
theorem EL.edge{st:Int→Int→Option Int}{al X:List Int}{i j:Nat}{E:List (Int×Int×Int)}(h:EL st al X i j E)(ia:Inc al)(hj:j<al.length){s v:Int}{q:Nat}(ht:X[i]? =some s)(hs:st s al[j]=some v)(hq:X[q]? =some v):EL st al X i (j+1) (E++[((i:Int),al[j],(q:Int))]):=by
 refine⟨?_,fun x hx=>?_,fun x hx=>?_,fun a b t' e' r hab ha hb hst=>?_,by have:=h.el;rw [List.length_append,List.length_singleton];omega⟩
 ·rw [List.pairwise_append];refine⟨h.so,List.pairwise_singleton _ _,fun x hx y hy=>?_⟩;rw [yMs.1 hy];rcases h.ei x hx with h1|⟨h1,b,hb,h2,h3⟩
  ·exact .inl h1
  ·refine .inr ⟨h1,?_⟩;rw [←h3];exact List.pairwise_iff_getElem.1 ia b j hb hj h2
 ·rcases yMa.1 hx with hx|hx
  ·rcases h.ei x hx with h1|⟨h1,b,hb,h2,h3⟩
   ·exact .inl h1
   ·exact .inr ⟨h1,b,hb,by omega,h3⟩
  ·rw [yMs.1 hx];exact .inr ⟨rfl,j,hj,by omega,rfl⟩
 ·rcases yMa.1 hx with hx|hx
  ·exact h.sn x hx
  ·rw [yMs.1 hx];exact⟨i,q,s,v,rfl,rfl,ht,hq,yGm hj,hs⟩
 ·by_cases hx:a=i∧b=j
  ·obtain ⟨rfl,rfl⟩:=hx;rw [ht] at ha;rw [yGe hj] at hb;cases ha;cases hb;rw [hs] at hst;cases hst;exact⟨q,List.mem_append_right _ (yMs.2 rfl),hq⟩
  ·obtain ⟨q',g1,g2⟩:=h.ed a b t' e' r (by omega) ha hb hst;exact⟨q',List.mem_append_left _ g1,g2⟩
theorem EL.next{st:Int→Int→Option Int}{al X:List Int}{i j:Nat}{E:List (Int×Int×Int)}(h:EL st al X i j E)(hj:al.length≤j)(hj2:j≤32):EL st al X (i+1) 0 E:=
 ⟨h.so,fun x hx=>by
  rcases h.ei x hx with h1|⟨h1,_⟩
  ·exact .inl (by omega)
  ·exact .inl (by omega),h.sn,fun a b t e r hab ha hb hst=>h.ed a b t e r (by have:=(List.getElem?_eq_some_iff.1 hb).1;omega) ha hb hst,by have:=h.el;omega⟩
theorem yhs(hr:Right a n)(hal:a.1.length≤32){X:List Int}{kn:List (Int×Int)}{E0:List (Int×Int×Int)}(hS:SR (st1 a) a.1 n X.length 0 X kn E0){i:Nat}(hi:i<X.length){ms:List Int}{y E:List (Int×Int×Int)}(hE:EL (st1 a) a.1 X i 0 E):
  ∃E',iter (y1O a X ((i:Int),ms,y)) (0,E)=some E'∧EL (st1 a) a.1 X (i+1) 0 E':=by
 have hnl:=hr.nl;have hXl:=hS.len;refine ye (f:=y1O a X ((i:Int),ms,y)) (fun j s=>s.1=(j:Int)∧EL (st1 a) a.1 X i j s.2) (fun o=>EL (st1 a) a.1 X (i+1) 0 o) a.1.length 0 (by omega) (fun j s hj ⟨e1,hE1⟩=>?_) (fun s ⟨e1,hE1⟩=>?_) (yZl _) (0,E) ⟨rfl,hE⟩
 ·obtain ⟨c,E1⟩:=s;dsimp only at e1 hE1;subst e1;have hel:=hE1.el;have hj2:∀l:List (Int×Int×Int),y1N ((j:Int),E1) l=some (.inl (((j+1:Nat):Int),l)):=fun l=>by
   rw [y1N];dsimp only;rw [nxt (by omega)]
  left;rw [y1O];dsimp only;rw [if_pos (ct_lt hj),ya hi,yOb,ya hj,yOb,yby hr,yOb];cases hst:st1 a X[i] a.1[j] with
  | none=>
   rw [Option.getD_none,if_neg (by simp),hj2];exact⟨_,rfl,rfl,hE1.skip (yGe hi) (yGe hj) hst⟩
  | some t=>
   have ht:=y7A hr hst;obtain⟨q,_,hq⟩:=hS.f.ed i j X[i] a.1[j] t (.inl hi) (yGe hi) (yGe hj) hst;obtain⟨k,hk,hk2⟩:=yhr (xs:=X) (x:=t) (by omega) (List.mem_of_getElem? hq);rw [Option.getD_some,if_pos (by simp;omega),yOb,hk,yOb,yi (by simp;omega),yOb,hj2];exact⟨_,rfl,rfl,hE1.edge hr.ali hj (yGe hi) hst hk2⟩
 ·obtain ⟨c,E1⟩:=s;dsimp only at e1 hE1;subst e1;rw [y1O];dsimp only;rw [if_neg ct_ge];exact⟨_,rfl,hE1.next (Nat.le_refl _) hal⟩
theorem yht(hr:Right a n)(h0:0<n):∃r X,y4e a=some r∧CanOf (st1 a) a.1 a.2.2.1 r X∧0<X.length∧X.length≤n:=by
 have hnl:=hr.nl;have hl1:=hr.l1;have hl2:=hr.l2;have hal:a.1.length≤32:=Alp.len ⟨hr.ali,hr.alr⟩;obtain⟨X,kn,E0,hf,hS,x0⟩:=yiF hr h0;have hXl:=hS.len;have hX0:0<X.length:=(List.getElem?_eq_some_iff.1 x0).1;obtain⟨o,h1,hE,m1,m2,mk⟩:=ye (f:=y3e a X) (fun i s=>s.1=(i:Int)∧i≤X.length∧EL (st1 a) a.1 X i 0 s.2.2∧Inc s.2.1∧(∀x∈s.2.1,0≤x∧x<(i:Int))∧∀(c:Nat) (x:Int),c<i→X[c]? =some x→((c:Int)∈s.2.1↔x∈a.2.2.1))
   (fun o=>EL (st1 a) a.1 X X.length 0 o.2∧Inc o.1∧(∀x∈o.1,0≤x∧x<(X.length:Int))∧∀(c:Nat) (x:Int),X[c]? =some x→((c:Int)∈o.1↔x∈a.2.2.1)) X.length 0 (by omega) (fun i s hi ⟨e1,_,hE,m1,m2,mk⟩=>by
   obtain⟨c,M,E⟩:=s;dsimp only at e1 hE m1 m2 mk;subst e1;have hMl:=y5f (n:=i) (lo:=0) m1 m2 (Int.le_refl _);have hj1:∀M':List Int,Inc M'→(∀x∈M',0≤x∧x<((i+1:Nat):Int))→(∀x:Int,x≠(i:Int)→(x∈M'↔x∈M))→((i:Int)∈M'↔X[i]∈a.2.2.1)→
     ∃s',y1P a X ((i:Int),M,E) M'=some (.inl s')∧s'.1=((i+1:Nat):Int)∧i+1≤X.length∧EL (st1 a) a.1 X (i+1) 0 s'.2.2∧Inc s'.2.1∧(∀x∈s'.2.1,0≤x∧x<((i+1:Nat):Int))∧∀(c:Nat) (x:Int),c<i+1→X[c]? =some x→((c:Int)∈s'.2.1↔x∈a.2.2.1):=fun M' q1 q2 q3 q4=>by
    obtain⟨E',w1,w2⟩:=yhs hr hal hS hi (ms:=M) (y:=E) hE;rw [y1P];dsimp only;rw [w1,yOb,nxt (by omega)];refine⟨_,rfl,rfl,hi,w2,q1,q2,fun c x hc hx=>?_⟩;dsimp only;by_cases e:c=i
    ·subst e;rw [yGe hi] at hx;cases hx;exact q4
    ·rw [q3 _ (by omega)];exact mk c x (by omega) hx
   left;rw [y3e];dsimp only;rw [if_pos (ct_lt hi),ya hi,yOb,ygb (by omega),yOb];cases hm:hasB a.2.2.1 X[i] with
   | true=>
    rw [if_pos rfl,yi (by simp;omega),yOb];refine hj1 _ ?_ (fun x hx=>?_) (fun x hx=>?_) ⟨fun _=>yb.1 hm,fun _=>List.mem_append_right _ (yMs.2 rfl)⟩
    ·unfold Inc at m1 ⊢;rw [List.pairwise_append];exact⟨m1,List.pairwise_singleton _ _,fun c hc b hb=>by rw [yMs.1 hb];exact(m2 c hc).2⟩
    ·rcases yMa.1 hx with hx|hx
     ·have:=m2 x hx;omega
     ·rw [yMs.1 hx];omega
    ·rw [yMa,yMs];exact⟨fun h=>h.resolve_right hx,.inl⟩
   | false=>
    rw [if_neg (by simp)];refine hj1 M m1 (fun x hx=>by have:=m2 x hx;omega) (fun x _=>Iff.rfl) ⟨fun hx=>by have:=m2 _ hx;omega,fun hx=>?_⟩;rw [yb.2 hx] at hm;cases hm) (fun s ⟨e1,_,hE,m1,m2,mk⟩=>by
   obtain⟨c,M,E⟩:=s;dsimp only at e1 hE m1 m2 mk;subst e1;rw [y3e];dsimp only;rw [if_neg ct_ge];exact⟨_,rfl,hE,m1,m2,fun c x hx=>mk c x (List.getElem?_eq_some_iff.1 hx).1 hx⟩) (yZl _) (0,[],[]) ⟨rfl,yZl _,⟨List.Pairwise.nil,fun x hx=>(by cases hx),fun x hx=>(by cases hx),fun a b t e r hab=>by omega,by simp⟩,List.Pairwise.nil,fun x hx=>(by cases hx),fun c x hc=>absurd hc (Nat.not_lt_zero _)⟩
 obtain⟨M,E⟩:=o;dsimp only at hE m1 m2 mk;have hMl:=y5f (n:=X.length) (lo:=0) m1 m2 (Int.le_refl _);have hD:=hS.f.disc hS.nd hS.so hS.ea hr.alr;have hEE:E=E0:=y9Q (lt:=fun x y=>x.1<y.1∨(x.1=y.1∧x.2.1<y.2.1)) (fun a b h1 h2=>by omega) hE.so hD.so fun x=>by
  have same:∀{a q q':Nat} {t r r':Int},X[a]? =some t→X[q]? =some r→X[q']? =some r→q=q':=fun {a q q' t r r'} _ h1 h2=>by
   have e1:=(List.getElem?_eq_some_iff.1 h1).2;have e2:=(List.getElem?_eq_some_iff.1 h2).2;exact(List.getElem_inj hS.nd).1 (e1.trans e2.symm)
  constructor
  ·intro hx;obtain⟨c,q,t,r,g1,g2,g3,g4,g5,g6⟩:=hE.sn x hx;obtain⟨q',k1,k2⟩:=hD.ed c t x.2.1 r g3 g5 g6;have:=same (r':=r) g3 g4 k2;subst this;rw [←g1,←g2] at k1;exact k1
  ·intro hx;obtain⟨c,q,t,r,g1,g2,g3,g4,g5,g6⟩:=hD.sn x hx;obtain⟨b,hb,hbe⟩:=List.getElem_of_mem g5;obtain⟨q',k1,k2⟩:=hE.ed c b t x.2.1 r (.inl (List.getElem?_eq_some_iff.1 g3).1) g3 (by rw [yGe hb,hbe]) g6;have:=same (r':=r) g3 g4 k2;subst this;rw [←g1,←g2] at k1;exact k1
 subst hEE;have hEl:=hE.el;refine⟨(a.1,(X.length:Int),M,E),X,?_,⟨⟨rfl,by omega,hr.ali,hr.alr,m1,m2,fun x hx=>?_,hE.so,hl1,by dsimp only;omega,by dsimp only;omega⟩,rfl,fun _=>x0,hD,mk⟩,hX0,hXl⟩
 ·rw [y4e,hf,yOb,yeo (by omega),yOb,h1];rfl
 ·obtain ⟨c,q,t,r,g1,g2,g3,g4,g5,_⟩:=hE.sn x hx;have e3:=(List.getElem?_eq_some_iff.1 g3).1;have e4:=(List.getElem?_eq_some_iff.1 g4).1;exact⟨by omega,by omega,by omega,by omega,g5⟩
end
abbrev Row5 :=Int×Int×Int×Int×Int
def ycp(g:Row5×Row5×Row5×Row5×Row5):List Int:=
 [g.1.1,g.1.2.1,g.1.2.2.1,g.1.2.2.2.1,g.1.2.2.2.2,g.2.1.1,g.2.1.2.1,g.2.1.2.2.1,g.2.1.2.2.2.1,g.2.1.2.2.2.2,g.2.2.1.1,g.2.2.1.2.1,g.2.2.1.2.2.1,g.2.2.1.2.2.2.1,g.2.2.1.2.2.2.2,g.2.2.2.1.1,g.2.2.2.1.2.1,g.2.2.2.1.2.2.1,g.2.2.2.1.2.2.2.1,g.2.2.2.1.2.2.2.2,g.2.2.2.2.1,g.2.2.2.2.2.1,g.2.2.2.2.2.2.1,g.2.2.2.2.2.2.2.1,g.2.2.2.2.2.2.2.2]
structure GrIn (g:y1d):Prop where
 s:0≤g.1∧g.1<256
 c:∀y∈ycp g.2.2,0≤y∧y<256
structure MG (ev:List Int) (n i j:Nat) (E:List (Int×Int×Int)):Prop where
 er:∀x∈E,0≤x.1∧x.1≤(i:Int)∧x.2.1∈ev∧0≤x.2.2∧x.2.2<(n:Int)
 es:∀x∈E,x.1=(i:Int)→∃b,∃hb:b<ev.length,b<j∧ev[b]=x.2.1
 so:E.Pairwise fun x y=>x.1<y.1∨(x.1=y.1∧x.2.1<y.2.1)
 el:E.length≤5*i+j
theorem MG.push{ev:List Int}{n i j:Nat}{E:List (Int×Int×Int)}{q:Int}(h:MG ev n i j E)(ie:Inc ev)(hj:j<ev.length)(h0:0≤q)(h1:q<(n:Int)):MG ev n i (j+1) (E++[((i:Int),ev[j],q)]):=by
 refine⟨fun x hx=>?_,fun x hx e=>?_,?_,by have:=h.el;rw [List.length_append,List.length_singleton];omega⟩
 ·rcases yMa.1 hx with hx|hx
  ·exact h.er x hx
  ·rw [yMs.1 hx];exact⟨by dsimp only;omega,by dsimp only;omega,yGm hj,h0,h1⟩
 ·rcases yMa.1 hx with hx|hx
  ·obtain ⟨b,hb,h2,h3⟩:=h.es x hx e;exact⟨b,hb,by omega,h3⟩
  ·rw [yMs.1 hx];exact⟨j,hj,by omega,rfl⟩
 ·rw [List.pairwise_append];refine⟨h.so,List.pairwise_singleton _ _,fun a ha b hb=>?_⟩;rw [yMs.1 hb];have h2:=h.er a ha;by_cases e:a.1=(i:Int)
  ·obtain ⟨b,hb,h3,h4⟩:=h.es a ha e;refine .inr ⟨e,?_⟩;rw [←h4];exact List.pairwise_iff_getElem.1 ie b j hb hj h3
  ·exact .inl (by dsimp only;omega)
theorem MG.skip{ev:List Int}{n i j:Nat}{E:List (Int×Int×Int)}(h:MG ev n i j E):MG ev n i (j+1) E:=⟨h.er,fun x hx e=>by
 obtain⟨b,hb,h2,h3⟩:=h.es x hx e;exact⟨b,hb,by omega,h3⟩,h.so,by have:=h.el;omega⟩
theorem MG.next{ev:List Int}{n i j:Nat}{E:List (Int×Int×Int)}(h:MG ev n i j E)(hj:j≤5):MG ev n (i+1) 0 E:=⟨fun x hx=>by
 have:=h.er x hx;exact⟨this.1,by omega,this.2.2⟩,fun x hx e=>by have:=h.er x hx;omega,h.so,by have:=h.el;omega⟩
theorem yfa{ev:List Int}(ie:Inc ev)(he:∀x∈ev,0≤x∧x<32)(hel:ev.length≤5){g:y1d}(hg:GrIn g):∃r n,y4n ev g=some r∧Right r n∧n≤5∧r.1=ev:=by
 obtain⟨s,m,c⟩:=g;obtain⟨hs,hc⟩:=hg;dsimp only at hs hc;rw [y4n,yeo (by omega)];dsimp only;by_cases h250:s≥250
 ·rw [if_pos (by simpa using h250),yOb];exact⟨_,0,rfl,⟨rfl,by omega,ie,he,List.Pairwise.nil,fun x hx=>(by cases hx),fun x hx=>(by cases hx),List.Pairwise.nil,by dsimp only;omega,by simp,by simp⟩,by omega,rfl⟩
 rw [if_neg (by simpa using h250),yOb];obtain⟨n,hn0,hn5,hn⟩:∃n:Nat,0<n∧n≤5∧W (1+W (s.tmod 5))=(n:Int):=by
  refine⟨(1+s % 5).toNat,by omega,by omega,?_⟩;rw [Int.tmod_eq_emod_of_nonneg hs.1,W_of (x:=s % 5) (by omega) (by omega),W_of (by omega) (by omega)];omega
 have hn2:W ((n:Int)+2)=((n+2:Nat):Int):=by rw [show (n:Int)+2=((n+2:Nat):Int) by omega,W_nat (by omega)]
 rw [hn];obtain⟨o,h1,m1,m2,hM⟩:=ye (f:=y4K ev (s,m,c)) (fun i t=>t.1=(i:Int)∧Inc t.2.1∧(∀x∈t.2.1,0≤x∧x<(i:Int))∧MG ev n i 0 t.2.2) (fun o=>Inc o.1∧(∀x∈o.1,0≤x∧x<(n:Int))∧MG ev n n 0 o.2) n 0 (by omega) (fun i t hi ⟨e1,m1,m2,hM⟩=>by
   obtain⟨t1,t2,t3⟩:=t;dsimp only at e1 m1 m2 hM;subst e1;have hMl:=y5f (n:=i) (lo:=0) m1 m2 (Int.le_refl _);have hj:∀l:List Int,Inc l→(∀x∈l,0≤x∧x<((i+1:Nat):Int))→∃s',y3j ev (s,m,c) ((i:Int),t2,t3) l=some (.inl s')∧s'.1=((i+1:Nat):Int)∧Inc s'.2.1∧(∀x∈s'.2.1,0≤x∧x<((i+1:Nat):Int))∧MG ev n (i+1) 0 s'.2.2:=by
    intro l hl1 hl2;obtain⟨o,h1,h2⟩:=ye (f:=y4J ev (s,m,c) ((i:Int),t2,t3)) (fun k t=>t.1=(k:Int)∧MG ev n i k t.2) (fun o=>MG ev n i ev.length o) ev.length 0 (by omega) (fun k t hk ⟨g1,g2⟩=>by
      obtain⟨u1,u2⟩:=t;dsimp only at g1 g2;subst g1;have hel2:=g2.el;have hj2:∀l:List (Int×Int×Int),y3i ((k:Int),u2) l=some (.inl (((k+1:Nat):Int),l)):=fun l=>by
       rw [y3i];dsimp only;rw [nxt (by omega)]
      left;have hlt:i*5+k*1<(ycp c).length:=by show _<25;omega
      obtain⟨v,hcell,hv⟩:∃v,(ycp c)[i*5+k*1]? =some v∧0≤v∧v<256:=⟨_,yGe hlt,hc _ (yGm hlt)⟩;rw [ycp] at hcell;rw [y4J];dsimp only;rw [if_pos (by simp;omega),show rng (i:Int) 5=some () from if_pos (by simp;omega),yOb,show rng (k:Int) 5=some () from if_pos (by simp;omega),yOb,Int.toNat_natCast,Int.toNat_natCast,hcell,yOb,hn,hn2,show nz ((n+2:Nat):Int)=some () from if_neg (by omega),yOb,W_of (x:=v) (by omega) (by omega),Int.tmod_eq_emod_of_nonneg hv.1];have hm0:=Int.emod_nonneg v (show ((n+2:Nat):Int)≠0 by omega);by_cases hlt2:v % ((n+2:Nat):Int)<(n:Int)
      ·rw [if_pos (decide_eq_true hlt2),ya hk,yOb,yi (by rw [List.length_cons,List.length_nil];omega),yOb,hj2];exact⟨_,rfl,rfl,g2.push ie hk hm0 hlt2⟩
      ·rw [if_neg (by simpa using hlt2),hj2];exact⟨_,rfl,rfl,g2.skip⟩) (fun t ⟨g1,g2⟩=>by
      obtain⟨u1,u2⟩:=t;dsimp only at g1 g2;subst g1;rw [y4J];dsimp only;rw [if_neg (by simp)];exact⟨_,rfl,g2⟩) (yZl _) (0,t3) ⟨rfl,hM⟩
    rw [y3j];dsimp only;rw [h1,yOb,nxt (by omega)];exact⟨_,rfl,rfl,hl1,hl2,h2.next hel⟩
   left;rw [y4K];dsimp only;rw [hn,if_pos (by simp;omega),show ng (i:Int)=some () from if_neg (by omega),yOb];split
   ·rw [yi (by simp;omega),yOb];refine hj _ ?_ (fun x hx=>?_)
    ·unfold Inc at m1 ⊢;rw [List.pairwise_append];exact⟨m1,List.pairwise_singleton _ _,fun c hc b hb=>by rw [yMs.1 hb];exact(m2 c hc).2⟩
    ·rcases yMa.1 hx with hx|hx
     ·have:=m2 x hx;omega
     ·rw [yMs.1 hx];omega
   ·exact hj _ m1 (fun x hx=>by have:=m2 x hx;omega)) (fun t ⟨e1,m1,m2,hM⟩=>by
   obtain⟨t1,t2,t3⟩:=t;dsimp only at e1 m1 m2 hM;subst e1;rw [y4K];dsimp only;rw [hn,if_neg (by simp)];exact⟨_,rfl,m1,m2,hM⟩) (yZl _) (0,[],[]) ⟨rfl,List.Pairwise.nil,fun x hx=>(by cases hx),⟨fun x hx=>(by cases hx),fun x hx=>(by cases hx),List.Pairwise.nil,by simp⟩⟩
 obtain⟨M,E⟩:=o;dsimp only at m1 m2 hM;have hMl:=y5f (n:=n) (lo:=0) m1 m2 (Int.le_refl _);have hel2:=hM.el;have hR:Right (ev,(n:Int),M,E) n:=⟨rfl,by omega,ie,he,m1,m2,fun x hx=>by
  have h:=hM.er x hx;refine⟨h.1,?_,h.2.2.2.1,h.2.2.2.2,h.2.2.1⟩;by_cases e:x.1=(n:Int)
  ·obtain ⟨b,_,hb,_⟩:=hM.es x hx e;omega
  ·omega,hM.so,by dsimp only;omega,by dsimp only;omega,by dsimp only;omega⟩
 obtain⟨r,X,hc1,hc2,hc3,hc4⟩:=yht hR hn0;rw [h1,yOb,hc1,yOb];exact⟨r,X.length,rfl,hc2.right,by omega,hc2.ale⟩
structure PbOk (q:ProbT) (n1 n2:Nat):Prop where
 rP:Right q.1 n1
 rS:Right q.2.1 n2
 l1:n1≤40
 l2:n2≤40
 sub:∀x∈q.2.1.1,x∈q.1.1
 iu:Inc q.2.2
 ur:∀x∈q.2.2,0≤x∧x<32
theorem PbOk.open{q:ProbT}{n1 n2:Nat}(h:PbOk q n1 n2):∃t p T n1 n2 n,y5j q=some (some t,0)∧TaskOk q t p T n1 n2 n∧yo [q.1,q.2.1]=some (p,T,0):=by
 have hu:=Alp.len ⟨h.iu,h.ur⟩;refine yhn ⟨h.rP.l1,h.rP.l2,h.rP.l3,h.rS.l1,h.rS.l2,h.rS.l3,by omega⟩ ?_ (by rw [h.rP.nn];have:=h.l1;omega) (by rw [h.rS.nn];have:=h.l2;omega);have hm:mg (fun a b=>a && !b) q.2.1.1 q.1.1= []:=List.eq_nil_iff_forall_not_mem.2 fun x hx=>by
  rw [(y4G (fun a b=>a && !b) q.2.1.1 q.1.1 h.rS.ali h.rP.ali).2] at hx;obtain⟨_,h2⟩:=hx;rw [Bool.and_eq_true,yb] at h2;have:=yb.2 (h.sub x h2.1);rw [this] at h2;simp at h2
 unfold errP;rw [h.rP.err,h.rS.err,hm,if_neg (by simp),if_neg (by simp),if_neg (by simp)];exact y6S h.iu h.ur (fun q hq=>by cases hq)
abbrev PartT :=Int×y1d
abbrev Des26 :=PartT×PartT×Int
structure Des26In (d:Des26):Prop where
 g1:GrIn d.1.2
 g2:GrIn d.2.1.2
theorem yhu{d:Des26}(hd:Des26In d):∃q n1 n2,y6g d=some q∧PbOk q n1 n2∧n1≤5∧n2≤5∧∀x∈q.1.1,0≤x∧x<5:=by
 obtain⟨e1,a1,i1,r1,z1⟩:=ycZ d.1.1;obtain⟨P,n1,b1,R1,s1,t1⟩:=yfa i1 (fun x hx=>by have:=r1 x hx;omega) z1 hd.g1;obtain⟨e2,a2,i2,r2,z2⟩:=ycZ d.2.1.1;have hsp:=y4G (fun a b=>a&&b) e2 P.1 i2 R1.ali;have hmem:∀x,x∈mg (fun a b=>a&&b) e2 P.1→x∈e2∧x∈P.1:=fun x hx=>by
  have:=(hsp.2 x).1 hx;simp only [Bool.and_eq_true] at this;exact⟨yb.1 this.2.1,yb.1 this.2.2⟩
 have hl:=y5f (n:=5) (lo:=0) hsp.1 (fun x hx=>r2 x (hmem x hx).1) (Int.le_refl _);obtain⟨S,n2,b2,R2,s2,t2⟩:=yfa hsp.1 (fun x hx=>by have:=r2 x (hmem x hx).1;omega) (by omega) hd.g2;obtain⟨e3,a3,i3,r3,z3⟩:=ycZ d.2.2;refine⟨(P,S,e3),n1,n2,?_,⟨R1,R2,by omega,by omega,fun x hx=>?_,i3,fun x hx=>by have:=r3 x hx;omega⟩,s1,s2,fun x hx=>?_⟩
 ·rw [y6g,a1,yOb,b1,yOb,a2,yOb,yc1 (by omega) R1.l1,yOb,b2,yOb,a3];rfl
 ·dsimp only at hx;rw [t2] at hx;exact(hmem x hx).2
 ·dsimp only at hx;rw [t1] at hx;exact r1 x hx
def stK(a:AutT)(g:List Bool)(s e:Int):Option Int:=(st1 a s e).filter fun t=>g.getD t.toNat false
theorem yd0{a:AutT}{n:Nat}(hr:Right a n){g:List Bool}{s e t:Int}:stK a g s e=some t↔(s,e,t)∈a.2.2.2∧g.getD t.toNat false=true:=by
 unfold stK;rw [Option.filter_eq_some_iff,y7q hr]
theorem yiG{a:AutT}{n:Nat}(hr:Right a n)(hE32:a.1.length≤32){g:List Bool}{i s:Nat}{X:List Int}{kn:List (Int×Int)}{E:List (Int×Int×Int)}(hS:SR (stK a g) a.1 n i 0 X kn E)(hi:X[i]? =some (s:Int))(M:List Int){os:List (Int×Int×Int)}(hos:os=a.2.2.2.filter fun x=>x.1==(s:Int)&&g.getD x.2.2.toNat false):
  ∃kn' X' E',iter (yX ((i:Int),X,kn,M,E) os) (0,X,kn,E)=some (X',kn',E')∧SR (stK a g) a.1 n (i+1) 0 X' kn' E'∧∃U,X'=X++U:=by
 have hnl:=hr.nl;have hl3:=hr.l3;have hil:i<X.length:=(List.getElem?_eq_some_iff.1 hi).1;have hmem:∀x∈os,x∈a.2.2.2∧x.1=(s:Int)∧g.getD x.2.2.toNat false=true:=fun x hx=>by
  rw [hos] at hx;have:=List.mem_filter.1 hx;rw [Bool.and_eq_true] at this;exact⟨this.1,by simpa using this.2.1,this.2.2⟩
 have hso:os.Pairwise fun x y=>x.2.1<y.2.1:=by
  have h:=hr.so.filter (fun x=>x.1==(s:Int)&&g.getD x.2.2.toNat false);rw [←hos] at h;refine h.imp_of_mem fun {x y} hx hy hxy=>?_;have:=(hmem x hx).2.1;have:=(hmem y hy).2.1;omega
 have hol:os.length≤1000000:=by rw [hos];exact Nat.le_trans (List.length_filter_le _ _) hl3
 have hin:∀{e t:Int},stK a g (s:Int) e=some t→((s:Int),e,t)∈os:=fun {e t} h=>by
  rw [hos];have:=(yd0 hr).1 h;exact List.mem_filter.2 ⟨this.1,by simp only [beq_self_eq_true,Bool.true_and];exact this.2⟩
 obtain⟨o,h1,j,hS',hU,hj,hlast⟩:=ye (f:=yX ((i:Int),X,kn,M,E) os)
  (fun k s'=>s'.1=(k:Int)∧k≤os.length∧∃j,SR (stK a g) a.1 n i j s'.2.1 s'.2.2.1 s'.2.2.2∧(∃U,s'.2.1=X++U)∧j≤a.1.length∧
   (∀c (hc:c<a.1.length),c<j→∀k' (hk:k'<os.length),k≤k'→os[k'].2.1≠a.1[c])∧∀k' (hk:k'<os.length),k'<k→∀c (hc:c<a.1.length),j≤c→os[k'].2.1≠a.1[c])
  (fun o=>∃j,SR (stK a g) a.1 n i j o.1 o.2.1 o.2.2∧(∃U,o.1=X++U)∧j≤a.1.length∧∀k' (hk:k'<os.length),∀c (hc:c<a.1.length),j≤c→os[k'].2.1≠a.1[c])
  os.length 0 (by omega) (fun k s' hk ⟨e1,_,j,hS',⟨U,hU⟩,hj,hlo,hhi⟩=>by
   obtain⟨c',X1,kn',E1⟩:=s';dsimp only at e1 hS' hU;subst e1;have hx:=hmem _ (yGm hk);have hxe:=hr.es _ hx.1;obtain⟨t,ht⟩:∃t:Nat,os[k].2.2=(t:Int):=⟨os[k].2.2.toNat,by omega⟩;have htn:t<n:=by omega
   obtain⟨b,hb,hbe⟩:=List.getElem_of_mem hxe.2.2.2.2;have hjb:j≤b:=Nat.le_of_not_lt fun hlt=>hlo b hb hlt k hk (Nat.le_refl _) hbe.symm;have hiX:X1[i]? =some (s:Int):=by rw [hU,List.getElem?_append_left hil];exact hi
   have hstx:stK a g (s:Int) a.1[b]=some (t:Int):=by
    rw [yd0 hr,hbe,←ht];refine⟨?_,hx.2.2⟩;rw [←hx.2.1];exact hx.1
   have hSb:=hS'.skips hiX b hjb (by omega) fun c hc h1 h2=>by
    cases hst:stK a g (s:Int) a.1[c] with
    | none=>rfl
    | some v=>
     exfalso;obtain⟨k',hk',e'⟩:=List.getElem_of_mem (hin hst);have ev:os[k'].2.1=a.1[c]:=by rw [e']
     have hcb:a.1[c]<a.1[b]:=List.pairwise_iff_getElem.1 hr.ali c b hc hb h2;by_cases h3:k'<k
     ·exact hhi k' hk' h3 c hc h1 ev
     ·by_cases h4:k'=k
      ·subst h4;omega
      ·have:=List.pairwise_iff_getElem.1 hso k k' hk hk' (by omega);omega
   have hpos:∀(X2:List Int) (E2:List (Int×Int×Int)) (kn2:List (Int×Int)),SR (stK a g) a.1 n i (b+1) X2 kn2 E2→(∃U,X2=X++U)→
     (∃j,SR (stK a g) a.1 n i j X2 kn2 E2∧(∃U,X2=X++U)∧j≤a.1.length∧
   (∀c (hc:c<a.1.length),c<j→∀k' (hk:k'<os.length),k+1≤k'→os[k'].2.1≠a.1[c])∧∀k' (hk:k'<os.length),k'<k+1→∀c (hc:c<a.1.length),j≤c→os[k'].2.1≠a.1[c]):=fun X2 E2 kn2 g1 g3=>by
    refine⟨b+1,g1,g3,hb,fun c hc h1 k' hk' h2 e=>?_,fun k' hk' h2 c hc h1 e=>?_⟩
    ·have h5:=List.pairwise_iff_getElem.1 hso k k' hk hk' (by omega);by_cases h6:c=b
     ·subst h6;omega
     ·have:=List.pairwise_iff_getElem.1 hr.ali c b hc hb (by omega);omega
    ·have h5:=List.pairwise_iff_getElem.1 hr.ali b c hb hc (by omega);by_cases h6:k'=k
     ·subst h6;omega
     ·have:=List.pairwise_iff_getElem.1 hso k' k hk' hk (by omega);omega
   have hXl:=hSb.len;have hEl:=hSb.el;have hil2:i<n:=by have:=(List.getElem?_eq_some_iff.1 hiX).1;omega
   have hj2:∀(X2:List Int) (v:Int) (kn2:List (Int×Int)),yW ((i:Int),X,kn,M,E) os[k] ((k:Int),X1,kn',E1) X2 v kn2=some (.inl (((k+1:Nat):Int),X2,kn2,E1++[((i:Int),os[k].2.1,v)])):=fun X2 v kn2=>by
    rw [yW];dsimp only;rw [yi (by simp;omega),yOb,nxt (by omega)]
   left;rw [yX];dsimp only;rw [if_pos (ct_lt hk),ya hk,yOb,ht];cases hkg:kget kn' (t:Int) with
   | none=>
    rw [if_pos (by simp),yi (by simp;omega),yOb,hj2];refine⟨_,rfl,rfl,hk,?_⟩;dsimp only;rw [←hbe];exact hpos _ _ _ (hSb.new hr.ali hb hiX hstx hkg (by omega) (by omega)) ⟨U++[(t:Int)],by rw [hU,List.append_assoc]⟩
   | some v=>
    obtain⟨q,hv,hq⟩:=hSb.k1 _ _ hkg;subst hv;rw [if_neg (by simp),hj2];refine⟨_,rfl,rfl,hk,?_⟩;dsimp only;rw [←hbe,Option.getD_some];exact hpos _ _ _ (hSb.edge hr.ali hb hiX hstx hq) ⟨U,hU⟩) (fun s' ⟨e1,_,j,hS',hU,hj,hlo,hhi⟩=>by
   obtain⟨c',X1,kn',E1⟩:=s';dsimp only at e1 hS' hU;subst e1;refine⟨(X1,kn',E1),?_,j,hS',hU,hj,fun k' hk' c hc hjc=>hhi k' hk' hk' c hc hjc⟩;rw [yX];dsimp only;rw [if_neg ct_ge]) (yZl _) (0,X,kn,E) ⟨rfl,yZl _,0,hS,⟨[],(List.append_nil _).symm⟩,yZl _,fun c hc h=>absurd h (Nat.not_lt_zero _),fun k' hk' h=>absurd h (Nat.not_lt_zero _)⟩
 obtain⟨X',kn',E'⟩:=o;obtain⟨U,hU⟩:=hU;dsimp only at hS' hU;have hiX:X'[i]? =some (s:Int):=by rw [hU,List.getElem?_append_left hil];exact hi
 have hSe:=hS'.skips hiX a.1.length hj (Nat.le_refl _) fun c hc h1 _=>by
  cases hst:stK a g (s:Int) a.1[c] with
  | none=>rfl
  | some v=>
   exfalso;obtain⟨k',hk',e'⟩:=List.getElem_of_mem (hin hst);exact hlast k' hk' c hc h1 (by rw [e'])
 exact⟨kn',X',E',h1,hSe.next (Nat.le_refl _) hE32,U,hU⟩
theorem ygz{a:AutT}{n:Nat}(hr:Right a n){g:List Bool}(hg:g.length=n)(p:AutT×List Int×List (Int×List Int)×List Bool)(hp1:p.1=a)(hp2:p.2.2.2=g):
  ∃R:List EdgL,iter (y1a p) (0,List.replicate n [])=some R∧R.length=n∧∀s:Nat,s<n→R[s]? =some (a.2.2.2.filter fun x=>x.1==(s:Int)&&g.getD x.2.2.toNat false):=by
 subst hp1 hp2;have hl3:=hr.l3;have hnl:=hr.nl;obtain⟨R,h1,h2,h3⟩:=ye (f:=y1a p) (fun i s=>s.1=(i:Int)∧i≤p.1.2.2.2.length∧s.2.length=n∧∀t:Nat,t<n→s.2[t]? =some ((p.1.2.2.2.take i).filter fun x=>x.1==(t:Int)&&p.2.2.2.getD x.2.2.toNat false))
  (fun R=>R.length=n∧∀t:Nat,t<n→R[t]? =some (p.1.2.2.2.filter fun x=>x.1==(t:Int)&&p.2.2.2.getD x.2.2.toNat false)) p.1.2.2.2.length 0 (by omega) (fun i s hi ⟨e1,_,hl,hR⟩=>by
   obtain⟨c,R⟩:=s;dsimp only at e1 hl hR;subst e1;have hx:=hr.es _ (yGm hi);obtain⟨q,hq⟩:∃q:Nat,(p.1.2.2.2[i]).1=(q:Int):=⟨(p.1.2.2.2[i]).1.toNat,by omega⟩;obtain⟨t,ht⟩:∃t:Nat,(p.1.2.2.2[i]).2.2=(t:Int):=⟨(p.1.2.2.2[i]).2.2.toNat,by omega⟩;have hqn:q<n:=by omega
   have htn:t<p.2.2.2.length:=by omega
   have hql:q<R.length:=by omega
   have hRq:R[q]=(p.1.2.2.2.take i).filter fun x=>x.1==(q:Int)&&p.2.2.2.getD x.2.2.toNat false:=by
    have:=hR q hqn;rw [yGe hql] at this;exact Option.some.inj this
   have hgt:p.2.2.2.getD (p.1.2.2.2[i]).2.2.toNat false=p.2.2.2[t]:=by
    rw [ht,Int.toNat_natCast,List.getD_eq_getElem?_getD,yGe htn,Option.getD_some]
   have htake:p.1.2.2.2.take (i+1)=p.1.2.2.2.take i++[p.1.2.2.2[i]]:=by rw [List.take_add_one,yGe hi];rfl
   left;rw [y1a];dsimp only;rw [if_pos (ct_lt hi),ya hi,yOb,ht,ya htn,yOb];cases hgb:p.2.2.2[t] with
   | true=>
    have hlen:R[q].length≤1000000:=by rw [hRq];exact Nat.le_trans (List.length_filter_le _ _) (Nat.le_trans (List.length_take_le _ _) (by omega))
    rw [if_pos rfl,hq,ya hql,yOb,yi (by simp;omega),yOb,yOb,y9y hql,yOb,yZ];dsimp only;rw [nxt (by omega)];refine⟨_,rfl,rfl,hi,by dsimp only;rw [List.length_set];exact hl,fun s' hs'=>?_⟩;dsimp only;rw [List.getElem?_set,htake,List.filter_append];by_cases e:q=s'
    ·subst e;rw [if_pos rfl,if_pos hql,hRq,List.filter_cons_of_pos (by rw [hq,hgt,hgb];simp)];rfl
    ·rw [if_neg e,List.filter_cons_of_neg (by rw [hq];simp;omega),List.filter_nil,List.append_nil];exact hR s' hs'
   | false=>
    rw [if_neg (by simp),yZ];dsimp only;rw [nxt (by omega)];refine⟨_,rfl,rfl,hi,hl,fun s' hs'=>?_⟩;dsimp only;rw [htake,List.filter_append,List.filter_cons_of_neg (by rw [hgt,hgb];simp),List.filter_nil,List.append_nil];exact hR s' hs') (fun s ⟨e1,_,hl,hR⟩=>by
   obtain⟨c,R⟩:=s;dsimp only at e1 hl hR;subst e1;refine⟨R,?_,hl,fun t ht=>by have:=hR t ht;rwa [List.take_length] at this⟩;rw [y1a];dsimp only;rw [if_neg ct_ge]) (yZl _) (0,List.replicate n []) ⟨rfl,yZl _,by simp,fun t ht=>by simp [List.getElem?_replicate,ht]⟩
 exact⟨R,h1,h2,h3⟩
theorem yiH{a:AutT}{n:Nat}(hr:Right a n){g:List Bool}(hg:g.length=n)(p:AutT×List Int×List (Int×List Int)×List Bool)(hp1:p.1=a)(hp2:p.2.2.2=g):
  ∃r X,y2E p=some (r,X)∧CanOf (stK a g) a.1 a.2.2.1 r X∧X.length≤n∧∀s∈X,0≤s∧s<(n:Int)∧g.getD s.toNat false=true:=by
 subst hp1 hp2;have hnn:=hr.nn;have hnl:=hr.nl;have hl1:=hr.l1;have hal:p.1.1.length≤32:=Alp.len ⟨hr.ali,hr.alr⟩;have hcl:yT p.1.1=some p.1.1:=y8o (by omega);have hemp:∃r X,some ((p.1.1,(0:Int),([]:List Int),([]:List (Int×Int×Int))),([]:List Int))=some (r,X)∧CanOf (stK p.1 p.2.2.2) p.1.1 p.1.2.2.1 r X∧X.length≤n∧∀s∈X,0≤s∧s<(n:Int)∧p.2.2.2.getD s.toNat false=true:=
  ⟨_,[],rfl,⟨⟨rfl,by simp,hr.ali,hr.alr,List.Pairwise.nil,fun x hx=>(by cases hx),fun x hx=>(by cases hx),List.Pairwise.nil,hl1,by simp,by simp⟩,rfl,fun h=>absurd h (by simp),(Fnd.start (by simp)).disc List.nodup_nil List.Pairwise.nil (fun x hx=>(by cases hx)) hr.alr,fun i s hi=>by simp at hi⟩,by simp,fun s hs=>by cases hs⟩
 rw [y2E,hcl,yOb,hnn];by_cases h0:n=0
 ·subst h0;rw [if_pos (by simp),yOb,if_pos rfl];exact hemp
 have hg0:0<p.2.2.2.length:=by omega
 rw [if_neg (by simp;omega),show idx p.2.2.2 0=some p.2.2.2[0] from ya hg0,yOb,yOb];cases hb:p.2.2.2[0] with
 | false=>
  rw [if_pos (show (!false)=true from rfl)];exact hemp
 | true=>
 obtain⟨R,f1,f2,f3⟩:=ygz hr hg p rfl rfl;have hS0:SR (stK p.1 p.2.2.2) p.1.1 n 0 0 [0] (kput [] 0 0) []:=by
  refine⟨Fnd.start (by simp),fun s v hv=>?_,fun s hs=>?_,by simp,fun s hs=>?_,List.Pairwise.nil,fun x hx=>(by cases hx),fun x hx=>(by cases hx),by simp⟩
  ·rw [y5A] at hv;split at hv
   ·rename_i e;subst e;cases hv;exact⟨0,rfl,rfl⟩
   ·cases hv
  ·rw [yMs.1 hs,y5A,if_pos rfl];rfl
  ·rw [yMs.1 hs];omega
 obtain⟨o,g1,kn,g2,g3,g4,g5,g6⟩:=ye (f:=yY p R) (fun i s=>s.1=(i:Int)∧i≤s.2.1.length∧SR (stK p.1 p.2.2.2) p.1.1 n i 0 s.2.1 s.2.2.1 s.2.2.2.2∧Inc s.2.2.2.1∧(∀x∈s.2.2.2.1,0≤x∧x<(i:Int))∧s.2.1[0]? =some 0∧∀(c:Nat) (x:Int),c<i→s.2.1[c]? =some x→((c:Int)∈s.2.2.2.1↔x∈p.1.2.2.1))
  (fun o=>∃kn,SR (stK p.1 p.2.2.2) p.1.1 n o.1.length 0 o.1 kn o.2.2∧Inc o.2.1∧(∀x∈o.2.1,0≤x∧x<(o.1.length:Int))∧o.1[0]? =some 0∧∀(c:Nat) (x:Int),o.1[c]? =some x→((c:Int)∈o.2.1↔x∈p.1.2.2.1)) n 0 (by omega) (fun i s hi ⟨e1,hle,hS,m1,m2,x0,mk⟩=>by
   obtain⟨k,X,kn,M,E⟩:=s;dsimp only at e1 hle hS m1 m2 x0 mk;subst e1;have hXl:=hS.len;have hMl:=y5f (n:=i) (lo:=0) m1 m2 (Int.le_refl _);by_cases hiq:i<X.length
   ·left;have hq:=hS.tr _ (yGm hiq);obtain⟨s,hs⟩:∃s:Nat,X[i]=(s:Int):=⟨X[i].toNat,by omega⟩;have hsn:s<n:=by omega
    have hsR:s<R.length:=by omega
    have hRs:R[s]=p.1.2.2.2.filter fun x=>x.1==(s:Int)&&p.2.2.2.getD x.2.2.toNat false:=by
     have:=f3 s hsn;rw [yGe hsR] at this;exact Option.some.inj this
    obtain⟨kn',X',E',w1,w2,U,hU⟩:=yiG hr hal hS (by rw [yGe hiq,hs]) M hRs;have hpre:∀c,c<X.length→X'[c]? =X[c]? :=fun c hc=>by rw [hU,List.getElem?_append_left hc]
    have hXX:X.length≤X'.length:=by rw [hU];simp
    have hiX':i<X'.length:=by omega
    have hXi:X'[i]=(s:Int):=by
     have:=hpre i hiq;rw [yGe hiq,yGe hiX',hs] at this;exact Option.some.inj this
    have hml:p.1.2.2.1.length<4611686018427387904:=by have:=hr.l2;omega
    have hj1:∀M':List Int,Inc M'→(∀x∈M',0≤x∧x<((i+1:Nat):Int))→(∀x:Int,x≠(i:Int)→(x∈M'↔x∈M))→((i:Int)∈M'↔(s:Int)∈p.1.2.2.1)→
      ∃s',yV ((i:Int),X,kn,M,E) X' kn' M' E'=some (.inl s')∧s'.1=((i+1:Nat):Int)∧i+1≤s'.2.1.length∧SR (stK p.1 p.2.2.2) p.1.1 n (i+1) 0 s'.2.1 s'.2.2.1 s'.2.2.2.2∧Inc s'.2.2.2.1∧(∀x∈s'.2.2.2.1,0≤x∧x<((i+1:Nat):Int))∧s'.2.1[0]? =some 0∧∀(c:Nat) (x:Int),c<i+1→s'.2.1[c]? =some x→((c:Int)∈s'.2.2.2.1↔x∈p.1.2.2.1):=fun M' q1 q2 q3 q4=>by
     rw [yV];dsimp only;rw [nxt (by omega)];refine⟨_,rfl,rfl,by dsimp only;omega,w2,q1,q2,?_,fun c x hc hx=>?_⟩
     ·dsimp only;rw [hpre 0 (by omega)];exact x0
     ·dsimp only at hx ⊢;rw [hpre c (by omega)] at hx;by_cases e:c=i
      ·subst e;rw [yGe hiq,hs] at hx;cases hx;exact q4
      ·rw [q3 _ (by omega)];exact mk c x (by omega) hx
    rw [yY];dsimp only;rw [if_pos (ct_lt hiq),ya hiq,yOb,hs,ya hsR,yOb,w1,yOb];dsimp only;rw [ya hiX',yOb,hXi,y1b hml,yOb];cases hm:hasB p.1.2.2.1 (s:Int) with
    | true=>
     rw [if_pos rfl,yi (by simp;omega),yOb];refine hj1 _ ?_ (fun x hx=>?_) (fun x hx=>?_) ⟨fun _=>yb.1 hm,fun _=>List.mem_append_right _ (yMs.2 rfl)⟩
     ·unfold Inc at m1 ⊢;rw [List.pairwise_append];exact⟨m1,List.pairwise_singleton _ _,fun c hc b hb=>by rw [yMs.1 hb];exact(m2 c hc).2⟩
     ·rcases yMa.1 hx with hx|hx
      ·have:=m2 x hx;omega
      ·rw [yMs.1 hx];omega
     ·rw [yMa,yMs];exact⟨fun h=>h.resolve_right hx,.inl⟩
    | false=>
     rw [if_neg (by simp)];refine hj1 M m1 (fun x hx=>by have:=m2 x hx;omega) (fun x _=>Iff.rfl) ⟨fun hx=>by have:=m2 _ hx;omega,fun hx=>?_⟩;rw [yb.2 hx] at hm;cases hm
   ·right;obtain rfl:i=X.length:=by omega
    refine⟨(X,M,E),?_,kn,hS,m1,m2,x0,fun c x hx=>mk c x (List.getElem?_eq_some_iff.1 hx).1 hx⟩;rw [yY];dsimp only;rw [if_neg ct_ge]) (fun s ⟨e1,hle,hS,m1,m2,x0,mk⟩=>by
   obtain⟨k,X,kn,M,E⟩:=s;dsimp only at e1 hle hS m1 m2 x0 mk;subst e1;have hXl:=hS.len;have hnq:n=X.length:=by omega
   refine⟨(X,M,E),?_,kn,by dsimp only;rw [←hnq];exact hnq▸hS,m1,by dsimp only;rw [←hnq];exact m2,x0,fun c x hx=>mk c x (by have h8:c<X.length:=(List.getElem?_eq_some_iff.1 hx).1;omega) hx⟩;rw [yY];dsimp only;rw [if_neg (by simp;omega)]) (yZl _) (0,[0],kput [] 0 0,[],[]) ⟨rfl,by simp,hS0,List.Pairwise.nil,fun x hx=>(by cases hx),rfl,fun c x hc=>absurd hc (Nat.not_lt_zero _)⟩
 obtain⟨X,M,E⟩:=o;dsimp only at g2 g3 g4 g5 g6;have hXl:=g2.len;have hEl:=g2.el;have hMl:=y5f (n:=X.length) (lo:=0) g3 g4 (Int.le_refl _);have hX0:0<X.length:=(List.getElem?_eq_some_iff.1 g5).1;refine⟨(p.1.1,(X.length:Int),M,E),X,?_,⟨⟨rfl,by omega,hr.ali,hr.alr,g3,g4,fun x hx=>?_,g2.so,hl1,by dsimp only;omega,by dsimp only;omega⟩,rfl,fun _=>g5,g2.f.disc g2.nd g2.so g2.ea hr.alr,g6⟩,hXl,fun s hs=>?_⟩
 ·rw [if_neg (by simp),y9n (by omega) (by omega),yOb,Int.toNat_natCast,f1,yOb,g1];rfl
 ·obtain ⟨c,b,s,r,q1,q2,q3,q4,q5⟩:=g2.f.sn x hx;have e3:=(List.getElem?_eq_some_iff.1 q3).1;have e4:=(List.getElem?_eq_some_iff.1 q4).1;exact⟨by omega,by omega,by omega,by omega,g2.ea x hx⟩
 ·refine ⟨(g2.tr s hs).1,(g2.tr s hs).2,?_⟩;obtain⟨k,hk,rfl⟩:=List.getElem_of_mem hs;by_cases hk0:k=0
  ·subst hk0;rw [yGe hX0] at g5;rw [Option.some.inj g5,Int.toNat_zero,List.getD_eq_getElem?_getD,yGe hg0,Option.getD_some,hb]
  ·obtain ⟨x,hx,e⟩:=g2.f.cov k (by omega) hk;obtain⟨c,b,s,r,q1,q2,q3,q4,q5⟩:=g2.f.sn x hx;obtain rfl:b=k:=by omega
   rw [yGe hk] at q4;rw [Option.some.inj q4];exact((yd0 hr).1 q5).2
inductive LiveG (a:AutT) (g:List Bool):Nat→Prop
 | mk {s:Nat}:g[s]? =some true→(s:Int)∈a.2.2.1→LiveG a g s
 | st {s t:Nat} {e:Int}:g[s]? =some true→((s:Int),e,(t:Int))∈a.2.2.2→LiveG a g t→LiveG a g s
structure DQs (a:AutT) (g:List Bool) (n:Nat) (Q d:List Int):Prop where
 dl:d.length=n
 qn:Q.Nodup
 qd:∀(k:Nat) (x:Int),Q[k]? =some x→∃s:Nat,x=(s:Int)∧s<n∧∃v:Int,d[s]? =some v∧0≤v∧v≤(k:Int)
 lv:∀(s:Nat) (v:Int),d[s]? =some v→0≤v→LiveG a g s
theorem DQs.len{a:AutT}{g:List Bool}{n:Nat}{Q d:List Int}(h:DQs a g n Q d):Q.length≤n:=by
 have hr:∀x∈Q,0≤x∧x<(n:Int):=fun x hx=>by
  obtain⟨k,hk,rfl⟩:=List.getElem_of_mem hx;obtain⟨s,e,h1,_⟩:=h.qd k _ (yGe hk);omega
 have:=y8s n (Q.map Int.toNat) (by
  unfold List.Nodup;rw [List.pairwise_map];refine h.qn.imp_of_mem fun {a b} ha hb hab=>?_;have h1:=hr a ha;have h2:=hr b hb;omega) (fun x hx=>by
  obtain⟨y,hy,rfl⟩:=List.mem_map.1 hx;have:=hr y hy;omega)
 simpa using this
theorem DQs.add{a:AutT}{g:List Bool}{n:Nat}{Q d:List Int}(h:DQs a g n Q d){s:Nat}(hs:s<n){v0 v:Int}(hd:d[s]? =some v0)(hv0:v0<0)(v1:0≤v)(v2:v≤(Q.length:Int))(hl:LiveG a g s):DQs a g n (Q++[(s:Int)]) (d.set s v):=by
 have hsd:s<d.length:=by rw [h.dl];exact hs
 refine⟨by rw [List.length_set];exact h.dl,?_,fun k x hx=>?_,fun t w hw h0=>?_⟩
 ·unfold List.Nodup;rw [List.pairwise_append];refine⟨h.qn,List.pairwise_singleton _ _,fun x hx y hy e=>?_⟩;rw [yMs.1 hy] at e;subst e;obtain⟨k,hk,e⟩:=List.getElem_of_mem hx;obtain⟨s',e1,_,w,e2,e3,_⟩:=h.qd k _ (yGe hk);obtain rfl:s'=s:=by omega
  rw [hd] at e2;cases e2;omega
 ·by_cases hk:k<Q.length
  ·rw [List.getElem?_append_left hk] at hx;obtain⟨s',e1,e2,w,e3,e4,e5⟩:=h.qd k x hx;refine⟨s',e1,e2,?_⟩;rw [List.getElem?_set];by_cases e:s=s'
   ·subst e;rw [hd] at e3;cases e3;omega
   ·rw [if_neg e];exact⟨w,e3,e4,e5⟩
  ·rw [List.getElem?_append_right (by omega)] at hx;have hk2:k-Q.length=0:=by
    have:=(List.getElem?_eq_some_iff.1 hx).1;simp at this;omega
   rw [hk2] at hx;cases hx;exact⟨s,rfl,hs,v,by rw [List.getElem?_set,if_pos rfl,if_pos hsd],v1,by omega⟩
 ·rw [List.getElem?_set] at hw;by_cases e:s=t
  ·subst e;exact hl
  ·rw [if_neg e] at hw;exact h.lv t w hw h0
def IncOk(a:AutT)(n:Nat)(m:List (Int×List Int)):Prop:=∀(t:Int),((kget m t).getD []).length≤a.2.2.2.length∧∀x∈(kget m t).getD [],0≤x∧x<(n:Int)∧∃e,(x,e,t)∈a.2.2.2
section
variable{a:AutT}{n:Nat}{g:List Bool}{u:List Int}{m:List (Int×List Int)}
theorem ygA(hr:Right a n)(hg:g.length=n):∃Q d,iter (y1i (a,u,m,g)) (0,[],List.replicate n (-1))=some (Q,d)∧DQs a g n Q d:=by
 have hl2:=hr.l2;have hnl:=hr.nl;obtain⟨o,h1,h2⟩:=ye (f:=y1i (a,u,m,g)) (fun i s=>s.1=(i:Int)∧i≤a.2.2.1.length∧DQs a g n s.2.1 s.2.2∧∀(t:Nat) (v:Int),s.2.2[t]? =some v→0≤v→∃k,k<i∧a.2.2.1[k]? =some (t:Int)) (fun o=>DQs a g n o.1 o.2) a.2.2.1.length 0 (by omega) (fun i s hi ⟨e1,_,hd,hm⟩=>by
   obtain⟨c,Q,d⟩:=s;dsimp only at e1 hd hm;subst e1;have hQl:=hd.len;have hx:=hr.msr _ (yGm hi);obtain⟨t,ht⟩:∃t:Nat,a.2.2.1[i]=(t:Int):=⟨(a.2.2.1[i]).toNat,by omega⟩;have htg:t<g.length:=by omega
   have htd:t<d.length:=by rw [hd.dl];omega
   left;rw [y1i];dsimp only;rw [if_pos (ct_lt hi),ya hi,yOb,ht,ya htg,yOb];cases hgb:g[t] with
   | true=>
    have hgt:g[t]? =some true:=by rw [yGe htg,hgb]
    have hneg:d[t]<0:=by
     refine Int.not_le.1 fun h0=>?_;obtain⟨k,hk,e⟩:=hm t _ (yGe htd) h0;have hkl:k<a.2.2.1.length:=by omega
     rw [yGe hkl] at e;have:=List.pairwise_iff_getElem.1 hr.msi k i hkl hi hk;rw [Option.some.inj e,ht] at this;omega
    rw [if_pos rfl,ya htd,yOb,y9y htd,yOb,yi (by simp;omega),yOb,y1h];dsimp only;rw [nxt (by omega)];refine⟨_,rfl,rfl,hi,hd.add (by omega) (yGe htd) hneg (Int.le_refl _) (by omega) (.mk hgt (by rw [←ht];exact yGm hi)),fun s' v hv h0=>?_⟩;dsimp only at hv;rw [List.getElem?_set] at hv;by_cases e:t=s'
    ·subst e;exact⟨i,by omega,by rw [yGe hi,ht]⟩
    ·rw [if_neg e] at hv;obtain⟨k,hk,e2⟩:=hm s' v hv h0;exact⟨k,by omega,e2⟩
   | false=>
    rw [if_neg (by simp),y1h];dsimp only;rw [nxt (by omega)];refine⟨_,rfl,rfl,hi,hd,fun s' v hv h0=>?_⟩;obtain⟨k,hk,e2⟩:=hm s' v hv h0;exact⟨k,by omega,e2⟩) (fun s ⟨e1,_,hd,hm⟩=>by
   obtain⟨c,Q,d⟩:=s;dsimp only at e1 hd;subst e1;refine⟨(Q,d),?_,hd⟩;rw [y1i];dsimp only;rw [if_neg ct_ge]) (yZl _) (0,[],List.replicate n (-1)) ⟨rfl,yZl _,⟨by simp,List.nodup_nil,fun k x hx=>by simp at hx,fun s v hv h0=>by
    rw [List.getElem?_replicate] at hv;split at hv
    ·cases hv;omega
    ·cases hv⟩,fun s v hv h0=>by
    dsimp only at hv;rw [List.getElem?_replicate] at hv;split at hv
    ·cases hv;omega
    ·cases hv⟩
 exact⟨o.1,o.2,h1,h2⟩
theorem yjS(hr:Right a n)(hg:g.length=n)(hm:IncOk a n m){i:Nat}{Q d:List Int}(hd:DQs a g n Q d)(hi:i<Q.length)(z:List Int×List Int):
  ∃Q' d',iter (y1f (a,u,m,g) ((i:Int),z) Q[i]) (0,Q,d)=some (Q',d')∧DQs a g n Q' d'∧Q.length≤Q'.length:=by
 have hl3:=hr.l3;have hnl:=hr.nl;obtain⟨ml,mm⟩:=hm Q[i];obtain⟨q,hq,hqn,vq,hvq,hvq0,_⟩:=hd.qd i _ (yGe hi);have hlq:=hd.lv q vq hvq hvq0;obtain⟨o,h1,h2,h3⟩:=ye (f:=y1f (a,u,m,g) ((i:Int),z) Q[i]) (fun k s=>s.1=(k:Int)∧k≤((kget m Q[i]).getD []).length∧DQs a g n s.2.1 s.2.2∧Q.length≤s.2.1.length) (fun o=>DQs a g n o.1 o.2∧Q.length≤o.1.length) ((kget m Q[i]).getD []).length 0 (by omega) (fun k s hk ⟨e1,_,hd1,hle⟩=>by
   obtain⟨c,Q1,d1⟩:=s;dsimp only at e1 hd1 hle;subst e1;have hQl:=hd1.len;obtain⟨x0,x1,e,hxe⟩:=mm _ (yGm hk);obtain⟨t,ht⟩:∃t:Nat,((kget m Q[i]).getD [])[k]=(t:Int):=⟨(((kget m Q[i]).getD [])[k]).toNat,by omega⟩;rw [ht] at hxe x1;have htg:t<g.length:=by omega
   have htd:t<d1.length:=by rw [hd1.dl];omega
   have hi1:i<Q1.length:=by omega
   have hj1:∀Q2 d2,y1e ((k:Int),Q1,d1) Q2 d2=some (.inl (((k+1:Nat):Int),Q2,d2)):=fun Q2 d2=>by
    rw [y1e];dsimp only;rw [nxt (by omega)]
   left;rw [y1f];dsimp only;rw [if_pos (ct_lt hk),ya hk,yOb,ht,ya htg,yOb,ya htd];cases hgb:g[t] with
   | true=>
    have hgt:g[t]? =some true:=by rw [yGe htg,hgb]
    rw [if_pos rfl,yOb,yOb];by_cases hneg:d1[t]<0
    ·obtain ⟨q1,e1,e2,v1,e3,e4,e5⟩:=hd1.qd i _ (yGe hi1);have hq1d:q1<d1.length:=by rw [hd1.dl];exact e2
     have hv1:d1[q1]=v1:=by
      rw [yGe hq1d] at e3;exact Option.some.inj e3
     rw [if_pos (by simpa using hneg),ya hi1,yOb,e1,ya hq1d,yOb,yOb,y9y htd,yOb,yi (by simp;omega),yOb,hj1];refine⟨_,rfl,rfl,hk,hd1.add (by omega) (yGe htd) hneg ?_ ?_ (.st (e:=e) hgt ?_ hlq),by dsimp only;simp;omega⟩
     ·rw [hv1,W_of (by omega) (by omega)];omega
     ·rw [hv1,W_of (by omega) (by omega)];omega
     ·rw [←hq];exact hxe
    ·rw [if_neg (by simpa using hneg),hj1];exact⟨_,rfl,rfl,hk,hd1,hle⟩
   | false=>
    rw [if_neg (by simp),yOb,if_neg (by simp),hj1];exact⟨_,rfl,rfl,hk,hd1,hle⟩) (fun s ⟨e1,_,hd1,hle⟩=>by
   obtain⟨c,Q1,d1⟩:=s;dsimp only at e1 hd1 hle;subst e1;refine⟨(Q1,d1),?_,hd1,hle⟩;rw [y1f];dsimp only;rw [if_neg ct_ge]) (yZl _) (0,Q,d) ⟨rfl,yZl _,hd,Nat.le_refl _⟩
 exact⟨o.1,o.2,h1,h2,h3⟩
theorem ygc(hr:Right a n)(hg:g.length=n)(hm:IncOk a n m):∃d,y1D (a,u,m,g)=some d∧d.length=n∧∀(s:Nat) (v:Int),d[s]? =some v→0≤v→LiveG a g s:=by
 have hnn:=hr.nn;have hnl:=hr.nl;have hf:iter (y1j (List.replicate n 0)) (0,List.replicate n 0)=some (List.replicate n (-1)):=by
  obtain⟨o,g1,rfl⟩:=ye (f:=y1j (List.replicate n 0)) (fun i s=>i≤n∧s=((i:Int),List.replicate i (-1)++List.replicate (n-i) 0)) (fun o=>o=List.replicate n (-1)) n 0 (by omega) (fun i s hi ⟨_,e1⟩=>by
    subst e1;refine .inl ⟨(((i+1:Nat):Int),List.replicate (i+1) (-1)++List.replicate (n-(i+1)) 0),?_,hi,rfl⟩;rw [y1j];dsimp only;rw [if_pos (by simp;omega),ya (by simp;omega),yOb,y9y (by simp;omega),yOb,nxt (by omega)];rw [List.set_append_right _ _ (by simp),List.length_replicate,Nat.sub_self,show n-i=(n-(i+1))+1 by omega,List.replicate_succ,List.set_cons_zero,List.replicate_succ',List.append_assoc];rfl) (fun s ⟨_,e1⟩=>by
    subst e1;refine⟨_,?_,rfl⟩;rw [y1j];dsimp only;rw [if_neg (by simp),Nat.sub_self];simp) (yZl _) (0,List.replicate n 0) ⟨yZl _,by simp⟩
  exact g1
 obtain⟨Q,d,h1,h2⟩:=ygA (u:=u) (m:=m) hr hg;obtain⟨o,h3,h4,h5⟩:=ye (f:=y1g (a,u,m,g)) (fun i s=>s.1=(i:Int)∧i≤s.2.1.length∧DQs a g n s.2.1 s.2.2) (fun o=>o.length=n∧∀(s:Nat) (v:Int),o[s]? =some v→0≤v→LiveG a g s) n 0 (by omega) (fun i s hi ⟨e1,hle,hd⟩=>by
   obtain⟨c,Q,d⟩:=s;dsimp only at e1 hd hle;subst e1;by_cases hiq:i<Q.length
   ·left;obtain⟨Q',d',w1,w2,w3⟩:=yjS (u:=u) hr hg hm hd hiq (Q,d);rw [y1g];dsimp only;rw [if_pos (ct_lt hiq),ya hiq,yOb,w1,yOb,nxt (by omega)];exact⟨_,rfl,rfl,by dsimp only;omega,w2⟩
   ·right;obtain rfl:i=Q.length:=by omega
    refine⟨d,?_,hd.dl,hd.lv⟩;rw [y1g];dsimp only;rw [if_neg ct_ge]) (fun s ⟨e1,hle,hd⟩=>by
   obtain⟨c,Q,d⟩:=s;dsimp only at e1 hd hle;subst e1;have:=hd.len;refine⟨d,?_,hd.dl,hd.lv⟩;rw [y1g];dsimp only;rw [if_neg (by simp;omega)]) (yZl _) (0,Q,d) ⟨rfl,yZl _,h2⟩
 refine⟨o,?_,h4,h5⟩;rw [y1D];dsimp only;rw [hnn,y9n (by omega) (by omega),yOb,Int.toNat_natCast,hf,yOb,h1,yOb,h3];rfl
end
theorem yhv :∀{g g':List Bool},g'.length=g.length→(∀s:Nat,g'[s]? =some true→g[s]? =some true)→g'.count true≤g.count true
 | [],[],_,_=>Nat.le_refl _
 | [],_::_,h,_=>by simp at h
 | _::_,[],h,_=>by simp at h
 | x::g,y::g',h,hs=>by
  have ih:=yhv (g:=g) (g':=g') (by simpa using h) fun s hs'=>hs (s+1) (by simpa using hs');have h0:=hs 0;cases y with
  | true=>
   have:x=true:=by simpa using h0 rfl
   subst this;simp [ih]
  | false=>cases x <;> simp <;> omega
theorem yhw :∀{g g':List Bool},g'.length=g.length→(∀s:Nat,g'[s]? =some true→g[s]? =some true)→∀{s:Nat},g[s]? =some true→g'[s]? ≠some true→g'.count true<g.count true
 | [],[],_,_,s,h,_=>by simp at h
 | [],_::_,h,_,_,_,_=>by simp at h
 | _::_,[],h,_,_,_,_=>by simp at h
 | x::g,y::g',h,hs,0,h1,h2=>by
  have:=yhv (g:=g) (g':=g') (by simpa using h) fun s hs'=>hs (s+1) (by simpa using hs');have hx:x=true:=by simpa using h1
  subst hx;cases y with
  | true=>exact absurd rfl h2
  | false=>simp;omega
 | x::g,y::g',h,hs,s+1,h1,h2=>by
  have:=yhw (g:=g) (g':=g') (by simpa using h) (fun s hs'=>hs (s+1) (by simpa using hs')) (s:=s) (by simpa using h1) (by simpa using h2);have h0:=hs 0;cases y with
  | true=>
   have hx:x=true:=by simpa using h0 rfl
   subst hx;simp;omega
  | false=>cases x <;> simp <;> omega
theorem ygB{L:List (Int×Int×Int×Int)}(h:∀x∈L,0≤x.1∧x.1<4294967296)(hl:L.length≤4294967296):∃r,y1B L=some r:=by
 unfold y1B;by_cases h0:L= []
 ·subst h0;rw [dif_neg (by simp),if_pos rfl];exact⟨_,rfl⟩
 ·rw [dif_pos ⟨h,hl,List.length_pos_iff.2 h0⟩];exact⟨_,rfl⟩
def RemIn(g:List Bool)(L:List (Int×Int×Int×Int)):Prop:=∀x∈L,∃s:Nat,x.1=(s:Int)∧g[s]? =some true
theorem RemIn.app{g:List Bool}{L:List (Int×Int×Int×Int)}(h:RemIn g L){x:Int×Int×Int×Int}{s:Nat}(hx:x.1=(s:Int))(hg:g[s]? =some true):RemIn g (L++[x]):=fun y hy=>by
 rcases yMa.1 hy with hy|hy
 ·exact h y hy
 ·rw [yMs.1 hy];exact⟨s,hx,hg⟩
section
variable{a:AutT}{n:Nat}{g:List Bool}{u:List Int}{m:List (Int×List Int)}
theorem yjT(hr:Right a n)(hg:g.length=n)(hu:u.length<4611686018427387904)(k:Int):∃L,y4q (a,u,m,g) k=some L∧L.length≤a.2.2.2.length∧RemIn g L:=by
 have hl3:=hr.l3;have hnl:=hr.nl;obtain⟨o,h1,h2,h3⟩:=ye (f:=y3o (a,u,m,g) k) (fun i s=>s.1=(i:Int)∧i≤a.2.2.2.length∧s.2.length≤i∧RemIn g s.2) (fun o=>o.length≤a.2.2.2.length∧RemIn g o) a.2.2.2.length 0 (by omega) (fun i s hi ⟨e1,_,hL,hR⟩=>by
   obtain⟨c,L⟩:=s;dsimp only at e1 hL hR;subst e1;have hx:=hr.es _ (yGm hi);obtain⟨q,hq⟩:∃q:Nat,(a.2.2.2[i]).1=(q:Int):=⟨(a.2.2.2[i]).1.toNat,by omega⟩;obtain⟨t,ht⟩:∃t:Nat,(a.2.2.2[i]).2.2=(t:Int):=⟨(a.2.2.2[i]).2.2.toNat,by omega⟩;have hqg:q<g.length:=by omega
   have htg:t<g.length:=by omega
   have hj1:∀L':List (Int×Int×Int×Int),L'.length≤i+1→RemIn g L'→∃s',y1o ((i:Int),L) L'=some (.inl s')∧s'.1=((i+1:Nat):Int)∧i+1≤a.2.2.2.length∧s'.2.length≤i+1∧RemIn g s'.2:=fun L' g1 g2=>by
    rw [y1o];dsimp only;rw [nxt (by omega)];exact⟨_,rfl,rfl,hi,g1,g2⟩
   have hj3:g[q]? =some true→∀b,∃s',y1Y k ((i:Int),L) a.2.2.2[i] b=some (.inl s')∧s'.1=((i+1:Nat):Int)∧i+1≤a.2.2.2.length∧s'.2.length≤i+1∧RemIn g s'.2:=fun hgq b=>by
    rw [y1Y];cases b with
    | true=>
     rw [if_pos rfl];exact hj1 _ (by dsimp only;omega) hR
    | false=>
     rw [if_neg (by simp)];dsimp only;rw [yi (by simp;omega),yOb];exact hj1 _ (by simp;omega) (hR.app hq hgq)
   left;rw [y3o];dsimp only;rw [if_pos (ct_lt hi),ya hi,yOb,hq,ya hqg,yOb];cases hgb:g[q] with
   | false=>
    rw [if_pos (show (!false)=true from rfl),yH,if_pos rfl];exact hj1 _ (by dsimp only;omega) hR
   | true=>
    have hgq:g[q]? =some true:=by rw [yGe hqg,hgb]
    rw [if_neg (by simp),ht,ya htg,yOb];cases g[t] with
    | true=>
     rw [if_pos rfl,yH,if_pos rfl];exact hj1 _ (by dsimp only;omega) hR
    | false=>
     rw [if_neg (by simp),y1b hu,yOb,yH];cases hasB u (a.2.2.2[i]).2.1 with
     | false=>
      rw [if_pos (show (!false)=true from rfl)];exact hj1 _ (by dsimp only;omega) hR
     | true=>
      rw [if_neg (by simp)];dsimp only;by_cases hL0:0<L.length
      ·rw [if_pos (by rw [decide_eq_true_eq];omega),show W ((L.length:Int)-1)=((L.length-1:Nat):Int) by rw [W_of (by omega) (by omega)];omega,ya (by omega),yOb];exact hj3 hgq _
      ·rw [if_neg (by rw [decide_eq_true_eq];omega)];exact hj3 hgq _) (fun s ⟨e1,_,hL,hR⟩=>by
   obtain⟨c,L⟩:=s;dsimp only at e1 hL hR;subst e1;refine⟨L,?_,hL,hR⟩;rw [y3o];dsimp only;rw [if_neg ct_ge]) (yZl _) (0,[]) ⟨rfl,yZl _,yZl _,fun x hx=>by cases hx⟩
 exact⟨o,by rw [y4q,h1];rfl,h2,h3⟩
theorem ygC(hr:Right a n)(hg:g.length=n)(hm:IncOk a n m)(k:Int):∃L,y3p (a,u,m,g) k=some L∧L.length≤n∧RemIn g L∧(L= []→∀s:Nat,g[s]? =some true→LiveG a g s):=by
 have hnl:=hr.nl;obtain⟨d,d1,d2,d3⟩:=ygc (u:=u) hr hg hm;obtain⟨o,h1,h2,h3,h4⟩:=ye (f:=y2D (a,u,m,g) k d) (fun i s=>s.1=(i:Int)∧i≤n∧s.2.length≤i∧RemIn g s.2∧(s.2= []→∀t:Nat,t<i→g[t]? =some true→LiveG a g t)) (fun o=>o.length≤n∧RemIn g o∧(o= []→∀t:Nat,t<n→g[t]? =some true→LiveG a g t)) n 0 (by omega) (fun i s hi ⟨e1,_,hL,hR,hv⟩=>by
   obtain⟨c,L⟩:=s;dsimp only at e1 hL hR hv;subst e1;have hid:i<d.length:=by omega
   have hig:i<g.length:=by omega
   left;rw [y2D];dsimp only;rw [if_pos (by simp;omega),ya hid,yOb,ya hig,yOb];by_cases hb:g[i]=true∧d[i]<0
   ·rw [if_pos (by simp;exact hb),yi (by simp;omega),yOb,y1y];dsimp only;rw [nxt (by omega)];exact⟨_,rfl,rfl,hi,by simp;omega,hR.app rfl (by rw [yGe hig,hb.1]),fun h=>by simp at h⟩
   ·rw [if_neg (by simp;exact fun h=>Int.not_lt.1 fun h2=>hb ⟨h,h2⟩),y1y];dsimp only;rw [nxt (by omega)];refine⟨_,rfl,rfl,hi,by dsimp only;omega,hR,fun h t ht hgt=>?_⟩;by_cases e:t=i
    ·subst e;refine d3 t _ (yGe hid) (Int.not_lt.1 fun h2=>hb ⟨?_,h2⟩);rw [yGe hig] at hgt;exact Option.some.inj hgt
    ·exact hv h t (by omega) hgt) (fun s ⟨e1,_,hL,hR,hv⟩=>by
   obtain⟨c,L⟩:=s;dsimp only at e1 hL hR hv;subst e1;refine⟨L,?_,hL,hR,hv⟩;rw [y2D];dsimp only;rw [if_neg (by simp;omega)]) (yZl _) (0,[]) ⟨rfl,yZl _,yZl _,fun x hx=>by(cases hx),fun _ t ht=>absurd ht (Nat.not_lt_zero _)⟩
 refine⟨o,by rw [y3p,d1,yOb,h1];rfl,h2,h3,fun h s hs=>h4 h s ?_ hs⟩;rw [←hg];exact(List.getElem?_eq_some_iff.1 hs).1
theorem yfb(hr:Right a n)(hg:g.length=n)(hm:IncOk a n m)(hu:u.length<4611686018427387904)(k:Int):∃L,y4r (a,u,m,g) k true=some L∧L.length≤1000000∧RemIn g L∧(L= []→∀s:Nat,g[s]? =some true→LiveG a g s):=by
 have hl3:=hr.l3;have hnl:=hr.nl;obtain⟨L,h1,h2,h3⟩:=yjT (m:=m) hr hg hu k;obtain⟨L',w1,w2,w3,w4⟩:=ygC (u:=u) hr hg hm k;rw [y4r,h1,yOb];by_cases h0:0<L.length
 ·rw [if_pos (by rw [decide_eq_true (show (L.length:Int)>0 by omega)];rfl)];exact⟨L,rfl,by omega,h3,fun h=>by rw [h] at h0;simp at h0⟩
 ·rw [if_neg (by rw [decide_eq_false (show ¬(L.length:Int)>0 by omega)];simp),w1];exact⟨L',rfl,by omega,w3,w4⟩
theorem yhx(hr:Right a n){f:List Int}(hf:∀x∈f,0≤x∧x<(n:Int))(hfl:f.length≤1000000)(u:List Int):∃m g,y7a a f u=some (a,u,m,g)∧g.length=n∧IncOk a n m:=by
 have hnn:=hr.nn;have hnl:=hr.nl;have hl3:=hr.l3;have h1:iter (y4p (List.replicate n false)) (0,List.replicate n false)=some (List.replicate n true):=by
  obtain⟨o,g1,rfl⟩:=ye (f:=y4p (List.replicate n false)) (fun i s=>i≤n∧s=((i:Int),List.replicate i true++List.replicate (n-i) false)) (fun o=>o=List.replicate n true) n 0 (by omega) (fun i s hi ⟨_,e1⟩=>by
    subst e1;refine .inl ⟨(((i+1:Nat):Int),List.replicate (i+1) true++List.replicate (n-(i+1)) false),?_,hi,rfl⟩;rw [y4p];dsimp only;rw [if_pos (by simp;omega),ya (by simp;omega),yOb,y9y (by simp;omega),yOb,nxt (by omega)];rw [List.set_append_right _ _ (by simp),List.length_replicate,Nat.sub_self,show n-i=(n-(i+1))+1 by omega,List.replicate_succ,List.set_cons_zero,List.replicate_succ',List.append_assoc];rfl) (fun s ⟨_,e1⟩=>by
    subst e1;refine⟨_,?_,rfl⟩;rw [y4p];dsimp only;rw [if_neg (by simp),Nat.sub_self];simp) (yZl _) (0,List.replicate n false) ⟨yZl _,by simp⟩
  exact g1
 obtain⟨g,h2,h3⟩:=ye (f:=y6i f) (fun i s=>s.1=(i:Int)∧i≤f.length∧s.2.length=n) (fun o=>o.length=n) f.length 0 (by omega) (fun i s hi ⟨e1,_,hl⟩=>by
   obtain⟨c,g⟩:=s;dsimp only at e1 hl;subst e1;have hx:=hf _ (yGm hi);obtain⟨t,ht⟩:∃t:Nat,f[i]=(t:Int):=⟨(f[i]).toNat,by omega⟩;have htg:t<g.length:=by omega
   left;rw [y6i];dsimp only;rw [if_pos (ct_lt hi),ya hi,yOb,ht,ya htg,yOb,y9y htg,yOb,nxt (by omega)];exact⟨_,rfl,rfl,hi,by dsimp only;rw [List.length_set];exact hl⟩) (fun s ⟨e1,_,hl⟩=>by
   obtain⟨c,g⟩:=s;dsimp only at e1 hl;subst e1;refine⟨g,?_,hl⟩;rw [y6i];dsimp only;rw [if_neg ct_ge]) (yZl _) (0,List.replicate n true) ⟨rfl,yZl _,by simp⟩
 obtain⟨m,h4,h5⟩:=ye (f:=y6h a) (fun i s=>s.1=(i:Int)∧i≤a.2.2.2.length∧∀t,((kget s.2 t).getD []).length≤i∧∀x∈(kget s.2 t).getD [],0≤x∧x<(n:Int)∧∃e,(x,e,t)∈a.2.2.2) (fun o=>IncOk a n o) a.2.2.2.length 0 (by omega) (fun i s hi ⟨e1,_,hm⟩=>by
   obtain⟨c,m⟩:=s;dsimp only at e1 hm;subst e1;have hx:=hr.es _ (yGm hi);obtain⟨m1,m2⟩:=hm (a.2.2.2[i]).2.2;left;rw [y6h];dsimp only;rw [if_pos (ct_lt hi),ya hi,yOb,yi (by simp;omega),yOb,nxt (by omega)];refine⟨_,rfl,rfl,hi,fun t=>?_⟩;dsimp only;rw [y5A];by_cases e:t=(a.2.2.2[i]).2.2
   ·subst e;rw [if_pos rfl,Option.getD_some];refine⟨by simp;omega,fun x hx'=>?_⟩;rcases yMa.1 hx' with hx'|hx'
    ·exact m2 x hx'
    ·rw [yMs.1 hx'];exact⟨hx.1,hx.2.1,(a.2.2.2[i]).2.1,yGm hi⟩
   ·rw [if_neg e];exact⟨by have:=(hm t).1;omega,(hm t).2⟩) (fun s ⟨e1,_,hm⟩=>by
   obtain⟨c,m⟩:=s;dsimp only at e1 hm;subst e1;refine⟨m,?_,hm⟩;rw [y6h];dsimp only;rw [if_neg ct_ge]) (yZl _) (0,[]) ⟨rfl,yZl _,fun t=>⟨by simp [kget],fun x hx=>by simp [kget] at hx⟩⟩
 refine⟨m,g,?_,h3,h5⟩;rw [y7a,hnn,y9n (by omega) (by omega),yOb,Int.toNat_natCast,h1,yOb,h2,yOb,h4];rfl
theorem yiI(hn:n≤4096)(hg:g.length=n){L:List (Int×Int×Int×Int)}(hL:RemIn g L)(hl:L.length≤1000000):∃g',iter (y3Y L) (0,g)=some g'∧g'.length=n∧(∀s:Nat,g'[s]? =some true→g[s]? =some true)∧∀(k s:Nat) (h:k<L.length),(L[k]).1=(s:Int)→g'[s]? ≠some true:=by
 obtain⟨o,h1,h2,h3,h4⟩:=ye (f:=y3Y L) (fun i s=>s.1=(i:Int)∧i≤L.length∧s.2.length=n∧(∀t:Nat,s.2[t]? =some true→g[t]? =some true)∧∀(k t:Nat) (h:k<L.length),k<i→(L[k]).1=(t:Int)→s.2[t]? ≠some true) (fun o=>o.length=n∧(∀t:Nat,o[t]? =some true→g[t]? =some true)∧∀(k t:Nat) (h:k<L.length),(L[k]).1=(t:Int)→o[t]? ≠some true) L.length 0 (by omega) (fun i s hi ⟨e1,_,q1,q2,q3⟩=>by
   obtain⟨c,g1⟩:=s;dsimp only at e1 q1 q2 q3;subst e1;obtain⟨t,ht,hgt⟩:=hL _ (yGm hi);have htl:t<g1.length:=by
    have:=(List.getElem?_eq_some_iff.1 hgt).1;omega
   left;rw [y3Y];dsimp only;rw [if_pos (ct_lt hi),ya hi,yOb,ht,ya htl,yOb,y9y htl,yOb,nxt (by omega)];refine⟨_,rfl,rfl,hi,by dsimp only;rw [List.length_set];exact q1,fun s' hs'=>?_,fun k s' hk hki e=>?_⟩
   ·dsimp only at hs';rw [List.getElem?_set] at hs';by_cases e2:t=s'
    ·subst e2;rw [if_pos rfl,if_pos htl] at hs';cases hs'
    ·rw [if_neg e2] at hs';exact q2 s' hs'
   ·dsimp only;rw [List.getElem?_set];by_cases e2:t=s'
    ·subst e2;rw [if_pos rfl,if_pos htl];simp
    ·rw [if_neg e2];by_cases e3:k=i
     ·subst e3;omega
     ·exact q3 k s' hk (by omega) e) (fun s ⟨e1,_,q1,q2,q3⟩=>by
   obtain⟨c,g1⟩:=s;dsimp only at e1 q1 q2 q3;subst e1;refine⟨g1,?_,q1,q2,fun k t h e=>q3 k t h h e⟩;rw [y3Y];dsimp only;rw [if_neg ct_ge]) (yZl _) (0,g) ⟨rfl,yZl _,hg,fun t h=>h,fun k t h hk=>absurd hk (Nat.not_lt_zero _)⟩
 exact⟨o,h1,h2,h3,h4⟩
end
section
variable{a:AutT}{n:Nat}{u f:List Int}
structure SynOk (a:AutT) (n:Nat) (g:List Bool) (r:AutT) (X:List Int):Prop where
 gl:g.length=n
 can:CanOf (stK a g) a.1 a.2.2.1 r X
 le:X.length≤n
 kept:∀s∈X,0≤s∧s<(n:Int)∧g.getD s.toNat false=true
 live:∀s:Nat,g[s]? =some true→LiveG a g s
theorem yhy(hr:Right a n)(hn:n≤40)(hf:∀x∈f,0≤x∧x<(n:Int))(hfl:f.length≤1000000)(hu:u.length<4611686018427387904):
  ∃z k g r X,y6N a f u true=some (z,k,r,X)∧SynOk a n g r X:=by
 obtain⟨m,g0,s1,s2,s3⟩:=yhx hr hf hfl u;obtain⟨o1,h1,h2,h3⟩:=ye (f:=y5I f) (fun i s=>s.1=(i:Int)∧i≤f.length∧s.2.1.length≤i∧∀x∈s.2.1,0≤x.1∧x.1<(n:Int)) (fun o=>o.1.length≤f.length∧∀x∈o.1,0≤x.1∧x.1<(n:Int)) f.length 0 (by omega) (fun i s hi ⟨e1,_,q1,q2⟩=>by
   obtain⟨c,L,w⟩:=s;dsimp only at e1 q1 q2;subst e1;left;rw [y5I];dsimp only;rw [if_pos (ct_lt hi),ya hi,yOb,yi (by simp;omega),yOb,nxt (by omega)];refine⟨_,rfl,rfl,hi,by simp;omega,fun x hx=>?_⟩;dsimp only at hx;rcases yMa.1 hx with hx|hx
   ·exact q2 x hx
   ·rw [yMs.1 hx];exact hf _ (yGm hi)) (fun s ⟨e1,_,q1,q2⟩=>by
   obtain⟨c,L,w⟩:=s;dsimp only at e1 q1 q2;subst e1;refine⟨(L,w),?_,q1,q2⟩;rw [y5I];dsimp only;rw [if_neg ct_ge]) (yZl _) (0,[],0) ⟨rfl,yZl _,yZl _,fun x hx=>by cases hx⟩
 obtain⟨o2,h4,h5,h6,h7,h8⟩:=ye (f:=y5H true (a,u,m,g0)) (fun i s=>s.2.1.length≤1000000+i*1000000∧(∀x∈s.2.1,0≤x.1∧x.1<(n:Int))∧s.2.2.2.length=n∧i+s.2.2.2.count true≤n) (fun o=>o.1.length≤100000000∧(∀x∈o.1,0≤x.1∧x.1<(n:Int))∧o.2.2.length=n∧∀s:Nat,o.2.2[s]? =some true→LiveG a o.2.2 s) n 0 (by omega) (fun i s hi ⟨q1,q2,q3,q4⟩=>by
   obtain⟨c,L,w,g⟩:=s;dsimp only at q1 q2 q3 q4;obtain⟨R,r1,r2,r3,r4⟩:=yfb (u:=u) hr q3 s3 hu c;rw [y5H];dsimp only;rw [r1,yOb];by_cases h0:R= []
   ·right;subst h0;rw [if_pos (by simp)];exact⟨_,rfl,by dsimp only;omega,q2,q3,r4 rfl⟩
   ·left;have hRl:0<R.length:=List.length_pos_iff.2 h0;obtain⟨g',w1,w2,w3,w4⟩:=yiI (n:=n) (by omega) q3 r3 r2;rw [if_neg (by simp [h0]),w1,yOb,yi (by omega),yOb];obtain⟨t,ht,hgt⟩:=r3 _ (yGm hRl);have hc:=yhw (by omega) w3 hgt (w4 0 t hRl ht);refine⟨_,rfl,by simp;omega,fun x hx=>?_,w2,by dsimp only;omega⟩;dsimp only at hx;rcases yMa.1 hx with hx|hx
    ·exact q2 x hx
    ·obtain ⟨s',e,hs'⟩:=r3 x hx;have:=(List.getElem?_eq_some_iff.1 hs').1;omega) (fun s ⟨q1,q2,q3,q4⟩=>by
   obtain⟨c,L,w,g⟩:=s;dsimp only at q1 q2 q3 q4;obtain⟨R,r1,r2,r3,r4⟩:=yfb (u:=u) hr q3 s3 hu c;rw [y5H];dsimp only;rw [r1,yOb];by_cases h0:R= []
   ·subst h0;rw [if_pos (by simp)];exact⟨_,rfl,by dsimp only;omega,q2,q3,r4 rfl⟩
   ·exfalso;have hRl:0<R.length:=List.length_pos_iff.2 h0;obtain⟨t,ht,hgt⟩:=r3 _ (yGm hRl);have:0<g.count true:=List.count_pos_iff.2 (List.mem_of_getElem? hgt);omega) (yZl _) (2,o1.1,o1.2,g0) ⟨by dsimp only;omega,h3,s2,by
    dsimp only;have:=List.count_le_length (a:=true) (l:=g0);omega⟩
 obtain⟨rem,hrem⟩:=ygB (fun x hx=>by have:=h6 x hx;omega) (by omega:o2.1.length≤4294967296);obtain⟨d,d1,d2,d3⟩:=ygc (u:=u) hr h7 s3;obtain⟨o3,h9⟩:∃o3,iter (y3X o2 d) (0,[],[])=some o3:=by
  obtain⟨o,w,_⟩:=ye (f:=y3X o2 d) (fun i s=>s.1=(i:Int)∧i≤n∧s.2.1.length≤i∧s.2.2.length≤i) (fun o=>True) n 0 (by omega) (fun i s hi ⟨e1,_,q1,q2⟩=>by
    obtain⟨c,A,B⟩:=s;dsimp only at e1 q1 q2;subst e1;have hid:i<d.length:=by omega
    have hig:i<o2.2.2.length:=by omega
    left;rw [y3X];dsimp only;rw [if_pos (by simp;omega),ya hid,yOb,ya hig,yOb];cases o2.2.2[i] with
    | true=>
     rw [if_pos rfl,yi (by simp;omega),yOb,yi (by simp;omega),yOb,y3W];dsimp only;rw [nxt (by omega)];exact⟨_,rfl,rfl,hi,by simp;omega,by simp;omega⟩
    | false=>
     rw [if_neg (by simp),y3W];dsimp only;rw [nxt (by omega)];exact⟨_,rfl,rfl,hi,by dsimp only;omega,by dsimp only;omega⟩) (fun s ⟨e1,_,q1,q2⟩=>by
    obtain⟨c,A,B⟩:=s;dsimp only at e1 q1 q2;subst e1;refine⟨(A,B),?_,trivial⟩;rw [y3X];dsimp only;rw [if_neg (by simp;omega)]) (yZl _) (0,[],[]) ⟨rfl,yZl _,yZl _,yZl _⟩
  exact⟨o,w⟩
 obtain⟨r,X,x1,x2,x3,x4⟩:=yiH hr h7 (a,u,m,o2.2.2) rfl rfl;refine⟨(o3.1,o3.2,rem),o2.2.1,o2.2.2,r,X,?_,h7,x2,x3,x4,h8⟩;rw [y6N,s1,yOb,h1,yOb];dsimp only;rw [h4,yOb,hrem,yOb,d1,yOb,h9,yOb,x1];rfl
theorem ykl(hr:Right a n)(hn:n≤40)(hfi:Inc f)(hf:∀x∈f,0≤x∧x<(n:Int))(hui:Inc u)(hur:∀x∈u,0≤x∧x<32):
  ∃z k g r X,y3w a f u=some ((z,k,r,X),0)∧SynOk a n g r X:=by
 have hfl:=y5f (n:=n) (lo:=0) hfi hf (Int.le_refl _);have hul:=Alp.len ⟨hui,hur⟩;obtain⟨z,k,g,r,X,h1,h2⟩:=yhy hr hn hf (by omega) (u:=u) (by omega);refine⟨z,k,g,r,X,?_,h2⟩;have hc:y6Z a f u=some 0:=by
  rw [y6Z,yfp hr.l1 hr.l2 hr.l3,hr.err,yOb,if_neg (by simp),hr.nn,ybw (by omega),y6S hfi hf (fun q hq=>by cases hq),yOb,if_neg (by simp),ybw (by omega),y6S hui hur (fun q hq=>by cases hq)];rfl
 rw [y3w,hc,yOb,if_neg (by simp),h1];rfl
theorem yep(hr:Right a n)(s e:Int):y4o a s e=some ((st1 a s e).getD (-1)):=by
 have hl3:=hr.l3;obtain⟨o,h1,h2⟩:=ye (f:=y4L a s e) (fun i c=>c=(i:Int)∧i≤a.2.2.2.length∧∀k (h:k<a.2.2.2.length),k<i→¬((a.2.2.2[k]).1=s∧(a.2.2.2[k]).2.1=e)) (fun o=>match o with
  | .inl _=>st1 a s e=none
  | .inr t=>st1 a s e=some t) a.2.2.2.length 0 (by omega) (fun i c hi ⟨e1,_,hk⟩=>by
   subst e1;rw [y4L,if_pos (ct_lt hi),ya hi,yOb];by_cases hx:(a.2.2.2[i]).1=s∧(a.2.2.2[i]).2.1=e
   ·right;rw [if_pos (by simpa using hx.1),yOb,yOb,if_pos (by simpa using hx.2),yOb];refine⟨_,rfl,?_⟩;dsimp only;rw [y7q hr,←hx.1,←hx.2];exact yGm hi
   ·left;refine⟨((i+1:Nat):Int),?_,rfl,hi,fun k h hki=>?_⟩
    ·by_cases h1:(a.2.2.2[i]).1=s
     ·rw [if_pos (by simpa using h1),yOb,yOb,if_neg (by simpa using fun h2=>hx ⟨h1,h2⟩),nxt (by omega)]
     ·rw [if_neg (by simpa using h1),yOb,if_neg (by simp),nxt (by omega)]
    ·by_cases e:k=i
     ·subst e;exact hx
     ·exact hk k h (by omega)) (fun c ⟨e1,_,hk⟩=>by
   subst e1;refine⟨.inl (),by rw [y4L,if_neg ct_ge],?_⟩;dsimp only;cases hst:st1 a s e with
   | none=>rfl
   | some t=>
    exfalso;obtain⟨k,h,e2⟩:=List.getElem_of_mem ((y7q hr).1 hst);exact hk k h h (by rw [e2];exact⟨rfl,rfl⟩)) (yZl _) 0 ⟨rfl,yZl _,fun k h hk=>absurd hk (Nat.not_lt_zero _)⟩
 rw [y4o,h1,yOb];cases o with
 | inl _=>dsimp only at h2 ⊢;rw [h2];rfl
 | inr t=>dsimp only at h2 ⊢;rw [h2];rfl
end
theorem LoopZ.few{P S p:AutT}{T:List (List Int)}{n n1 n2:Nat}(h:LoopZ P S p T n)(hP:P.2.1=(n1:Int))(hS:S.2.1=(n2:Int)):n≤n1*n2:=by
 rw [←h.tl];have hx:∀t∈T,∃x y:Nat,t= [(x:Int),(y:Int)]∧x<n1∧y<n2:=fun t ht=>by
  obtain⟨x,y,e,g1,g2,g3,g4⟩:=h.tt t ht;exact⟨x.toNat,y.toNat,by rw [e,Int.toNat_of_nonneg g1,Int.toNat_of_nonneg g3],by omega,by omega⟩
 have:=y8s (n1*n2) (T.map fun t=>match t with
  | [x,y]=>x.toNat*n2+y.toNat
  | _=>0) (by
  unfold List.Nodup;rw [List.pairwise_map];refine h.nd.imp_of_mem fun {s t} hs ht hst=>?_;obtain⟨x,y,rfl,g1,g2⟩:=hx s hs;obtain⟨x',y',rfl,g3,g4⟩:=hx t ht;dsimp only;rw [Int.toNat_natCast,Int.toNat_natCast,Int.toNat_natCast,Int.toNat_natCast];intro e;refine hst ?_;have e1:x=x':=by
   have a1:(x*n2+y)/n2=x:=by rw [Nat.mul_comm,Nat.mul_add_div (by omega),Nat.div_eq_of_lt g2,Nat.add_zero]
   have a2:(x'*n2+y')/n2=x':=by rw [Nat.mul_comm,Nat.mul_add_div (by omega),Nat.div_eq_of_lt g4,Nat.add_zero]
   rw [←a1,e,a2]
  subst e1;have:y=y':=by omega
  rw [this]) (fun v hv=>by
  obtain⟨t,ht,rfl⟩:=List.mem_map.1 hv;obtain⟨x,y,rfl,g1,g2⟩:=hx t ht;dsimp only;rw [Int.toNat_natCast,Int.toNat_natCast]
  calc x*n2+y<x*n2+n2:=by omega
   _=(x+1)*n2:=by rw [Nat.succ_mul]
   _≤n1*n2:=Nat.mul_le_mul_right _ g1)
 simpa using this
theorem yjU{q:ProbT}{n1 n:Nat}{A:AutT}{T:List (List Int)}{z:Int}(hP:Right q.1 n1)(hA:Right A n)(hu:q.2.2.length≤32)(hT:∀t∈T,∃x y,t= [x,y]){i:Nat}(hi:i<T.length){o:List Int}(ho:o.length≤1000000):
  ∃o',iter (y3k q (A,T,z) ((i:Int),o)) 0=some o'∧(o'=o∨o'=o++[(i:Int)]):=by
 obtain⟨x,y,hxy⟩:=hT _ (yGm hi);obtain⟨o',h1,h2⟩:=ye (f:=y3k q (A,T,z) ((i:Int),o)) (fun j c=>c=(j:Int)∧j≤q.2.2.length) (fun o'=>o'=o∨o'=o++[(i:Int)]) q.2.2.length 0 (by omega) (fun j c hj ⟨e1,_⟩=>by
   subst e1;have hj1:∀b,(∃s',y2k ((i:Int),o) (j:Int) b=some (.inl s')∧s'=((j+1:Nat):Int)∧j+1≤q.2.2.length)∨∃o',y2k ((i:Int),o) (j:Int) b=some (.inr o')∧(o'=o∨o'=o++[(i:Int)]):=fun b=>by
    rw [y2k];cases b with
    | true=>
     right;rw [if_pos rfl];dsimp only;rw [yi (by simp;omega)];exact⟨_,rfl,.inr rfl⟩
    | false=>
     left;rw [if_neg (by simp),nxt (by omega)];exact⟨_,rfl,rfl,hj⟩
   rw [y3k];dsimp only;rw [if_pos (ct_lt hj),ya hj,yOb,ya hi,yOb,hxy,show idx [x,y] 0=some x from rfl,yOb,yep hP,yOb];split
   ·rw [yep hA,yOb];exact hj1 _
   ·exact hj1 _) (fun c ⟨e1,_⟩=>by
   subst e1;refine⟨o,?_,.inl rfl⟩;rw [y3k];dsimp only;rw [if_neg ct_ge]) (yZl _) 0 ⟨rfl,yZl _⟩
 exact⟨o',h1,h2⟩
theorem yjV{q:ProbT}{n1 n:Nat}{A:AutT}{T:List (List Int)}{z:Int}(hP:Right q.1 n1)(hA:Right A n)(hu:q.2.2.length≤32)(hT:∀t∈T,∃x y,t= [x,y])(hl:T.length≤4000):
  ∃o,iter (y2l q (A,T,z)) (0,[])=some o∧Inc o∧∀x∈o,0≤x∧x<(T.length:Int):=by
 obtain⟨o,h1,h2,h3⟩:=ye (f:=y2l q (A,T,z)) (fun i s=>s.1=(i:Int)∧i≤T.length∧Inc s.2∧∀x∈s.2,0≤x∧x<(i:Int)) (fun o=>Inc o∧∀x∈o,0≤x∧x<(T.length:Int)) T.length 0 (by omega) (fun i s hi ⟨e1,_,q1,q2⟩=>by
   obtain⟨c,o⟩:=s;dsimp only at e1 q1 q2;subst e1;have hol:=y5f (n:=i) (lo:=0) q1 q2 (Int.le_refl _);obtain⟨o',w1,w2⟩:=yjU (z:=z) hP hA hu hT hi (o:=o) (by omega);left;rw [y2l];dsimp only;rw [if_pos (ct_lt hi),w1,yOb,nxt (by omega)];refine⟨_,rfl,rfl,hi,?_⟩;dsimp only;rcases w2 with rfl|rfl
   ·exact ⟨q1,fun x hx=>by have:=q2 x hx;omega⟩
   ·refine ⟨?_,fun x hx=>?_⟩
    ·unfold Inc at q1 ⊢;rw [List.pairwise_append];exact⟨q1,List.pairwise_singleton _ _,fun c hc b hb=>by rw [yMs.1 hb];exact(q2 c hc).2⟩
    ·rcases yMa.1 hx with hx|hx
     ·have:=q2 x hx;omega
     ·rw [yMs.1 hx];omega) (fun s ⟨e1,_,q1,q2⟩=>by
   obtain⟨c,o⟩:=s;dsimp only at e1 q1 q2;subst e1;refine⟨o,?_,q1,q2⟩;rw [y2l];dsimp only;rw [if_neg ct_ge]) (yZl _) (0,[]) ⟨rfl,yZl _,List.Pairwise.nil,fun x hx=>by cases hx⟩
 exact⟨o,h1,h2,h3⟩
theorem yjW{q:ProbT}{m1 m2:Nat}(h:PbOk q m1 m2)(l1:m1≤5)(l2:m2≤5):∃A T n o z k g r X,yo [q.1,q.2.1]=some (A,T,0)∧iter (y2l q (A,T,0)) (0,[])=some o∧y3w A o q.2.2=some ((z,k,r,X),0)∧LoopZ q.1 q.2.1 A T n∧n≤25∧SynOk A n g r X∧PbOk (q.1,r,q.2.2) m1 X.length:=by
 obtain⟨t,A,T,k1,k2,n,_,hk,hs⟩:=h.open;have hL:=hk.loop;have hn:n≤25:=Nat.le_trans (hL.few h.rP.nn h.rS.nn) (Nat.mul_le_mul l1 l2);have hul:=Alp.len ⟨h.iu,h.ur⟩;obtain⟨o,o1,o2,o3⟩:=yjV (z:=0) h.rP hL.right hul (fun t ht=>by
  obtain⟨x,y,e,_⟩:=hL.tt t ht;exact⟨x,y,e⟩) (by rw [hL.tl];exact hL.le)
 rw [hL.tl] at o3;obtain⟨z,k,g,r,X,s1,s2⟩:=ykl hL.right (by omega) o2 o3 h.iu h.ur;refine⟨A,T,n,o,z,k,g,r,X,hs,o1,s1,hL,hn,s2,h.rP,s2.can.right,h.l1,by have:=s2.le;omega,fun x hx=>?_,h.iu,h.ur⟩;dsimp only at hx;rw [s2.can.ale,hL.ev] at hx;exact hx.elim id (h.sub x)
theorem ygD{d:Des26}(hd:Des26In d)(keep:Bool):∃q n1 n2,y6j d keep=some q∧PbOk q n1 n2∧n1≤5∧n2≤25∧∀x∈q.1.1,0≤x∧x<5:=by
 obtain⟨q,n1,n2,h1,h2,h3,h4,h5⟩:=yhu hd;rw [y6j,h1,yOb];cases keep with
 | false=>
  rw [if_pos (show (!false)=true from rfl)];exact⟨q,n1,n2,rfl,h2,h3,by omega,h5⟩
 | true=>
  obtain⟨A,T,n,o,z,k,g,r,X,s1,s2,s3,s4,s5,s6,s7⟩:=yjW h2 h3 h4;rw [if_neg (by simp),s1,yOb];dsimp only;rw [s2,yOb,s3];exact⟨_,n1,X.length,rfl,s7,h3,by have:=s6.le;omega,h5⟩
def dB(P p:AutT)(T:List (List Int))(s u c:Int):Bool:=match st1 p s u with
 | none=>false
 | some r=>(st1 p s c).isSome&&(st1 p r c).isNone&&(match T[r.toNat]? with
  | some (x::_)=>(st1 P x c).isSome
  | _=>false)
section
variable{q:ProbT}{t:TaskT}{p:AutT}{T:List (List Int)}{n1 n2 n:Nat}
theorem ycq{a:AutT}{m:Nat}(hr:Right a m)(s e:Int):((st1 a s e).getD (-1) != -1)=(st1 a s e).isSome:=by
 cases hs:st1 a s e with
 | none=>rfl
 | some v=>
  have hv:=y7A hr hs;have:v≠ -1:=by omega
  simpa using this
theorem ygE(h:TaskOk q t p T n1 n2 n)(k:Nat)(u c:Int):y6A t (k:Int) u c=some (dB q.1 p T (k:Int) u c):=by
 rw [y6A,to_eq h.g3,yOb,ycq h.loop.right,dB];cases hs:st1 p (k:Int) u with
 | none=>rfl
 | some v=>
  have hv:=y7A h.loop.right hs;have hvt:v.toNat<T.length:=by rw [h.loop.tl];omega
  obtain⟨x,y,e,_⟩:=h.pair hvt;have hix:idx t.2.2.2.1 v=some [x,y]:=by
   rw [h.tt,←Int.toNat_of_nonneg hv.2.2.1,y7d,e]
  rw [if_pos (show (some v).isSome=true from rfl),to_eq h.g3,yOb,ycq h.loop.right];dsimp only [Option.getD_some];rw [e];dsimp only;cases hc:(st1 p (k:Int) c).isSome with
  | false=>rw [if_neg (by simp)];rfl
  | true=>
   rw [if_pos rfl,to_eq h.g3,yOb];have h7:((st1 p v c).getD (-1) == -1)=(st1 p v c).isNone:=by
    have:=ycq h.loop.right v c;cases hq:st1 p v c with
    | none=>rfl
    | some w=>
     have:=y7A h.loop.right hq;have:w≠ -1:=by omega
     simpa using this
   rw [h7];cases hn:(st1 p v c).isNone with
   | false=>rw [if_neg (by simp)];rfl
   | true=>
    rw [if_pos rfl,hix,yOb,show idx [x,y] 0=some x from rfl,yOb,to_eq h.g1,yOb,ycq h.rP];rfl
end
def FD(al:List Int)(L:Int→Int→Bool):Option (Int×Int)→Prop
 | none=>∀u∈al,∀c∈al,L u c=false
 | some z=>z.1∈al∧z.2∈al∧L z.1 z.2=true∧(∀u∈al,u<z.1→∀c∈al,L u c=false)∧∀c∈al,c<z.2→L z.1 c=false
section
variable{q:ProbT}{t:TaskT}{p:AutT}{T:List (List Int)}{n1 n2 n:Nat}
def dL(q:ProbT)(p:AutT)(T:List (List Int))(s u c:Int):Bool:=hasB q.2.2 u && !hasB q.2.2 c&&dB q.1 p T s u c
theorem yhz(h:TaskOk q t p T n1 n2 n){k:Nat}(hk:k<T.length):∃o,FD q.1.1 (dL q p T (k:Int)) o∧iter (y6t t (k:Int)) 0=some (match o with
  | none=> .inl ()
  | some z=> .inr (wN (edsOf p) (k:Int),[z.1,z.2])):=by
 obtain⟨ui,ul,um⟩:=h.uni;obtain⟨ci,cl,cm⟩:=h.con;obtain⟨U,hU⟩:∃U,U=t.2.2.2.2.1:=⟨_,rfl⟩;obtain⟨V,hV⟩:∃V,V=t.2.2.2.2.2:=⟨_,rfl⟩;rw [←hU] at ui ul um;rw [←hV] at ci cl cm;have hLu:∀u∈U,∀c∈V,dL q p T (k:Int) u c=dB q.1 p T (k:Int) u c:=fun u hu c hc=>by
  have h1:=yb.2 ((um u).1 hu).2;have h2:hasB q.2.2 c=false:=by
   cases hb:hasB q.2.2 c with
   | false=>rfl
   | true=>exact absurd (yb.1 hb) ((cm c).1 hc).2
  rw [dL,h1,h2];rfl
 have hLn:∀u∈q.1.1,∀c∈q.1.1,(u∈U→c∈V→dB q.1 p T (k:Int) u c=false)→dL q p T (k:Int) u c=false:=fun u hu c hc hd=>by
  by_cases h1:u∈q.2.2
  ·by_cases h2:c∈q.2.2
   ·rw [dL,yb.2 h2];simp
   ·have hu':=(um u).2 ⟨hu,h1⟩;have hc':=(cm c).2 ⟨hc,h2⟩;rw [hLu u hu' c hc'];exact hd hu' hc'
  ·have:hasB q.2.2 u=false:=by
    cases hb:hasB q.2.2 u with
    | false=>rfl
    | true=>exact absurd (yb.1 hb) h1
   rw [dL,this];rfl
 have hin:∀u∈U,∃o,iter (y6s t (k:Int) u) 0=some o∧((o= .inl ()∧∀c∈V,dB q.1 p T (k:Int) u c=false)∨∃i,∃hi:i<V.length,o= .inr (wN (edsOf p) (k:Int),[u,V[i]])∧dB q.1 p T (k:Int) u V[i]=true∧∀j (hj:j<V.length),j<i→dB q.1 p T (k:Int) u V[j]=false):=fun u hu=>by
  have hg:∀i (hi:i<V.length),V.getD i 0=V[i]:=fun i hi=>by rw [List.getD_eq_getElem?_getD,yGe hi,Option.getD_some]
  obtain⟨o,h1,h2⟩:=y8E (f:=y6s t (k:Int) u) (fun i=>i) V.length (by omega) (fun i=>dB q.1 p T (k:Int) u (V.getD i 0)) (fun i=>(wN (edsOf p) (k:Int),[u,V.getD i 0])) (fun i hi=>by
   rw [y6s,←hV,if_pos (ct_lt hi),ya hi,yOb,ygE h,yOb,nxt (by omega),hg i hi,h.word hk,yOb]) (by rw [y6s,←hV,if_neg ct_ge])
  refine⟨o,h1,?_⟩;rcases h2 with ⟨e,h3⟩|⟨i,hi,e,h3,h4⟩
  ·refine .inl ⟨e,fun c hc=>?_⟩;obtain⟨i,hi,rfl⟩:=List.getElem_of_mem hc;rw [←hg i hi];exact h3 i hi
  ·exact .inr ⟨i,hi,by rw [e,hg i hi],by rw [←hg i hi];exact h3,fun j hj hji=>by rw [←hg j hj];exact h4 j hji⟩
 obtain⟨o,h1,o',h2,h3⟩:=ye (f:=y6t t (k:Int)) (fun i s=>s=(i:Int)∧i≤U.length∧∀j (hj:j<U.length),j<i→∀c∈V,dB q.1 p T (k:Int) U[j] c=false) (fun o=>∃o',FD q.1.1 (dL q p T (k:Int)) o'∧o=(match o' with
  | none=> .inl ()
  | some z=> .inr (wN (edsOf p) (k:Int),[z.1,z.2]))) U.length 0 (by omega) (fun i s hi ⟨e1,_,hz⟩=>by
   subst e1;obtain⟨o,w1,w2⟩:=hin _ (yGm hi);rw [y6t,←hU,if_pos (ct_lt hi),ya hi,yOb,w1,yOb];rcases w2 with ⟨rfl,w3⟩|⟨j,hj,rfl,w3,w4⟩
   ·left;dsimp only;rw [nxt (by omega)];refine⟨_,rfl,rfl,hi,fun j hj hji c hc=>?_⟩;by_cases e:j=i
    ·subst e;exact w3 c hc
    ·exact hz j hj (by omega) c hc
   ·right;have hUi:=yGm hi;have hVj:=yGm hj;refine⟨_,rfl,some (U[i],V[j]),⟨((um _).1 hUi).1,((cm _).1 hVj).1,by dsimp only;rw [hLu _ hUi _ hVj];exact w3,fun u hu hlt c hc=>hLn u hu c hc fun hu' hc'=>?_,fun c hc hlt=>hLn _ ((um _).1 hUi).1 c hc fun _ hc'=>?_⟩,rfl⟩
    ·obtain ⟨i',hi',rfl⟩:=List.getElem_of_mem hu';refine hz i' hi' (Nat.lt_of_not_le fun hle=>?_) c hc';dsimp only at hlt;by_cases e:i=i'
     ·subst e;omega
     ·have:=List.pairwise_iff_getElem.1 ui i i' hi hi' (by omega);omega
    ·obtain ⟨i',hi',rfl⟩:=List.getElem_of_mem hc';refine w4 i' hi' (Nat.lt_of_not_le fun hle=>?_);dsimp only at hlt;by_cases e:j=i'
     ·subst e;omega
     ·have:=List.pairwise_iff_getElem.1 ci j i' hj hi' (by omega);omega) (fun s ⟨e1,_,hz⟩=>by
   subst e1;refine⟨.inl (),by rw [y6t,←hU,if_neg ct_ge],none,fun u hu c hc=>hLn u hu c hc fun hu' hc'=>?_,rfl⟩;obtain⟨i',hi',rfl⟩:=List.getElem_of_mem hu';exact hz i' hi' hi' c hc') (yZl _) 0 ⟨rfl,yZl _,fun j hj h0=>absurd h0 (Nat.not_lt_zero _)⟩
 exact⟨o',h2,by rw [h1,h3]⟩
theorem yhA(h:TaskOk q t p T n1 n2 n)(ho:y5j q=some (some t,0)):∃r,y8h q=some r∧((r=((0,[],[]),true,0)∧∀k,k<T.length→FD q.1.1 (dL q p T (k:Int)) none)∨∃(k:Nat) (z:Int×Int),k<T.length∧FD q.1.1 (dL q p T (k:Int)) (some z)∧(∀j,j<k→FD q.1.1 (dL q p T (j:Int)) none)∧r=((2,wN (edsOf p) (k:Int),[z.1,z.2]),false,0)):=by
 have htl:=h.loop.tl;have hle:=h.loop.le;obtain⟨o,h1,h2⟩:=ye (f:=y7l t) (fun i s=>s=(i:Int)∧i≤T.length∧∀j,j<i→FD q.1.1 (dL q p T (j:Int)) none) (fun o=>(o= .inl ()∧∀k,k<T.length→FD q.1.1 (dL q p T (k:Int)) none)∨∃(k:Nat) (z:Int×Int),k<T.length∧FD q.1.1 (dL q p T (k:Int)) (some z)∧(∀j,j<k→FD q.1.1 (dL q p T (j:Int)) none)∧o= .inr (wN (edsOf p) (k:Int),[z.1,z.2])) T.length 0 (by omega) (fun i s hi ⟨e1,_,hz⟩=>by
   subst e1;obtain⟨o,w1,w2⟩:=yhz h hi;rw [y7l,h.tt,if_pos (ct_lt hi),w2,yOb];cases o with
   | none=>
    left;dsimp only;rw [nxt (by omega)];refine⟨_,rfl,rfl,hi,fun j hj=>?_⟩;by_cases e:j=i
    ·subst e;exact w1
    ·exact hz j (by omega)
   | some z=>
    right;exact⟨_,rfl,.inr ⟨i,z,hi,w1,hz,rfl⟩⟩) (fun s ⟨e1,_,hz⟩=>by
   subst e1;exact⟨.inl (),by rw [y7l,h.tt,if_neg ct_ge],.inl ⟨rfl,hz⟩⟩) (yZl _) 0 ⟨rfl,yZl _,fun j hj=>absurd hj (Nat.not_lt_zero _)⟩
 rw [y8h,ho,yOb,if_neg (by simp),yOb,h1,yOb];rcases h2 with ⟨rfl,h3⟩|⟨k,z,hk,h3,h4,rfl⟩
 ·exact ⟨_,rfl,.inl ⟨rfl,h3⟩⟩
 ·exact ⟨_,rfl,.inr ⟨k,z,hk,h3,h4,rfl⟩⟩
end
theorem y8F{xs:List Int}{n:Int}(hl:xs.length<4611686018427387904):y1l xs n=some (yu n none xs):=y9l hl
def insP(x:Ins):Int×Int:=(x.op,x.arg)
theorem yae{l ps:List (Int×Int)}{i o:Int}(h:l.length+ps.length≤4294967296):yt (l,i,o) ps=some (l++ps,i,o):=by
 have hi:iter (y2b ps) (l,0)=some (l++ps):=by
  have:=y2Q (f:=y2b ps) (fun k=>(l++ps.take k,(k:Int))) ps.length (by omega) (o:=l++ps) (fun k hk=>by
   rw [y2b,if_pos (by simp;omega)];dsimp only;rw [ya hk,yOb,yi (by simp;omega),yOb,show(k:Int)+1=((k+1:Nat):Int) by omega,W_nat (by omega),yTs hk,List.append_assoc]) (by
   rw [y2b,if_neg (by simp)];simp)
  simpa using this
 rw [yt,hi];rfl
theorem yan{l:List (Int×Int)}{i o k:Int}(h0:0≤i∧i≤1000000)(h1:0≤o∧o≤1000000)(h2:0≤k∧k≤1000000):yI (l,i,o) k=some (i+o+k):=by
 rw [yI];dsimp only;rw [W_of (x:=i+o) (by omega) (by omega),W_of (by omega) (by omega)]
theorem yeq{l:List (Int×Int)}{i o k:Int}(h0:0≤i∧i≤1000000)(h2:0≤k∧k≤1000000):y2a (l,i,o) k=some (i+k):=by
 rw [y2a];dsimp only;rw [W_of (by omega) (by omega)]
theorem yhB(moved:Nat)(e:Nat×Nat):(edgeI moved e).map insP= [(1,(e.1:Int)),(4,(moved:Int)),(10,(e.1:Int)),(9,(e.2:Int)),(9,(moved:Int))]:=rfl
theorem flat5{moved:Nat}{E:List (Nat×Nat)}:((E.flatMap (edgeI moved)).map insP).length=5*E.length:=by rw [List.length_map,y7c]
theorem ygF{l:List (Int×Int)}{M C moved:Nat}{E:List Ed}(hE:∀x∈E,0≤x.f∧x.f≤100000∧0≤x.t∧x.t≤100000)(hM:M≤100000)(hC:C≤100000)(hl:l.length+5*E.length≤4000000000):
  iter (y1E (moved:Int) (E.map edP)) (l,(M:Int),(C:Int),0)=some (l++((E.map fun x=>(M+C+x.f.toNat,M+C+x.t.toNat)).flatMap (edgeI moved)).map insP,(M:Int),(C:Int)):=by
 have:=y2Q (f:=y1E (moved:Int) (E.map edP)) (fun k=>(l++(((E.take k).map fun x=>(M+C+x.f.toNat,M+C+x.t.toNat)).flatMap (edgeI moved)).map insP,(M:Int),(C:Int),(k:Int))) E.length (by omega) (o:=(l++((E.map fun x=>(M+C+x.f.toNat,M+C+x.t.toNat)).flatMap (edgeI moved)).map insP,(M:Int),(C:Int))) (fun k hk=>by
  have hx:=hE E[k] (yGm hk);rw [y1E,if_pos (by simp;omega)];dsimp only;rw [ya (by simpa using hk),yOb,List.getElem_map];dsimp only [edP];rw [yan (by omega) (by omega) (by omega),yOb,yan (by omega) (by omega) (by omega),yOb,yae (by simp only [List.length_append,y7c,List.length_map,List.length_take,List.length_cons,List.length_nil];omega),yOb,
   show(k:Int)+1=((k+1:Nat):Int) by omega,W_nat (by omega),yTs hk,List.map_append,List.flatMap_append,List.map_append,List.append_assoc]
  have e1:((M+C+E[k].f.toNat:Nat):Int)=M+C+E[k].f:=by omega
  have e2:((M+C+E[k].t.toNat:Nat):Int)=M+C+E[k].t:=by omega
  rw [List.map_cons,List.map_nil,List.flatMap_cons,List.flatMap_nil,List.append_nil,yhB];dsimp only;rw [e1,e2]) (by
  rw [y1E,if_neg (by simp),List.take_length])
 simpa using this
theorem yiJ{l:List (Int×Int)}{M C i moved alarm:Nat}{E:List Ed}(hE:∀x∈E,0≤x.f∧x.f≤100000∧0≤x.t∧x.t≤100000)(hM:M≤100000)(hC:C≤100000)(hl:l.length+5*E.length≤3000000000):
  y3H (l,(M:Int),(C:Int)) (i:Int) (moved:Int) (alarm:Int) (E.map edP)=
   some (l++(y7r i moved alarm (E.map fun x=>(M+C+x.f.toNat,M+C+x.t.toNat)) l.length).map insP,(M:Int),(C:Int)):=by
 have hX:∀X:List (Int×Int),X.length=5*E.length→
   (idx (l++[(2,(i:Int)),(12,0)]++[(1,(i:Int)),(10,(moved:Int))]++X++[(2,(moved:Int)),(9,(alarm:Int))]) (W (((l++[(2,(i:Int)),(12,0)]).length:Int)-1)))=some (12,0)∧
   upd (l++[(2,(i:Int)),(12,0)]++[(1,(i:Int)),(10,(moved:Int))]++X++[(2,(moved:Int)),(9,(alarm:Int))]) (W (((l++[(2,(i:Int)),(12,0)]).length:Int)-1)) (12,((l++[(2,(i:Int)),(12,0)]++[(1,(i:Int)),(10,(moved:Int))]++X++[(2,(moved:Int)),(9,(alarm:Int))]).length:Int))=
    some (l++([(2,(i:Int)),(12,((l.length+6+5*E.length:Nat):Int)),(1,(i:Int)),(10,(moved:Int))]++(X++[(2,(moved:Int)),(9,(alarm:Int))]))):=by
  intro X hX;have e0:W (((l++[(2,(i:Int)),(12,0)]).length:Int)-1)=((l.length+1:Nat):Int):=by
   rw [List.length_append,List.length_cons,List.length_cons,List.length_nil,show(((l.length+(0+1+1):Nat):Int)-1)=((l.length+1:Nat):Int) by omega,W_nat (by omega)]
  rw [e0];have e1:(l++[(2,(i:Int)),(12,0)]++[(1,(i:Int)),(10,(moved:Int))]++X++[(2,(moved:Int)),(9,(alarm:Int))])=l++((2,(i:Int))::(12,0)::([(1,(i:Int)),(10,(moved:Int))]++(X++[(2,(moved:Int)),(9,(alarm:Int))]))):=by simp
  rw [e1];constructor
  ·rw [y7d,List.getElem?_append_right (by omega),show l.length+1-l.length=1 by omega];rfl
  ·unfold upd;rw [if_pos ⟨by omega,by simp only [List.length_append,List.length_cons,List.length_nil];omega⟩,Int.toNat_natCast,List.set_append_right _ _ (by omega),show l.length+1-l.length=1 by omega];simp only [List.set_cons_succ,List.set_cons_zero,List.length_append,List.length_cons,List.length_nil,hX,List.cons_append,List.nil_append];congr 4;simp only [Prod.mk.injEq,true_and];omega
 have hflat:(((E.map fun x=>(M+C+x.f.toNat,M+C+x.t.toNat)).flatMap (edgeI moved)).map insP).length=5*E.length:=by rw [flat5,List.length_map]
 rw [y3H,yae (by simp;omega),yOb,yae (by simp;omega),yOb,ygF hE hM hC (by simp;omega),yOb,yae (by simp only [List.length_append,List.length_map,y7c,List.length_cons,List.length_nil];omega),yOb];dsimp only;obtain⟨g1,g2⟩:=hX _ hflat;rw [g1,yOb];dsimp only;rw [g2,yOb,y7r];simp only [List.map_append,List.map_cons,List.map_nil,insP,List.length_map]
theorem yfc{l:List (Int×Int)}{M C:Nat}{ms:List Nat}(hms:∀x∈ms,x≤100000)(hM:M≤100000)(hC:C≤100000)(hl:l.length+ms.length≤3000000000):
  iter (y1q (ms.map fun k:Nat=>(k:Int))) (l,(M:Int),(C:Int),0)=
   some (l++(match ms with | []=> []|m::r=>(⟨1,((M+C+m:Nat):Int)⟩:Ins)::r.map (fun k:Nat=>(⟨5,((M+C+k:Nat):Int)⟩:Ins))).map insP,(M:Int),(C:Int)):=by
 have hL:∀k,(h:k<ms.length)→((match ms with | []=> []|m::r=>(⟨1,((M+C+m:Nat):Int)⟩:Ins)::r.map (fun k:Nat=>(⟨5,((M+C+k:Nat):Int)⟩:Ins))).map insP)[k]? =some (if k=0 then 1 else 5,((M+C+ms[k]:Nat):Int)):=by
  intro k h;cases ms with
  | nil=>simp at h
  | cons m r=>
   cases k with
   | zero=>rfl
   | succ k=>simp at h;simp [h,insP]
 have hlen:((match ms with | []=> []|m::r=>(⟨1,((M+C+m:Nat):Int)⟩:Ins)::r.map (fun k:Nat=>(⟨5,((M+C+k:Nat):Int)⟩:Ins))).map insP).length=ms.length:=by cases ms <;> simp
 generalize ((match ms with | []=> []|m::r=>(⟨1,((M+C+m:Nat):Int)⟩:Ins)::r.map (fun k:Nat=>(⟨5,((M+C+k:Nat):Int)⟩:Ins))).map insP)=L at hL hlen;have:=y2Q (f:=y1q (ms.map fun k:Nat=>(k:Int))) (fun k=>(l++L.take k,(M:Int),(C:Int),(k:Int))) ms.length (by omega) (o:=(l++L,(M:Int),(C:Int))) (fun k hk=>by
  have hx:=hms ms[k] (yGm hk);rw [y1q,if_pos (by simp;omega)];dsimp only;rw [ya (by simpa using hk),yOb,List.getElem_map];have hop:idx ([1,5]:List Int) (if 1<(k:Int) then 1 else(k:Int))=some (if k=0 then 1 else 5):=by
   by_cases h0:k=0
   ·subst h0;rfl
   ·have:(if 1<(k:Int) then 1 else(k:Int))=1:=by split <;> omega
    rw [this,if_neg h0];rfl
  rw [hop,yOb,yan (by omega) (by omega) (by omega),yOb,yae (by simp only [List.length_append,List.length_take,List.length_cons,List.length_nil];omega),yOb,
   show(k:Int)+1=((k+1:Nat):Int) by omega,W_nat (by omega),List.append_assoc]
  have hk':k<L.length:=by omega
  have e:=hL k hk;rw [yGe hk',yIj] at e;rw [yTs hk',e];rfl) (by
  rw [y1q,if_neg (by simp),List.take_of_length_le (by omega)])
 simpa using this
theorem ygG{l:List (Int×Int)}{M C o:Nat}{ms:List Nat}(hms:∀x∈ms,x≤100000)(hM:M≤100000)(hC:C≤100000)(hl:l.length+ms.length≤2000000000):
  y3f (l,(M:Int),(C:Int)) (o:Int) (ms.map fun k:Nat=>(k:Int))=some (l++(y2y o (ms.map fun k=>M+C+k)).map insP,(M:Int),(C:Int)):=by
 rw [y3f];cases ms with
 | nil=>
  rw [if_pos (by simp),yae (by simp;simp at hl;omega),yOb];rfl
 | cons m r=>
  rw [if_neg (by simp;omega),yfc hms hM hC (show l.length+(m::r).length≤3000000000 by omega),yOb,yae (by simp at hl ⊢;omega),yOb];simp [y2y,insP,List.append_assoc]
theorem ygH{β:Type}(d:β)(m:List (Int×β))(k:Int)(v:β)(k':Int):(kget (kput m k v) k').getD d=if k=k' then v else(kget m k').getD d:=by
 rw [y5A];by_cases h:k=k'
 ·rw [if_pos h,if_pos h.symm];rfl
 ·rw [if_neg h,if_neg fun e=>h e.symm]
def y2u{β:Type}(f:Ed→β)(es:List Ed):List (Int×List β):=es.foldl (fun m x=>kput m x.e (((kget m x.e).getD [])++[f x])) []
theorem y9R{β:Type}(f:Ed→β)(k:Int):∀(es:List Ed) (m:List (Int×List β)),((kget (es.foldl (fun m x=>kput m x.e ((kget m x.e).getD []++[f x])) m) k).getD [])=((kget m k).getD [])++(es.filter fun x=>x.e==k).map f
 | [],m=>by simp
 | x::es,m=>by
  rw [List.foldl_cons,y9R f k es,ygH];by_cases h:x.e=k
  ·rw [if_pos h,List.filter_cons_of_pos (by simpa using h),h];simp
  ·rw [if_neg h,List.filter_cons_of_neg (by simpa using h)]
theorem ydo{β:Type}(f:Ed→β)(es:List Ed)(k:Int):(((kget (y2u f es) k).getD [])).length≤es.length:=by
 rw [y2u,y9R];simp only [kget,List.find?_nil,Option.map_none,Option.getD_none,List.nil_append,List.length_map];exact List.length_filter_le _ _
theorem ycF{β:Type}(f:Ed→β)(es:List Ed)(x:Ed):y2u f (es++[x])=kput (y2u f es) x.e (((kget (y2u f es) x.e).getD [])++[f x]):=by simp [y2u]
theorem yiK{a:Aut}(hl:a.es.length≤1000000):iter (y3A (autP a)) (0,([]:List (Int×List Int)),([]:List (Int×List (Int×Int×Int))))=some (y2u (fun x=>x.f) a.es,y2u edP a.es):=by
 have hlen:(autP a).2.2.2.length=a.es.length:=by simp [autP]
 have:=y2Q (f:=y3A (autP a)) (fun k=>((k:Int),y2u (fun x=>x.f) (a.es.take k),y2u edP (a.es.take k))) a.es.length (by omega) (o:=(y2u (fun x=>x.f) a.es,y2u edP a.es)) (fun k hk=>by
  rw [y3A,if_pos (by rw [hlen];simp;omega)];dsimp only;have h1:=ydo edP (a.es.take k) a.es[k].e;have h2:=ydo (fun x=>x.f) (a.es.take k) a.es[k].e;rw [List.length_take] at h1 h2;rw [ya (by rw [hlen];exact hk),yOb,show(autP a).2.2.2[k]'(by rw [hlen];exact hk)=edP a.es[k] from by simp [autP]];dsimp only [edP];rw [yi (by simp only [List.length_cons,List.length_nil];omega),yOb,yi (by simp only [List.length_cons,List.length_nil];omega),yOb,
   show(k:Int)+1=((k+1:Nat):Int) by omega,W_nat (by omega),yTs hk,ycF,ycF]
  rfl) (by
  rw [y3A,if_neg (by rw [hlen];simp),List.take_length])
 simpa [y2u] using this
theorem yaf(moved alarm:Nat):∀(l:List (Nat×List (Nat×Nat))) (x:Nat×List (Nat×Nat)) (s:Nat),y1c moved alarm (l++[x]) s=y1c moved alarm l s++y7r x.1 moved alarm x.2 (s+(y1c moved alarm l s).length)
 | [],x,s=>by simp [y1c]
 | (i,es)::l,x,s=>by
  rw [List.cons_append,y1c,y1c,yaf moved alarm l x,List.append_assoc,List.length_append,y6L];congr 3;omega
theorem yb6(l:List (Nat×List Nat))(x:Nat×List Nat):yF (l++[x])=yF l++y2y x.1 x.2:=by simp [yF]
theorem yfr(o:Nat)(ms:List Nat):(y2y o ms).length≤ms.length+3:=by cases ms <;> simp [y2y]
structure GenIn (a:Aut) (ctrl:List Int) (n:Nat):Prop where
 hn:a.n=n
 n0:0<n
 n1:n≤64
 es:a.es.length≤256
 al:a.al.length≤32
 ct:ctrl.length≤32
 ed:∀x∈a.es,0≤x.f∧x.f<(n:Int)∧0≤x.t∧x.t<(n:Int)
def yag(a:Aut)(ctrl:List Int):List (Nat×List (Nat×Nat)):=(evsOf a).map fun x=>(x.1,x.2.map fun e=>(a.al.length+(ctrl.length+1)+e.1,a.al.length+(ctrl.length+1)+e.2))
def y9A(a:Aut)(ctrl:List Int):List (Nat×List Nat):=(cmsOf a ctrl).map fun x=>(a.al.length+x.1,x.2.map fun y=>a.al.length+(ctrl.length+1)+y)
section
variable{a:Aut}{ctrl:List Int}{n:Nat}
theorem y8G :(yag a ctrl).length=a.al.length:=by simp [yag,evsOf]
theorem y9S :(y9A a ctrl).length=ctrl.length:=by simp [y9A,cmsOf]
theorem yer{k:Nat}(hk:k<a.al.length):(yag a ctrl)[k]'(by rw [y8G];exact hk)=(k,(a.es.filter fun x=>x.e==a.al[k]).map fun x=>(a.al.length+(ctrl.length+1)+x.f.toNat,a.al.length+(ctrl.length+1)+x.t.toNat)):=by
 simp [yag,evsOf,List.getD_eq_getElem?_getD,hk,List.map_map,Function.comp_def]
theorem yet{k:Nat}(hk:k<ctrl.length):(y9A a ctrl)[k]'(by rw [y9S];exact hk)=(a.al.length+k,(a.es.filter fun x=>x.e==ctrl[k]).map fun x=>a.al.length+(ctrl.length+1)+x.f.toNat):=by
 simp [y9A,cmsOf,List.getD_eq_getElem?_getD,hk,List.map_map,Function.comp_def]
theorem ycr(k:Int):(a.es.filter fun x=>x.e==k).length≤a.es.length:=List.length_filter_le _ _
theorem ydS{moved alarm:Nat}(h:GenIn a ctrl n):∀k,k≤a.al.length→(y1c moved alarm ((yag a ctrl).take k) 0).length≤k*2000
 | 0,_=>by simp [y1c]
 | k+1,hk=>by
  have ih:=ydS (moved:=moved) (alarm:=alarm) h k (by omega);rw [yTs (by rw [y8G];omega),yaf,List.length_append,y6L,yer (by omega)];have:=ycr (a:=a) a.al[k];have:=h.es;simp only [List.length_map];omega
theorem ygI(h:GenIn a ctrl n):iter (y3z (autP a) ctrl (y2u (fun x=>x.f) a.es,y2u edP a.es)) (0,([]:List (Int×Int)),(a.al.length:Int),((ctrl.length+1:Nat):Int))=
  some ((y1c (a.al.length+(ctrl.length+1)+n) (a.al.length+ctrl.length) (yag a ctrl) 0).map insP,(a.al.length:Int),((ctrl.length+1:Nat):Int)):=by
 have h1:=h.n1;have h2:=h.es;have h3:=h.al;have h4:=h.ct;have h5:=h.hn;refine y2Q (f:=y3z (autP a) ctrl (y2u (fun x=>x.f) a.es,y2u edP a.es)) (fun k=>((k:Int),(y1c (a.al.length+(ctrl.length+1)+n) (a.al.length+ctrl.length) ((yag a ctrl).take k) 0).map insP,(a.al.length:Int),((ctrl.length+1:Nat):Int))) a.al.length (by omega) (fun k hk=>?_) ?_
 ·rw [y3z,if_pos (by simp [autP];omega)];dsimp only [autP];have hg:=ydS (moved:=a.al.length+(ctrl.length+1)+n) (alarm:=a.al.length+ctrl.length) h k (by omega);have hf:=ycr (a:=a) a.al[k];rw [ya hk,yOb,yan (by omega) (by omega) (by omega),yOb,yeq (by omega) (by omega),yOb,
   show(kget (y2u edP a.es) a.al[k]).getD []=(a.es.filter fun x=>x.e==a.al[k]).map edP from by rw [y2u,y9R];rfl,
   show(a.al.length:Int)+((ctrl.length+1:Nat):Int)+a.n=((a.al.length+(ctrl.length+1)+n:Nat):Int) by omega,
   show(a.al.length:Int)+(ctrl.length:Int)=((a.al.length+ctrl.length:Nat):Int) by omega,
   yiJ (fun x hx=>by have:=h.ed x (List.mem_filter.1 hx).1;omega) (by omega) (by omega) (by rw [List.length_map];omega),yOb,
   show(k:Int)+1=((k+1:Nat):Int) by omega,W_nat (by omega),yTs (by rw [y8G];exact hk),yaf,List.map_append,yer hk,Nat.zero_add,List.length_map]
 ·rw [y3z,if_neg (by simp [autP]),List.take_of_length_le (by rw [y8G];omega)]
set_option maxHeartbeats 1000000 in
theorem yfd(h:GenIn a ctrl n){L:List (Int×Int)}(hL:L.length≤100000):iter (y3y ctrl (y2u (fun x=>x.f) a.es,y2u edP a.es)) (0,L,(a.al.length:Int),((ctrl.length+1:Nat):Int))=
  some (L++(yF (y9A a ctrl)).map insP,(a.al.length:Int),((ctrl.length+1:Nat):Int)):=by
 have h1:=h.n1;have h2:=h.es;have h3:=h.al;have h4:=h.ct;have h5:=h.hn;have hcl:∀k,k≤ctrl.length→(yF ((y9A a ctrl).take k)).length≤k*2000:=by
  intro k
  induction k with
  | zero=>intro _;simp [yF]
  | succ k ih=>
   intro hk;have:=ih (by omega);rw [yTs (by rw [y9S];omega)];rw [yb6,List.length_append,yet (by omega)];have hf:=ycr (a:=a) ctrl[k];have:=yfr (a.al.length+k) ((a.es.filter fun x=>x.e==ctrl[k]).map fun x=>a.al.length+(ctrl.length+1)+x.f.toNat);rw [List.length_map] at this;dsimp only;omega
 have key:=y2Q (f:=y3y ctrl (y2u (fun x=>x.f) a.es,y2u edP a.es)) (fun k=>((k:Int),L++(yF ((y9A a ctrl).take k)).map insP,(a.al.length:Int),((ctrl.length+1:Nat):Int))) ctrl.length (by omega) (o:=(L++(yF (y9A a ctrl)).map insP,(a.al.length:Int),((ctrl.length+1:Nat):Int))) (fun k hk=>by
  rw [y3y,if_pos (by simp;omega)];dsimp only;have hg:=hcl k (by omega);have hf:=ycr (a:=a) ctrl[k];have hms:(kget (y2u (fun x=>x.f) a.es) ctrl[k]).getD []=(((a.es.filter fun x=>x.e==ctrl[k]).map fun x=>x.f.toNat).map fun k:Nat=>(k:Int)):=by
   rw [y2u,y9R,List.map_map];simp only [kget,List.find?_nil,Option.map_none,Option.getD_none,List.nil_append];refine List.map_congr_left fun x hx=>?_;have:=h.ed x (List.mem_filter.1 hx).1;simp only [Function.comp_def];omega
  rw [ya hk,yOb,yeq (by omega) (by omega),yOb,hms,
   show(a.al.length:Int)+(k:Int)=((a.al.length+k:Nat):Int) by omega,
   ygG (fun x hx=>by
    obtain⟨y,hy,rfl⟩:=List.mem_map.1 hx;have:=h.ed y (List.mem_filter.1 hy).1;omega) (by omega) (by omega) (by simp only [List.length_append,List.length_map];omega),yOb,
   show(k:Int)+1=((k+1:Nat):Int) by omega,W_nat (by omega),yTs (by rw [y9S];exact hk),List.append_assoc,←List.map_append]
  rw [yb6,yet hk,List.map_map];rfl) (by
  rw [y3y,if_neg (by simp),List.take_of_length_le (by rw [y9S];omega)])
 rw [List.take_zero] at key;simpa [yF] using key
def codeP(a:Aut)(ctrl:List Int)(n:Nat):(Int×Int×Int×List Bool×List (Int×Int))×List Int×List Int×Int:=
 (((a.al.length:Int),((ctrl.length+1:Nat):Int),((n+1:Nat):Int),true::List.replicate n false,(genP a ctrl).map insP),a.al,ctrl,(n:Int))
set_option maxHeartbeats 1000000 in
theorem yfs(h:GenIn a ctrl n)(hms:a.ms.length≤1000000)(he:a.err=0)(hc:yu 32 none ctrl=0)(hs:yA ctrl a.al=some true):yM (autP a) ctrl=some (codeP a ctrl n,0):=by
 have h0:=h.n0;have h1:=h.n1;have h2:=h.es;have h3:=h.al;have h4:=h.ct;have h5:=h.hn;have hg:=ydS (moved:=a.al.length+(ctrl.length+1)+n) (alarm:=a.al.length+ctrl.length) h a.al.length (Nat.le_refl _);rw [List.take_of_length_le (by rw [y8G];omega)] at hg;rw [yM,ybu (by omega) (by omega) (by omega),yOb,he,if_neg (by simp),y8F (by omega),yOb,hc,if_neg (by simp),
  show yA ctrl (autP a).1=some true from hs,yOb,if_neg (by simp),if_neg (by simp [autP];omega),if_neg (by simp [autP];omega),yiK (by omega),yOb,
  show(autP a).1.length=a.al.length from rfl,show W ((ctrl.length:Int)+1)=((ctrl.length+1:Nat):Int) by rw [show (ctrl.length:Int)+1=((ctrl.length+1:Nat):Int) by omega,W_nat (by omega)],
  ygI h,yOb,yfd h (by rw [List.length_map];omega),yOb,
  show W ((autP a).2.1+1)=((n+1:Nat):Int) by
   show W (a.n+1)=_;rw [show a.n+1=((n+1:Nat):Int) by omega,W_nat (by omega)],
  y9n (by omega) (by omega),yOb,Int.toNat_natCast]
 have hi:idx (List.replicate (n+1) false) 0=some false:=by rw [List.replicate_succ];rfl
 have hu:upd (List.replicate (n+1) false) 0 true=some (true::List.replicate n false):=by
  unfold upd;rw [if_pos (by simp),List.replicate_succ];rfl
 rw [hi,yOb,hu,yOb,show(autP a).1=a.al from rfl,y8o (by omega),yOb,y8o (by omega),yOb];have e2:(autP a).2.1=(n:Int):=h5;rw [e2];simp only [codeP,genP,genI,List.map_append,List.length_cons,List.length_replicate,h5,Int.toNat_natCast];rfl
end
def prgP(m c n:Nat)(start:List Bool)(L:List Ins):Int×Int×Int×List Bool×List (Int×Int):=((m:Int),(c:Int),(n:Int),start,L.map insP)
def stB(op:Int)(acc v:Bool):Bool:=if op=7 then acc else if op=8 then !acc else if op=9 then v||acc else v && !acc
theorem ygJ{op:Int}(h1:7≤op)(h2:op≤10)(k:Int)(acc:Bool)(b:List Bool):y7y ⟨op,k⟩ acc b=b.set k.toNat (stB op acc (b.getD k.toNat false)):=by
 have hc:op=7∨op=8∨op=9∨op=10:=by omega
 rcases hc with rfl|rfl|rfl|rfl <;> rfl
theorem yfe{op:Int}(h1:1≤op)(h2:op≤13):∃T e,y1k=some T∧T.length=13∧idx T (W (op-1))=some e∧
    ((op≤6∧e.2.2.2.1=none∧e.2.2.2.2=none∧∃f,e.2.2.1=some f∧∀acc v k,f acc v=some (yaA ⟨op,k⟩ acc v))∨
     (7≤op∧op≤10∧e.2.2.1=none∧e.2.2.2.2=none∧∃f,e.2.2.2.1=some f∧∀acc v,f acc v=some (stB op acc v))∨
     (11≤op∧e.2.2.1=none∧e.2.2.2.1=none∧∃f,e.2.2.2.2=some f∧∀acc,f acc=some (if op=11 then true else if op=12 then acc else !acc))):=by
  have hc:op=1∨op=2∨op=3∨op=4∨op=5∨op=6∨op=7∨op=8∨op=9∨op=10∨op=11∨op=12∨op=13:=by omega
  rcases hc with rfl|rfl|rfl|rfl|rfl|rfl|rfl|rfl|rfl|rfl|rfl|rfl|rfl
  all_goals refine⟨_,_,rfl,rfl,rfl,?_⟩
  · exact .inl ⟨by decide,rfl,rfl,_,rfl,fun _ _ _=>rfl⟩
  · exact .inl ⟨by decide,rfl,rfl,_,rfl,fun _ _ _=>rfl⟩
  · exact .inl ⟨by decide,rfl,rfl,_,rfl,fun _ _ _=>rfl⟩
  · exact .inl ⟨by decide,rfl,rfl,_,rfl,fun _ _ _=>rfl⟩
  · exact .inl ⟨by decide,rfl,rfl,_,rfl,fun _ _ _=>rfl⟩
  · exact .inl ⟨by decide,rfl,rfl,_,rfl,fun _ _ _=>rfl⟩
  · exact .inr (.inl ⟨by decide,by decide,rfl,rfl,_,rfl,fun _ _=>rfl⟩)
  · exact .inr (.inl ⟨by decide,by decide,rfl,rfl,_,rfl,fun _ _=>rfl⟩)
  · exact .inr (.inl ⟨by decide,by decide,rfl,rfl,_,rfl,fun _ _=>rfl⟩)
  · exact .inr (.inl ⟨by decide,by decide,rfl,rfl,_,rfl,fun _ _=>rfl⟩)
  · exact .inr (.inr ⟨by decide,rfl,rfl,_,rfl,fun _=>rfl⟩)
  · exact .inr (.inr ⟨by decide,rfl,rfl,_,rfl,fun _=>rfl⟩)
  · exact .inr (.inr ⟨by decide,rfl,rfl,_,rfl,fun _=>rfl⟩)
structure PrgIn (m c n:Nat) (start:List Bool) (L:List Ins):Prop where
 hm:m≤256
 hc:c≤256
 hn:n≤256
 st:start.length=n
 len:L.length≤2048
 ok:∀(i:Nat) (x:Ins),L[i]? =some x→InsOk L.length (m+c+n) m i x
section
variable{m c n:Nat}{start:List Bool}{L:List Ins}
theorem yjX(h:PrgIn m c n start L):y4M (prgP m c n start L)=some 0:=by
 have h1:=h.hm;have h2:=h.hc;have h3:=h.hn;have h4:=h.st;have h5:=h.len;have hi:iter (y3I (prgP m c n start L)) 0=some (.inl ()):=by
  refine y2Q (f:=y3I (prgP m c n start L)) (fun k=>(k:Int)) 3 (by omega) (fun k hk=>?_) ?_
  ·rw [y3I,if_pos (by simp;omega)];have hx:∃x:Nat,idx ([(prgP m c n start L).1,(prgP m c n start L).2.1,(prgP m c n start L).2.2.1]:List Int) (k:Int)=some (x:Int)∧x≤256:=by
    have:k=0∨k=1∨k=2:=by omega
    rcases this with rfl|rfl|rfl
    ·exact ⟨m,rfl,h1⟩
    ·exact ⟨c,rfl,h2⟩
    ·exact ⟨n,rfl,h3⟩
   obtain⟨x,hx,hle⟩:=hx;rw [hx,yOb,if_neg (by simp only [Bool.or_eq_true,decide_eq_true_eq];omega),show(k:Int)+1=((k+1:Nat):Int) by omega,W_nat (by omega)]
  ·rfl
 rw [y4M,hi,yOb];dsimp only;rw [if_neg (by simp [prgP,h4]),if_neg (by simp [prgP];omega)]
theorem yiL(h:PrgIn m c n start L):y4T (prgP m c n start L)=some ((m+c+n:Nat):Int):=by
 have h1:=h.hm;have h2:=h.hc;have h3:=h.hn;rw [y4T];dsimp only [prgP];rw [W_of (x:=(m:Int)+c) (by omega) (by omega),W_of (by omega) (by omega)];simp
theorem ykm(h:PrgIn m c n start L){i:Nat}(hi:i<L.length):y2F (prgP m c n start L) (i:Int)=some 0:=by
 have hk:=h.ok i L[i] (yGe hi);obtain⟨T,e,hT,hl,he,hcase⟩:=yfe hk.op.1 hk.op.2;have hat:idx (prgP m c n start L).2.2.2.2 (i:Int)=some (insP L[i]):=by
  rw [ya (by simpa [prgP] using hi)];simp [prgP]
 have hop:=hk.op;rw [y2F,hat,yOb,hT,yOb,if_neg (by rw [hl];simp only [Bool.or_eq_true,decide_eq_true_eq];show ¬(L[i].op<1∨L[i].op>((13:Nat):Int));omega),
  show idx T (W ((insP L[i]).1-1))=some e from he,yOb]
 have hw:=yiL h;have hj:∀b:Bool,yE (prgP m c n start L) (insP L[i]) e b=if b then some 2 else if(e.2.2.2.1.isSome&&decide (L[i].arg<(m:Int))) then some 19 else some 0:=fun b=>rfl
 have hbit:e.2.2.2.2=none→L[i].op≤10→(e.2.2.2.1.isSome=true→7≤L[i].op)→(if e.2.2.2.2.isSome=true then(if ((decide ((insP L[i]).2≤(i:Int)))||(decide ((insP L[i]).2>((prgP m c n start L).2.2.2.2.length:Int))))=true then some 2 else some 0) else if decide ((insP L[i]).2<0)=true then yE (prgP m c n start L) (insP L[i]) e true else(y4T (prgP m c n start L)).bind fun r51=>yE (prgP m c n start L) (insP L[i]) e (decide ((insP L[i]).2≥r51)))=some 0:=by
  intro h1 h2 h3;have hb:=hk.bit h2;rw [if_neg (by rw [h1];simp),if_neg (show ¬decide ((insP L[i]).2<0)=true by rw [decide_eq_true_eq];show ¬L[i].arg<0;omega),hw,yOb,hj,if_neg (show ¬decide ((insP L[i]).2≥((m+c+n:Nat):Int))=true by rw [decide_eq_true_eq];show ¬L[i].arg≥_;omega)];rw [if_neg];rw [Bool.and_eq_true,decide_eq_true_eq];rintro⟨h4,h5⟩;have:=hk.store (h3 h4) h2;omega
 rcases hcase with ⟨h1,h2,h3,_⟩|⟨h1,h2,h3,h4,_⟩|⟨h1,h2,h3,f,h4,_⟩
 ·exact hbit h3 (by omega) (fun h=>by rw [h2] at h;cases h)
 ·exact hbit h4 h2 (fun _=>h1)
 ·have hb:=hk.jump h1;have hlen:(prgP m c n start L).2.2.2.2.length=L.length:=by simp [prgP]
  rw [if_pos (by rw [h4];rfl),if_neg];rw [hlen];simp only [Bool.or_eq_true,decide_eq_true_eq];show ¬(L[i].arg≤(i:Int)∨L[i].arg>(L.length:Int));omega
theorem ydp(h:PrgIn m c n start L):y4U (prgP m c n start L)=some 0:=by
 have h5:=h.len;have hlen:(prgP m c n start L).2.2.2.2.length=L.length:=by simp [prgP]
 have hi:iter (y3B (prgP m c n start L)) 0=some (.inl ()):=by
  refine y2Q (f:=y3B (prgP m c n start L)) (fun k=>(k:Int)) L.length (by omega) (fun k hk=>?_) ?_
  ·rw [y3B,if_pos (by rw [hlen];simp;omega),ykm h hk,yOb,if_neg (by simp),show(k:Int)+1=((k+1:Nat):Int) by omega,W_nat (by omega)]
  ·rw [y3B,if_neg (by rw [hlen];simp)]
 rw [y4U,yjX h,yOb,if_neg (by simp),hi];rfl
theorem yiM(h:PrgIn m c n start L):y4V (prgP m c n start L)=some ((List.replicate c false,start),0):=by
 have h2:=h.hc;have h3:=h.hn;have h4:=h.st;rw [y4V,ydp h,yOb,if_neg (by simp)];dsimp only [prgP];rw [y9n (by omega) (by omega),yOb,yi (by simp;omega),yOb];simp
end
end Go.Proofs.YtecmobjeeonmaaaGreatDoor
namespace Go.Proofs.YtecmobjeeonmaaaGreatDoor
def y4D :Nat→List Int→List Int→List Int→List Int
 | 0,_,_,out=>out
 | _+1,[],[],out=>out
 | f+1,[],_::vs,out=>y4D f [] vs out
 | f+1,a::us,[],out=>y4D f us [] (out++[a])
 | f+1,a::us,b::vs,out=>if a<b then y4D f us (b::vs) (out++[a]) else if b<a then y4D f (a::us) vs out else y4D f us vs out
theorem y7B :∀(f:Nat) (us vs out:List Int),Inc us→Inc vs→us.length+vs.length≤f→y4D f us vs out=out++us.filter fun x=>!hasB vs x
 | 0,us,vs,out,_,_,h=>by
  have ha:us= []:=List.eq_nil_of_length_eq_zero (by omega);rw [ha,y4D];simp
 | f+1,[],[],out,_,_,_=>by rw [y4D];simp
 | f+1,[],b::vs,out,ha,hb,h=>by
  rw [y4D,y7B f [] vs out ha (List.pairwise_cons.1 hb).2 (by simp at h ⊢;omega)];simp
 | f+1,a::us,[],out,ha,hb,h=>by
  rw [y4D,y7B f us [] _ (List.pairwise_cons.1 ha).2 hb (by simp at h ⊢;omega),List.filter_cons_of_pos (by simp [hasB]),List.append_assoc];rfl
 | f+1,a::us,b::vs,out,ha,hb,h=>by
  obtain⟨ha1,ha2⟩:=List.pairwise_cons.1 ha;obtain⟨hb1,hb2⟩:=List.pairwise_cons.1 hb;rw [List.length_cons,List.length_cons] at h;rw [y4D];by_cases h1:a<b
  ·have hn:hasB (b::vs) a=false:=by
    rw [y9L];intro hm;rcases List.mem_cons.1 hm with h2|h2
    ·omega
    ·have:=hb1 a h2;omega
   rw [if_pos h1,y7B f us (b::vs) _ ha2 hb (by rw [List.length_cons];omega),List.filter_cons_of_pos (by rw [hn];rfl),List.append_assoc];rfl
  ·rw [if_neg h1];by_cases h2:b<a
   ·rw [if_pos h2,y7B f (a::us) vs out ha hb2 (by rw [List.length_cons];omega)];congr 1;apply List.filter_congr;intro x hx;have hx2:a≤x:=by
     rcases List.mem_cons.1 hx with h3|h3
     ·omega
     ·have:=ha1 x h3;omega
    congr 1;rw [Bool.eq_iff_iff,yb,yb,List.mem_cons];exact⟨.inr,fun h3=>h3.elim (fun h4=>by omega) id⟩
   ·have hab:a=b:=by omega
    subst hab;rw [if_neg h2,y7B f us vs out ha2 hb2 (by omega),List.filter_cons_of_neg (by rw [yb.2 (List.mem_cons_self ..)];simp)];congr 1;apply List.filter_congr;intro x hx;have hx2:=ha1 x hx;congr 1;rw [Bool.eq_iff_iff,yb,yb,List.mem_cons];exact⟨.inr,fun h3=>h3.elim (fun h4=>by omega) id⟩
def subB(us vs:List Int):Bool:=us.all (hasB vs)
theorem yhC{us vs:List Int}(ha:Inc us)(hb:Inc vs):(y4D (us.length+vs.length) us vs []= [])↔subB us vs=true:=by
 rw [y7B _ us vs [] ha hb (Nat.le_refl _),List.nil_append,List.filter_eq_nil_iff,subB,yAt];exact⟨fun h x hx=>by simpa using h x hx,fun h x hx=>by rw [h x hx];simp⟩
end Go.Proofs.YtecmobjeeonmaaaGreatDoor
namespace Go.Proofs.YtecmobjeeonmaaaGreatDoor
open Go Go.RowKit
variable{us vs ctrl:List Int}{x e:Int}{n2 n1:Nat}{U w:List Int}
theorem yiN :∀(f:Nat) (us vs out:List Int),us.length+vs.length≤f→out.length+us.length≤4294967296→iterF (yg yw) (f+1) (out,us,vs)=some (y4D f us vs out):=by
 intro f
 induction f with
 | zero=>
  intro us vs out h _;have h1:us= []:=List.eq_nil_of_length_eq_zero (by omega);have h2:vs= []:=List.eq_nil_of_length_eq_zero (by omega);subst h1;subst h2;rfl
 | succ f ih=>
  intro us vs out h ho;rw [yc];cases us with
  | nil=>
   cases vs with
   | nil=>rfl
   | cons b vs=>
    have e:yg yw (out,[],b::vs)=some (.inl (out,[],vs)):=by
     rw [yg];dsimp only;rw [if_pos (by simp),if_neg (by simp),yr];dsimp only;rw [if_pos (by simp),if_pos (by simp),ym,if_neg (by simp),yk,if_pos rfl];dsimp only;rw [y1s,yOb,y4Y,yOb];rfl
    rw [e];exact ih [] vs out (by simp at h ⊢;omega) ho
  | cons a us=>
   rw [List.length_cons] at h ho;have ho':app out ([a]:List Int)=some (out++[a]):=yi (by simp;omega);cases vs with
   | nil=>
    have e:yg yw (out,a::us,[])=some (.inl (out++[a],us,[])):=by
     rw [yg];dsimp only;rw [if_pos (by simp),if_pos (by simp),if_pos (by simp),yr];dsimp only;rw [if_neg (by simp),ym,if_pos rfl];dsimp only;rw [y1s,yOb,y4Y,yOb,yk,if_neg (by simp),yq,show yw true false=some true from rfl,yOb,if_pos rfl];dsimp only;rw [ho',yOb]
    rw [e];exact ih us [] (out++[a]) (by simp at h ⊢;omega) (by simp;omega)
   | cons b vs=>
    rw [List.length_cons] at h;have e0:yg yw (out,a::us,b::vs)=ym yw (out,a::us,b::vs) (decide (a≤b)) (decide (b≤a)):=by
     rw [yg];dsimp only;rw [if_pos (by simp),if_pos (by simp),if_neg (by simp;omega),y1s,yOb,y1s,yOb,yr];dsimp only;rw [if_pos (by simp),if_neg (by simp;omega),y1s,yOb,y1s,yOb]
    rw [e0,y4D,ym];dsimp only;by_cases h1:a<b
    ·rw [if_pos (show decide (a≤b)=true by simp;omega),y1s,yOb,y4Y,yOb,yk,if_neg (by simp;omega),yq,show decide (a≤b)=true by simp;omega,show decide (b≤a)=false by simp;omega,
      show yw true false=some true from rfl,yOb,if_pos rfl,if_pos h1]
     dsimp only;rw [ho',yOb];exact ih us (b::vs) (out++[a]) (by simp;omega) (by simp;omega)
    ·rw [if_neg h1];by_cases h2:b<a
     ·rw [if_neg (show ¬decide (a≤b)=true by simp;omega),yk,if_pos (show decide (b≤a)=true by simp;omega)];dsimp only;rw [y1s,yOb,y4Y,yOb,yq,show decide (a≤b)=false by simp;omega,show decide (b≤a)=true by simp;omega,
       show yw false true=some false from rfl,yOb,if_neg (by simp),if_pos h2]
      exact ih (a::us) vs out (by simp;omega) (by simp;omega)
     ·rw [if_pos (show decide (a≤b)=true by simp;omega),y1s,yOb,y4Y,yOb,yk,if_pos (show decide (b≤a)=true by simp;omega)];dsimp only;rw [y1s,yOb,y4Y,yOb,yq,show decide (a≤b)=true by simp;omega,show decide (b≤a)=true by simp;omega,
       show yw true true=some false from rfl,yOb,if_neg (by simp),if_neg h2]
      exact ih us vs out (by omega) (by omega)
theorem yiO(hu:us.length≤4294967296)(hv:vs.length≤4294967296):y3N us vs=some (y4D (us.length+vs.length) us vs []):=by
 have h:iter (yg yw) (([]:List Int),us,vs)=some (y4D (us.length+vs.length) us vs []):=y2M (by omega) (yiN _ us vs [] (Nat.le_refl _) (by simpa using hu));rw [y3N,y2R,h];rfl
theorem yc2(hu:us.length≤4294967296)(hv:vs.length≤4294967296)(iu:Inc us)(iv:Inc vs):yA us vs=some (subB us vs):=by
 rw [yA,yiO hu hv,yOb];have h:=yhC iu iv;cases hb:subB us vs with
 | true=>rw [h.2 hb];rfl
 | false=>
  have hn:y4D (us.length+vs.length) us vs []≠ []:=fun e=>by rw [h.1 e] at hb;cases hb
  have:(y4D (us.length+vs.length) us vs []).length≠0:=fun e=>hn (List.eq_nil_of_length_eq_zero e);rw [show (((y4D (us.length+vs.length) us vs []).length:Int)==0)=false from by simpa using hn]
theorem yiP{al:List Int}(hu:us.length<4294967296)(ha:al.length<4294967296)(iu:Inc us)(ia:Inc al)(he:yu 32 none us=0)(hs:subB us al=true):y7n us al=some 0:=by
 rw [y7n,y8F (by omega),he,yOb,if_neg (by simp),yc2 (by omega) (by omega) iu ia,hs,yOb];rfl
theorem yiQ{ys:List Bool}{k:Nat}(h:k<ys.length):(ys.take k++List.replicate (ys.length-k) false).set k ys[k]=ys.take (k+1)++List.replicate (ys.length-(k+1)) false:=by
 have hl:(ys.take k).length=k:=by simp;omega
 rw [List.set_append_right _ _ (by omega),hl,Nat.sub_self,show ys.length-k=(ys.length-(k+1))+1 by omega,List.replicate_succ,List.set_cons_zero,yTs h,List.append_assoc];rfl
theorem yhD{p:Int×Int×Int×List Bool×List (Int×Int)}{al ev:List Int}{n:Int}(ha:al.length<4294967296)(he:ev.length<4294967296)(ia:Inc al)(ie:Inc ev)(hs:yu 32 none ev=0)(hb:subB ev al=true):
  y7b (p,al,ctrl,n) ev=some (al.map (hasB ev),0):=by
 have hi:iter (y4w (p,al,ctrl,n) ev) (0,List.replicate al.length false)=some (al.map (hasB ev)):=by
  have hml:(al.map (hasB ev)).length=al.length:=List.length_map ..;have e0:((0:Int),List.replicate al.length false)=(fun k:Nat=>((k:Int),(al.map (hasB ev)).take k++List.replicate ((al.map (hasB ev)).length-k) false)) 0:=by simp
  refine Eq.trans (congrArg _ e0) (y2Q (f:=y4w (p,al,ctrl,n) ev) (fun k:Nat=>((k:Int),(al.map (hasB ev)).take k++List.replicate ((al.map (hasB ev)).length-k) false)) al.length (by omega) (fun k hk=>?_) ?_)
  ·rw [y4w];dsimp only;have hk2:k<((al.map (hasB ev)).take k++List.replicate ((al.map (hasB ev)).length-k) false).length:=by simp;omega
   rw [if_pos (by simp;omega),ya hk,yOb,y6x he ie,yOb,ya hk2,yOb,upd,if_pos ⟨by omega,by omega⟩,yOb,Int.toNat_natCast,
    show(k:Int)+1=((k+1:Nat):Int) by omega,W_nat (by omega),show hasB ev al[k]=(al.map (hasB ev))[k]'(by rw [hml];exact hk) by simp,yiQ (by rw [hml];exact hk)]
  ·rw [y4w];dsimp only;rw [if_neg (by simp),hml,Nat.sub_self,List.take_of_length_le (by omega),List.replicate_zero,List.append_nil]
 rw [y7b];dsimp only;rw [yiP he ha ie ia hs hb,yOb,if_neg (by simp),y9n (by omega) (by omega),yOb,Int.toNat_natCast,hi];rfl
theorem yhE{x y z:List Bool}(h:x.length+y.length+z.length≤100000):y6l [x,y,z]=some (x++y++z):=by
 have h1:iter (y2n [x,y,z]) (0,0)=some ((x.length+y.length+z.length:Nat):Int):=by
  refine y2M (n:=4) (by omega) ?_;have hn:∀(i:Nat) (k:Nat) (l:List Bool),[x,y,z][i]? =some l→k+l.length≤100000→i<3→y2n [x,y,z] ((i:Int),(k:Int))=some (.inl (((i+1:Nat):Int),((k+l.length:Nat):Int))):=fun i k l hl hk hi=>by
   rw [y2n];dsimp only;rw [if_pos (by simp;omega),y7d,hl,yOb,show(k:Int)+(l.length:Int)=((k+l.length:Nat):Int) by omega,W_nat (by omega),if_neg (by simp;omega),y6J];dsimp only;rw [show (i:Int)+1=((i+1:Nat):Int) by omega,W_nat (by omega)]
  rw [yc,show y2n [x,y,z] (0,0)=_ from hn 0 0 x rfl (by omega) (by omega)];dsimp only;rw [yc,hn (0+1) (0+x.length) y rfl (by omega) (by omega)];dsimp only;rw [yc,hn (0+1+1) (0+x.length+y.length) z rfl (by omega) (by omega)];dsimp only;rw [yc,y2n,if_neg (by simp)];show some ((0+x.length+y.length+z.length:Nat):Int)=_;rw [Nat.zero_add]
 have h2:iter (y2m [x,y,z]) (0,([]:List Bool))=some (x++y++z):=by
  refine y2M (n:=4) (by omega) ?_;have hn:∀(i:Nat) (k l:List Bool),[x,y,z][i]? =some l→k.length+l.length≤100000→i<3→y2m [x,y,z] ((i:Int),k)=some (.inl (((i+1:Nat):Int),k++l)):=fun i k l hl hk hi=>by
   rw [y2m];dsimp only;rw [if_pos (by simp;omega),y7d,hl,yOb,yi (by omega),yOb,show(i:Int)+1=((i+1:Nat):Int) by omega,W_nat (by omega)]
  rw [yc,show y2m [x,y,z] (0,[])=_ from hn 0 [] x rfl (by simp;omega) (by omega)];dsimp only;rw [yc,hn (0+1) ([]++x) y rfl (by simp;omega) (by omega)];dsimp only;rw [yc,hn (0+1+1) ([]++x++y) z rfl (by simp;omega) (by omega)];dsimp only;rw [yc,y2m,if_neg (by simp)];rfl
 rw [y6l,h1,yOb,y5x,if_pos ⟨rfl,by omega,by omega⟩,yOb,h2];rfl
theorem yiR{m c n:Nat}{start:List Bool}{L:List Ins}(h:PrgIn m c n start L){inp out mem:List Bool}(hi:inp.length=m)(ho:out.length=c)(hm:mem.length=n):
  y6B (prgP m c n start L) (out,mem) inp=some (inp++out++mem,0):=by
 have h1:=h.hm;have h2:=h.hc;have h3:=h.hn;rw [y6B,ydp h,yOb,if_neg (by simp),if_neg (by simp [prgP,hi,ho,hm]),yhE (by show inp.length+out.length+mem.length≤_;omega)];rfl
theorem yhF{m c n:Nat}{start:List Bool}{L:List Ins}(h:PrgIn m c n start L){T}(hT:y1k=some T){i:Nat}(hi:i<L.length){acc:Bool}{xs:List Int}{b:List Bool}(hx:xs.length≤i)(hb:b.length=m+c+n):
  y1R (prgP m c n start L) T (b,(i:Int),acc,xs)=some (.inl ((y3O L[i] i acc b).2.2,((y3O L[i] i acc b).1:Int),(y3O L[i] i acc b).2.1,xs++[(i:Int)])):=by
 have hlen:=h.len;have hk:=h.ok i L[i] (yGe hi);obtain⟨T',e,hT',hl,he,hcase⟩:=yfe hk.op.1 hk.op.2;rw [hT] at hT';cases hT';have hop:=hk.op;have hat:idx (prgP m c n start L).2.2.2.2 (i:Int)=some (insP L[i]):=by
  rw [ya (by simpa [prgP] using hi)];simp [prgP]
 have hinc:W ((i:Int)+1)=((i+1:Nat):Int):=by rw [show (i:Int)+1=((i+1:Nat):Int) by omega,W_nat (by omega)]
 rw [y1R];dsimp only;rw [if_pos (by simp [prgP];omega),yi (by simp;omega),yOb,hat,yOb,show idx T (W ((insP L[i]).1-1))=some e from he,yOb,hinc];have hbit:L[i].op≤10→idx b (insP L[i]).2=some (b.getD L[i].arg.toNat false):=fun h10=>by
  have h1:=hk.bit h10;show idx b L[i].arg=_;rw [show L[i].arg=(L[i].arg.toNat:Int) by omega,ya (by omega),Int.toNat_natCast,List.getD_eq_getElem?_getD,yGe (by omega)];rfl
 rcases hcase with ⟨h1,h2,h3,f,hf,hf2⟩|⟨h1,h1',h2,h3,f,hf,hf2⟩|⟨h1,h2,h3,f,hf,hf2⟩
 ·rw [if_pos (by rw [hf];rfl),hbit (by omega),yOb,hf,yOb,hf2 _ _ L[i].arg,yOb];have e1:y7S L[i] i acc=i+1:=by rw [y7S,if_pos ⟨hop.1,by omega⟩]
  have e2:y7y L[i] acc b=b:=by
   rw [y7y,if_neg (by omega),if_neg (by omega),if_neg (by omega),if_neg (by omega)]
  simp only [y3O,e1,e2]
 ·have h10:=hk.bit h1';rw [if_neg (by rw [h2];simp),if_pos (by rw [hf];rfl),hbit h1',yOb,hf,yOb,hf2,yOb,yOb];have e1:y7S L[i] i acc=i+1:=by rw [y7S,if_pos ⟨hop.1,by omega⟩]
  have e2:∀v,yaA L[i] acc v=acc:=fun v=>by
   rw [yaA,if_neg (by omega),if_neg (by omega),if_neg (by omega),if_neg (by omega),if_neg (by omega),if_neg (by omega)]
  have e3:=ygJ h1 h1' L[i].arg acc b;rw [show upd b (insP L[i]).2 (stB L[i].op acc (b.getD L[i].arg.toNat false))=some (y7y L[i] acc b) from by
   rw [show y7y L[i] acc b=_ from e3];exact if_pos ⟨h10.1,by show L[i].arg<_;omega⟩,yOb]
  simp only [y3O,e1,e2]
 ·have hj:=hk.jump h1;rw [if_neg (by rw [h2];simp),if_neg (by rw [h3];simp),hf,yOb,hf2,yOb];have e2:∀v,yaA L[i] acc v=acc:=fun v=>by
   rw [yaA,if_neg (by omega),if_neg (by omega),if_neg (by omega),if_neg (by omega),if_neg (by omega),if_neg (by omega)]
  have e3:y7y L[i] acc b=b:=by
   rw [y7y,if_neg (by omega),if_neg (by omega),if_neg (by omega),if_neg (by omega)]
  have e1:((y7S L[i] i acc:Nat):Int)=if(if L[i].op=11 then true else if L[i].op=12 then acc else !acc)=true then L[i].arg else((i+1:Nat):Int):=by
   rw [y7S,if_neg (by omega)];have ha:(L[i].arg.toNat:Int)=L[i].arg:=by omega
   by_cases h11:L[i].op=11
   ·rw [if_pos h11,if_pos h11,if_pos rfl,ha]
   ·rw [if_neg h11,if_neg h11];by_cases h12:L[i].op=12
    ·rw [if_pos h12,if_pos h12];cases acc
     ·rfl
     ·rw [if_pos rfl,if_pos rfl,ha]
    ·rw [if_neg h12,if_neg h12];cases acc
     ·show ((if false=true then i+1 else L[i].arg.toNat:Nat):Int)=_;rw [if_neg (by simp)];exact ha
     ·rfl
  simp only [y3O,e2,e3,e1];generalize (if L[i].op=11 then true else if L[i].op=12 then acc else !acc)=q;cases q <;> rfl
theorem PrgIn.fwd{m c n:Nat}{start:List Bool}{L:List Ins}(h:PrgIn m c n start L):Fwd L:=fun i x hx ho=>by
 have hk:=h.ok i x hx;have:=hk.op;exact(hk.jump (by omega)).1
theorem yft(x:Ins)(acc:Bool)(b:List Bool):(y7y x acc b).length=b.length:=by
 unfold y7y;split
 ·simp
 ·split
  ·simp
  ·split
   ·simp
   ·split <;> simp
theorem yjY{m c n:Nat}{start:List Bool}{L:List Ins}(h:PrgIn m c n start L){T}(hT:y1k=some T):∀(f i:Nat) (acc:Bool) (xs:List Int) (b:List Bool),L.length≤i+f→xs.length≤i→b.length=m+c+n→
  (yp L i acc b).length=b.length∧∃ys,iterF (y1R (prgP m c n start L) T) (f+1) (b,(i:Int),acc,xs)=some (yp L i acc b,ys):=by
 intro f
 induction f with
 | zero=>
  intro i acc xs b h1 h2 h3;rw [ybc (by omega)];refine⟨rfl,xs,?_⟩;rw [yc,y1R];dsimp only;rw [if_neg (by simp [prgP];omega)]
 | succ f ih=>
  intro i acc xs b h1 h2 h3;by_cases hi:i<L.length
  ·have hx:L[i]? =some L[i]:=yGe hi;have hg:=ybb h.fwd hx acc b;have hl:(y3O L[i] i acc b).2.2.length=b.length:=yft ..;obtain⟨e1,ys,e2⟩:=ih (y3O L[i] i acc b).1 (y3O L[i] i acc b).2.1 (xs++[(i:Int)]) (y3O L[i] i acc b).2.2 (by omega) (by simp;omega) (by omega);rw [y5g h.fwd hx,yc,yhF h hT hi h2 h3];exact⟨by omega,ys,e2⟩
  ·rw [ybc (by omega)];refine⟨rfl,xs,?_⟩;rw [yc,y1R];dsimp only;rw [if_neg (by simp [prgP];omega)]
theorem yiS :∃T,y1k=some T:=by
 obtain⟨T,_,h,_⟩:=yfe (op:=1) (by omega) (by omega);exact⟨T,h⟩
theorem yiT{m c n:Nat}{start:List Bool}{L:List Ins}(h:PrgIn m c n start L){b:List Bool}(hb:b.length=m+c+n):(yp L 0 false b).length=b.length∧∃ys,y6P (prgP m c n start L) b=some (ys,yp L 0 false b):=by
 obtain⟨T,hT⟩:=yiS;obtain⟨h1,ys,h2⟩:=yjY h hT L.length 0 false [] b (by omega) (by simp) hb;have h5:=h.len;refine⟨h1,ys,?_⟩;rw [y6P,hT,yOb,show iter (y1R (prgP m c n start L) T) (b,0,false,([]:List Int))=_ from y2M (by omega) h2];rfl
theorem yhG{m c n:Nat}{start:List Bool}{L:List Ins}(h:PrgIn m c n start L){b:List Bool}(hb:b.length=m+c+n):y6C (prgP m c n start L) b=some ((b.drop m).take c,b.drop (m+c)):=by
 have h1:=h.hm;have h2:=h.hc;have h3:=h.hn;rw [y6C];dsimp only [prgP];rw [show (m:Int)+c=((m+c:Nat):Int) by omega,W_nat (by omega),slc3,if_pos ⟨by omega,by omega,by omega,by omega⟩,yOb,slc3,if_pos ⟨by omega,by omega,by omega,by omega⟩,yOb,
  Int.toNat_natCast,Int.toNat_natCast,Int.toNat_natCast,List.drop_take,List.take_of_length_le (Nat.le_refl _),show m+c-m=c by omega]
theorem yiU{m c n:Nat}{start:List Bool}{L:List Ins}(h:PrgIn m c n start L){inp out mem:List Bool}(hi:inp.length=m)(ho:out.length=c)(hm:mem.length=n):
  y5y (prgP m c n start L) (out,mem) inp=some ((((yp L 0 false (inp++out++mem)).drop m).take c,(yp L 0 false (inp++out++mem)).drop (m+c)),0):=by
 have hb:(inp++out++mem).length=m+c+n:=by simp;omega
 obtain⟨h1,ys,h2⟩:=yiT h hb;rw [y5y,yiR h hi ho hm,yOb,if_neg (by simp)];dsimp only;rw [h2,yOb];dsimp only;rw [yhG h (by omega)];rfl
section
variable{a:Aut}{ctrl:List Int}{n:Nat}
theorem ygd(h:GenIn a ctrl n)(ia:Inc a.al)(ic:Inc ctrl):PrgIn a.al.length (ctrl.length+1) (n+1) (true::List.replicate n false) (genP a ctrl):=by
 have h0:=h.n0;have h1:=h.n1;have h2:=h.es;have h3:=h.al;have h4:=h.ct;have h5:=h.hn;have h6:=yiC ia ic (a:=a);exact⟨by omega,by omega,by omega,by simp,by omega,yjQ h5 h.ed⟩
theorem yiV(h:GenIn a ctrl n)(ia:Inc a.al)(ic:Inc ctrl){ev:List Int}(ie:Inc ev)(hl:ev.length<4294967296)(he:yu 32 none ev=0)(hs:subB ev a.al=true){out mem:List Bool}(ho:out.length=ctrl.length+1)(hm:mem.length=n+1):
  y6Q (codeP a ctrl n) (out,mem) ev=some ((((yp (genP a ctrl) 0 false (a.al.map (hasB ev)++out++mem)).drop a.al.length).take (ctrl.length+1),(yp (genP a ctrl) 0 false (a.al.map (hasB ev)++out++mem)).drop (a.al.length+(ctrl.length+1))),0):=by
 have h3:=h.al;rw [y6Q,codeP,yhD (by omega) hl ia ie he hs,yOb,if_neg (by simp)];show(y5y (prgP a.al.length (ctrl.length+1) (n+1) (true::List.replicate n false) (genP a ctrl)) (out,mem) (a.al.map (hasB ev))).bind (fun r=>some r)=_;rw [yiU (ygd h ia ic) (by simp) ho hm];rfl
theorem ydT{out mem:List Bool}(ho:out.length=ctrl.length+1)(hm:mem.length=n+1):y5J (codeP a ctrl n) (out,mem)=some 0:=by
 rw [y5J,if_neg (by simp [codeP,ho,hm])]
theorem ygK(h:GenIn a ctrl n){out mem:List Bool}(ho:out.length=ctrl.length+1)(hm:mem.length=n+1):y6R (codeP a ctrl n) (out,mem)=some (out.getD ctrl.length false,0):=by
 rw [y6R,ydT ho hm,yOb,if_neg (by simp),show idx (out,mem).1 ((codeP a ctrl n).2.2.1.length:Int)=some (out[ctrl.length]'(by omega)) from ya (xs:=out) (i:=ctrl.length) (by omega),yOb,List.getD_eq_getElem?_getD,yGe (by omega)];rfl
theorem ygL(h:GenIn a ctrl n){out mem:List Bool}(ho:out.length=ctrl.length+1)(hm:mem.length=n+1){q:Int→Bool}(hq:∀k,k<ctrl.length→out.getD k false=q (ctrl.getD k 0)):
  y4b (codeP a ctrl n) (out,mem)=some (ctrl.filter q,0):=by
 have h4:=h.ct;have hi:iter (y4a (codeP a ctrl n) (out,mem)) (0,([]:List Int))=some (ctrl.filter q):=by
  have e0:((0:Int),([]:List Int))=(fun k:Nat=>((k:Int),(ctrl.take k).filter q)) 0:=by simp
  refine Eq.trans (congrArg _ e0) (y2Q (f:=y4a (codeP a ctrl n) (out,mem)) (fun k:Nat=>((k:Int),(ctrl.take k).filter q)) ctrl.length (by omega) (fun k hk=>?_) ?_)
  ·rw [y4a];dsimp only;have ht:(ctrl.take (k+1)).filter q=(ctrl.take k).filter q++(if q ctrl[k] then [ctrl[k]] else []):=by
    rw [yTs hk,List.filter_append];cases hc:q ctrl[k] <;> simp [hc]
   have hk3:out[k]'(by omega)=q ctrl[k]:=by
    have:=hq k hk;rwa [List.getD_eq_getElem?_getD,yGe (by omega),List.getD_eq_getElem?_getD,yGe hk] at this
   have hlen:((ctrl.take k).filter q).length≤32:=Nat.le_trans (List.length_filter_le ..) (by simp;omega);rw [if_pos (show decide ((k:Int)<((codeP a ctrl n).2.2.1.length:Int))=true from decide_eq_true (show (k:Int)<(ctrl.length:Int) by omega)),show idx (codeP a ctrl n).2.2.1 (k:Int)=some ctrl[k] from ya hk,yOb,ya (by omega),yOb,hk3,ht];cases hc:q ctrl[k] with
   | true=>
    rw [if_pos rfl,yi (by simp;omega),yOb,y3Z,show(k:Int)+1=((k+1:Nat):Int) by omega,W_nat (by omega)];rfl
   | false=>
    rw [if_neg (by simp),y3Z,show(k:Int)+1=((k+1:Nat):Int) by omega,W_nat (by omega),if_neg (by simp),List.append_nil]
  ·rw [y4a];dsimp only;rw [if_neg (show ¬decide ((ctrl.length:Int)<((codeP a ctrl n).2.2.1.length:Int))=true from by rw [decide_eq_true_eq];show ¬(ctrl.length:Int)<(ctrl.length:Int);omega),List.take_of_length_le (Nat.le_refl _)]
 rw [y4b,ydT ho hm,yOb,if_neg (by simp),hi];rfl
theorem yhH(h:GenIn a ctrl n){out mem:List Bool}(ho:out.length=ctrl.length+1)(hm:mem.length=n+1){s:Nat}(hs:s<n)(hq:∀k,k<n→mem.getD k false=decide (k=s)):
  y7o (codeP a ctrl n) (out,mem)=some ((s:Int),0):=by
 have h1:=h.n1;have hl:(mem.take n).length=n:=by simp;omega
 have hi:iter (y4X (mem.take n)) (0,0,0)=some (1,(s:Int)):=by
  have e0:((0:Int),(0:Int),(0:Int))=(fun k:Nat=>((k:Int),(if s<k then 1 else 0:Int),(if s<k then(s:Int) else 0))) 0:=by simp
  refine Eq.trans (congrArg _ e0) (y2Q (f:=y4X (mem.take n)) (fun k:Nat=>((k:Int),(if s<k then 1 else 0:Int),(if s<k then(s:Int) else 0))) n (by omega) (fun k hk=>?_) ?_)
  ·rw [y4X];dsimp only;have hk3:(mem.take n)[k]'(by omega)=decide (k=s):=by
    have:=hq k hk;rw [List.getElem_take];rwa [List.getD_eq_getElem?_getD,yGe (by omega)] at this
   rw [if_pos (by rw [hl];simp;omega),ya (by omega),yOb,hk3];by_cases hks:k=s
   ·subst hks;rw [if_pos (by simp),if_neg (by omega),if_neg (by omega),if_pos (by omega),if_pos (by omega),y4W,show(k:Int)+1=((k+1:Nat):Int) by omega,W_nat (by omega)];rfl
   ·rw [if_neg (by simpa using hks),y4W,show(k:Int)+1=((k+1:Nat):Int) by omega,W_nat (by omega)];by_cases hsk:s<k
    ·rw [if_pos hsk,if_pos hsk,if_pos (by omega),if_pos (by omega)]
    ·rw [if_neg hsk,if_neg hsk,if_neg (by omega),if_neg (by omega)]
  ·rw [y4X];dsimp only;rw [if_neg (by rw [hl];simp),if_pos hs,if_pos hs]
 rw [y7o,ydT ho hm,yOb,if_neg (by simp),show slc (out,mem).2 0 (codeP a ctrl n).2.2.2=some (mem.take n) from by
  show slc mem 0 (n:Int)=_;rw [slc,if_pos ⟨by omega,by omega,by omega⟩];simp,yOb,hi,yOb,if_neg (by simp)]
end
structure Shows (a:Aut) (ctrl:List Int) (n:Nat) (s:Nat) (al:Bool) (st:List Bool×List Bool):Prop where
 ho:st.1.length=ctrl.length+1
 hm:st.2.length=n+1
 hs:s<n
 hq:∀k,k<n→st.2.getD k false=decide (k=s)
 ha:st.1.getD ctrl.length false=al
theorem yiW(h:subB us vs=true):∀x∈us,x∈vs:=fun x hx=>yb.1 (yAt.1 h x hx)
theorem yhI{a:Aut}{n:Nat}(h:GenIn a ctrl n)(ia:Inc a.al)(ic:Inc ctrl){ev:List Int}(ie:Inc ev)(hl:ev.length<4294967296)(he:yu 32 none ev=0)(hsub:subB ev a.al=true){st:List Bool×List Bool}{s:Nat}{al:Bool}(hv:Shows a ctrl n s al st):
  ∃st',y6Q (codeP a ctrl n) st ev=some (st',0)∧Shows a ctrl n (ev.foldl (y5N a.es) (s,al)).1 (ev.foldl (y5N a.es) (s,al)).2 st'∧
   ∀k,k<ctrl.length→st'.1.getD k false=(stepF a.es (ev.foldl (y5N a.es) (s,al)).1 (ctrl.getD k 0)).isSome:=by
 have h1:=yiV h ia ic ie hl he hsub (out:=st.1) (mem:=st.2) hv.ho hv.hm;have v0:=yjR (m:=a.al.length) (inp:=a.al.map (hasB ev)) (by simp) hv.ho hv.hm hv.hq hv.ha;obtain⟨v1,v2,v3⟩:=yiB h.hn h.ed ia ie (yiW hsub) hv.hs v0;refine⟨_,h1,⟨v1.out.1,v1.mem.1,v2,v1.mem.2,v1.out.2.1⟩,fun k hk=>?_⟩;rw [←v3 k hk];exact v1.out.2.2 k (by omega)
theorem Shows.start{a:Aut}{n:Nat}(h0:0<n):Shows a ctrl n 0 false (List.replicate (ctrl.length+1) false,true::List.replicate n false):=by
 refine⟨by simp,by simp,h0,fun k hk=>?_,?_⟩
 ·cases k with
  | zero=>rfl
  | succ k=>
   show(true::List.replicate n false).getD (k+1) false=_;rw [List.getD_cons_succ,List.getD_eq_getElem?_getD,List.getElem?_replicate];split <;> simp
 ·show (List.replicate (ctrl.length+1) false).getD ctrl.length false=_;rw [List.getD_eq_getElem?_getD,List.getElem?_replicate];split <;> rfl
theorem yhJ{a:Aut}{n:Nat}(h:GenIn a ctrl n)(ia:Inc a.al)(ic:Inc ctrl):y4V (codeP a ctrl n).1=some ((List.replicate (ctrl.length+1) false,true::List.replicate n false),0):=yiM (ygd h ia ic)
theorem yjZ :y7h=some true:=by kernel_rfl
theorem ydU{xs:List (Int×Int×Int)}{p:(Int×Int×Int)→Option Bool}{q:(Int×Int×Int)→Bool}(hl:xs.length≤1000000)(hp:∀x,p x=some (q x)):
  ∃k,yv xs p=some k∧((k= -1∧xs.find? q=none)∨∃(i:Nat) (h:i<xs.length),k=(i:Int)∧xs.find? q=some xs[i]):=by
 obtain⟨o,h1,h2⟩:=ye (f:=y1t xs p) (fun i s=>s=(i:Int)∧i≤xs.length∧xs.find? q=(xs.drop i).find? q) (fun o=>(o= .inl ()∧xs.find? q=none)∨∃(i:Nat) (h:i<xs.length),o= .inr (i:Int)∧xs.find? q=some xs[i]) xs.length 0 (by omega) (fun i s hi ⟨e1,_,e2⟩=>by
  subst e1;rw [List.drop_eq_getElem_cons hi] at e2;cases hq:q xs[i] with
  | true=>
   right;refine⟨_,?_,.inr ⟨i,hi,rfl,by rw [e2,List.find?_cons_of_pos hq]⟩⟩;rw [y1t,if_pos (ct_lt hi),ya hi,yOb,hp,hq,yOb,if_pos rfl]
  | false=>
   left;refine⟨((i+1:Nat):Int),?_,rfl,by omega,by rw [e2,List.find?_cons_of_neg (by rw [hq];simp)]⟩;rw [y1t,if_pos (ct_lt hi),ya hi,yOb,hp,hq,yOb,if_neg (by simp),nxt (by omega)]) (fun s ⟨e1,_,e2⟩=>by
  subst e1;rw [List.drop_length] at e2;exact⟨_,by rw [y1t,if_neg ct_ge],.inl ⟨rfl,e2⟩⟩) (yZl _) 0 ⟨rfl,yZl _,rfl⟩
 rw [yv,h1,yOb];rcases h2 with ⟨rfl,g⟩|⟨i,hi,rfl,g⟩
 ·exact ⟨_,rfl,.inl ⟨rfl,g⟩⟩
 ·exact ⟨_,rfl,.inr ⟨i,hi,rfl,g⟩⟩
theorem yd1{b:BenT}{n:Nat}(hP:Right b.1.1 n)(e:Int):y1Q b e=some ((st1 b.1.1 b.2.2.1 e).getD (-1)):=by
 obtain⟨k,h1,h2⟩:=ydU (xs:=b.1.1.2.2.2) (p:=y2r (some b) e) (q:=fun x=>x.1==b.2.2.1&&x.2.1==e) hP.l3 (fun x=>by
  rw [y2r,yOb];by_cases hx:(x.1==b.2.2.1)=true
  ·rw [if_pos hx,y1F,hx,Bool.true_and]
  ·rw [if_neg hx,y1F];simp only [Bool.not_eq_true] at hx;rw [hx,Bool.false_and])
 rw [y1Q,h1,yOb];unfold st1;rcases h2 with ⟨rfl,g⟩|⟨i,hi,rfl,g⟩
 ·rw [g,if_pos (by simp)];rfl
 ·rw [g,if_neg (by simp),yOb,ya hi,yOb];rfl
theorem ydV{b:BenT}{n:Nat}(hP:Right b.1.1 n)(e:Int):y2v b e=some ((st1 b.1.1 b.2.2.1 e).isSome,(b.1,b.2.1,(st1 b.1.1 b.2.2.1 e).getD b.2.2.1,b.2.2.2)):=by
 rw [y2v,yd1 hP,yOb];cases hs:st1 b.1.1 b.2.2.1 e with
 | none=>
  rw [if_neg (by simp),y2G];rfl
 | some t=>
  have ht:=((hP.es _ ((y7q hP).1 hs)).2.2.1:(0:Int)≤t);rw [if_pos (by simpa using ht),y2G];simp [ht]
def trF(P:AutT)(c:Int):List Int→Int→Bool→List Int→Int×Bool×List Int
 | [],s,ok,out=>(s,ok,out)
 | e::l,s,ok,out=>match st1 P s e with
  | none=>trF P c l s ok out
  | some t=>trF P c l t (ok&&(st1 P t c).isSome) (out++[e])
theorem yb7{P:AutT}{n:Nat}(hP:Right P n)(s e:Int):decide ((st1 P s e).getD (-1)≥0)=(st1 P s e).isSome:=by
 cases hs:st1 P s e with
 | none=>rfl
 | some t=>
  have ht:=((hP.es _ ((y7q hP).1 hs)).2.2.1:(0:Int)≤t);simpa using ht
theorem yhK{b:BenT}{n:Nat}(hP:Right b.1.1 n){l:List Int}(hl:l.length≤1000000)(c:Int):
  y4N b l c=some ((trF b.1.1 c l b.2.2.1 (c != -1) []).2.2,(trF b.1.1 c l b.2.2.1 (c != -1) []).2.1,(b.1,b.2.1,(trF b.1.1 c l b.2.2.1 (c != -1) []).1,b.2.2.2)):=by
 obtain⟨o,h1,h2⟩:=ye (f:=y3J l c) (fun i s=>s.2.1=(i:Int)∧s.1.1=b.1∧s.1.2.1=b.2.1∧s.1.2.2.2=b.2.2.2∧s.2.2.2.length≤i∧trF b.1.1 c l b.2.2.1 (c != -1) []=trF b.1.1 c (l.drop i) s.1.2.2.1 s.2.2.1 s.2.2.2) (fun o=>o=((b.1,b.2.1,(trF b.1.1 c l b.2.2.1 (c != -1) []).1,b.2.2.2),(trF b.1.1 c l b.2.2.1 (c != -1) []).2)) l.length 0 (by omega) (fun i s hi ⟨e1,e2,e3,e4,e5,e6⟩=>by
  obtain⟨⟨b1,b2,b3,b4⟩,j,ok,out⟩:=s;dsimp only at e1 e2 e3 e4 e5 e6;subst e1 e2 e3 e4;left;rw [List.drop_eq_getElem_cons hi,trF] at e6;have ht:=ydV (b:=(b.1,b.2.1,b3,b.2.2.2)) hP l[i];dsimp only at ht;rw [y3J,if_pos (ct_lt hi),ya hi,yOb,ht,yOb];cases hs:st1 b.1.1 b3 l[i] with
  | none=>
   rw [hs] at e6;refine⟨((b.1,b.2.1,b3,b.2.2.2),((i+1:Nat):Int),ok,out),?_,rfl,rfl,rfl,rfl,Nat.le_succ_of_le e5,e6⟩;rw [if_neg (by simp),y1v,nxt (by omega)];rfl
  | some t=>
   rw [hs] at e6;refine⟨((b.1,b.2.1,t,b.2.2.2),((i+1:Nat):Int),(ok&&(st1 b.1.1 t c).isSome),out++[l[i]]),?_,rfl,rfl,rfl,rfl,by simp;omega,e6⟩;have hld:=yd1 (b:=(b.1,b.2.1,t,b.2.2.2)) hP c;dsimp only at hld;rw [if_pos (by rfl),yi (by simp;omega),yOb,Option.getD_some];cases ok with
   | true=>rw [if_pos rfl,hld,yOb,yOb,y1v,yb7 hP,nxt (by omega),Bool.true_and]
   | false=>rw [if_neg (by simp),yOb,y1v,nxt (by omega),Bool.false_and]) (fun s ⟨e1,e2,e3,e4,e5,e6⟩=>by
  obtain⟨⟨b1,b2,b3,b4⟩,j,ok,out⟩:=s;dsimp only at e1 e2 e3 e4 e5 e6;subst e1 e2 e3 e4;rw [List.drop_length,trF] at e6;exact⟨_,by rw [y3J,if_neg ct_ge],by rw [e6]⟩) (yZl _) (b,0,(c != -1),[]) ⟨rfl,rfl,rfl,rfl,Nat.le_refl _,rfl⟩
 rw [y4N,h1,yOb,h2]
theorem has55{xs:List Int}(hl:xs.length≤1000000)(x:Int):y1n xs x=some (hasB xs x):=by
 obtain⟨o,h1,h2⟩:=ye (f:=y3F xs x) (fun i s=>s=(i:Int)∧∀j (h:j<xs.length),j<i→xs[j]≠x) (fun o=>(o= .inl ()∧x∉xs)∨(o= .inr ()∧x∈xs)) xs.length 0 (by omega) (fun i s hi ⟨e1,e2⟩=>by
  subst e1;by_cases he:xs[i]=x
  ·right;refine⟨_,?_,.inr ⟨rfl,he▸yGm hi⟩⟩;rw [y3F,if_pos (ct_lt hi),ya hi,yOb,if_pos (by simpa using he)]
  ·left;refine⟨((i+1:Nat):Int),?_,rfl,fun j h hj=>?_⟩
   ·rw [y3F,if_pos (ct_lt hi),ya hi,yOb,if_neg (by simpa using he),nxt (by omega)]
   ·by_cases e:j=i
    ·subst e;exact he
    ·exact e2 j h (by omega)) (fun s ⟨e1,e2⟩=>by
  subst e1;refine⟨_,by rw [y3F,if_neg ct_ge],.inl ⟨rfl,fun hm=>?_⟩⟩;obtain⟨j,hj,e⟩:=List.mem_iff_getElem.1 hm;exact e2 j hj hj e) (yZl _) 0 ⟨rfl,fun j h hj=>by omega⟩
 rw [y1n,h1,yOb];rcases h2 with ⟨rfl,g⟩|⟨rfl,g⟩
 ·have:hasB xs x=false:=by
   cases hb:hasB xs x with
   | false=>rfl
   | true=>exact absurd (yb.1 hb) g
  rw [this]
 ·rw [yb.2 g]
def hnS(S:AutT)(x:Int×Bool)(e:Int):Int×Bool:=match st1 S x.1 e with
 | none=>(x.1,true)
 | some t=>(t,x.2)
def imL(S:AutT)(im:List Int)(k:Nat):List Int:=((List.range k).map fun i:Nat=>(i:Int)).filter fun e=>hasB im e&&hasB S.1 e
theorem yff{S:AutT}{n:Nat}(hS:Right S n)(s:Nat)(e:Int):(stepF (toAut S).es s e).map (fun t:Nat=>(t:Int))=st1 S (s:Int) e:=by
 unfold stepF st1;show((((S.2.2.2.map toEd).find? _).map _).map _)=_;rw [List.find?_map];cases h:S.2.2.2.find? fun x=>x.1==(s:Int)&&x.2.1==e with
 | none=>
  have h':S.2.2.2.find? ((fun x:Ed=>x.f==(s:Int)&&x.e==e)∘toEd)=none:=h;rw [h'];rfl
 | some x=>
  have h':S.2.2.2.find? ((fun x:Ed=>x.f==(s:Int)&&x.e==e)∘toEd)=some x:=h;have:=(hS.es x (List.mem_of_find?_eq_some h)).2.2.1;rw [h'];show some (((x.2.2).toNat:Nat):Int)=some x.2.2;rw [Int.toNat_of_nonneg this]
theorem ydW{S:AutT}{n:Nat}(hS:Right S n):∀(ev:List Int) (s:Nat) (al:Bool),(ev.foldl (hnS S) ((s:Int),al))=(((ev.foldl (y5N (toAut S).es) (s,al)).1:Int),(ev.foldl (y5N (toAut S).es) (s,al)).2)
 | [],_,_=>rfl
 | e::ev,s,al=>by
  rw [List.foldl_cons,List.foldl_cons,hnS,y5N];dsimp only;have h:=yff hS s e;cases hs:stepF (toAut S).es s e with
  | none=>
   rw [hs] at h;rw [←h];exact ydW hS ev s true
  | some t=>
   rw [hs] at h;rw [←h];exact ydW hS ev t al
theorem ycs{S:AutT}{n:Nat}(hS:Right S n){im:List Int}:e∈imL S im 32↔e∈im∧e∈S.1:=by
 unfold imL;rw [List.mem_filter,Bool.and_eq_true,yb,yb,List.mem_map];constructor
 ·rintro ⟨_,h⟩;exact h
 ·intro h;have:=hS.alr e h.2;exact⟨⟨e.toNat,List.mem_range.2 (by omega),by omega⟩,h⟩
theorem ydX{S:AutT}{im:List Int}:Inc (imL S im 32):=by
 unfold imL Inc;refine List.Pairwise.filter _ ?_;rw [List.pairwise_map];exact List.pairwise_lt_range.imp fun h=>by omega
theorem ygM{b:BenT}{n:Nat}(hS:Right b.1.2.1 n){l:List Int}(hl:l.length≤1000000):iter (y1T b l) (0,[])=some (l.filter (hasB b.1.2.1.1)):=by
 obtain⟨o,h1,h2⟩:=ye (f:=y1T b l) (fun i s=>s.1=(i:Int)∧i≤l.length∧s.2=(l.take i).filter (hasB b.1.2.1.1)) (fun o=>o=l.filter (hasB b.1.2.1.1)) l.length 0 (by omega) (fun i s hi ⟨e1,_,e2⟩=>by
  obtain⟨j,out⟩:=s;dsimp only at e1 e2;subst e1;left;have hle:=List.length_filter_le (hasB b.1.2.1.1) (l.take i);rw [List.length_take,←e2] at hle;refine⟨(((i+1:Nat):Int),(l.take (i+1)).filter (hasB b.1.2.1.1)),?_,rfl,by omega,rfl⟩;rw [y1T,if_pos (ct_lt hi),ya hi,yOb,y1b (by have:=hS.l1;omega),yOb,yTs hi,List.filter_append,←e2,List.filter_cons,List.filter_nil];cases hb:hasB b.1.2.1.1 l[i] with
  | true=>rw [if_pos rfl,yi (by simp;omega),yOb,y1S,nxt (by omega),if_pos rfl]
  | false=>rw [if_neg (by simp),y1S,nxt (by omega),if_neg (by simp),List.append_nil]) (fun s ⟨e1,_,e2⟩=>by
  obtain⟨j,out⟩:=s;dsimp only at e1 e2;subst e1;exact⟨_,by rw [y1T,if_neg ct_ge],by rw [e2,List.take_length]⟩) (yZl _) (0,[]) ⟨rfl,yZl _,by simp⟩
 rw [h1,h2]
theorem yiX{S:AutT}{n:Nat}(hS:Right S n){l:List Int}(hn:l.Nodup):isL (l.filter (hasB S.1))=imL S l 32:=by
 refine ybx ?_ ydX fun e=>?_
 ·have hp:=y6T (l.filter (hasB S.1));have hd:(isL (l.filter (hasB S.1))).Nodup:=hp.nodup_iff.2 (hn.filter _);exact(ydg _).imp₂ (fun _ _ h1 h2=>by omega) hd
 ·rw [(y6T _).mem_iff,List.mem_filter,yb,ycs hS]
theorem ygN{b:BenT}{n:Nat}(hS:Right b.1.2.1 n)(hG:GenIn (toAut b.1.2.1) ctrl n)(ic:Inc ctrl)(hc:b.2.1=codeP (toAut b.1.2.1) ctrl n){s:Nat}{al:Bool}(hv:Shows (toAut b.1.2.1) ctrl n s al b.2.2.2){l:List Int}(hl:l.length≤1000000)(hn:l.Nodup):
  ∃st',yS b l=some (0,(b.1,b.2.1,b.2.2.1,st'))∧∃(s':Nat) (al':Bool),(imL b.1.2.1 l 32).foldl (hnS b.1.2.1) ((s:Int),al)=((s':Int),al')∧Shows (toAut b.1.2.1) ctrl n s' al' st'∧
   ∀k,k<ctrl.length→st'.1.getD k false=(st1 b.1.2.1 (s':Int) (ctrl.getD k 0)).isSome:=by
 have hi:=ydX (S:=b.1.2.1) (im:=l);have hr:∀x∈imL b.1.2.1 l 32,0≤x∧x<32:=fun x hx=>hS.alr x ((ycs hS).1 hx).2;have hlen:=Alp.len ⟨hi,hr⟩;obtain⟨st',g1,g2,g3⟩:=yhI hG hS.ali ic hi (by omega) (y6S hi hr nofun) (yAt.2 fun x hx=>yb.2 ((ycs hS).1 hx).2) hv;refine⟨st',?_,_,_,ydW hS _ _ _,g2,fun k hk=>?_⟩
 ·have hfl:=List.length_filter_le (hasB b.1.2.1.1) l;rw [yS,ygM hS hl,yOb,y2w,if_pos (by omega),yOb,yiX hS hn,hc,g1,yOb,if_pos (by rfl),y3g,←hc]
 ·rw [g3 k hk,←yff hS];simp
def cmdL(q:PbT):List Int:=q.2.1.1.filter fun e=>!hasB q.2.2 e
theorem yfu{q:PbT}(h1:q.2.1.1.length≤1000000)(h2:q.2.2.length≤1000000):y6w q=some (cmdL q):=by
 obtain⟨o,g1,g2⟩:=ye (f:=y3u q) (fun i s=>s.1=(i:Int)∧i≤q.2.1.1.length∧s.2=(q.2.1.1.take i).filter fun e=>!hasB q.2.2 e) (fun o=>o=cmdL q) q.2.1.1.length 0 (by omega) (fun i s hi ⟨e1,_,e2⟩=>by
  obtain⟨j,out⟩:=s;dsimp only at e1 e2;subst e1;left;have hle:=List.length_filter_le (fun e=>!hasB q.2.2 e) (q.2.1.1.take i);rw [List.length_take,←e2] at hle;refine⟨(((i+1:Nat):Int),(q.2.1.1.take (i+1)).filter fun e=>!hasB q.2.2 e),?_,rfl,by omega,rfl⟩;rw [y3u,if_pos (ct_lt hi),ya hi,yOb,has55 h2,yOb,yTs hi,List.filter_append,←e2,List.filter_cons,List.filter_nil];cases hb:hasB q.2.2 q.2.1.1[i] with
  | true=>rw [if_neg (by simp),y3t,nxt (by omega),if_neg (by simp),List.append_nil]
  | false=>rw [if_pos (by rfl),yOb,yi (by simp;omega),yOb,y3t,nxt (by omega),if_pos (by rfl)]) (fun s ⟨e1,_,e2⟩=>by
  obtain⟨j,out⟩:=s;dsimp only at e1 e2;subst e1;exact⟨_,by rw [y3u,if_neg ct_ge],by rw [e2,List.take_length];rfl⟩) (yZl _) (0,[]) ⟨rfl,yZl _,by simp⟩
 rw [y6w,g1,yOb,g2]
theorem ydY{q:PbT}(h1:q.2.1.1.length≤1000000)(h2:q.2.2.length≤1000000):y6a q=yM q.2.1 (cmdL q):=by
 obtain⟨o,g1,g2⟩:=ye (f:=y6k q) (fun i s=>s.1=(i:Int)∧i≤q.2.1.1.length∧s.2=(q.2.1.1.take i).filter fun e=>!hasB q.2.2 e) (fun o=>o=cmdL q) q.2.1.1.length 0 (by omega) (fun i s hi ⟨e1,_,e2⟩=>by
  obtain⟨j,out⟩:=s;dsimp only at e1 e2;subst e1;left;have hle:=List.length_filter_le (fun e=>!hasB q.2.2 e) (q.2.1.1.take i);rw [List.length_take,←e2] at hle;refine⟨(((i+1:Nat):Int),(q.2.1.1.take (i+1)).filter fun e=>!hasB q.2.2 e),?_,rfl,by omega,rfl⟩;rw [y6k,if_pos (ct_lt hi),ya hi,yOb,y1b (by omega),yOb,yTs hi,List.filter_append,←e2,List.filter_cons,List.filter_nil];cases hb:hasB q.2.2 q.2.1.1[i] with
  | true=>rw [if_neg (by simp),y4t,nxt (by omega),if_neg (by simp),List.append_nil]
  | false=>rw [if_pos (by rfl),yi (by simp;omega),yOb,y4t,nxt (by omega),if_pos (by rfl)]) (fun s ⟨e1,_,e2⟩=>by
  obtain⟨j,out⟩:=s;dsimp only at e1 e2;subst e1;exact⟨_,by rw [y6k,if_neg ct_ge],by rw [e2,List.take_length];rfl⟩) (yZl _) (0,[]) ⟨rfl,yZl _,by simp⟩
 rw [y6a,g1,yOb,g2];cases yM q.2.1 (cmdL q) <;> rfl
theorem yk0{q:PbT}(h1:q.2.1.1.length≤1000000)(h2:q.2.2.length≤1000000):yD q=y5L q:=by
 rw [yD,y5L,yfu h1 h2,yOb,ydY h1 h2]
def trE(P:AutT):List Int→Int→Int×List Int
 | [],s=>(s,[])
 | e::l,s=>match st1 P s e with
  | none=>trE P l s
  | some t=>((trE P l t).1,e::(trE P l t).2)
theorem yc3(P:AutT)(c:Int):∀(l:List Int) (s:Int) (ok:Bool) (out:List Int),trF P c l s ok out=((trE P l s).1,ok&&(trF P c l s true []).2.1,out++(trE P l s).2)
 | [],s,ok,out=>by simp [trF,trE]
 | e::l,s,ok,out=>by
  rw [trF,trE,trF];cases h:st1 P s e with
  | none=>exact yc3 P c l s ok out
  | some t=>
   dsimp only;rw [yc3 P c l t (ok&&_),yc3 P c l t (true&&_),Bool.true_and,Bool.and_assoc,List.append_assoc];rfl
def aft(P:AutT)(c:Int)(l:List Int)(s:Int):Bool:=(trF P c l s true []).2.1
theorem yiY(P:AutT)(c e:Int)(l:List Int)(s:Int):aft P c (e::l) s=match st1 P s e with
  | none=>aft P c l s
  | some t=>(st1 P t c).isSome&&aft P c l t:=by
 unfold aft;rw [trF];cases st1 P s e with
 | none=>rfl
 | some t=>
  dsimp only;rw [yc3,Bool.true_and]
theorem y9j(P:AutT):∀(l:List Int) (s:Int),(trE P l s).2.length≤l.length
 | [],_=>Nat.le_refl _
 | e::l,s=>by
  rw [trE];cases st1 P s e with
  | none=>exact Nat.le_succ_of_le (y9j P l s)
  | some t=>exact Nat.succ_le_succ (y9j P l t)
theorem y9k(P:AutT):∀(l:List Int) (s:Int),(trE P l s).2.Sublist l
 | [],_=> .slnil
 | e::l,s=>by
  rw [trE];cases st1 P s e with
  | none=>exact .cons _ (y9k P l s)
  | some t=>exact .cons_cons _ (y9k P l t)
abbrev RunT :=Int×Int×Bool
def hnL(S:AutT)(im:List Int)(z:Int×Bool):Int×Bool:=(imL S im 32).foldl (hnS S) z
def midR(q:PbT)(r:RunT)(c:CycT):RunT:=((trE q.1 c.1 r.1).1,hnL q.2.1 (trE q.1 c.1 r.1).2 r.2)
def dnR(q:PbT)(m:RunT)(c:CycT)(cm:Int):Bool:=cm != -1&&aft q.1 cm c.2.1 m.1
def finR(q:PbT)(m:RunT)(c:CycT)(cm:Int):RunT:=
 if dnR q m c cm=true then((st1 q.1 (trE q.1 c.2.1 m.1).1 cm).getD (trE q.1 c.2.1 m.1).1,hnL q.2.1 [cm] (hnL q.2.1 (trE q.1 c.2.1 m.1).2 m.2))
 else((trE q.1 c.2.1 m.1).1,hnL q.2.1 (trE q.1 c.2.1 m.1).2 m.2)
def enR(q:PbT)(s:Int):List Int:=(cmdL q).filter fun e=>(st1 q.2.1 s e).isSome
def perm(q:PbT)(m:RunT)(e:Int):Bool:=(st1 q.1 m.1 e).isSome&&(!hasB q.2.1.1 e||(st1 q.2.1 m.2.1 e).isSome)
abbrev StpR :=List Int×List Int×List Int×Int×Bool×Int×Bool
def stpR(q:PbT)(r:RunT)(c:CycT)(ch:RunT→Int):StpR:=
 ((trE q.1 c.1 r.1).2,(trE q.1 c.2.1 (midR q r c).1).2,enR q (midR q r c).2.1,ch (midR q r c),dnR q (midR q r c) c (ch (midR q r c)),(finR q (midR q r c) c (ch (midR q r c))).2.1,(finR q (midR q r c) c (ch (midR q r c))).2.2)
def cycR(q:PbT)(ch:CycT→RunT→Int)(r:RunT)(c:CycT):RunT:=finR q (midR q r c) c (ch c (midR q r c))
def y4c(q:PbT)(ch:CycT→RunT→Int):RunT→List CycT→List StpR
 | _,[]=> []
 | r,c::l=>stpR q r c (ch c)::y4c q ch (cycR q ch r c) l
def runR(q:PbT)(ch:CycT→RunT→Int)(r:RunT)(l:List CycT):RunT:=l.foldl (cycR q ch) r
theorem ybz(q:PbT)(ch:CycT→RunT→Int):∀(l:List CycT) (r:RunT),(y4c q ch r l).length=l.length
 | [],_=>rfl
 | c::l,r=>by rw [y4c,List.length_cons,List.length_cons,ybz]
theorem ycG(q:PbT)(ch:CycT→RunT→Int)(c:CycT):∀(l:List CycT) (r:RunT),y4c q ch r (l++[c])=y4c q ch r l++[stpR q (runR q ch r l) c (ch c)]
 | [],_=>rfl
 | d::l,r=>by
  rw [List.cons_append,y4c,y4c,ycG q ch c l,List.cons_append];rfl
theorem yeu(q:PbT)(ch:CycT→RunT→Int)(c:CycT)(l:List CycT)(r:RunT):runR q ch r (l++[c])=cycR q ch (runR q ch r l) c:=List.foldl_append ..
def chP(q:PbT)(pr:List Int)(m:RunT):Int:=(pr.find? (perm q m)).getD (-1)
theorem yc4(q:PbT)(pr:List Int)(m:RunT):chP q pr m= -1∨(chP q pr m∈pr∧perm q m (chP q pr m)=true):=by
 unfold chP;cases h:pr.find? (perm q m) with
 | none=>exact .inl rfl
 | some x=>exact .inr ⟨List.mem_of_find?_eq_some h,List.find?_some h⟩
def wdR(s:StpR):List Int:=s.1++s.2.1++(if s.2.2.2.2.1=true then [s.2.2.2.1] else [])
def flw(q:PbT)(z:RunT)(e:Int):RunT:=if z.2.2=true then z else match st1 q.1 z.1 e with
 | none=>(z.1,z.2.1,true)
 | some t=>if hasB q.2.1.1 e=true then(match st1 q.2.1 z.2.1 e with
  | none=>(t,z.2.1,true)
  | some u=>(t,u,false)) else(t,z.2.1,false)
theorem yd2(q:PbT):∀(w:List Int) (z:RunT),z.2.2=true→w.foldl (flw q) z=z
 | [],_,_=>rfl
 | e::w,z,h=>by rw [List.foldl_cons,flw,if_pos h,yd2 q w z h]
def difR(q:PbT):Int→RunT→List StpR→Int×Int×Bool
 | _,_,[]=>(0,0,false)
 | i,z,s::l=>if((wdR s).foldl (flw q) z).2.2=true then(i,1,true) else if s.2.2.2.2.2.2=true then(i,2,true) else if(s.2.2.2.2.2.1 != ((wdR s).foldl (flw q) z).2.1)=true then(i,3,true) else difR q (i+1) ((wdR s).foldl (flw q) z) l
theorem ygO{a b:List Int}(h:a.length+b.length≤100000):y6E [a,b]=some (a++b):=by
 have h1:iter (y3D [a,b]) (0,0)=some ((a.length+b.length:Nat):Int):=by
  refine y2M (n:=3) (by omega) ?_;rw [yc,y3D,if_pos (by simp),show idx [a,b] 0=some a from rfl,yOb];dsimp only;rw [show (0:Int)+(a.length:Int)=((a.length:Nat):Int) by omega,W_nat (by omega),if_neg (by simp),y5o];dsimp only;rw [yc,y3D,show W (0+1)=1 from rfl,if_pos (by simp),show idx [a,b] 1=some b from rfl,yOb];dsimp only;rw [show (a.length:Int)+(b.length:Int)=((a.length+b.length:Nat):Int) by omega,W_nat (by omega),if_neg (by simp;omega),y5o];dsimp only;rw [yc,y3D,show W (1+1)=2 from rfl,if_neg (by simp)]
 have h2:iter (y3C [a,b]) (0,[])=some (a++b):=by
  refine y2M (n:=3) (by omega) ?_;rw [yc,y3C,if_pos (by simp),show idx [a,b] 0=some a from rfl,yOb,yi (by simp;omega),yOb,show W (0+1)=1 from rfl];dsimp only;rw [yc,y3C,if_pos (by simp),show idx [a,b] 1=some b from rfl,yOb,yi (by simp;omega),yOb,show W (1+1)=2 from rfl];dsimp only;rw [yc,y3C,if_neg (by simp)];rfl
 rw [y6E,h1,yOb,y6b,if_pos ⟨rfl,by omega,by omega⟩,yOb,h2,yOb]
def Shw(l:List StpR):Prop:=∀s∈l,s.1.length+s.2.1.length≤100
theorem ydZ{s:StpR}(h:s.1.length+s.2.1.length≤100):(wdR s).length≤101:=by
 unfold wdR;rw [List.length_append,List.length_append];split <;> simp <;> omega
theorem yhL{s:StpR}(h:s.1.length+s.2.1.length≤100):y3E s=some (wdR s):=by
 rw [y3E,ygO (by omega),yOb,wdR];cases s.2.2.2.2.1 with
 | true=>rw [if_pos rfl,yi (by simp;omega),yOb,if_pos rfl];rfl
 | false=>rw [if_neg (by simp),if_neg (by simp),List.append_nil];rfl
theorem yev{l:List StpR}(h:Shw l):(l.flatMap wdR).length≤l.length*101:=by
 induction l with
 | nil=>simp
 | cons s l ih=>
  have h1:=ydZ (h s (List.mem_cons_self ..));have h2:=ih fun x hx=>h x (List.mem_cons_of_mem _ hx);rw [List.flatMap_cons,List.length_append,List.length_cons];omega
theorem Shw.take{l:List StpR}(h:Shw l)(i:Nat):Shw (l.take i):=fun s hs=>h s (List.mem_of_mem_take hs)
theorem ygP(l:List StpR)(s:StpR):(l++[s]).flatMap wdR=l.flatMap wdR++wdR s:=by simp
theorem yk1{l:List StpR}(h:Shw l)(hl:l.length≤1000):y6c l=some (l.flatMap wdR):=by
 have e0:((0:Int),([]:List Int))=(fun k:Nat=>((k:Int),(l.take k).flatMap wdR)) 0:=rfl;have hi:iter (y4y l) (0,[])=some (l.flatMap wdR):=by
  refine Eq.trans (congrArg _ e0) (y2Q (f:=y4y l) (fun k:Nat=>((k:Int),(l.take k).flatMap wdR)) l.length (by omega) (fun k hk=>?_) ?_)
  ·have h1:=h _ (yGm hk);have h2:=ydZ h1;have h3:=yev (h.take k);rw [List.length_take] at h3;have h4:min k l.length*101≤1000*101:=Nat.mul_le_mul_right _ (by omega);rw [y4y,if_pos (ct_lt hk),ya hk,yOb,yhL h1,yOb,yi (by dsimp only;omega),yOb];dsimp only;rw [nxt (by omega),yTs hk,ygP]
  ·rw [y4y,if_neg ct_ge,List.take_length]
 rw [y6c,hi,yOb]
def mx(a b:Int):Int:=if a<b then b else a
theorem ygQ{xs:List Int}(hl:xs.length≤1000000):y3a xs xs=some true:=by
 have hi:iter (y1Z xs xs) 0=some (.inl ()):=y2Q (f:=y1Z xs xs) (fun k:Nat=>(k:Int)) xs.length (by omega) (fun k hk=>by
  rw [y1Z,if_pos (ct_lt hk),ya hk,yOb,yOb,if_neg (by simp),nxt (by omega)]) (by rw [y1Z,if_neg ct_ge])
 rw [y3a,if_neg (by simp),hi];rfl
structure SimOk (q:PbT) (n1 n2:Nat):Prop where
 rP:Right q.1 n1
 rS:Right q.2.1 n2
 g:GenIn (toAut q.2.1) (cmdL q) n2
 ic:Inc (cmdL q)
 p0:0<n1
 u:q.2.2.length≤1000000
 gen:yM q.2.1 (cmdL q)=some (codeP (toAut q.2.1) (cmdL q) n2,0)
structure BenOk (q:PbT) (n2:Nat) (b:BenT) (r:RunT):Prop where
 e1:b.1=q
 e2:b.2.1=codeP (toAut q.2.1) (cmdL q) n2
 e3:b.2.2.1=r.1
 sh:∃s:Nat,r.2.1=(s:Int)∧Shows (toAut q.2.1) (cmdL q) n2 s r.2.2 b.2.2.2
theorem BenOk.plant{q:PbT}{b:BenT}{r:RunT}(h:BenOk q n2 b r)(x:Int):BenOk q n2 (b.1,b.2.1,x,b.2.2.2) (x,r.2):=⟨h.e1,h.e2,rfl,h.sh⟩
theorem yiZ{b:BenT}{n:Nat}(hP:Right b.1.1 n){c:CycT}(hl:c.1.length≤1000000):iter (y2h c) (b,0,[])=some ((b.1,b.2.1,(trE b.1.1 c.1 b.2.2.1).1,b.2.2.2),(trE b.1.1 c.1 b.2.2.1).2):=by
 obtain⟨o,h1,h2⟩:=ye (f:=y2h c) (fun i s=>s.2.1=(i:Int)∧s.1.1=b.1∧s.1.2.1=b.2.1∧s.1.2.2.2=b.2.2.2∧s.2.2.length≤i∧trE b.1.1 c.1 b.2.2.1=((trE b.1.1 (c.1.drop i) s.1.2.2.1).1,s.2.2++(trE b.1.1 (c.1.drop i) s.1.2.2.1).2)) (fun o=>o=((b.1,b.2.1,(trE b.1.1 c.1 b.2.2.1).1,b.2.2.2),(trE b.1.1 c.1 b.2.2.1).2)) c.1.length 0 (by omega) (fun i s hi ⟨e1,e2,e3,e4,e5,e6⟩=>by
  obtain⟨⟨b1,b2,b3,b4⟩,j,out⟩:=s;dsimp only at e1 e2 e3 e4 e5 e6;subst e1 e2 e3 e4;left;rw [List.drop_eq_getElem_cons hi,trE] at e6;have ht:=ydV (b:=(b.1,b.2.1,b3,b.2.2.2)) hP c.1[i];dsimp only at ht;rw [y2h,if_pos (ct_lt hi),ya hi,yOb,ht,yOb];cases hs:st1 b.1.1 b3 c.1[i] with
  | none=>
   rw [hs] at e6;refine⟨((b.1,b.2.1,b3,b.2.2.2),((i+1:Nat):Int),out),?_,rfl,rfl,rfl,rfl,Nat.le_succ_of_le e5,e6⟩;rw [if_neg (by simp),y2g,nxt (by omega)];rfl
  | some t=>
   rw [hs] at e6;refine⟨((b.1,b.2.1,t,b.2.2.2),((i+1:Nat):Int),out++[c.1[i]]),?_,rfl,rfl,rfl,rfl,by simp;omega,by rw [e6,List.append_assoc];rfl⟩;rw [if_pos (by rfl),yi (by simp;omega),yOb,y2g,nxt (by omega)];rfl) (fun s ⟨e1,e2,e3,e4,e5,e6⟩=>by
  obtain⟨⟨b1,b2,b3,b4⟩,j,out⟩:=s;dsimp only at e1 e2 e3 e4 e5 e6;subst e1 e2 e3 e4;rw [List.drop_length,trE,List.append_nil] at e6;exact⟨_,by rw [y2h,if_neg ct_ge],by rw [e6]⟩) (yZl _) (b,0,[]) ⟨rfl,rfl,rfl,rfl,Nat.le_refl _,rfl⟩
 rw [h1,h2]
section
variable{q:PbT}{n1 n2:Nat}{b:BenT}{r:RunT}
theorem yc5(h:SimOk q n1 n2)(hb:BenOk q n2 b r){l:List Int}(hl:l.length≤1000000)(hn:l.Nodup):∃b',yS b l=some (0,b')∧BenOk q n2 b' (r.1,hnL q.2.1 l r.2)∧y4b b'.2.1 b'.2.2.2=some (enR q (hnL q.2.1 l r.2).1,0):=by
 obtain⟨b1,b2,b3,b4⟩:=b;obtain⟨h1,h2,h3,s,hs,hv⟩:=hb;dsimp only at h1 h2 h3 hv;subst h1 h2 h3;obtain⟨r1,r2,al⟩:=r;dsimp only at hs hv ⊢;subst hs;obtain⟨st',g1,s',al',g2,g3,g4⟩:=ygN (b:=(b1,codeP (toAut b1.2.1) (cmdL b1) n2,r1,b4)) h.rS h.g h.ic rfl hv hl hn;have g2:hnL b1.2.1 l ((s:Int),al)=((s':Int),al'):=g2;refine⟨_,g1,⟨rfl,rfl,rfl,s',by rw [g2],by rw [g2];exact g3⟩,?_⟩;rw [g2];exact ygL h.g g3.ho g3.hm g4
theorem ykn(h:SimOk q n1 n2)(hb:BenOk q n2 b r)(he:e∉q.2.2):y5n b e (enR q r.2.1)=some (perm q r e):=by
 obtain⟨b1,b2,b3,b4⟩:=b;obtain⟨h1,h2,h3,s,hs,hv⟩:=hb;dsimp only at h1 h2 h3 hv;subst h1 h2 h3;have hl:(enR b1 r.2.1).length≤32:=Nat.le_trans (List.length_filter_le _ _) h.g.ct;have hen:hasB (enR b1 r.2.1) e=(hasB b1.2.1.1 e&&(st1 b1.2.1 r.2.1 e).isSome):=by
  rw [Bool.eq_iff_iff,Bool.and_eq_true,yb,yb,enR,List.mem_filter,cmdL,List.mem_filter];have:(!hasB b1.2.2 e)=true:=by rw [Bool.not_eq_true',←Bool.not_eq_true,yb];exact he
  exact⟨fun h=>⟨h.1.1,h.2⟩,fun h=>⟨⟨h.1,this⟩,h.2⟩⟩
 rw [y5n,yd1 h.rP,yOb,yb7 h.rP,perm];cases st1 b1.1 r.1 e with
 | none=>rfl
 | some t=>
  have hS1:=h.rS.l1;rw [if_pos (show (some t).isSome=true from rfl),y1b (by omega),yOb,hen];cases hx:hasB b1.2.1.1 e with
  | false=>rw [if_neg (by simp),y1b (by dsimp only;omega),yOb,yOb,yOb];dsimp only;rw [hx];rfl
  | true=>
   cases st1 b1.2.1 r.2.1 e with
   | none=>rw [if_neg (by simp),y1b (by dsimp only;omega),yOb,yOb,yOb];dsimp only;rw [hx];rfl
   | some t=>rfl
theorem yhM(h:SimOk q n1 n2)(hb:BenOk q n2 b r)(o:BenT×List Int)(en:List Int×Int)(cm:Int)(la:List Int×Bool×BenT):∃b',y2e o en cm la b=some ((o.2,la.1,en.1,cm,la.2.1,r.2.1,r.2.2),0,b')∧BenOk q n2 b' r:=by
 obtain⟨b1,b2,b3,b4⟩:=b;obtain⟨h1,h2,h3,s,hs,hv⟩:=hb;dsimp only at h1 h2 h3 hv;subst h1 h2 h3;rw [y2e];dsimp only;rw [yhH h.g hv.ho hv.hm hv.hs hv.hq,yOb,if_neg (by simp),ygK h.g hv.ho hv.hm,yOb];exact⟨_,by rw [hs,hv.ha],⟨rfl,rfl,rfl,s,hs,hv⟩⟩
theorem yhN(h:SimOk q n1 n2)(hb:BenOk q n2 b r)(o:BenT×List Int)(en:List Int×Int)(cm:Int)(la:List Int×Bool×BenT)(hl:la.1.length≤1000000)(hn:la.1.Nodup):
  ∃b' z,y2f o en cm la b=some ((o.2,la.1,en.1,cm,la.2.1,z.2.1,z.2.2),0,b')∧BenOk q n2 b' z∧z=if la.2.1=true then(r.1,hnL q.2.1 [cm] (hnL q.2.1 la.1 r.2)) else(r.1,hnL q.2.1 la.1 r.2):=by
 obtain⟨b2,g1,g2,_⟩:=yc5 h hb hl hn;rw [y2f,g1,yOb,if_neg (by simp)];dsimp only;cases hd:la.2.1 with
 | true=>
  obtain⟨b3,g3,g4,_⟩:=yc5 h g2 (l:=[cm]) (by simp) (by simp);obtain⟨b4,g5,g6⟩:=yhM h g4 o en cm la;rw [hd] at g5;rw [if_pos rfl,g3,yOb,if_neg (by simp)];exact⟨b4,_,g5,g6,rfl⟩
 | false=>
  obtain⟨b4,g5,g6⟩:=yhM h g2 o en cm la;rw [hd] at g5;rw [if_neg (by simp)];exact⟨b4,_,g5,g6,rfl⟩
theorem yj0(h:SimOk q n1 n2)(hb:BenOk q n2 b r){c:CycT}(l1:c.1.length≤1000000)(l2:c.2.1.length≤1000000)(d1:c.1.Nodup)(d2:c.2.1.Nodup){p2:(Int→Option Bool)→Option Int}{ch:RunT→Int}
  (hp:∀b2:BenT,BenOk q n2 b2 (midR q r c)→p2 (yO (some b2) ((trE q.1 c.1 r.1).2,[],enR q (midR q r c).2.1,0,false,0,false))=some (ch (midR q r c))):
  ∃b',y4x b c p2=some (stpR q r c ch,0,b')∧BenOk q n2 b' (finR q (midR q r c) c (ch (midR q r c))):=by
 have hP1:Right b.1.1 n1:=by rw [hb.e1];exact h.rP
 have k1:=y9j q.1 c.1 r.1;have k2:=y9j q.1 c.2.1 (midR q r c).1;have s1:=d1.sublist (y9k q.1 c.1 r.1);have s2:=d2.sublist (y9k q.1 c.2.1 (midR q r c).1);have hb1:=hb.plant (trE b.1.1 c.1 b.2.2.1).1;rw [y4x,yiZ hP1 l1,yOb];dsimp only;rw [hb.e1,hb.e3] at hb1 ⊢;obtain⟨b2,g1,g2,g3⟩:=yc5 h hb1 (l:=(trE q.1 c.1 r.1).2) (by omega) s1;have g2:BenOk q n2 b2 (midR q r c):=g2;have g3:y4b b2.2.1 b2.2.2.2=some (enR q (midR q r c).2.1,0):=g3;rw [g1,yOb,if_neg (by simp)];dsimp only;rw [g3,yOb,if_neg (by simp)];dsimp only;rw [hp b2 g2,yOb];have hP2:Right b2.1.1 n1:=by rw [g2.e1];exact h.rP
 rw [yhK hP2 l2,yOb,yc3];have hb3:=g2.plant (trE b2.1.1 c.2.1 b2.2.2.1).1;rw [stpR];generalize ch (midR q r c)=cm at *;have hdn:((cm != -1)&&(trF b2.1.1 cm c.2.1 b2.2.2.1 true []).2.1)=dnR q (midR q r c) c cm:=by rw [g2.e1,g2.e3];rfl
 dsimp only;rw [hdn,List.nil_append,finR];rw [g2.e3,g2.e1] at hb3 ⊢;cases hd:dnR q (midR q r c) c cm with
 | true=>
  rw [if_pos rfl,ydV (by dsimp only;exact h.rP),yOb];obtain⟨b',z,w1,w2,w3⟩:=yhN h (hb3.plant ((st1 q.1 (trE q.1 c.2.1 (midR q r c).1).1 cm).getD (trE q.1 c.2.1 (midR q r c).1).1)) ((q,b.2.1,(trE q.1 c.1 r.1).1,b.2.2.2),(trE q.1 c.1 r.1).2) (enR q (midR q r c).2.1,0) cm ((trE q.1 c.2.1 (midR q r c).1).2,true,(q,b2.2.1,(trE q.1 c.2.1 (midR q r c).1).1,b2.2.2.2)) (by dsimp only;omega) s2;rw [if_pos rfl] at w3 ⊢;subst w3;exact⟨b',w1,w2⟩
 | false=>
  rw [if_neg (by simp)];obtain⟨b',z,w1,w2,w3⟩:=yhN h hb3 ((q,b.2.1,(trE q.1 c.1 r.1).1,b.2.2.2),(trE q.1 c.1 r.1).2) (enR q (midR q r c).2.1,0) cm ((trE q.1 c.2.1 (midR q r c).1).2,false,(q,b2.2.1,(trE q.1 c.2.1 (midR q r c).1).1,b2.2.2.2)) (by dsimp only;omega) s2;rw [if_neg (by simp)] at w3 ⊢;subst w3;exact⟨b',w1,w2⟩
end
theorem yge{q:PbT}{n:Nat}(hP:Right q.1 n){m:RunT}(h:perm q m e=true):0≤e∧(st1 q.1 m.1 e).isSome=true:=by
 rw [perm,Bool.and_eq_true] at h;obtain⟨t,ht⟩:=Option.isSome_iff_exists.1 h.1;exact⟨(hP.alr e (y7A hP ht).2.2.2.2).1,h.1⟩
structure CycOk (q:PbT) (c:CycT):Prop where
 l1:c.1.length≤1000000
 l2:c.2.1.length≤1000000
 d1:c.1.Nodup
 d2:c.2.1.Nodup
section
variable{q:PbT}{n1 n2:Nat}
theorem yj1(h:SimOk q n1 n2):∃b,y6O q=some (some b,0)∧BenOk q n2 b (0,0,false):=by
 have hl:=h.rS.l1;refine⟨(q,codeP (toAut q.2.1) (cmdL q) n2,0,_),?_,⟨rfl,rfl,rfl,0,rfl,Shows.start h.g.n0⟩⟩;rw [y6O,ydY hl h.u,h.gen,yOb,if_neg (by simp)];dsimp only;rw [yhJ h.g h.rS.ali h.ic,yOb,if_neg (by simp)]
theorem yko(h:SimOk q n1 n2){l:List CycT}(hl:l.length≤1000000)(hc:∀c∈l,CycOk q c){p2:CycT→Option ((Int→Option Bool)→Option Int)}{pr:CycT→List Int}
  (hp:∀c∈l,∃f,p2 c=some f∧∀(m:RunT) (b:BenT) (s:StpT),BenOk q n2 b m→s.2.2.1=enR q m.2.1→f (yO (some b) s)=some (chP q (pr c) m)):
  y7p q l p2=some (y4c q (fun c=>chP q (pr c)) (0,0,false) l,0):=by
 obtain⟨b,g1,g2⟩:=yj1 h;obtain⟨o,h1,h2⟩:=ye (f:=y6D l p2) (fun i s=>s.1=(i:Int)∧i≤l.length∧s.2.1=y4c q (fun c=>chP q (pr c)) (0,0,false) (l.take i)∧BenOk q n2 s.2.2 (runR q (fun c=>chP q (pr c)) (0,0,false) (l.take i))) (fun o=>o= .inl (y4c q (fun c=>chP q (pr c)) (0,0,false) l)) l.length 0 (by omega) (fun i s hi ⟨e1,_,e2,e3⟩=>by
  obtain⟨j,out,b1⟩:=s;dsimp only at e1 e2 e3;subst e1;left;have hm:=yGm hi;obtain⟨f,f1,f2⟩:=hp _ hm;have hk:=hc _ hm;obtain⟨b2,w1,w2⟩:=yj0 h e3 hk.l1 hk.l2 hk.d1 hk.d2 (p2:=f) (ch:=chP q (pr l[i])) (fun b2 hb2=>f2 _ b2 _ hb2 rfl);have hol:out.length≤1000000:=by rw [e2,ybz,List.length_take];omega
  refine⟨(((i+1:Nat):Int),out++[stpR q (runR q (fun c=>chP q (pr c)) (0,0,false) (l.take i)) l[i] (chP q (pr l[i]))],b2),?_,rfl,hi,?_,?_⟩
  ·rw [y6D,if_pos (ct_lt hi),ya hi,yOb,f1,yOb,w1,yOb,if_neg (by simp),yi (by simp;omega),yOb,nxt (by omega)]
  ·rw [yTs hi,ycG,e2]
  ·dsimp only;rw [yTs hi,yeu];exact w2) (fun s ⟨e1,_,e2,e3⟩=>by
  obtain⟨j,out,b1⟩:=s;dsimp only at e1 e2 e3;subst e1;exact⟨_,by rw [y6D,if_neg ct_ge],by rw [e2,List.take_length]⟩) (yZl _) (0,[],b) ⟨rfl,yZl _,rfl,g2⟩
 rw [y7p,g1,yOb,if_neg (by simp)];dsimp only;rw [yOb,h1,yOb,h2]
theorem yk2(h:SimOk q n1 n2){c:CycT}(hc:c.2.2= -1∨c.2.2∉q.2.2):∃f,y7N c=some f∧∀(m:RunT) (b:BenT) (s:StpT),BenOk q n2 b m→s.2.2.1=enR q m.2.1→f (yO (some b) s)=some (chP q [c.2.2] m):=by
 refine⟨_,rfl,fun m b s hb hs=>?_⟩;rw [y6m,chP,List.find?_cons];by_cases h1:c.2.2= -1
 ·rw [h1,if_neg (by simp),yOb,if_neg (by simp)];cases hp:perm q m (-1) with
  | true=>have:=(yge h.rP hp).1;omega
  | false=>rfl
 ·rw [if_pos (by simpa using h1),yO,yOb,hs,ykn h hb (hc.resolve_left h1),yOb,yOb,yOb];cases perm q m c.2.2 <;> rfl
end
def evE(al u:List Int):List Int→List Int→Int
 | _,[]=>0
 | d,e::l=>if hasB al e=false then 9 else if hasB u e=false then 13 else if hasB d e=true then 8 else evE al u (d++[e]) l
def evL(q:PbT)(l:List Int):Int:=if 3<l.length then 3 else evE q.1.1 q.2.2 [] l
def scE(q:PbT):List CycT→Int
 | []=>0
 | c::l=>if evL q c.1≠0 then evL q c.1 else if evL q c.2.1≠0 then evL q c.2.1 else if c.2.2= -1 then scE q l else if hasB q.1.1 c.2.2=false then 9 else if hasB q.2.2 c.2.2=true then 13 else scE q l
theorem yhO{al u:List Int}:∀{l d:List Int},evE al u d l=0↔(∀e∈l,e∈al∧e∈u∧e∉d)∧l.Nodup
 | [],d=>by simp [evE]
 | e::l,d=>by
  rw [evE,List.nodup_cons];by_cases h1:hasB al e=false
  ·rw [if_pos h1];refine⟨fun h=>by omega,fun h=>?_⟩;rw [yb.2 (h.1 e (List.mem_cons_self ..)).1] at h1;cases h1
  rw [if_neg h1];by_cases h2:hasB u e=false
  ·rw [if_pos h2];refine⟨fun h=>by omega,fun h=>?_⟩;rw [yb.2 (h.1 e (List.mem_cons_self ..)).2.1] at h2;cases h2
  rw [if_neg h2];by_cases h3:hasB d e=true
  ·rw [if_pos h3];exact⟨fun h=>by omega,fun h=>absurd (yb.1 h3) (h.1 e (List.mem_cons_self ..)).2.2⟩
  rw [if_neg h3,yhO];rw [Bool.not_eq_false,yb] at h1 h2;rw [yb] at h3;constructor
  ·intro ⟨h4,h5⟩;refine⟨fun x hx=>?_,fun hx=>?_,h5⟩
   ·rcases List.mem_cons.1 hx with rfl|hx
    ·exact ⟨h1,h2,h3⟩
    ·have:=h4 x hx;exact⟨this.1,this.2.1,fun hd=>this.2.2 (List.mem_append_left _ hd)⟩
   ·exact (h4 e hx).2.2 (List.mem_append_right _ (List.mem_singleton_self e))
  ·intro ⟨h4,h5,h6⟩;refine⟨fun x hx=>?_,h6⟩;have:=h4 x (List.mem_cons_of_mem _ hx);refine⟨this.1,this.2.1,fun hd=>?_⟩;rcases yMa.1 hd with hd|hd
   ·exact this.2.2 hd
   ·rw [yMs.1 hd] at hx;exact h5 hx
theorem yb8{q:PbT}(h1:q.1.1.length≤1000000)(h2:q.2.2.length≤1000000){l:List Int}(hl:l.length≤1000000):y4u q l=some (evL q l):=by
 rw [y4u,evL];by_cases h3:3<l.length
 ·rw [if_pos (by simp;omega),if_pos h3]
 rw [if_neg (by simp;omega),if_neg h3];obtain⟨o,g1,g2⟩:=ye (f:=y3q q l) (fun i s=>s=(i:Int)∧evE q.1.1 q.2.2 [] l=evE q.1.1 q.2.2 (l.take i) (l.drop i)) (fun o=>(match o with
   | .inl _=>0
   | .inr u=>u)=evE q.1.1 q.2.2 [] l) l.length 0 (by omega) (fun i s hi ⟨e1,e2⟩=>by
  subst e1;rw [List.drop_eq_getElem_cons hi,evE] at e2;rw [y3q,if_pos (ct_lt hi),ya hi,yOb,y1b (by omega),yOb];cases ha:hasB q.1.1 l[i]
  ·rw [if_pos ha] at e2;refine .inr ⟨_,by rw [if_pos (by rfl)],?_⟩;exact e2.symm
  rw [if_neg (by simp [ha])] at e2;rw [if_neg (by simp),y1b (by omega),yOb];cases hb:hasB q.2.2 l[i]
  ·rw [if_pos hb] at e2;refine .inr ⟨_,by rw [if_pos (by rfl)],?_⟩;exact e2.symm
  rw [if_neg (by simp [hb])] at e2;rw [if_neg (by simp),yiA (by omega),yOb,y1b (by rw [List.length_take];omega),yOb];cases hc:hasB (l.take i) l[i]
  ·rw [if_neg (by simp [hc])] at e2;exact .inl ⟨_,by rw [if_neg (by simp),nxt (by omega)],rfl,by rw [e2,yTs hi]⟩
  ·rw [if_pos hc] at e2;refine .inr ⟨_,by rw [if_pos rfl],?_⟩;exact e2.symm) (fun s ⟨e1,e2⟩=>by
  subst e1;rw [List.drop_length,evE] at e2;refine⟨_,by rw [y3q,if_neg ct_ge],?_⟩;exact e2.symm) (yZl _) 0 ⟨rfl,rfl⟩
 rw [g1,yOb,←g2];cases o <;> rfl
theorem ye0{q:PbT}(h1:q.1.1.length≤1000000)(h2:q.2.2.length≤1000000){l:List CycT}(hl:l.length≤1000000)(hc:∀c∈l,c.1.length≤1000000∧c.2.1.length≤1000000)(he:yD q=some e):
  y4v q l=some (if e≠0 then e else if 256<l.length then 3 else scE q l):=by
 rw [y4v,he,yOb];by_cases h0:e=0
 case neg=>rw [if_pos (by simpa using h0),if_pos h0]
 rw [if_neg (by simpa using h0),if_neg (show ¬e≠0 from fun h=>h h0)];by_cases h3:256<l.length
 ·rw [if_pos (by simp;omega),if_pos h3]
 rw [if_neg (by simp;omega),if_neg h3];have hin:∀c∈l,iter (y2d q c) 0=some (if evL q c.1≠0 then .inr (evL q c.1) else if evL q c.2.1≠0 then .inr (evL q c.2.1) else .inl ()):=fun c hm=>by
  obtain⟨k1,k2⟩:=hc c hm;refine y2M (n:=3) (by omega) ?_;rw [yc,y2d,if_pos (by simp),show idx [c.1,c.2.1] 0=some c.1 from rfl,yOb,yb8 h1 h2 k1,yOb];by_cases g1:evL q c.1=0
  case neg=>rw [if_pos (by simpa using g1),if_pos g1]
  rw [if_neg (by simpa using g1),if_neg (show ¬evL q c.1≠0 from fun h=>h g1)];dsimp only;rw [yc,y2d,show W (0+1)=1 from rfl,if_pos (by simp),show idx [c.1,c.2.1] 1=some c.2.1 from rfl,yOb,yb8 h1 h2 k2,yOb];by_cases g2:evL q c.2.1=0
  case neg=>rw [if_pos (by simpa using g2),if_pos g2]
  rw [if_neg (by simpa using g2),if_neg (show ¬evL q c.2.1≠0 from fun h=>h g2)];dsimp only;rw [yc,y2d,show W (1+1)=2 from rfl,if_neg (by simp)]
 obtain⟨o,g1,g2⟩:=ye (f:=y3r q l) (fun i s=>s=(i:Int)∧scE q l=scE q (l.drop i)) (fun o=>(match o with
   | .inl _=>0
   | .inr u=>u)=scE q l) l.length 0 (by omega) (fun i s hi ⟨e1,e2⟩=>by
  subst e1;rw [List.drop_eq_getElem_cons hi,scE] at e2;rw [y3r,if_pos (ct_lt hi),ya hi,yOb,hin _ (yGm hi),yOb];by_cases k1:evL q l[i].1=0
  case neg=>
   rw [if_pos k1] at e2 ⊢;refine .inr ⟨_,rfl,?_⟩;exact e2.symm
  rw [if_neg (show ¬evL q l[i].1≠0 from fun h=>h k1)] at e2 ⊢;by_cases k2:evL q l[i].2.1=0
  case neg=>
   rw [if_pos k2] at e2 ⊢;refine .inr ⟨_,rfl,?_⟩;exact e2.symm
  rw [if_neg (show ¬evL q l[i].2.1≠0 from fun h=>h k2)] at e2 ⊢;dsimp only;by_cases k3:l[i].2.2= -1
  ·rw [if_pos k3] at e2;exact .inl ⟨_,by rw [if_pos (by simpa using k3),y2c,nxt (by omega)],rfl,e2⟩
  rw [if_neg k3] at e2;rw [if_neg (by simpa using k3),y1b (by omega),yOb];cases ha:hasB q.1.1 l[i].2.2
  ·rw [if_pos ha] at e2;refine .inr ⟨_,by rw [if_pos (by rfl)],?_⟩;exact e2.symm
  rw [if_neg (by simp [ha])] at e2;rw [if_neg (by simp),y1b (by omega),yOb];cases hb:hasB q.2.2 l[i].2.2
  ·rw [if_neg (by simp [hb])] at e2;exact .inl ⟨_,by rw [if_neg (by simp),y2c,nxt (by omega)],rfl,e2⟩
  ·rw [if_pos hb] at e2;refine .inr ⟨_,by rw [if_pos rfl],?_⟩;exact e2.symm) (fun s ⟨e1,e2⟩=>by
  subst e1;rw [List.drop_length,scE] at e2;refine⟨_,by rw [y3r,if_neg ct_ge],?_⟩;exact e2.symm) (yZl _) 0 ⟨rfl,rfl⟩
 rw [g1,yOb,←g2];cases o <;> rfl
structure CycIn (q:PbT) (c:CycT):Prop where
 l1:c.1.length≤3
 l2:c.2.1.length≤3
 d1:c.1.Nodup
 d2:c.2.1.Nodup
 i1:∀e∈c.1,e∈q.1.1∧e∈q.2.2
 i2:∀e∈c.2.1,e∈q.1.1∧e∈q.2.2
 cm:c.2.2= -1∨(c.2.2∈q.1.1∧c.2.2∉q.2.2)
theorem CycIn.ok{q:PbT}{c:CycT}(h:CycIn q c):CycOk q c:=⟨by have:=h.l1;omega,by have:=h.l2;omega,h.d1,h.d2⟩
theorem yfg{q:PbT}:∀{l:List CycT},scE q l=0↔ ∀c∈l,CycIn q c
 | []=>by simp [scE]
 | c::l=>by
  have hev:∀{w:List Int},evL q w=0↔w.length≤3∧(∀e∈w,e∈q.1.1∧e∈q.2.2)∧w.Nodup:=fun {w}=>by
   rw [evL];by_cases h:3<w.length
   ·rw [if_pos h];exact⟨fun h=>by omega,fun h=>by omega⟩
   ·rw [if_neg h,yhO];exact⟨fun g=>⟨by omega,fun e he=>⟨(g.1 e he).1,(g.1 e he).2.1⟩,g.2⟩,fun g=>⟨fun e he=>⟨(g.2.1 e he).1,(g.2.1 e he).2,List.not_mem_nil⟩,g.2.2⟩⟩
  rw [scE,List.forall_mem_cons,←yfg];by_cases k1:evL q c.1=0
  case neg=>
   rw [if_pos k1];exact⟨fun h=>absurd h k1,fun h=>absurd (hev.2 ⟨h.1.l1,h.1.i1,h.1.d1⟩) k1⟩
  rw [if_neg (show ¬evL q c.1≠0 from fun h=>h k1)];by_cases k2:evL q c.2.1=0
  case neg=>
   rw [if_pos k2];exact⟨fun h=>absurd h k2,fun h=>absurd (hev.2 ⟨h.1.l2,h.1.i2,h.1.d2⟩) k2⟩
  rw [if_neg (show ¬evL q c.2.1≠0 from fun h=>h k2)];have g1:=hev.1 k1;have g2:=hev.1 k2;by_cases k3:c.2.2= -1
  ·rw [if_pos k3];exact⟨fun h=>⟨⟨g1.1,g2.1,g1.2.2,g2.2.2,g1.2.1,g2.2.1,.inl k3⟩,h⟩,fun h=>h.2⟩
  rw [if_neg k3];cases ha:hasB q.1.1 c.2.2
  ·rw [if_pos rfl];refine⟨fun h=>by omega,fun h=>?_⟩;rcases h.1.cm with h|h
   ·exact absurd h k3
   ·rw [yb.2 h.1] at ha;cases ha
  rw [if_neg (by simp)];cases hb:hasB q.2.2 c.2.2
  ·rw [if_neg (by simp)];exact⟨fun h=>⟨⟨g1.1,g2.1,g1.2.2,g2.2.2,g1.2.1,g2.2.1,.inr ⟨yb.1 ha,fun hm=>by rw [yb.2 hm] at hb;cases hb⟩⟩,h⟩,fun h=>h.2⟩
  ·rw [if_pos rfl];refine⟨fun h=>by omega,fun h=>?_⟩;rcases h.1.cm with h|h
   ·exact absurd h k3
   ·exact absurd (yb.1 hb) h.2
theorem Right.err0{a:AutT}{n:Nat}(h:Right a n):(toAut a).err=0:=by
 have h1:=h.l1;have h2:=h.l2;have h3:=h.l3;have g:=ybu (a:=toAut a) (by show(a.2.2.2.map toEd).length<_;rw [List.length_map];omega) (by show a.1.length<_;omega) (by show a.2.2.1.length<_;omega);rw [y9P,h.check] at g;exact(Option.some.inj g).symm
theorem yhP{a:AutT}{n:Nat}(h:Right a n)(hn:n≤25)(he:∀x∈a.1,0≤x∧x<5):a.2.2.2.length≤125:=by
 have hx:∀x∈a.2.2.2,0≤x.1*5+x.2.1∧x.1*5+x.2.1<((125:Nat):Int):=fun x hx=>by
  have g:=h.es x hx;have:=he _ g.2.2.2.2;omega
 have hi:Inc (a.2.2.2.map fun x=>x.1*5+x.2.1):=by
  unfold Inc;rw [List.pairwise_map];refine(List.pairwise_iff_getElem.2 fun i j hi hj hij=>?_);have g:=List.pairwise_iff_getElem.1 h.so i j hi hj hij;have g1:=he _ (h.es _ (yGm hi)).2.2.2.2;have g2:=he _ (h.es _ (yGm hj)).2.2.2.2;omega
 have:=y5f (lo:=0) hi (fun y hy=>by
  obtain⟨x,h1,rfl⟩:=List.mem_map.1 hy;exact hx x h1) (Int.le_refl _)
 simpa using this
theorem yhQ{q:PbT}(h:PbOk q n1 n2)(l2:n2≤25)(he:∀x∈q.1.1,0≤x∧x<5):∃e,yD q=some e∧y5L q=some e∧(e=0→SimOk q n1 n2):=by
 obtain⟨t,p,T,k1,k2,n,ho,_⟩:=h.open;have hS:=h.rS;have hul:=Alp.len ⟨h.iu,h.ur⟩;have hal:=Alp.len ⟨hS.ali,hS.alr⟩;have hes:=yhP hS l2 fun x hx=>he x (h.sub x hx);have hsub:(cmdL q).Sublist q.2.1.1:=List.filter_sublist;have hic:Inc (cmdL q):=List.Pairwise.sublist hsub hS.ali;have hcr:∀x∈cmdL q,0≤x∧x<32:=fun x hx=>hS.alr x (hsub.subset hx);have hcl:=Alp.len ⟨hic,hcr⟩;rw [←yk0 (by omega) (by omega),yD,y8B,ho,yOb,yOb,if_neg (by simp),h.rP.nn];by_cases h0:n1=0
 ·subst h0;exact⟨12,by rw [if_pos (by rfl)],by rw [if_pos (by rfl)],fun h=>by omega⟩
 rw [if_neg (by simp;omega),ydY (by omega) (by omega)];have hsb:yA (cmdL q) q.2.1.1=some true:=by
  rw [yc2 (by omega) (by omega) hic hS.ali];exact congrArg some (yAt.2 fun x hx=>yb.2 (hsub.subset hx))
 have hse:yu 32 none (cmdL q)=0:=y6S hic hcr nofun;by_cases hz:n2=0
 ·subst hz;have:yM q.2.1 (cmdL q)=some (((0,0,0,[],[]),[],[],0),21):=by
   rw [yM,hS.check,yOb,if_neg (by simp),y8F (by omega),hse,yOb,if_neg (by simp),hsb,yOb,if_neg (by simp),if_pos (by rw [hS.nn];rfl)]
  rw [this,yOb];exact⟨21,rfl,rfl,fun h=>by omega⟩
 have hg:GenIn (toAut q.2.1) (cmdL q) n2:=⟨hS.nn,by omega,by omega,by show(q.2.1.2.2.2.map toEd).length≤256;rw [List.length_map];omega,hal,hcl,fun x hx=>by
  obtain⟨y,hy,rfl⟩:=List.mem_map.1 hx;have:=hS.es y hy;exact⟨this.1,this.2.1,this.2.2.1,this.2.2.2.1⟩⟩
 have hgen:=yfs hg hS.l2 hS.err0 hse hsb;rw [y9P] at hgen;rw [hgen,yOb];exact⟨0,rfl,rfl,fun _=>⟨h.rP,hS,hg,hic,by omega,by omega,hgen⟩⟩
theorem yk3{x:Des26×Bool}(hd:Des26In x.1):∃q n1 n2 e,y4h x=some q∧PbOk q n1 n2∧(∀a∈q.1.1,0≤a∧a<5)∧n1≤5∧n2≤25∧yD q=some e∧y5L q=some e∧(e=0→SimOk q n1 n2):=by
 obtain⟨q,n1,n2,h1,h2,h3,h4,h5⟩:=ygD hd x.2;obtain⟨e,g1,g2,g3⟩:=yhQ h2 h4 h5;refine⟨q,n1,n2,e,?_,h2,h5,h3,h4,g1,g2,g3⟩;rw [y4h,h1,yOb]
theorem ygf{q:PbT}{n:Nat}(rP:Right q.1 n)(hu:q.2.2.length≤1000000)(mk:Int)(tn:Bool):∃l,y4A q mk tn=some l∧l.length≤3∧l.Nodup∧∀e∈l,e∈q.1.1∧e∈q.2.2:=by
 have hl:=rP.l1;obtain⟨o,h1,h2⟩:=ye (f:=y3l q mk tn) (fun i s=>s.1=(i:Int)∧i≤q.1.1.length∧s.2.length≤3∧s.2.Nodup∧∀e∈s.2,e∈q.1.1.take i∧e∈q.2.2) (fun o=>o.length≤3∧o.Nodup∧∀e∈o,e∈q.1.1∧e∈q.2.2) q.1.1.length 0 (by omega) (fun i s hi ⟨e1,_,e2,e3,e4⟩=>by
  obtain⟨j,out⟩:=s;dsimp only at e1 e2 e3 e4;subst e1;by_cases h3:out.length<3
  case neg=>
   right;rw [y3l,if_neg (by simp;omega)];exact⟨_,rfl,e2,e3,fun e he=>⟨List.mem_of_mem_take (e4 e he).1,(e4 e he).2⟩⟩
  left;rw [y3l,if_pos (by simp;omega),ya hi,yOb,has55 hu,yOb];have hsub:∀e∈q.1.1.take i,e∈q.1.1.take (i+1):=fun e he=>by
   rw [yTs hi];exact List.mem_append_left _ he
  have hx:q.1.1[i]∈q.1.1.take (i+1):=by
   rw [yTs hi];exact List.mem_append_right _ (List.mem_singleton_self _)
  have hnew:q.1.1[i]∉out:=fun hm=>by
   obtain⟨k,hk,e⟩:=List.getElem_of_mem (e4 _ hm).1;rw [List.length_take] at hk;rw [List.getElem_take] at e;have:=List.pairwise_iff_getElem.1 rP.ali k i (by omega) hi (by omega);omega
  have skip:∃s',yP ((i:Int),out) out=some (.inl s')∧s'.1=((i+1:Nat):Int)∧i+1≤q.1.1.length∧s'.2.length≤3∧s'.2.Nodup∧∀e∈s'.2,e∈q.1.1.take (i+1)∧e∈q.2.2:=
   ⟨(_,out),by rw [yP,nxt (by omega)],rfl,hi,e2,e3,fun e he=>⟨hsub e (e4 e he).1,(e4 e he).2⟩⟩
  cases hb:hasB q.2.2 q.1.1[i] with
  | false=>
   rw [if_neg (by simp),yOb,if_neg (by simp)];exact skip
  | true=>
   have hu:=yb.1 hb;rw [if_pos rfl,show ng (i:Int)=some () from if_neg (by omega),yOb,yOb];split
   ·cases tn with
    | true=>
     rw [if_pos rfl,yi (by simp;omega),yOb];refine⟨(_,_),by rw [yP,nxt (by omega)],rfl,hi,by simp;omega,?_,fun e he=>?_⟩
     ·exact List.nodup_cons.2 ⟨hnew,e3⟩
     ·rcases List.mem_cons.1 he with rfl|he
      ·exact ⟨hx,hu⟩
      ·exact ⟨hsub e (e4 e he).1,(e4 e he).2⟩
    | false=>
     rw [if_neg (by simp),yi (by simp;omega),yOb];refine⟨(_,_),by rw [yP,nxt (by omega)],rfl,hi,by simp;omega,?_,fun e he=>?_⟩
     ·dsimp only;rw [List.nodup_append];exact⟨e3,by simp,fun a ha b hb e=>by rw [yMs.1 hb] at e;rw [e] at ha;exact hnew ha⟩
     ·rcases yMa.1 he with he|he
      ·exact ⟨hsub e (e4 e he).1,(e4 e he).2⟩
      ·rw [yMs.1 he];exact⟨hx,hu⟩
   ·exact skip) (fun s ⟨e1,_,e2,e3,e4⟩=>by
  obtain⟨j,out⟩:=s;dsimp only at e1 e2 e3 e4;subst e1;rw [List.take_length] at e4;exact⟨_,by rw [y3l,if_neg (by simp)],e2,e3,e4⟩) (yZl _) (0,[]) ⟨rfl,yZl _,by simp,by simp,fun e he=>by cases he⟩
 exact⟨o,by rw [y4A,h1,yOb],h2⟩
theorem yj2{q:PbT}{n:Nat}(rP:Right q.1 n)(hu:q.2.2.length≤1000000){d:List (Int×Int×Int×Int)}(hd:∀x∈d,0≤x.2.2.2∧x.2.2.2<256):∃l,y3M d q=some l∧l.length≤8∧∀c∈l,CycIn q c:=by
 have hl:=rP.l1;obtain⟨o,h1,h2⟩:=ye (f:=y2P d q) (fun i s=>s.1=(i:Int)∧i≤8∧i≤d.length∧s.2.length≤i∧∀c∈s.2,CycIn q c) (fun o=>o.length≤8∧∀c∈o,CycIn q c) (min d.length 8) 0 (by omega) (fun i s hi ⟨e1,_,_,e2,e3⟩=>by
  obtain⟨j,out⟩:=s;dsimp only at e1 e2 e3;subst e1;have hi1:i<d.length:=by omega
  have hx:=hd _ (yGm hi1);obtain⟨l1,p1,p2,p3,p4⟩:=ygf rP hu d[i].1 ((d[i].2.2.1.tmod 2)==1);obtain⟨l2,r1,r2,r3,r4⟩:=ygf rP hu d[i].2.1 (((IntKind.u8.wrap (d[i].2.2.1.tdiv 2)).tmod 2)==1);left;rw [y2P,if_pos (by simp;omega),ya hi1,yOb,yOb,p1,yOb,yOb,yOb,r1,yOb,yOb];have hfin:∀cm:Int,(cm= -1∨(cm∈q.1.1∧cm∉q.2.2))→∃s',y1H ((i:Int),out) l1 l2 cm=some (.inl s')∧s'.1=((i+1:Nat):Int)∧i+1≤8∧i+1≤d.length∧s'.2.length≤i+1∧∀c∈s'.2,CycIn q c:=fun cm hcm=>by
   rw [y1H];dsimp only;rw [yi (by simp;omega),yOb,nxt (by omega)];refine⟨_,rfl,rfl,by omega,hi1,by simp;omega,fun c hc=>?_⟩;rcases yMa.1 hc with hc|hc
   ·exact e3 c hc
   ·rw [yMs.1 hc];exact⟨p2,r2,p3,r3,p4,r4,hcm⟩
  rw [W_of (by omega) (by omega)];have hk:d[i].2.2.2.tmod 6=d[i].2.2.2 % 6:=Int.tmod_eq_emod_of_nonneg hx.1;obtain⟨k,hk2⟩:∃k:Nat,d[i].2.2.2.tmod 6=(k:Int):=⟨(d[i].2.2.2 % 6).toNat,by rw [hk];omega⟩;have hW:W d[i].2.2.2=d[i].2.2.2:=W_of (by omega) (by omega);split
  ·rename_i hlt;rw [hk2] at hlt ⊢;have hkl:k<q.1.1.length:=by simpa using hlt
   rw [ya hkl,yOb,has55 hu,yOb,y1I,hW,hk2];cases hb:hasB q.2.2 q.1.1[k] with
   | false=>
    rw [if_pos (by rfl),ya hkl,yOb];exact hfin _ (.inr ⟨yGm hkl,fun hm=>by rw [yb.2 hm] at hb;cases hb⟩)
   | true=>
    rw [if_neg (by simp)];exact hfin _ (.inl rfl)
  ·rw [y1I,if_neg (by simp)];exact hfin _ (.inl rfl)) (fun s ⟨e1,_,_,e2,e3⟩=>by
  obtain⟨j,out⟩:=s;dsimp only at e1 e2 e3;subst e1;exact⟨_,by rw [y2P,if_neg (by simp;omega)],by omega,e3⟩) (yZl _) (0,[]) ⟨rfl,by omega,yZl _,by simp,fun c hc=>by cases hc⟩
 exact⟨o,by rw [y3M,h1,yOb],h2⟩
theorem ybA{q:PbT}{ch:CycT→RunT→Int}:∀{l:List CycT} {r:RunT} {s:StpR},s∈y4c q ch r l→∃r' c,c∈l∧s=stpR q r' c (ch c)
 | [],_,_,h=>by cases h
 | c::l,r,s,h=>by
  rcases List.mem_cons.1 h with rfl|h
  ·exact ⟨r,c,List.mem_cons_self ..,rfl⟩
  ·obtain ⟨r',c',h1,h2⟩:=ybA h;exact⟨r',c',List.mem_cons_of_mem _ h1,h2⟩
theorem yhR{q:PbT}(h:SimOk q n1 n2){pr:CycT→List Int}{r:RunT}{l:List CycT}(hl:∀c∈l,c.1.length≤50∧c.2.1.length≤50):∀s∈y4c q (fun c=>chP q (pr c)) r l,s.1.length+s.2.1.length≤100∧s.2.2.1.length≤32∧(s.2.2.2.1= -1∨0≤s.2.2.2.1):=fun s hs=>by
 obtain⟨r',c,hc,rfl⟩:=ybA hs;have k:=hl c hc;have k1:=y9j q.1 c.1 r'.1;have k2:=y9j q.1 c.2.1 (midR q r' c).1;refine⟨?_,Nat.le_trans (List.length_filter_le _ _) h.g.ct,?_⟩
 ·show (trE q.1 c.1 r'.1).2.length+(trE q.1 c.2.1 (midR q r' c).1).2.length≤100;omega
 ·exact (yc4 q (pr c) (midR q r' c)).imp id fun g=>(yge h.rP g.2).1
theorem ykp{q:PbT}(hu:q.2.2.length≤1000000)(hP:Right q.1 n1)(he:yD q=some e)(hs:e=0→SimOk q n1 n2){l:List CycT}(hl:l.length≤256)(hc:∀c∈l,c.1.length≤1000000∧c.2.1.length≤1000000):
  y5e q l=some (if e≠0 then([],e) else if scE q l≠0 then([],scE q l) else(y4c q (fun c=>chP q [c.2.2]) (0,0,false) l,0)):=by
 rw [y5e,ye0 hP.l1 hu (by omega) hc he,yOb];by_cases h0:e=0
 case neg=>rw [if_pos h0,if_pos (by simpa using h0),if_pos h0]
 rw [if_neg (show ¬e≠0 from fun h=>h h0),if_neg (show ¬256<l.length by omega),if_neg (show ¬e≠0 from fun h=>h h0)];by_cases h1:scE q l=0
 case neg=>rw [if_pos (by simpa using h1),if_pos h1]
 have hk:=hs h0;have hin:=yfg.1 h1;rw [if_neg (by simpa using h1),if_neg (show ¬scE q l≠0 from fun h=>h h1),yko hk (by omega) (fun c hc=>(hin c hc).ok) (pr:=fun c=> [c.2.2]) fun c hc=>yk2 hk ((hin c hc).cm.imp id fun g=>g.2)];rfl
theorem yd3{τ:Type}{st:τ→Int→Option τ}:∀{u:List Int} {t:τ} {e:Int},stw st t (u++[e])=(stw st t u).bind fun r=>st r e
 | [],t,e=>by
  rw [List.nil_append,stw,stw,yOb];cases st t e <;> rfl
 | x::u,t,e=>by
  rw [List.cons_append,stw,stw];cases h:st t x with
  | none=>rfl
  | some r=>
   rw [yOb,yOb,yd3]
def IsRun(P:AutT)(U:List Int)(x:Int)(w:List Int)(y:Int):Prop:=stw (st1 P) x w=some y∧(∀e∈w,e∈U)∧w.Nodup
theorem IsRun.snoc{P:AutT}{y y':Int}(h:IsRun P U x w y)(he:e∈U)(hn:e∉w)(hs:st1 P y e=some y'):IsRun P U x (w++[e]) y':=by
 obtain⟨h1,h2,h3⟩:=h;refine⟨by rw [yd3,h1,yOb,hs],fun z hz=>?_,?_⟩
 ·rcases yMa.1 hz with hz|hz
  ·exact h2 z hz
  ·rw [yMs.1 hz];exact he
 ·rw [List.nodup_append];refine⟨h3,by simp,fun a ha b hb e=>?_⟩;rw [yMs.1 hb] at e;rw [e] at ha;exact hn ha
theorem IsRun.of_snoc{P:AutT}{y':Int}(h:IsRun P U x (w++[e]) y'):∃y,IsRun P U x w y∧e∈U∧e∉w∧st1 P y e=some y':=by
 obtain⟨h1,h2,h3⟩:=h;rw [yd3] at h1;obtain⟨y,g1,g2⟩:=Option.bind_eq_some_iff.1 h1;rw [List.nodup_append] at h3;exact⟨y,⟨g1,fun z hz=>h2 z (List.mem_append_left _ hz),h3.1⟩,h2 e (by simp),fun hm=>h3.2.2 e hm e (by simp) rfl,g2⟩
structure BR (P:AutT) (U:List Int) (x:Int) (z i:Nat) (A:List (Int×List Int)):Prop where
 run:∀r∈A,IsRun P U x r.2 r.1
 len:∀r∈A,r.2.length≤z
 so:A.Pairwise fun r r'=>wval r.2<wval r'.2
 root:(x,([]:List Int))∈A
 clo:∀(j:Nat) (r:Int×List Int),j<i→A[j]? =some r→r.2.length<z→∀e∈U,e∉r.2→∀y,st1 P r.1 e=some y→(y,r.2++[e])∈A
 bd:∀(j:Nat) (r:Int×List Int),i≤j→A[j]? =some r→∀q∈A,wval q.2≤33*wval r.2
theorem BR.next{P:AutT}{z i:Nat}{A:List (Int×List Int)}(h:BR P U x z i A){r:Int×List Int}(hi:A[i]? =some r)(hr:z≤r.2.length):BR P U x z (i+1) A:=
 ⟨h.run,h.len,h.so,h.root,fun j r' hj ej hl=>by
  by_cases e:j=i
  ·subst e;rw [hi] at ej;cases ej;omega
  ·exact h.clo j r' (by omega) ej hl,fun j r' hj=>h.bd j r' (by omega)⟩
theorem BR.all{P:AutT}{z:Nat}{A:List (Int×List Int)}(h:BR P U x z A.length A)(w:List Int):∀y,IsRun P U x w y→w.length≤z→(y,w)∈A:=by
 refine yf2 (P:=fun w=>∀y,IsRun P U x w y→w.length≤z→(y,w)∈A) (fun y hy _=>?_) (fun v e ih y hy hl=>?_) w
 ·have:some x=some y:=hy.1;cases this;exact h.root
 ·obtain ⟨y',g1,g2,g3,g4⟩:=hy.of_snoc;rw [List.length_append,List.length_singleton] at hl;obtain⟨j,hj,e2⟩:=List.getElem_of_mem (ih y' g1 (by omega));exact h.clo j (y',v) hj (by rw [yGe hj,e2]) (by dsimp only;omega) e g2 g3 y g4
structure BuL (P:AutT) (U:List Int) (x:Int) (z:Nat) (bs:List (List Int)):Prop where
 mem:∀b,b∈bs↔(∃y,IsRun P U x b y)∧2≤b.length∧b.length≤z
 so:bs.Pairwise fun b b'=>wval b<wval b'
section
variable{q:ProbT}{t:TaskT}{p:AutT}{T:List (List Int)}{n1 n2 n:Nat}
theorem yhS(h:TaskOk q t p T n1 n2 n){z c:Nat}{out:List (List Int)}{l:List (Int×List Int)}{r:Int×List Int}(hc:l[c]? =some r)(hz:r.2.length<z)(hz3:z≤3)(hl:l.length≤1000000)(hB:BR q.1 t.2.2.2.2.1 x z c l):
  ∃l',iter (yL t ((c:Int),out,l)) (0,l)=some l'∧BR q.1 t.2.2.2.2.1 x z (c+1) l':=by
 obtain⟨ui,ul,um⟩:=h.uni;obtain⟨U,hU⟩:∃U,U=t.2.2.2.2.1:=⟨_,rfl⟩;rw [←hU] at ui ul um hB ⊢;have hcl:c<l.length:=(List.getElem?_eq_some_iff.1 hc).1;have hUr:∀i (hi:i<U.length),0≤U[i]∧U[i]<32:=fun i hi=>h.rP.alr _ ((um _).1 (yGm hi)).1;obtain⟨w,y,rfl⟩:∃w y,r=(y,w):=⟨r.2,r.1,rfl⟩;dsimp only at hz;have hcm:(y,w)∈l:=List.mem_of_getElem? hc;obtain⟨A',h1,⟨N,hN⟩,h3,h4,h5,h6,h7⟩:=ye (f:=yL t ((c:Int),out,l))
  (fun k s=>s.1=(k:Int)∧k≤U.length∧(∃N,s.2=l++N∧N.length≤k)∧(∀r∈s.2,IsRun q.1 U x r.2 r.1)∧(∀r∈s.2,r.2.length≤z)∧(s.2.Pairwise fun r r'=>wval r.2<wval r'.2)∧
   (∀k' (h:k'<U.length),k≤k'→∀r∈s.2,wval r.2<33*wval w+U[k']+1)∧(∀k' (h:k'<U.length),k'<k→U[k']∉w→∀y',st1 q.1 y U[k']=some y'→(y',w++[U[k']])∈s.2)∧∀r∈s.2,wval r.2≤33*wval w+32)
  (fun o=>(∃N,o=l++N)∧(∀r∈o,IsRun q.1 U x r.2 r.1)∧(∀r∈o,r.2.length≤z)∧(o.Pairwise fun r r'=>wval r.2<wval r'.2)∧
   (∀k' (h:k'<U.length),U[k']∉w→∀y',st1 q.1 y U[k']=some y'→(y',w++[U[k']])∈o)∧∀r∈o,wval r.2≤33*wval w+32)
  U.length 0 (by omega) (fun k s hk ⟨e1,_,⟨N,hN,hNl⟩,q1,q2,q3,q4,q5,q6⟩=>by
   obtain⟨c',B⟩:=s;dsimp only at e1 hN q1 q2 q3 q4 q5 q6;subst e1;have hur:=hUr k hk;have hiB:B[c]? =some (y,w):=by rw [hN,List.getElem?_append_left hcl];exact hc
   have hwB:(y,w)∈B:=List.mem_of_getElem? hiB;have hBl:B.length≤1000032:=by rw [hN,List.length_append];omega
   -- an event that is passed over
   have hskip:(U[k]∉w→st1 q.1 y U[k]=none)→∃s',yK ((k:Int),B) B=some (.inl s')∧s'.1=((k+1:Nat):Int)∧k+1≤U.length∧(∃N,s'.2=l++N∧N.length≤k+1)∧(∀r∈s'.2,IsRun q.1 U x r.2 r.1)∧(∀r∈s'.2,r.2.length≤z)∧(s'.2.Pairwise fun r r'=>wval r.2<wval r'.2)∧
     (∀k' (h:k'<U.length),k+1≤k'→∀r∈s'.2,wval r.2<33*wval w+U[k']+1)∧(∀k' (h:k'<U.length),k'<k+1→U[k']∉w→∀y',st1 q.1 y U[k']=some y'→(y',w++[U[k']])∈s'.2)∧∀r∈s'.2,wval r.2≤33*wval w+32:=fun hn=>by
    rw [yK];dsimp only;rw [nxt (by omega)];refine⟨_,rfl,rfl,hk,⟨N,hN,by omega⟩,q1,q2,q3,fun k' hk' hkk=>q4 k' hk' (by omega),fun k' hk' hkk hnw y' hy'=>?_,q6⟩;by_cases e:k'=k
    ·subst e;rw [hn hnw] at hy';cases hy'
    ·exact q5 k' hk' (by omega) hnw y' hy'
   left;rw [yL,←hU];dsimp only;rw [if_pos (ct_lt hk),ya hk,yOb,y7d,hiB,yOb,to_eq h.g1,yOb];dsimp only;cases hst:st1 q.1 y U[k] with
   | none=>
    rw [Option.getD_none,if_neg (by simp),yOb,if_neg (by simp)];exact hskip fun _=>hst
   | some y'=>
    have hy':=y7A h.rP hst;rw [Option.getD_some,if_pos (by simp;omega),yOb,y1b (by show w.length<_;omega),yOb,yOb];cases hh:hasB w U[k] with
    | true=>
     rw [if_neg (by simp)];exact hskip fun hn=>absurd (yb.1 hh) hn
    | false=>
     have hnw:U[k]∉w:=fun hm=>by
      rw [yb.2 hm] at hh;cases hh
     rw [if_pos (by rfl),yOb,y8o (by show w.length≤_;omega),yOb,yi (by simp;omega),yOb,yi (by simp;omega),yOb,yK];dsimp only;rw [nxt (by omega)];have hwv:wval (w++[U[k]])=33*wval w+U[k]+1:=yam _ _;refine⟨_,rfl,rfl,hk,⟨N++[(y',w++[U[k]])],by dsimp only;rw [hN,List.append_assoc],by simp;omega⟩,fun r hr'=>?_,fun r hr'=>?_,?_,fun k' hk' hkk r hr'=>?_,fun k' hk' hkk hnw' y2 hy2=>?_,fun r hr'=>?_⟩
     ·rcases yMa.1 hr' with hr'|hr'
      ·exact q1 r hr'
      ·rw [yMs.1 hr'];exact(q1 _ hwB).snoc (yGm hk) hnw hst
     ·rcases yMa.1 hr' with hr'|hr'
      ·exact q2 r hr'
      ·rw [yMs.1 hr'];simp;omega
     ·dsimp only;rw [List.pairwise_append];refine⟨q3,List.pairwise_singleton _ _,fun r hr' r' hr2=>?_⟩;rw [yMs.1 hr2];dsimp only;rw [hwv];exact q4 k hk (Nat.le_refl _) r hr'
     ·rcases yMa.1 hr' with hr'|hr'
      ·exact q4 k' hk' (by omega) r hr'
      ·rw [yMs.1 hr'];dsimp only;rw [hwv];have:=List.pairwise_iff_getElem.1 ui k k' hk hk' (by omega);omega
     ·by_cases e:k'=k
      ·subst e;rw [hst] at hy2;cases hy2;exact List.mem_append_right _ (yMs.2 rfl)
      ·exact List.mem_append_left _ (q5 k' hk' (by omega) hnw' y2 hy2)
     ·rcases yMa.1 hr' with hr'|hr'
      ·exact q6 r hr'
      ·rw [yMs.1 hr'];dsimp only;rw [hwv];omega) (fun s ⟨e1,_,⟨N,hN,_⟩,q1,q2,q3,q4,q5,q6⟩=>by
   obtain⟨c',B⟩:=s;dsimp only at e1 hN q1 q2 q3 q4 q5 q6;subst e1;refine⟨B,?_,⟨N,hN⟩,q1,q2,q3,fun k' hk'=>q5 k' hk' hk',q6⟩;rw [yL,←hU];dsimp only;rw [if_neg ct_ge]) (yZl _) (0,l) ⟨rfl,yZl _,⟨[],(List.append_nil _).symm,Nat.le_refl _⟩,hB.run,hB.len,hB.so,fun k' hk' _ r hr'=>by
    have:=hB.bd c _ (Nat.le_refl _) hc r hr';have:=hUr k' hk';dsimp only at *;omega,fun k' hk' h=>absurd h (Nat.not_lt_zero _),fun r hr'=>by
    have:=hB.bd c _ (Nat.le_refl _) hc r hr';dsimp only at *;omega⟩
 have hcA:A'[c]? =some (y,w):=by rw [hN,List.getElem?_append_left hcl];exact hc
 refine⟨A',h1,⟨h3,h4,h5,by rw [hN];exact List.mem_append_left _ hB.root,fun j r hj ej hlz e he hne y2 hy2=>?_,fun j r hij hj q hq=>?_⟩⟩
 ·by_cases e2:j=c
  ·subst e2;rw [hcA] at ej;cases ej;obtain⟨k,hk,rfl⟩:=List.getElem_of_mem he;exact h6 k hk hne y2 hy2
  ·rw [hN,List.getElem?_append_left (by omega)] at ej;rw [hN];exact List.mem_append_left _ (hB.clo j r (by omega) ej hlz e he hne y2 hy2)
 ·obtain ⟨hj1,hj2⟩:=List.getElem?_eq_some_iff.1 hj;obtain⟨hi1,hi2⟩:=List.getElem?_eq_some_iff.1 hcA;have:=List.pairwise_iff_getElem.1 h5 c j hi1 hj1 (by omega);rw [hi2,hj2] at this;have:=h7 q hq;dsimp only at *;omega
theorem ygR(h:TaskOk q t p T n1 n2 n){k:Nat}{y:Int}(hk:T[k]? =some [x,y]){z:Nat}(hz:z≤3):∃bs,y5r t (k:Int) (z:Int)=some bs∧bs.length≤40000∧BuL q.1 t.2.2.2.2.1 x z bs:=by
 have hp:=ykk hz;obtain⟨o,h1,h2,l,h3,h4⟩:=ye (f:=y5D t (z:Int)) (fun i s=>s.1=(i:Int)∧i≤s.2.2.length∧i+potL z (s.2.2.drop i)≤pot z∧s.2.1.length≤i∧s.2.1=((s.2.2.take i).filter fun r=>decide (1<r.2.length)).map Prod.snd∧BR q.1 t.2.2.2.2.1 x z i s.2.2) (fun o=>o.length≤40000∧∃l:List (Int×List Int),o=(l.filter fun r=>decide (1<r.2.length)).map Prod.snd∧BR q.1 t.2.2.2.2.1 x z l.length l) (pot z) 0 (by omega) (fun i s hi ⟨e1,g0,g1,g3,g4,g5⟩=>by
   obtain⟨c,out,l⟩:=s;dsimp only at e1 g0 g1 g3 g4 g5;subst e1;have g2:=g5.len;have hll:l.length≤pot z:=by
    have:=ycY z (l.drop i);rw [List.length_drop] at this;omega
   rw [y5D];dsimp only;by_cases hil:i<l.length
   ·left;have hil2:l[i]? =some l[i]:=yGe hil;have hj2:∀out':List (List Int),out'.length≤i+1→out'=((l.take (i+1)).filter fun r=>decide (1<r.2.length)).map Prod.snd→∃s',y3U t (z:Int) ((i:Int),out,l) out'=some (.inl s')∧s'.1=((i+1:Nat):Int)∧i+1≤s'.2.2.length∧i+1+potL z (s'.2.2.drop (i+1))≤pot z∧s'.2.1.length≤i+1∧s'.2.1=((s'.2.2.take (i+1)).filter fun r=>decide (1<r.2.length)).map Prod.snd∧BR q.1 t.2.2.2.2.1 x z (i+1) s'.2.2:=fun out' o1 o2=>by
     have hd:potL z (l.drop i)=pot (z-l[i].2.length)+potL z (l.drop (i+1)):=by
      rw [List.drop_eq_getElem_cons hil];unfold potL;rw [List.map_cons,List.sum_cons]
     rw [y3U];dsimp only;rw [ya hil,yOb];have hrl:=g2 _ (yGm hil);by_cases hc:l[i].2.length=z
     ·rw [if_pos (by simp [hc]),y3T];dsimp only;rw [nxt (by omega)];have:=yga (z-l[i].2.length);exact⟨_,rfl,rfl,hil,by dsimp only;omega,o1,o2,g5.next hil2 (by omega)⟩
     ·rw [if_neg (by simp;omega)];obtain⟨N,q1,q2,q3⟩:=yhp h (z:=z) (out:=out) hil2 (by omega) hz (by omega) g2;obtain⟨l',r1,r2⟩:=yhS h (out:=out) hil2 (by omega) hz (by omega) g5;rw [q1] at r1;cases r1;rw [q1,yOb,y3T];dsimp only;rw [nxt (by omega)];refine⟨_,rfl,rfl,by simp;omega,?_,o1,?_,r2⟩
      ·dsimp only;rw [List.drop_append_of_le_length (by omega),yiy,yf7 q3];have e:z-l[i].2.length=(z-(l[i].2.length+1))+1:=by omega
       rw [e,pot] at hd;have:=Nat.mul_le_mul_right (pot (z-(l[i].2.length+1))) q2;omega
      ·dsimp only;rw [List.take_append_of_le_length (by omega)];exact o2
    rw [if_pos (ct_lt hil),ya hil,yOb];by_cases h2:1<l[i].2.length
    ·rw [if_pos (by simp;omega),yOb,yi (by simp;omega),yOb];refine hj2 _ (by simp;omega) ?_;rw [yTs hil,List.filter_append,List.map_append,←g4];simp [h2]
    ·rw [if_neg (by simp;omega)];refine hj2 _ (by omega) ?_;rw [yTs hil,List.filter_append,List.map_append,←g4];simp [h2]
   ·right;rw [if_neg (by simp;omega)];obtain rfl:i=l.length:=by omega
    rw [List.take_length] at g4;exact⟨_,rfl,by omega,l,g4,g5⟩) (fun s ⟨e1,g0,g1,g3,g4,g5⟩=>by
   obtain⟨c,out,l⟩:=s;dsimp only at e1 g0 g1 g3 g4 g5;subst e1;have:=ycY z (l.drop (pot z));rw [List.length_drop] at this;rw [y5D];dsimp only;rw [if_neg (by simp;omega)];have e:pot z=l.length:=by omega
   rw [e,List.take_length] at g4;rw [e] at g5;exact⟨_,rfl,by omega,l,g4,g5⟩) (yZl _) (0,[],[(x,[])]) ⟨rfl,by simp,by rw [List.drop_zero,yiz];simp,by simp,by simp,⟨fun r hr=>by
   rw [yMs.1 hr];exact⟨rfl,(fun e he=>by cases he),List.Pairwise.nil⟩,fun r hr=>by rw [yMs.1 hr];simp,List.pairwise_singleton _ _,yMs.2 rfl,fun j r hj=>absurd hj (Nat.not_lt_zero _),fun j r _ hj q hq=>by
   rw [yMs.1 (List.mem_of_getElem? hj),yMs.1 hq];show wval []≤33*wval [];decide⟩⟩
 refine⟨o,?_,h2,?_⟩
 ·rw [y5r,h.tt,y7d,hk,yOb,show idx [x,y] 0=some x from rfl,yOb,h1];rfl
 ·subst h3;refine⟨fun b=>?_,?_⟩
  ·constructor
   ·intro hb;obtain⟨r,hr,rfl⟩:=List.mem_map.1 hb;obtain⟨hr,hl⟩:=List.mem_filter.1 hr;exact⟨⟨r.1,h4.run r hr⟩,by have:=of_decide_eq_true hl;omega,h4.len r hr⟩
   ·rintro ⟨⟨y',hy'⟩,hb1,hb2⟩;exact List.mem_map.2 ⟨(y',b),List.mem_filter.2 ⟨h4.all b y' hy' hb2,decide_eq_true (by dsimp only;omega)⟩,rfl⟩
  ·rw [List.pairwise_map];exact h4.so.filter _
end
def FB(I:List Int→Prop):Option (List Int)→Prop
 | none=>∀b,¬I b
 | some b=>I b∧∀b',I b'→wval b≤wval b'
theorem yhT{a:AutT}{n:Nat}(hr:Right a n):∀{u:List Int} {s t:Int},stw (st1 a) s u=some t→∀e∈u,e∈a.1
 | [],_,_,_,e,he=>by cases he
 | x::u,s,t,h,e,he=>by
  rw [stw] at h;obtain⟨r,g1,g2⟩:=Option.bind_eq_some_iff.1 h;rcases List.mem_cons.1 he with rfl|he
  ·exact (y7A hr g1).2.2.2.2
  ·exact yhT hr g2 e he
def oI(q:ProbT)(x y:Int)(z:Nat)(b:List Int):Prop:=(∃v,IsRun q.1 q.2.2 x b v)∧2≤b.length∧b.length≤z∧okB q.2.1 y b=false
def oK(q:ProbT)(T:List (List Int))(z:Nat)(s:Int)(b:List Int):Prop:=∃x y,T[s.toNat]? =some [x,y]∧oI q x y z b
section
variable{q:ProbT}{t:TaskT}{p:AutT}{T:List (List Int)}{n1 n2 n:Nat}
theorem TaskOk.isrun(h:TaskOk q t p T n1 n2 n){v:Int}:IsRun q.1 t.2.2.2.2.1 x w v↔IsRun q.1 q.2.2 x w v:=by
 obtain⟨ui,ul,um⟩:=h.uni;constructor
 ·rintro ⟨h1,h2,h3⟩;exact⟨h1,fun e he=>((um e).1 (h2 e he)).2,h3⟩
 ·rintro ⟨h1,h2,h3⟩;exact⟨h1,fun e he=>(um e).2 ⟨yhT h.rP h1 e he,h2 e he⟩,h3⟩
theorem yhU(h:TaskOk q t p T n1 n2 n){k:Nat}(hk:k<T.length){z:Nat}(hz:z≤3):∃bs o,y5r t (k:Int) (z:Int)=some bs∧FB (oK q T z (k:Int)) o∧iter (y6r t (k:Int) bs) 0=some (match o with
  | none=> .inl ()
  | some b=> .inr (wN (edsOf p) (k:Int),b)):=by
 obtain⟨x,y,e,_⟩:=h.pair hk;obtain⟨bs,b1,b2,b3⟩:=ygR h e hz;have hg:∀i (hi:i<bs.length),bs.getD i []=bs[i]:=fun i hi=>by rw [List.getD_eq_getElem?_getD,yGe hi,Option.getD_some]
 have hoK:∀b,oK q T z (k:Int) b↔b∈bs∧okB q.2.1 y b=false:=fun b=>by
  rw [b3.mem];constructor
  ·rintro ⟨x',y',e',⟨v,hv⟩,h1,h2,h3⟩;rw [Int.toNat_natCast,e] at e';cases e';exact⟨⟨⟨v,h.isrun.2 hv⟩,h1,h2⟩,h3⟩
  ·rintro ⟨⟨⟨v,hv⟩,h1,h2⟩,h3⟩;exact⟨x,y,by rw [Int.toNat_natCast,e],⟨v,h.isrun.1 hv⟩,h1,h2,h3⟩
 obtain⟨o,g1,g2⟩:=y8E (f:=y6r t (k:Int) bs) (fun i=>i) bs.length (by omega) (fun i=>!okB q.2.1 y (bs.getD i [])) (fun i=>(wN (edsOf p) (k:Int),bs.getD i [])) (fun i hi=>by
  have:=((b3.mem _).1 (yGm hi)).2.2;rw [y6r,if_pos (ct_lt hi),ya hi,yOb,ygx h e (by omega),yOb,hg i hi,h.word hk,yOb,nxt (by omega)]) (by rw [y6r,if_neg ct_ge])
 rcases g2 with ⟨rfl,g3⟩|⟨i,hi,rfl,g3,g4⟩
 ·refine ⟨bs,none,b1,fun b hb=>?_,g1⟩;obtain⟨hm,hb⟩:=(hoK b).1 hb;obtain⟨i,hi,rfl⟩:=List.getElem_of_mem hm;have:=g3 i hi;rw [hg i hi,hb] at this;cases this
 ·rw [hg i hi] at g1 g3;refine⟨bs,some bs[i],b1,⟨(hoK _).2 ⟨yGm hi,by simpa using g3⟩,fun b' hb'=>?_⟩,g1⟩;obtain⟨hm,hb⟩:=(hoK b').1 hb';obtain⟨j,hj,rfl⟩:=List.getElem_of_mem hm;rcases Nat.lt_trichotomy j i with hlt|e|hlt
  ·have:=g4 j hlt;rw [hg j hj,hb] at this;cases this
  ·subst e;exact Int.le_refl _
  ·exact Int.le_of_lt (List.pairwise_iff_getElem.1 b3.so i j hi hj hlt)
theorem yhV(h:TaskOk q t p T n1 n2 n)(ho:y5j q=some (some t,0)){z:Nat}(z2:2≤z)(z3:z≤3):∃r,y7v q (z:Int)=some r∧((r=((0,[],[]),true,0)∧∀k,k<T.length→FB (oK q T z (k:Int)) none)∨∃(k:Nat) (b:List Int),k<T.length∧FB (oK q T z (k:Int)) (some b)∧(∀j,j<k→FB (oK q T z (j:Int)) none)∧r=((1,wN (edsOf p) (k:Int),b),false,0)):=by
 have htl:=h.loop.tl;have hle:=h.loop.le;obtain⟨o,h1,h2⟩:=ye (f:=y7k (z:Int) t) (fun i s=>s=(i:Int)∧i≤T.length∧∀j,j<i→FB (oK q T z (j:Int)) none) (fun o=>(o= .inl ()∧∀k,k<T.length→FB (oK q T z (k:Int)) none)∨∃(k:Nat) (b:List Int),k<T.length∧FB (oK q T z (k:Int)) (some b)∧(∀j,j<k→FB (oK q T z (j:Int)) none)∧o= .inr (wN (edsOf p) (k:Int),b)) T.length 0 (by omega) (fun i s hi ⟨e1,_,hz⟩=>by
   subst e1;obtain⟨bs,o,w0,w1,w2⟩:=yhU h hi z3;rw [y7k,h.tt,if_pos (ct_lt hi),w0,yOb,w2,yOb];cases o with
   | none=>
    left;dsimp only;rw [nxt (by omega)];refine⟨_,rfl,rfl,hi,fun j hj=>?_⟩;by_cases e:j=i
    ·subst e;exact w1
    ·exact hz j (by omega)
   | some b=>
    right;exact⟨_,rfl,.inr ⟨i,b,hi,w1,hz,rfl⟩⟩) (fun s ⟨e1,_,hz⟩=>by
   subst e1;exact⟨.inl (),by rw [y7k,h.tt,if_neg ct_ge],.inl ⟨rfl,hz⟩⟩) (yZl _) 0 ⟨rfl,yZl _,fun j hj=>absurd hj (Nat.not_lt_zero _)⟩
 rw [y7v,ho,yOb,if_neg (by simp),if_neg (by simp;omega),yOb,h1,yOb];rcases h2 with ⟨rfl,h3⟩|⟨k,b,hk,h3,h4,rfl⟩
 ·exact ⟨_,rfl,.inl ⟨rfl,h3⟩⟩
 ·exact ⟨_,rfl,.inr ⟨k,b,hk,h3,h4,rfl⟩⟩
end
section
variable{q:ProbT}{t:TaskT}{p:AutT}{T:List (List Int)}{n1 n2 n:Nat}
def l3(u:List Int)(m a b c:Nat):List Int:=[u.getD a 0,u.getD b 0,u.getD c 0].take m
theorem gd{u:List Int}{i:Nat}(hi:i<u.length):u.getD i 0=u[i]:=by rw [List.getD_eq_getElem?_getD,yGe hi,Option.getD_some]
end
end Go.Proofs.YtecmobjeeonmaaaGreatDoor
