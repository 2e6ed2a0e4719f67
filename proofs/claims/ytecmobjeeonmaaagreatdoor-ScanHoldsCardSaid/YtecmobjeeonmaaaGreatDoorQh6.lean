/- Parts of the proof, without what nothing here names. -/
import Derived.Test.YtecmobjeeonmaaaGreatDoorQh5
namespace Go.Proofs.YtecmobjeeonmaaaGreatDoor
abbrev anyE :Ed→Bool:=fun _=>true
structure Num (es:List Ed) (n:Nat):Prop where
 so:es.Pairwise fun x y=>x.f < y.f∨(x.f=y.f∧x.e < y.e)
 rng:∀x∈es,0≤x.f∧x.f < (n:Int)∧0≤x.t∧x.t < (n:Int)∧0≤x.e∧x.e < 32
 cov:∀k:Nat,0 < k→k < n→∃x∈es,x.t=(k:Int)
 ear:∀i (hi:i < es.length) (k:Int),0 < k→k < es[i].t→∃j,∃hj:j < es.length,j < i∧es[j].t=k
 fst:∀i (hi:i < es.length),(∀j (hj:j < es.length),j < i→es[j].t≠es[i].t)→es[i].t=0∨es[i].f < es[i].t
theorem y9p {es:List Ed} {k:Int} {x:Ed} (h:es.find? (fun y=>y.t == k)=some x):∃i,∃hi:i < es.length,es[i]=x∧x.t=k∧∀j (hj:j < es.length),j < i→es[j].t≠k:=by
 rw [List.find?_eq_some_iff_getElem] at h
 obtain⟨h1,i,hi,h2,h3⟩:=h
 refine⟨i,hi,h2,by simpa using h1,fun j hj hji e=>?_⟩
 have:=h3 j hji
 simp [e] at this
def wordN (es:List Ed):Nat→Int→List Int
 | 0,_=> []
 | f + 1,k=>if k≤0 then [] else match es.find? (fun y=>y.t == k) with
  | none=> []
  | some x=>wordN es f x.f ++ [x.e]
def wN (es:List Ed) (k:Int):List Int:=wordN es k.toNat k
namespace Num
variable {es:List Ed} {n:Nat}
theorem find (h:Num es n) {k:Nat} (h0:0 < k) (h1:k < n):∃x,es.find? (fun y=>y.t == (k:Int))=some x∧x∈es∧x.t=(k:Int)∧0≤x.f∧x.f < (k:Int):=by
 obtain⟨y,hy,ht⟩:=h.cov k h0 h1
 cases hf:es.find? (fun y=>y.t == (k:Int)) with
 | none=>exact absurd (by simpa using ht) (by simpa using List.find?_eq_none.1 hf y hy)
 | some x=>
  obtain⟨i,hi,e1,e2,e3⟩:=y9p hf
  have hm:x∈es:=e1 ▸ List.getElem_mem hi
  refine⟨x,rfl,hm,e2,(h.rng x hm).1,?_⟩
  have:=h.fst i hi (fun j hj hji=>by rw [e1,e2];exact e3 j hj hji)
  rw [e1,e2] at this
  omega
theorem fuel (h:Num es n):∀(f:Nat) (k:Int),k < (n:Int)→k.toNat≤f→wordN es f k=wN es k:=by
 have key:∀(m:Nat) (k:Int),k.toNat=m→k < (n:Int)→∀f g,m≤f→m≤g→wordN es f k=wordN es g k:=by
  intro m
  induction m using Nat.strongRecOn with
  | ind m ih=>
   intro k hk hn f g hf hg
   by_cases h0:k≤0
   ·have e:∀f,wordN es f k= []:=fun f=>by
     cases f with
     | zero=>rfl
     | succ f=>rw [wordN,if_pos h0]
    rw [e,e]
   ·obtain ⟨f,rfl⟩:∃f',f=f' + 1:=⟨f - 1,by omega⟩
    obtain⟨g,rfl⟩:∃g',g=g' + 1:=⟨g - 1,by omega⟩
    obtain⟨k',rfl⟩:∃k':Nat,k=(k':Int):=⟨k.toNat,by omega⟩
    obtain⟨x,hx,_,ht,hf0,hfk⟩:=h.find (k:=k') (by omega) (by omega)
    rw [wordN,wordN,if_neg h0,if_neg h0,hx]
    dsimp only
    rw [ih x.f.toNat (by omega) x.f rfl (by omega) f g (by omega) (by omega)]
 intro f k hn hf
 exact key k.toNat k rfl hn f k.toNat hf (Nat.le_refl _)
theorem step (h:Num es n) {k:Nat} (h0:0 < k) (h1:k < n):∃x∈es,es.find? (fun y=>y.t == (k:Int))=some x∧x.t=(k:Int)∧0≤x.f∧x.f < (k:Int)∧wN es (k:Int)=wN es x.f ++ [x.e]:=by
 obtain⟨x,hx,hm,ht,hf0,hfk⟩:=h.find h0 h1
 refine⟨x,hm,hx,ht,hf0,hfk,?_⟩
 obtain⟨k,rfl⟩:∃k',k=k' + 1:=⟨k - 1,by omega⟩
 unfold wN
 rw [Int.toNat_natCast,wordN,if_neg (by omega),hx]
 dsimp only
 rw [h.fuel k x.f (by omega) (by omega)]
 rfl
theorem zero :wN es 0= []:=rfl
theorem evs (h:Num es n):∀(k:Nat),k < n→Evs (wN es (k:Int)):=by
 intro k
 induction k using Nat.strongRecOn with
 | ind k ih=>
  intro hk
  by_cases h0:k=0
  ·subst h0;exact Evs.nil
  ·obtain ⟨x,hm,_,_,hf0,hfk,e⟩:=h.step (k:=k) (by omega) hk
   rw [e]
   have hx:=h.rng x hm
   have:=ih x.f.toNat (by omega) (by omega)
   rw [Int.toNat_of_nonneg hf0] at this
   exact this.snoc hx.2.2.2.2.1 hx.2.2.2.2.2
theorem mono (h:Num es n):∀(k' k:Nat),k < k'→k' < n→wval (wN es (k:Int)) < wval (wN es (k':Int)):=by
 intro k'
 induction k' using Nat.strongRecOn with
 | ind k' ih=>
  intro k hkk hk'
  obtain⟨x',hm',hf',ht',hf0',hfk',e'⟩:=h.step (k:=k') (by omega) hk'
  have hx':=h.rng x' hm'
  have hw':0≤wval (wN es x'.f):=by
   have:=h.evs x'.f.toNat (by omega)
   rw [Int.toNat_of_nonneg hf0'] at this
   exact yb7 _ this
  rw [e',y5R]
  by_cases h0:k=0
  ·subst h0
   show wval [] < _
   show(0:Int) < _
   omega
  ·obtain ⟨x,hm,hf,ht,hf0,hfk,e⟩:=h.step (k:=k) (by omega) (by omega)
   have hx:=h.rng x hm
   rw [e,y5R]
   obtain⟨i,hi,a1,a2,a3⟩:=y9p hf
   obtain⟨i',hi',b1,b2,b3⟩:=y9p hf'
   obtain⟨j,hj,hji,hjt⟩:=h.ear i' hi' (k:Int) (by omega) (by rw [b1,b2];omega)
   have hij:i≤j:=Nat.le_of_not_lt fun hlt=>a3 j hj hlt hjt
   have hlt:=List.pairwise_iff_getElem.1 h.so i i' hi hi' (by omega)
   rw [a1,b1] at hlt
   rcases hlt with hlt | ⟨hlt,hle⟩
   ·have:=ih x'.f.toNat (by omega) x.f.toNat (by omega) (by omega)
    rw [Int.toNat_of_nonneg hf0,Int.toNat_of_nonneg hf0'] at this
    omega
   ·rw [hlt];omega
end Num
structure AllW (es:List Ed) (most:Nat) (L:List (List Int×Int)):Prop where
 lead:∀r∈L,Leads es anyE 0 r.1 r.2
 len:∀r∈L,r.1.length≤most
 so:L.Pairwise fun r r'=>wval r.1 < wval r'.1
 all:∀u t,Leads es anyE 0 u t→u.length≤most→(u,t)∈L
end Go.Proofs.YtecmobjeeonmaaaGreatDoor
namespace Go.Proofs.YtecmobjeeonmaaaGreatDoor
open Go Go.RowKit
structure Disc {τ:Type} (st:τ→Int→Option τ) (al:List Int) (T:List τ) (E:List (Int×Int×Int)):Prop where
 nd:T.Nodup
 so:E.Pairwise fun x y=>x.1 < y.1∨(x.1=y.1∧x.2.1 < y.2.1)
 sn:∀x∈E,∃(a q:Nat) (t r:τ),x.1=(a:Int)∧x.2.2=(q:Int)∧T[a]? =some t∧T[q]? =some r∧x.2.1∈al∧st t x.2.1=some r
 ed:∀(a:Nat) (t:τ) (e:Int) (r:τ),T[a]? =some t→e∈al→st t e=some r→∃q:Nat,((a:Int),e,(q:Int))∈E∧T[q]? =some r
 cov:∀k:Nat,0 < k→k < T.length→∃x∈E,x.2.2=(k:Int)
 ear:∀n (hn:n < E.length) (k:Int),0 < k→k < E[n].2.2→∃p,∃hp:p < E.length,p < n∧E[p].2.2=k
 fst:∀n (hn:n < E.length),(∀p (hp:p < E.length),p < n→E[p].2.2≠E[n].2.2)→E[n].2.2=0∨E[n].1 < E[n].2.2
 evr:∀e∈al,0≤e∧e < 32
section
variable {τ:Type} {st:τ→Int→Option τ} {al:List Int} {T T':List τ} {E E':List (Int×Int×Int)}
def stw (st:τ→Int→Option τ) (t:τ):List Int→Option τ
 | []=>some t
 | e :: u=>(st t e).bind fun r=>stw st r u
theorem y8e {lt:τ→τ→Prop} (hir:∀a b,lt a b→lt b a→False):∀{xs ys:List τ},xs.Pairwise lt→ys.Pairwise lt→(∀x,x∈xs↔x∈ys)→xs=ys
 | [],[],_,_,_=>rfl
 | [],y :: ys,_,_,h=>by have:=(h y).2 (List.mem_cons_self ..);cases this
 | x :: xs,[],_,_,h=>by have:=(h x).1 (List.mem_cons_self ..);cases this
 | x :: xs,y :: ys,hx,hy,h=>by
  obtain⟨x1,x2⟩:=List.pairwise_cons.1 hx
  obtain⟨y1,y2⟩:=List.pairwise_cons.1 hy
  have hxy:x=y:=by
   rcases List.mem_cons.1 ((h x).1 (List.mem_cons_self ..)) with e | e
   ·exact e
   ·rcases List.mem_cons.1 ((h y).2 (List.mem_cons_self ..)) with e' | e'
    ·exact e'.symm
    ·exact (hir x y (x1 y e') (y1 x e)).elim
  subst hxy
  have hne1:∀z∈xs,z≠x:=fun z hz e=>by subst e;exact hir z z (x1 z hz) (x1 z hz)
  have hne2:∀z∈ys,z≠x:=fun z hz e=>by subst e;exact hir z z (y1 z hz) (y1 z hz)
  rw [y8e hir x2 y2 fun z=>?_]
  constructor
  ·intro hz
   exact(List.mem_cons.1 ((h z).1 (List.mem_cons_of_mem _ hz))).resolve_left (hne1 z hz)
  ·intro hz
   exact(List.mem_cons.1 ((h z).2 (List.mem_cons_of_mem _ hz))).resolve_left (hne2 z hz)
end
theorem y5n {α:Type} {xs:List α} {x:α} {n:Nat} (hn:n < (xs ++ [x]).length):(∃h:n < xs.length,(xs ++ [x])[n]=xs[n])∨(n=xs.length∧(xs ++ [x])[n]=x):=by
 by_cases h:n < xs.length
 ·exact .inl ⟨h,List.getElem_append_left h⟩
 ·have h2:n=xs.length:=by simp at hn;omega
  subst h2
  exact .inr ⟨rfl,by rw [List.getElem_append_right (Nat.le_refl _)];simp⟩
structure Fnd {τ:Type} (st:τ→Int→Option τ) (ev:List Int) (i j:Nat) (T:List τ) (E:List (Int×Int×Int)):Prop where
 sn:∀x∈E,∃(a q:Nat) (t r:τ),x.1=(a:Int)∧x.2.2=(q:Int)∧T[a]? =some t∧T[q]? =some r∧st t x.2.1=some r
 ed:∀(a b:Nat) (t:τ) (e:Int) (r:τ),(a < i∨(a=i∧b < j))→T[a]? =some t→ev[b]? =some e→st t e=some r→∃q:Nat,((a:Int),e,(q:Int))∈E∧T[q]? =some r
 cov:∀k:Nat,0 < k→k < T.length→∃x∈E,x.2.2=(k:Int)
 ear:∀n (hn:n < E.length) (k:Int),0 < k→k < E[n].2.2→∃p,∃hp:p < E.length,p < n∧E[p].2.2=k
 fst:∀n (hn:n < E.length),(∀p (hp:p < E.length),p < n→E[p].2.2≠E[n].2.2)→E[n].2.2=0∨E[n].1 < E[n].2.2
section
variable {τ:Type} {st:τ→Int→Option τ} {ev:List Int} {i j:Nat} {T:List τ} {E:List (Int×Int×Int)}
theorem Fnd.skip (h:Fnd st ev i j T E) {t:τ} {e:Int} (ht:T[i]? =some t) (he:ev[j]? =some e) (hs:st t e=none):Fnd st ev i (j + 1) T E:=by
 refine⟨h.sn,fun a b t' e' r hab ha hb hst=>?_,h.cov,h.ear,h.fst⟩
 by_cases hx:a=i∧b=j
 ·obtain ⟨rfl,rfl⟩:=hx
  rw [ht] at ha
  rw [he] at hb
  cases ha
  cases hb
  rw [hs] at hst
  cases hst
 ·exact h.ed a b t' e' r (by omega) ha hb hst
theorem Fnd.next (h:Fnd st ev i j T E) (hj:ev.length≤j):Fnd st ev (i + 1) 0 T E:=
 ⟨h.sn,fun a b t e r hab ha hb hst=>h.ed a b t e r (by have:=(List.getElem?_eq_some_iff.1 hb).1;omega) ha hb hst,h.cov,h.ear,h.fst⟩
theorem Fnd.edge (h:Fnd st ev i j T E) {t r:τ} {e:Int} {q:Nat} (ht:T[i]? =some t) (he:ev[j]? =some e) (hs:st t e=some r) (hq:T[q]? =some r):Fnd st ev i (j + 1) T (E ++ [((i:Int),e,(q:Int))]):=by
 have hql:=(List.getElem?_eq_some_iff.1 hq).1
 refine⟨fun x hx=>?_,fun a b t' e' r' hab ha hb hst=>?_,fun k h0 h1=>?_,fun n hn k h0 h1=>?_,fun n hn hf=>?_⟩
 ·rcases List.mem_append.1 hx with hx | hx
  ·exact h.sn x hx
  ·rw [List.mem_singleton.1 hx]
   exact⟨i,q,t,r,rfl,rfl,ht,hq,hs⟩
 ·by_cases hx:a=i∧b=j
  ·obtain ⟨rfl,rfl⟩:=hx
   rw [ht] at ha
   rw [he] at hb
   cases ha
   cases hb
   rw [hs] at hst
   cases hst
   exact⟨q,List.mem_append_right _ (List.mem_singleton.2 rfl),hq⟩
  ·obtain ⟨q',g1,g2⟩:=h.ed a b t' e' r' (by omega) ha hb hst
   exact⟨q',List.mem_append_left _ g1,g2⟩
 ·obtain ⟨x,hx,h2⟩:=h.cov k h0 h1
  exact⟨x,List.mem_append_left _ hx,h2⟩
 ·rcases y5n hn with ⟨hn2,e2⟩ | ⟨hn2,e2⟩
  ·rw [e2] at h1
   obtain⟨p,hp,h3,h4⟩:=h.ear n hn2 k h0 h1
   exact⟨p,by simp;omega,h3,by rw [List.getElem_append_left hp];exact h4⟩
  ·rw [e2] at h1
   dsimp only at h1
   obtain⟨x,hx,h3⟩:=h.cov k.toNat (by omega) (by omega)
   obtain⟨p,hp,rfl⟩:=List.getElem_of_mem hx
   exact⟨p,by simp;omega,by omega,by rw [List.getElem_append_left hp,h3];omega⟩
 ·rcases y5n hn with ⟨hn2,e2⟩ | ⟨hn2,e2⟩
  ·rw [e2]
   refine h.fst n hn2 fun p hp hpn=>?_
   have:=hf p (by simp;omega) hpn
   rwa [List.getElem_append_left hp,e2] at this
  ·rw [e2]
   dsimp only
   by_cases hz:q=0
   ·left;omega
   ·exfalso
    obtain⟨x,hx,h3⟩:=h.cov q (by omega) hql
    obtain⟨p,hp,rfl⟩:=List.getElem_of_mem hx
    have:=hf p (by simp;omega) (by omega)
    rw [List.getElem_append_left hp,e2,h3] at this
    exact this rfl
theorem Fnd.new (h:Fnd st ev i j T E) {t r:τ} {e:Int} (hi:i < T.length) (ht:T[i]? =some t) (he:ev[j]? =some e) (hs:st t e=some r):Fnd st ev i (j + 1) (T ++ [r]) (E ++ [((i:Int),e,(T.length:Int))]):=by
 have hup:∀{a:Nat} {u:τ},T[a]? =some u→(T ++ [r])[a]? =some u:=fun {a u} hu=>by rw [List.getElem?_append_left (List.getElem?_eq_some_iff.1 hu).1];exact hu
 have hnew:(T ++ [r])[T.length]? =some r:=by rw [List.getElem?_append_right (Nat.le_refl _)];simp
 have hto:∀x∈E,0≤x.2.2∧x.2.2 < (T.length:Int):=fun x hx=>by
  obtain⟨a,q,u,v,_,h2,_,h4,_⟩:=h.sn x hx
  have:=(List.getElem?_eq_some_iff.1 h4).1
  omega
 refine⟨fun x hx=>?_,fun a b t' e' r' hab ha hb hst=>?_,fun k h0 h1=>?_,fun n hn k h0 h1=>?_,fun n hn hf=>?_⟩
 ·rcases List.mem_append.1 hx with hx | hx
  ·obtain ⟨a,q,u,v,h1,h2,h3,h4,h5⟩:=h.sn x hx
   exact⟨a,q,u,v,h1,h2,hup h3,hup h4,h5⟩
  ·rw [List.mem_singleton.1 hx]
   exact⟨i,T.length,t,r,rfl,rfl,hup ht,hnew,hs⟩
 ·have hal:a < T.length:=by omega
  rw [List.getElem?_append_left hal] at ha
  by_cases hx:a=i∧b=j
  ·obtain ⟨rfl,rfl⟩:=hx
   rw [ht] at ha
   rw [he] at hb
   cases ha
   cases hb
   rw [hs] at hst
   cases hst
   exact⟨T.length,List.mem_append_right _ (List.mem_singleton.2 rfl),hnew⟩
  ·obtain ⟨q',g1,g2⟩:=h.ed a b t' e' r' (by omega) ha hb hst
   exact⟨q',List.mem_append_left _ g1,hup g2⟩
 ·by_cases hk:k < T.length
  ·obtain ⟨x,hx,h2⟩:=h.cov k h0 hk
   exact⟨x,List.mem_append_left _ hx,h2⟩
  ·have:k=T.length:=by simp at h1;omega
   subst this
   exact⟨_,List.mem_append_right _ (List.mem_singleton.2 rfl),rfl⟩
 ·rcases y5n hn with ⟨hn2,e2⟩ | ⟨hn2,e2⟩
  ·rw [e2] at h1
   obtain⟨p,hp,h3,h4⟩:=h.ear n hn2 k h0 h1
   exact⟨p,by simp;omega,h3,by rw [List.getElem_append_left hp];exact h4⟩
  ·rw [e2] at h1
   dsimp only at h1
   obtain⟨x,hx,h3⟩:=h.cov k.toNat (by omega) (by omega)
   obtain⟨p,hp,rfl⟩:=List.getElem_of_mem hx
   exact⟨p,by simp;omega,by omega,by rw [List.getElem_append_left hp,h3];omega⟩
 ·rcases y5n hn with ⟨hn2,e2⟩ | ⟨hn2,e2⟩
  ·rw [e2]
   refine h.fst n hn2 fun p hp hpn=>?_
   have:=hf p (by simp;omega) hpn
   rwa [List.getElem_append_left hp,e2] at this
  ·rw [e2]
   dsimp only
   right;omega
end
theorem Fnd.start {τ:Type} {st:τ→Int→Option τ} {ev:List Int} {T:List τ} (h:T.length≤1):Fnd st ev 0 0 T []:=
 ⟨fun x hx=>(by cases hx),fun a b t e r hab=>by omega,fun k h0 h1=>by omega,fun n hn=>by simp at hn,fun n hn=>by simp at hn⟩
theorem Fnd.disc {τ:Type} {st:τ→Int→Option τ} {ev:List Int} {T:List τ} {E:List (Int×Int×Int)} (h:Fnd st ev T.length 0 T E) (nd:T.Nodup) (so:E.Pairwise fun x y=>x.1 < y.1∨(x.1=y.1∧x.2.1 < y.2.1)) (hal:∀x∈E,x.2.1∈ev) (evr:∀e∈ev,0≤e∧e < 32):Disc st ev T E:=by
 refine⟨nd,so,fun x hx=>?_,fun a t e r ha he hs=>?_,h.cov,h.ear,h.fst,evr⟩
 ·obtain ⟨a,q,t,r,h1,h2,h3,h4,h5⟩:=h.sn x hx
  exact⟨a,q,t,r,h1,h2,h3,h4,hal x hx,h5⟩
 ·obtain ⟨b,hb,hbe⟩:=List.getElem_of_mem he
  exact h.ed a b t e r (.inl (List.getElem?_eq_some_iff.1 ha).1) ha (by rw [yGe hb,hbe]) hs
theorem ybC {u:Nat} (hu:u < 100):(32:UInt8)∉dig2 u:=by
 have h:∀v:_root_.Fin 100,(32:UInt8)∉dig2 v.val:=by decide +kernel
 exact h ⟨u,hu⟩
theorem ydm {u v:Nat} (hu:u < 100) (hv:v < 100) (e:dig2 u=dig2 v):u=v:=by
 have h:∀v:_root_.Fin 100,((dig2 v.val).foldl (fun acc d=>10 * acc + (d.toNat - 48)) 0)=v.val:=by decide +kernel
 have h1:=h ⟨u,hu⟩
 have h2:=h ⟨v,hv⟩
 dsimp only at h1 h2
 rw [e] at h1
 omega
theorem yaQ {α:Type} {c:α}:∀{l1 l2 r1 r2:List α},c∉l1→c∉l2→l1 ++ c :: r1=l2 ++ c :: r2→l1=l2∧r1=r2
 | [],[],_,_,_,_,h=>⟨rfl,(List.cons.inj h).2⟩
 | [],b :: l2,_,_,_,h2,h=>absurd (List.cons.inj h).1 (fun e=>h2 (e ▸ List.mem_cons_self ..))
 | a :: l1,[],_,_,h1,_,h=>absurd (List.cons.inj h).1 (fun e=>h1 (e ▸ List.mem_cons_self ..))
 | a :: l1,b :: l2,_,_,h1,h2,h=>by
  obtain⟨e1,e2⟩:=List.cons.inj h
  obtain⟨e3,e4⟩:=yaQ (fun hm=>h1 (List.mem_cons_of_mem _ hm)) (fun hm=>h2 (List.mem_cons_of_mem _ hm)) e2
  exact⟨by rw [e1,e3],e4⟩
theorem yaR :∀{t u:List Int},(∀x∈t,0≤x∧x < 100)→(∀x∈u,0≤x∧x < 100)→keyB t=keyB u→t=u
 | [],[],_,_,_=>rfl
 | [],y :: u,_,_,h=>by simp [keyB] at h
 | x :: t,[],_,_,h=>by simp [keyB] at h
 | x :: t,y :: u,ht,hu,h=>by
  have h1:=ht x (List.mem_cons_self ..)
  have h2:=hu y (List.mem_cons_self ..)
  obtain⟨e1,e2⟩:=yaQ (ybC (by omega)) (ybC (by omega)) h
  have e3:=ydm (u:=x.toNat) (v:=y.toNat) (by omega) (by omega) e1
  rw [show x=y by omega,yaR (fun z hz=>ht z (List.mem_cons_of_mem _ hz)) (fun z hz=>hu z (List.mem_cons_of_mem _ hz)) e2]
theorem ydn {t u:List Int} (ht:∀x∈t,0≤x∧x < 100) (hu:∀x∈u,0≤x∧x < 100) (h:keyK t=keyK u):t=u:=by
 refine yaR ht hu ?_
 have:=congrArg ByteArray.data h
 simpa [keyK] using this
theorem InT.hund {l:List AutT} {B:Nat} (h:LOkB B l) {t:List Int} (ht:InT l t):∀x∈t,0≤x∧x < 100:=fun x hx=>by
 have:=ht.smallB h x hx
 have:=h.b99
 omega
noncomputable def mst (m:List AutT×List Int×List (List ((Int×Int)×Int))) (t:List Int) (e:Int):Option (List Int):=match yR m t e with
 | some (u,true)=>some u
 | _=>none
theorem ydo {l:List AutT} {B:Nat} (h:LOkB B l) {m:List AutT×List Int×List (List ((Int×Int)×Int))} (hm:MOk l m) {t:List Int} (ht:InT l t) (e:Int):∃r,yR m t e=some r∧(r.2=true→InT l r.1∧mst m t e=some r.1)∧(r.2=false→mst m t e=none):=by
 obtain⟨⟨u,b⟩,h1,h2⟩:=ydl h hm ht e
 refine⟨(u,b),h1,fun hb=>⟨h2 hb,?_⟩,fun hb=>?_⟩
 ·have hb:b=true:=hb
  unfold mst;rw [h1,hb]
 ·have hb:b=false:=hb
  unfold mst;rw [h1,hb]
structure SZ (m:List AutT×List Int×List (List ((Int×Int)×Int))) (i j:Nat) (kn:Kno) (T:List (List Int)) (E:List (Int×Int×Int)):Prop where
 kv:∀e∈kn,∃(q:Nat) (t:List Int),e.2=(q:Int)∧T[q]? =some t∧e.1=keyK t
 sn:∀x∈E,∃(a q:Nat) (t r:List Int),x.1=(a:Int)∧x.2.2=(q:Int)∧T[a]? =some t∧T[q]? =some r∧mst m t x.2.1=some r
 ed:∀(a b:Nat) (t:List Int) (e:Int) (r:List Int),(a < i∨(a=i∧b < j))→T[a]? =some t→m.2.1[b]? =some e→mst m t e=some r→∃q:Nat,((a:Int),e,(q:Int))∈E∧T[q]? =some r
 cov:∀k:Nat,0 < k→k < T.length→∃x∈E,x.2.2=(k:Int)
 ear:∀n (hn:n < E.length) (k:Int),0 < k→k < E[n].2.2→∃p,∃hp:p < E.length,p < n∧E[p].2.2=k
 fst:∀n (hn:n < E.length),(∀p (hp:p < E.length),p < n→E[p].2.2≠E[n].2.2)→E[n].2.2=0∨E[n].1 < E[n].2.2
section
variable {m:List AutT×List Int×List (List ((Int×Int)×Int))} {i j:Nat} {kn:Kno} {T:List (List Int)} {E:List (Int×Int×Int)}
theorem SZ.skip (h:SZ m i j kn T E) {t:List Int} {e:Int} (ht:T[i]? =some t) (he:m.2.1[j]? =some e) (hs:mst m t e=none):SZ m i (j + 1) kn T E:=by
 refine⟨h.kv,h.sn,fun a b t' e' r hab ha hb hst=>?_,h.cov,h.ear,h.fst⟩
 by_cases hx:a=i∧b=j
 ·obtain ⟨rfl,rfl⟩:=hx
  rw [ht] at ha
  rw [he] at hb
  cases ha
  cases hb
  rw [hs] at hst
  cases hst
 ·exact h.ed a b t' e' r (by omega) ha hb hst
theorem SZ.next (h:SZ m i j kn T E) (hj:m.2.1.length≤j):SZ m (i + 1) 0 kn T E:=
 ⟨h.kv,h.sn,fun a b t e r hab ha hb hst=>h.ed a b t e r (by have:=(List.getElem?_eq_some_iff.1 hb).1;omega) ha hb hst,h.cov,h.ear,h.fst⟩
theorem SZ.edge (h:SZ m i j kn T E) {t r:List Int} {e:Int} {q:Nat} (ht:T[i]? =some t) (he:m.2.1[j]? =some e) (hs:mst m t e=some r) (hq:T[q]? =some r):SZ m i (j + 1) kn T (E ++ [((i:Int),e,(q:Int))]):=by
 have hql:=(List.getElem?_eq_some_iff.1 hq).1
 refine⟨h.kv,fun x hx=>?_,fun a b t' e' r' hab ha hb hst=>?_,fun k h0 h1=>?_,fun n hn k h0 h1=>?_,fun n hn hf=>?_⟩
 ·rcases List.mem_append.1 hx with hx | hx
  ·exact h.sn x hx
  ·rw [List.mem_singleton.1 hx]
   exact⟨i,q,t,r,rfl,rfl,ht,hq,hs⟩
 ·by_cases hx:a=i∧b=j
  ·obtain ⟨rfl,rfl⟩:=hx
   rw [ht] at ha
   rw [he] at hb
   cases ha
   cases hb
   rw [hs] at hst
   cases hst
   exact⟨q,List.mem_append_right _ (List.mem_singleton.2 rfl),hq⟩
  ·obtain ⟨q',g1,g2⟩:=h.ed a b t' e' r' (by omega) ha hb hst
   exact⟨q',List.mem_append_left _ g1,g2⟩
 ·obtain ⟨x,hx,h2⟩:=h.cov k h0 h1
  exact⟨x,List.mem_append_left _ hx,h2⟩
 ·rcases y5n hn with ⟨hn2,e2⟩ | ⟨hn2,e2⟩
  ·rw [e2] at h1
   obtain⟨p,hp,h3,h4⟩:=h.ear n hn2 k h0 h1
   exact⟨p,by simp;omega,h3,by rw [List.getElem_append_left hp];exact h4⟩
  ·rw [e2] at h1
   dsimp only at h1
   obtain⟨x,hx,h3⟩:=h.cov k.toNat (by omega) (by omega)
   obtain⟨p,hp,rfl⟩:=List.getElem_of_mem hx
   exact⟨p,by simp;omega,by omega,by rw [List.getElem_append_left hp,h3];omega⟩
 ·rcases y5n hn with ⟨hn2,e2⟩ | ⟨hn2,e2⟩
  ·rw [e2]
   refine h.fst n hn2 fun p hp hpn=>?_
   have:=hf p (by simp;omega) hpn
   rwa [List.getElem_append_left hp,e2] at this
  ·rw [e2]
   dsimp only
   by_cases hz:q=0
   ·left;omega
   ·exfalso
    obtain⟨x,hx,h3⟩:=h.cov q (by omega) hql
    obtain⟨p,hp,rfl⟩:=List.getElem_of_mem hx
    have:=hf p (by simp;omega) (by omega)
    rw [List.getElem_append_left hp,e2,h3] at this
    exact this rfl
theorem SZ.new (h:SZ m i j kn T E) {t r:List Int} {e:Int} (hi:i < T.length) (ht:T[i]? =some t) (he:m.2.1[j]? =some e) (hs:mst m t e=some r):SZ m i (j + 1) (kput kn (keyK r) (T.length:Int)) (T ++ [r]) (E ++ [((i:Int),e,(T.length:Int))]):=by
 have hup:∀{a:Nat} {u:List Int},T[a]? =some u→(T ++ [r])[a]? =some u:=fun {a u} hu=>by rw [List.getElem?_append_left (List.getElem?_eq_some_iff.1 hu).1];exact hu
 have hnew:(T ++ [r])[T.length]? =some r:=by rw [List.getElem?_append_right (Nat.le_refl _)];simp
 have hto:∀x∈E,0≤x.2.2∧x.2.2 < (T.length:Int):=fun x hx=>by
  obtain⟨a,q,u,v,_,h2,_,h4,_⟩:=h.sn x hx
  have:=(List.getElem?_eq_some_iff.1 h4).1
  omega
 refine⟨fun x hx=>?_,fun x hx=>?_,fun a b t' e' r' hab ha hb hst=>?_,fun k h0 h1=>?_,fun n hn k h0 h1=>?_,fun n hn hf=>?_⟩
 ·rcases y6Z hx with hx | hx
  ·obtain ⟨q,u,h1,h2,h3⟩:=h.kv x hx
   exact⟨q,u,h1,hup h2,h3⟩
  ·rw [hx]
   exact⟨T.length,r,rfl,hnew,rfl⟩
 ·rcases List.mem_append.1 hx with hx | hx
  ·obtain ⟨a,q,u,v,h1,h2,h3,h4,h5⟩:=h.sn x hx
   exact⟨a,q,u,v,h1,h2,hup h3,hup h4,h5⟩
  ·rw [List.mem_singleton.1 hx]
   exact⟨i,T.length,t,r,rfl,rfl,hup ht,hnew,hs⟩
 ·have hal:a < T.length:=by omega
  rw [List.getElem?_append_left hal] at ha
  by_cases hx:a=i∧b=j
  ·obtain ⟨rfl,rfl⟩:=hx
   rw [ht] at ha
   rw [he] at hb
   cases ha
   cases hb
   rw [hs] at hst
   cases hst
   exact⟨T.length,List.mem_append_right _ (List.mem_singleton.2 rfl),hnew⟩
  ·obtain ⟨q',g1,g2⟩:=h.ed a b t' e' r' (by omega) ha hb hst
   exact⟨q',List.mem_append_left _ g1,hup g2⟩
 ·by_cases hk:k < T.length
  ·obtain ⟨x,hx,h2⟩:=h.cov k h0 hk
   exact⟨x,List.mem_append_left _ hx,h2⟩
  ·have:k=T.length:=by simp at h1;omega
   subst this
   exact⟨_,List.mem_append_right _ (List.mem_singleton.2 rfl),rfl⟩
 ·rcases y5n hn with ⟨hn2,e2⟩ | ⟨hn2,e2⟩
  ·rw [e2] at h1
   obtain⟨p,hp,h3,h4⟩:=h.ear n hn2 k h0 h1
   exact⟨p,by simp;omega,h3,by rw [List.getElem_append_left hp];exact h4⟩
  ·rw [e2] at h1
   dsimp only at h1
   obtain⟨x,hx,h3⟩:=h.cov k.toNat (by omega) (by omega)
   obtain⟨p,hp,rfl⟩:=List.getElem_of_mem hx
   exact⟨p,by simp;omega,by omega,by rw [List.getElem_append_left hp,h3];omega⟩
 ·rcases y5n hn with ⟨hn2,e2⟩ | ⟨hn2,e2⟩
  ·rw [e2]
   refine h.fst n hn2 fun p hp hpn=>?_
   have:=hf p (by simp;omega) hpn
   rwa [List.getElem_append_left hp,e2] at this
  ·rw [e2]
   dsimp only
   right;omega
end
theorem ydp {l:List AutT} {B:Nat} (h:LOkB B l) {m:List AutT×List Int×List (List ((Int×Int)×Int))} (hm:MOk l m) {i:Nat} {kn:Kno} {T:List (List Int)} {E:List (Int×Int×Int)} (z:Kno×List (List Int)×List Int×List (Int×Int×Int)) (hS:SI l m.2.1 i 0 kn T E) (hZ:SZ m i 0 kn T E) (hi:i < T.length):
  ∃kn' T' E',iter (y1G m ((i:Int),z)) (0,kn,T,E)=some (.inl (kn',T',E'))∧SI l m.2.1 (i + 1) 0 kn' T' E'∧SZ m (i + 1) 0 kn' T' E'∧i < T'.length∧∃U,T'=T ++ U:=by
 have hal:=hm.ev.len
 obtain⟨o,h1,h2⟩:=yb (f:=y1G m ((i:Int),z)) (fun j s=>s.1=(j:Int)∧j≤m.2.1.length∧SI l m.2.1 i j s.2.1 s.2.2.1 s.2.2.2∧SZ m i j s.2.1 s.2.2.1 s.2.2.2∧i < s.2.2.1.length∧∃U,s.2.2.1=T ++ U) (fun o=>∃kn' T' E',o= .inl (kn',T',E')∧SI l m.2.1 (i + 1) 0 kn' T' E'∧SZ m (i + 1) 0 kn' T' E'∧i < T'.length∧∃U,T'=T ++ U) m.2.1.length 0 (by omega) (fun j s hj ⟨e1,_,hS,hZ,hi,U,hU⟩=>by
   obtain⟨k,kn,T1,E⟩:=s
   dsimp only at e1 hS hZ hi hU
   subst e1
   have hTl:=y6n h hS.nd hS.inT
   have hj2:∀a b c,y1E ((j:Int),kn,T1,E) a b c=some (.inl (((j + 1:Nat):Int),a,b,c)):=fun a b c=>by
    rw [y1E];dsimp only;rw [nxt (by omega)]
   have hj3:∀x b n c,y1F ((i:Int),z) ((j:Int),kn,T1,E) x b n c=some (.inl (((j + 1:Nat):Int),c,b,E ++ [((i:Int),x,n)])):=fun x b n c=>by
    have he:=hS.el
    have hi':i < 4000:=by omega
    rw [y1F];dsimp only;rw [yl (by simp;omega),yOb,hj2]
   have hin:=hS.inT _ (List.getElem_mem hi)
   obtain⟨r,hr,hrT,hrF⟩:=ydo h hm hin m.2.1[j]
   have hti:T1[i]? =some T1[i]:=yGe hi
   have hej:m.2.1[j]? =some m.2.1[j]:=yGe hj
   left
   rw [y1G]
   dsimp only
   rw [if_pos (ct_lt hj),ya hj,yOb,ya hi,yOb,hr,yOb]
   cases hb:r.2 with
   | false=>
    rw [if_pos (by simp),hj2]
    exact⟨_,rfl,rfl,by omega,hS.skip,hZ.skip hti hej (hrF hb),hi,U,hU⟩
   | true=>
    obtain⟨ht,hms⟩:=hrT hb
    rw [if_neg (by simp),ybB h ht,yOb]
    cases hg:kget kn (keyK r.1) with
    | none=>
     rw [if_pos (by simp),if_neg (by simp;omega),yOb,yl (by simp;omega),yOb,hj3]
     exact⟨_,rfl,rfl,by omega,hS.new hm.ev.1 hi hj ht (by rw [hg];rfl),hZ.new hi hti hej hms,by simp;omega,U ++ [r.1],by rw [hU,List.append_assoc]⟩
    | some v=>
     obtain⟨x,hx,hxv,hxk⟩:=ycB hg
     obtain⟨q,u,g1,g2,g3⟩:=hZ.kv x hx
     have hk:keyK r.1=keyK u:=(eqS hxk).trans g3
     have hu:u∈T1:=List.mem_of_getElem? g2
     have he:r.1=u:=ydn (ht.hund h) ((hS.inT u hu).hund h) hk
     rw [←he] at g2
     have hql:=(List.getElem?_eq_some_iff.1 g2).1
     have hvq:v=(q:Int):=by rw [←hxv];exact g1
     rw [if_neg (by simp),hj3,hvq]
     exact⟨_,rfl,rfl,by omega,hS.edge (q:=(q:Int)) hm.ev.1 hi hj (by omega) (by omega),hZ.edge (q:=q) hti hej hms g2,hi,U,hU⟩) (fun s ⟨e1,_,hS,hZ,hi,U,hU⟩=>by
   obtain⟨k,kn,T1,E⟩:=s
   dsimp only at e1 hS hZ hi hU
   subst e1
   refine⟨.inl (kn,T1,E),?_,kn,T1,E,rfl,hS.next hal,hZ.next (Nat.le_refl _),hi,U,hU⟩
   rw [y1G]
   dsimp only
   rw [if_neg ct_ge]) (Nat.zero_le _) (0,kn,T,E) ⟨rfl,Nat.zero_le _,hS,hZ,hi,[],by simp⟩
 obtain⟨kn',T',E',rfl,h3,h4,h5,h6⟩:=h2
 exact⟨kn',T',E',h1,h3,h4,h5,h6⟩
structure PrdZ (l:List AutT) (m:List AutT×List Int×List (List ((Int×Int)×Int))) (p:AutT) (T:List (List Int)) (n:Nat):Prop where
 right:Right p n
 pos:1≤n
 le:n≤4000
 tl:T.length=n
 nd:T.Nodup
 inT:∀t∈T,InT l t
 t0:∃t,T[0]? =some t∧yp m=some (t,true)
 ev:p.1=m.2.1
 sn:∀x∈p.2.2.2,∃(a q:Nat) (t r:List Int),x.1=(a:Int)∧x.2.2=(q:Int)∧T[a]? =some t∧T[q]? =some r∧mst m t x.2.1=some r
 ed:∀(a:Nat) (t:List Int) (e:Int) (r:List Int),T[a]? =some t→e∈p.1→mst m t e=some r→∃q:Nat,((a:Int),e,(q:Int))∈p.2.2.2∧T[q]? =some r
 num:Num (edsOf p) n
 mkd:∀(a:Nat) (t:List Int),T[a]? =some t→∃b,yz m t=some b∧(b=true↔(a:Int)∈p.2.2.1)
theorem ydq {l:List AutT} {B:Nat} (h:LOkB B l):∃m p T n,y2Y l=some m∧MOk l m∧yk l=some (p,T,0)∧PrdZ l m p T n:=by
 obtain⟨m,hm,hM⟩:=ydk h
 obtain⟨t0,ht0,hT0⟩:=yba h hM
 have hal:=hM.ev.len
 have hS0:SI l m.2.1 0 0 (kput ([]:Kno) (keyK t0) 0) [t0] []:=by
  refine⟨by simp,by simp,fun t ht=>?_,fun t ht=>?_,fun e he=>?_,fun x hx=>(by cases hx),fun x hx=>(by cases hx),List.Pairwise.nil,by simp,fun k h0 h1=>?_⟩
  ·rw [List.mem_singleton.1 ht];exact hT0
  ·rw [List.mem_singleton.1 ht];exact yaf
  ·rcases y6Z he with he | he
   ·cases he
   ·rw [he];simp
  ·simp at h1;omega
 have hZ0:SZ m 0 0 (kput ([]:Kno) (keyK t0) 0) [t0] []:=by
  refine⟨fun e he=>?_,fun x hx=>(by cases hx),fun a b t e r hab=>by omega,fun k h0 h1=>by simp at h1;omega,fun n hn=>by simp at hn,fun n hn=>by simp at hn⟩
  rcases y6Z he with he | he
  ·cases he
  ·rw [he]
   exact⟨0,t0,rfl,rfl,rfl⟩
 obtain⟨o,h1,h2⟩:=yb (f:=y1I m) (fun i s=>s.1=(i:Int)∧i≤s.2.2.1.length∧SI l m.2.1 i 0 s.2.1 s.2.2.1 s.2.2.2.2∧SZ m i 0 s.2.1 s.2.2.1 s.2.2.2.2∧Inc s.2.2.2.1∧(∀x∈s.2.2.2.1,0≤x∧x < (i:Int))∧s.2.2.1[0]? =some t0∧∀(a:Nat) (t:List Int),a < i→s.2.2.1[a]? =some t→∃b,yz m t=some b∧(b=true↔(a:Int)∈s.2.2.2.1)) (fun o=>∃T M E,o= .inl (T,M,E)∧∃kn,SI l m.2.1 T.length 0 kn T E∧SZ m T.length 0 kn T E∧Inc M∧(∀x∈M,0≤x∧x < (T.length:Int))∧T[0]? =some t0∧∀(a:Nat) (t:List Int),T[a]? =some t→∃b,yz m t=some b∧(b=true↔(a:Int)∈M)) 4000 0 (by omega) (fun i s _ ⟨e1,hle,hS,hZ,hi1,hi2,ht,hmk⟩=>by
   obtain⟨k,kn,T,M,E⟩:=s
   dsimp only at e1 hle hS hZ hi1 hi2 ht hmk
   subst e1
   have hTl:=y6n h hS.nd hS.inT
   by_cases hi:i < T.length
   ·left
    obtain⟨b,hb⟩:=ybW h hM (hS.inT _ (List.getElem_mem hi))
    obtain⟨kn',T',E',g1,g2,g3,g4,U,hU⟩:=ydp h hM (kn,T,M,E) hS hZ hi
    have hj:∀M',y1H m ((i:Int),kn,T,M,E) M'=some (.inl (((i + 1:Nat):Int),kn',T',M',E')):=fun M'=>by
     rw [y1H];dsimp only;rw [g1,yOb];dsimp only;rw [nxt (by omega)]
    have hTT:∀a,a < T.length→T'[a]? =T[a]? :=fun a ha=>by rw [hU,List.getElem?_append_left ha]
    have ht':T'[0]? =some t0:=by rw [hTT 0 (by omega)];exact ht
    have hmk':∀M':List Int,(∀x:Int,x≠(i:Int)→(x∈M'↔x∈M))→(b=true↔(i:Int)∈M')→∀(a:Nat) (t:List Int),a < i + 1→T'[a]? =some t→∃b,yz m t=some b∧(b=true↔(a:Int)∈M'):=fun M' hM1 hM2 a t ha hat=>by
     rw [hTT a (by omega)] at hat
     by_cases e:a=i
     ·subst e
      rw [yGe hi] at hat
      cases hat
      exact⟨b,hb,hM2⟩
     ·obtain ⟨b',q1,q2⟩:=hmk a t (by omega) hat
      exact⟨b',q1,by rw [q2,hM1 _ (by omega)]⟩
    rw [y1I]
    dsimp only
    rw [if_pos (ct_lt hi),ya hi,yOb,hb,yOb]
    cases hbv:b with
    | false=>
     rw [if_neg (by simp),hj]
     exact⟨_,rfl,rfl,by dsimp only;omega,g2,g3,hi1,fun x hx=>by have:=hi2 x hx;omega,ht',hmk' M (fun x _=>Iff.rfl) ⟨fun e=>(by rw [hbv] at e;cases e),fun hx=>by have:=hi2 _ hx;omega⟩⟩
    | true=>
     have hMl:=y3C (n:=i) (lo:=0) hi1 hi2 (Int.le_refl _)
     rw [if_pos rfl,yl (by simp;omega),yOb,hj]
     refine⟨_,rfl,rfl,by dsimp only;omega,g2,g3,?_,fun x hx=>?_,ht',hmk' (M ++ [(i:Int)]) (fun x hx=>?_) ⟨fun _=>List.mem_append_right _ (List.mem_singleton.2 rfl),fun _=>hbv⟩⟩
     ·dsimp only
      unfold Inc at hi1 ⊢
      rw [List.pairwise_append]
      exact⟨hi1,List.pairwise_singleton _ _,fun a ha b hb=>by rw [List.mem_singleton.1 hb];exact(hi2 a ha).2⟩
     ·dsimp only at hx
      rcases List.mem_append.1 hx with hx | hx
      ·have:=hi2 x hx;omega
      ·rw [List.mem_singleton.1 hx];omega
     ·rw [List.mem_append,List.mem_singleton]
      exact⟨fun h=>h.resolve_right hx,.inl⟩
   ·right
    obtain rfl:i=T.length:=by omega
    refine⟨.inl (T,M,E),?_,T,M,E,rfl,kn,hS,hZ,hi1,hi2,ht,fun a t hat=>hmk a t (List.getElem?_eq_some_iff.1 hat).1 hat⟩
    rw [y1I]
    dsimp only
    rw [if_neg ct_ge]) (fun s ⟨e1,hle,hS,hZ,hi1,hi2,ht,hmk⟩=>by
   obtain⟨k,kn,T,M,E⟩:=s
   dsimp only at e1 hle hS hZ hi1 hi2 ht hmk
   subst e1
   have hTl:=y6n h hS.nd hS.inT
   have hT:4000=T.length:=by omega
   refine⟨.inl (T,M,E),?_,T,M,E,rfl,kn,by rw [←hT];exact hS,by rw [←hT];exact hZ,hi1,by rw [←hT];exact hi2,ht,fun a t hat=>hmk a t (by have:=(List.getElem?_eq_some_iff.1 hat).1;omega) hat⟩
   rw [y1I]
   dsimp only
   rw [hT,if_neg ct_ge]) (Nat.zero_le _) (0,kput ([]:Kno) (keyK t0) 0,[t0],[],[]) ⟨rfl,by simp,hS0,hZ0,List.Pairwise.nil,fun x hx=>(by cases hx),rfl,fun a t ha=>by omega⟩
 obtain⟨T,M,E,rfl,kn,hS,hZ,hi1,hi2,ht,hmk⟩:=h2
 have hTl:=y6n h hS.nd hS.inT
 have hR:Right (m.2.1,(T.length:Int),M,E) T.length:=by
  refine⟨rfl,by omega,hM.ev.1,hM.ev.2,hi1,hi2,fun x hx=>?_,hS.so,by dsimp only;omega,?_,?_⟩
  ·have:=hS.er x hx
   have h3:=hS.es x hx
   refine⟨this.1,?_,this.2.2⟩
   rcases Int.lt_or_le x.1 (T.length:Int) with h4 | h4
   ·exact h4
   ·exact absurd (h3 (by omega)) (by simp)
  ·have:=y3C (n:=T.length) (lo:=0) hi1 hi2 (Int.le_refl _)
   dsimp only
   omega
  ·have:=hS.el
   dsimp only
   omega
 have hel:(edsOf (m.2.1,(T.length:Int),M,E)).length=E.length:=List.length_map _
 have hee:∀n (hn:n < (edsOf (m.2.1,(T.length:Int),M,E)).length) (hn':n < E.length),(edsOf (m.2.1,(T.length:Int),M,E))[n]=toEd E[n]:=fun n hn hn'=>by simp [edsOf]
 refine⟨m,(m.2.1,(T.length:Int),M,E),T,T.length,hm,hM,?_,hR,hS.pos,hTl,rfl,hS.nd,hS.inT,⟨t0,ht,ht0⟩,rfl,hZ.sn,fun a t e r ha he hst=>?_,⟨?_,fun x hx=>?_,fun k h0 h1=>?_,fun n hn k h0 h1=>?_,fun n hn hf=>?_⟩,hmk⟩
 ·rw [yk,ybV h,yOb,if_neg (by simp),hm,yOb,ht0,yOb,if_neg (by simp)]
  dsimp only
  rw [ybB h hT0,yOb,h1]
  rfl
 ·obtain ⟨b,hb,hbe⟩:=List.getElem_of_mem he
  exact hZ.ed a b t e r (.inl (List.getElem?_eq_some_iff.1 ha).1) ha (by rw [yGe hb,hbe]) hst
 ·have:=hR.sorted
  exact this
 ·have h3:=hR.ein x hx
  have h4:=hR.evs x hx
  exact⟨h3.1,h3.2.1,h3.2.2.1,h3.2.2.2,h4.1,h4.2⟩
 ·obtain ⟨x,hx,h3⟩:=hZ.cov k h0 h1
  exact⟨toEd x,List.mem_map_of_mem hx,h3⟩
 ·have hn':n < E.length:=by omega
  rw [hee n hn hn'] at h1
  obtain⟨p,hp,h3,h4⟩:=hZ.ear n hn' k h0 h1
  exact⟨p,by omega,h3,by rw [hee p (by omega) hp];exact h4⟩
 ·have hn':n < E.length:=by omega
  rw [hee n hn hn']
  refine hZ.fst n hn' fun p hp hpn=>?_
  have:=hf p (by omega) hpn
  rw [hee p (by omega) hp,hee n hn hn'] at this
  exact this
def mg (kp:Bool→Bool→Bool):List Int→List Int→List Int
 | [],[]=> []
 | [],b :: vs=>if kp false true=true then b :: mg kp [] vs else mg kp [] vs
 | a :: us,[]=>if kp true false=true then a :: mg kp us [] else mg kp us []
 | a :: us,b :: vs=>if a < b then(if kp true false=true then a :: mg kp us (b :: vs) else mg kp us (b :: vs)) else if b < a then(if kp false true=true then b :: mg kp (a :: us) vs else mg kp (a :: us) vs) else(if kp true true=true then b :: mg kp us vs else mg kp us vs)
termination_by us vs=>us.length + vs.length
theorem y7P {kp:Bool→Bool→Bool} {h:Int} {us vs us' vs' r:List Int} {bu bv:Bool} (hr:Inc r∧∀x,x∈r↔((x∈us'∨x∈vs')∧kp (hasB us' x) (hasB vs' x)=true))
  (hu:∀x,x∈us↔(x=h∧bu=true)∨x∈us') (hv:∀x,x∈vs↔(x=h∧bv=true)∨x∈vs') (gu:∀x∈us',h < x) (gv:∀x∈vs',h < x) (hb:bu=true∨bv=true):
  Inc (if kp bu bv=true then h :: r else r)∧∀x,x∈(if kp bu bv=true then h :: r else r)↔((x∈us∨x∈vs)∧kp (hasB us x) (hasB vs x)=true):=by
 have e1:hasB us h=bu:=by
  rw [Bool.eq_iff_iff,yc,hu]
  exact⟨fun e=>e.elim (fun e=>e.2) (fun e=>by have:=gu _ e;omega),fun e=> .inl ⟨rfl,e⟩⟩
 have e2:hasB vs h=bv:=by
  rw [Bool.eq_iff_iff,yc,hv]
  exact⟨fun e=>e.elim (fun e=>e.2) (fun e=>by have:=gv _ e;omega),fun e=> .inl ⟨rfl,e⟩⟩
 have e3:∀x,x≠h→hasB us x=hasB us' x:=fun x hx=>by
  rw [Bool.eq_iff_iff,yc,yc,hu]
  exact⟨fun e=>e.elim (fun e=>absurd e.1 hx) id,.inr⟩
 have e4:∀x,x≠h→hasB vs x=hasB vs' x:=fun x hx=>by
  rw [Bool.eq_iff_iff,yc,yc,hv]
  exact⟨fun e=>e.elim (fun e=>absurd e.1 hx) id,.inr⟩
 have hgt:∀x∈r,h < x:=fun x hx=>((hr.2 x).1 hx).1.elim (gu x) (gv x)
 have hne:∀x,x≠h→(x∈r↔((x∈us∨x∈vs)∧kp (hasB us x) (hasB vs x)=true)):=fun x hx=>by
  rw [hr.2 x,e3 x hx,e4 x hx,hu,hv]
  constructor
  ·rintro ⟨h1 | h1,h2⟩
   ·exact ⟨.inl (.inr h1),h2⟩
   ·exact ⟨.inr (.inr h1),h2⟩
  ·rintro ⟨(h1 | h1) | (h1 | h1),h2⟩
   ·exact absurd h1.1 hx
   ·exact ⟨.inl h1,h2⟩
   ·exact absurd h1.1 hx
   ·exact ⟨.inr h1,h2⟩
 have hh:(h∈us∨h∈vs):=hb.elim (fun e=> .inl ((hu h).2 (.inl ⟨rfl,e⟩))) (fun e=> .inr ((hv h).2 (.inl ⟨rfl,e⟩)))
 cases hk:kp bu bv with
 | true=>
  rw [if_pos rfl]
  refine⟨List.pairwise_cons.2 ⟨hgt,hr.1⟩,fun x=>?_⟩
  rw [List.mem_cons]
  by_cases hx:x=h
  ·subst hx
   exact⟨fun _=>⟨hh,by rw [e1,e2,hk]⟩,fun _=> .inl rfl⟩
  ·rw [←hne x hx]
   exact⟨fun e=>e.resolve_left hx,.inr⟩
 | false=>
  rw [if_neg (by simp)]
  refine⟨hr.1,fun x=>?_⟩
  by_cases hx:x=h
  ·subst hx
   refine⟨fun e=>absurd (hgt x e) (by omega),fun e=>?_⟩
   rw [e1,e2,hk] at e
   cases e.2
  ·exact hne x hx
theorem y3n (kp:Bool→Bool→Bool):∀(us vs:List Int),Inc us→Inc vs→Inc (mg kp us vs)∧∀x,x∈mg kp us vs↔((x∈us∨x∈vs)∧kp (hasB us x) (hasB vs x)=true)
 | [],[],_,_=>by
  rw [mg]
  exact⟨List.Pairwise.nil,fun x=>⟨fun h=>(by cases h),fun h=>(by rcases h.1 with h | h <;> cases h)⟩⟩
 | [],b :: vs,_,hv=>by
  obtain⟨v1,v2⟩:=List.pairwise_cons.1 hv
  rw [mg]
  exact y7P (bu:=false) (bv:=true) (y3n kp [] vs List.Pairwise.nil v2) (fun x=>by simp) (fun x=>by simp) (fun x hx=>by cases hx) v1 (.inr rfl)
 | a :: us,[],hu,_=>by
  obtain⟨u1,u2⟩:=List.pairwise_cons.1 hu
  rw [mg]
  exact y7P (bu:=true) (bv:=false) (y3n kp us [] u2 List.Pairwise.nil) (fun x=>by simp) (fun x=>by simp) u1 (fun x hx=>by cases hx) (.inl rfl)
 | a :: us,b :: vs,hu,hv=>by
  obtain⟨u1,u2⟩:=List.pairwise_cons.1 hu
  obtain⟨v1,v2⟩:=List.pairwise_cons.1 hv
  rw [mg]
  by_cases h1:a < b
  ·rw [if_pos h1]
   refine y7P (bu:=true) (bv:=false) (y3n kp us (b :: vs) u2 hv) (fun x=>by simp) (fun x=>by simp) u1 (fun x hx=>?_) (.inl rfl)
   rcases List.mem_cons.1 hx with rfl | hx
   ·exact h1
   ·have:=v1 x hx;omega
  ·rw [if_neg h1]
   by_cases h2:b < a
   ·rw [if_pos h2]
    refine y7P (bu:=false) (bv:=true) (y3n kp (a :: us) vs hu v2) (fun x=>by simp) (fun x=>by simp) (fun x hx=>?_) v1 (.inr rfl)
    rcases List.mem_cons.1 hx with rfl | hx
    ·exact h2
    ·have:=u1 x hx;omega
   ·obtain rfl:a=b:=by omega
    rw [if_neg h2]
    exact y7P (bu:=true) (bv:=true) (y3n kp us vs u2 v2) (fun x=>by simp) (fun x=>by simp) u1 v1 (.inl rfl)
termination_by us vs=>us.length + vs.length
theorem ybX {kp:Bool→Bool→Bool} {f:Bool→Bool→Option Bool} (hf:∀a b,f a b=some (kp a b)) {out us vs:List Int} (hl:out.length≤4000000) (hne:0 < us.length + vs.length):
  ∃o u v,yn f (out,us,vs)=some (.inl (o,u,v))∧o ++ mg kp u v=out ++ mg kp us vs∧o.length≤out.length + 1∧u.length + v.length + 1≤us.length + vs.length:=by
 have ho:∀a:Int,app out ([a]:List Int)=some (out ++ [a]):=fun a=>yl (by simp;omega)
 have fin:∀(bu bv:Bool) (h:Int) (u v:List Int),∃o,yI f (out,us,vs) bu bv u v h=some (.inl (o,u,v))∧o ++ mg kp u v=out ++ (if kp bu bv=true then h :: mg kp u v else mg kp u v)∧o.length≤out.length + 1:=fun bu bv h u v=>by
  rw [yI,hf,yOb]
  dsimp only
  cases kp bu bv with
  | true=>rw [if_pos rfl,ho,yOb];exact⟨_,rfl,by simp,by simp⟩
  | false=>rw [if_neg (by simp)];exact⟨_,rfl,by simp,by omega⟩
 cases us with
 | nil=>
  cases vs with
  | nil=>simp at hne
  | cons b vs=>
   obtain⟨o,h1,h2,h3⟩:=fin false true b [] vs
   refine⟨o,[],vs,?_,by rw [h2,mg],h3,by simp⟩
   rw [yn]
   dsimp only
   rw [if_pos (by simp),if_neg (by simp),yJ]
   dsimp only
   rw [if_pos (by simp),if_pos (by simp),yr,if_neg (by simp),ym,if_pos rfl]
   dsimp only
   rw [y3l,yOb,y4S,yOb]
   exact h1
 | cons a us=>
  cases vs with
  | nil=>
   obtain⟨o,h1,h2,h3⟩:=fin true false a us []
   refine⟨o,us,[],?_,by rw [h2,mg],h3,by simp⟩
   rw [yn]
   dsimp only
   rw [if_pos (by simp),if_pos (by simp),if_pos (by simp),yJ]
   dsimp only
   rw [if_neg (by simp),yr,if_pos rfl]
   dsimp only
   rw [y3l,yOb,y4S,yOb,ym,if_neg (by simp)]
   exact h1
  | cons b vs=>
   have e0:yn f (out,a :: us,b :: vs)=yr f (out,a :: us,b :: vs) (decide (a≤b)) (decide (b≤a)):=by
    rw [yn]
    dsimp only
    rw [if_pos (by simp),if_pos (by simp),if_neg (by simp;omega),y3l,yOb,y3l,yOb,yJ]
    dsimp only
    rw [if_pos (by simp),if_neg (by simp;omega),y3l,yOb,y3l,yOb]
   rw [e0,yr]
   dsimp only
   by_cases h1:a < b
   ·obtain ⟨o,g1,g2,g3⟩:=fin true false a us (b :: vs)
    refine⟨o,us,b :: vs,?_,by rw [g2,mg,if_pos h1],g3,by simp;omega⟩
    rw [show decide (a≤b)=true by simp;omega,show decide (b≤a)=false by simp;omega,if_pos rfl,y3l,yOb,y4S,yOb,ym,if_neg (by simp)]
    exact g1
   ·by_cases h2:b < a
    ·obtain ⟨o,g1,g2,g3⟩:=fin false true b (a :: us) vs
     refine⟨o,a :: us,vs,?_,by rw [g2,mg,if_neg h1,if_pos h2],g3,by simp;omega⟩
     rw [show decide (a≤b)=false by simp;omega,show decide (b≤a)=true by simp;omega,if_neg (by simp),ym,if_pos rfl]
     dsimp only
     rw [y3l,yOb,y4S,yOb]
     exact g1
    ·obtain ⟨o,g1,g2,g3⟩:=fin true true b us vs
     refine⟨o,us,vs,?_,by rw [g2,mg,if_neg h1,if_neg h2],g3,by simp;omega⟩
     rw [show decide (a≤b)=true by simp;omega,show decide (b≤a)=true by simp;omega,if_pos rfl,y3l,yOb,y4S,yOb,ym,if_pos rfl]
     dsimp only
     rw [y3l,yOb,y4S,yOb]
     exact g1
theorem y9q {kp:Bool→Bool→Bool} {f:Bool→Bool→Option Bool} (hf:∀a b,f a b=some (kp a b)) {us vs:List Int} (hu:us.length≤1000000) (hv:vs.length≤1000000):y2v us vs f=some (mg kp us vs):=by
 obtain⟨o,h1,h2⟩:=yb (f:=yn f) (fun i s=>s.1 ++ mg kp s.2.1 s.2.2=mg kp us vs∧s.1.length≤i∧s.2.1.length + s.2.2.length + i≤us.length + vs.length) (fun o=>o=mg kp us vs) (us.length + vs.length) 0 (by omega) (fun i s hi ⟨g1,g0,g2⟩=>by
   obtain⟨out,u,v⟩:=s
   dsimp only at g1 g0 g2
   by_cases hne:0 < u.length + v.length
   ·obtain ⟨o,u',v',e,g3,g5,g4⟩:=ybX hf (out:=out) (by omega) hne
    exact .inl ⟨_,e,by rw [←g1];exact g3,by dsimp only;omega,by dsimp only;omega⟩
   ·have e1:u= []:=List.eq_nil_of_length_eq_zero (by omega)
    have e2:v= []:=List.eq_nil_of_length_eq_zero (by omega)
    subst e1;subst e2
    rw [mg,List.append_nil] at g1
    exact .inr ⟨out,rfl,g1⟩) (fun s ⟨g1,g0,g2⟩=>by
   obtain⟨out,u,v⟩:=s
   dsimp only at g1 g2
   have e1:u= []:=List.eq_nil_of_length_eq_zero (by omega)
   have e2:v= []:=List.eq_nil_of_length_eq_zero (by omega)
   subst e1;subst e2
   rw [mg,List.append_nil] at g1
   exact⟨out,rfl,g1⟩) (Nat.zero_le _) ([],us,vs) ⟨rfl,by simp,by dsimp only;omega⟩
 rw [y2v,h1,h2]
 rfl
theorem yai {us vs:List Int} (hu:us.length≤1000000) (hv:vs.length≤1000000):y2W us vs=some (mg (fun a b=>a || b) us vs):=by
 rw [y2W,y9q (f:=yv) (kp:=fun a b=>a || b) (fun a b=>rfl) hu hv]
 rfl
def st1 (a:AutT) (s e:Int):Option Int:=(a.2.2.2.find? fun x=>x.1 == s && x.2.1 == e).map fun x=>x.2.2
theorem y4B {a:AutT} {n:Nat} (hr:Right a n) {s e t:Int}:st1 a s e=some t↔(s,e,t)∈a.2.2.2:=by
 unfold st1
 rw [Option.map_eq_some_iff]
 constructor
 ·rintro ⟨x,h1,rfl⟩
  have h2:=List.find?_some h1
  have h3:=List.mem_of_find?_eq_some h1
  simp only [Bool.and_eq_true,beq_iff_eq] at h2
  obtain⟨rfl,rfl⟩:=h2
  exact h3
 ·intro h
  cases hf:a.2.2.2.find? fun x=>x.1 == s && x.2.1 == e with
  | none=>exact absurd (List.find?_eq_none.1 hf _ h) (by simp)
  | some x=>
   refine⟨x,rfl,?_⟩
   have h2:=List.find?_some hf
   have h3:=List.mem_of_find?_eq_some hf
   simp only [Bool.and_eq_true,beq_iff_eq] at h2
   obtain⟨i,hi,e1⟩:=List.getElem_of_mem h
   obtain⟨j,hj,e2⟩:=List.getElem_of_mem h3
   rcases Nat.lt_trichotomy i j with hij | hij | hij
   ·have:=List.pairwise_iff_getElem.1 hr.so i j hi hj hij
    rw [e1,e2] at this
    dsimp only at this
    omega
   ·subst hij
    rw [e1] at e2
    rw [←e2]
   ·have:=List.pairwise_iff_getElem.1 hr.so j i hj hi hij
    rw [e1,e2] at this
    dsimp only at this
    omega
theorem y4M {a:AutT} {n:Nat} (hr:Right a n) {s e t:Int} (h:st1 a s e=some t):0≤s∧s < (n:Int)∧0≤t∧t < (n:Int)∧e∈a.1:=hr.es _ ((y4B hr).1 h)
theorem ybD {es:List (Int×Int×Int)} (so:es.Pairwise fun x y=>x.1 < y.1∨(x.1=y.1∧x.2.1 < y.2.1)) {i:Nat} (hi:i < es.length) (q:Int×Int):
  ((es.take (i + 1)).find? fun x=>x.1 == q.1 && x.2.1 == q.2).map (fun x=>x.2.2)=if q=(es[i].1,es[i].2.1) then some es[i].2.2 else((es.take i).find? fun x=>x.1 == q.1 && x.2.1 == q.2).map fun x=>x.2.2:=by
 rw [List.take_succ_eq_append_getElem hi,List.find?_append]
 by_cases h:q=(es[i].1,es[i].2.1)
 ·rw [if_pos h]
  have hn:(es.take i).find? (fun x=>x.1 == q.1 && x.2.1 == q.2)=none:=by
   rw [List.find?_eq_none]
   intro x hx hx2
   simp only [Bool.and_eq_true,beq_iff_eq] at hx2
   obtain⟨k,hk,rfl⟩:=List.getElem_of_mem hx
   rw [List.length_take] at hk
   rw [List.getElem_take,h] at hx2
   have:=List.pairwise_iff_getElem.1 so k i (by omega) hi (by omega)
   omega
  rw [hn,Option.none_or,List.find?_cons_of_pos (by rw [h];simp)]
  rfl
 ·rw [if_neg h,List.find?_cons_of_neg (by
   intro hx
   simp only [Bool.and_eq_true,beq_iff_eq] at hx
   exact h (by rw [hx.1,hx.2])),List.find?_nil,Option.or_none]
theorem yaj {a:AutT} {n:Nat} (hr:Right a n):∃o,iter (y1j a) (0,([]:List ((Int×Int)×Int)))=some o∧∀q:Int×Int,kget o q=st1 a q.1 q.2:=by
 have hl:=hr.l3
 refine yb (f:=y1j a) (fun i s=>s.1=(i:Int)∧∀q:Int×Int,kget s.2 q=((a.2.2.2.take i).find? fun x=>x.1 == q.1 && x.2.1 == q.2).map fun x=>x.2.2) (fun o=>∀q:Int×Int,kget o q=st1 a q.1 q.2) a.2.2.2.length 0 (by omega) (fun i s hi ⟨e1,g1⟩=>?_) (fun s ⟨e1,g1⟩=>?_) (Nat.zero_le _) _ ⟨rfl,fun q=>rfl⟩
 ·obtain ⟨k,out⟩:=s
  dsimp only at e1 g1
  subst e1
  refine .inl ⟨(((i + 1:Nat):Int),kput out (a.2.2.2[i].1,a.2.2.2[i].2.1) a.2.2.2[i].2.2),?_,rfl,fun q=>?_⟩
  ·rw [y1j]
   dsimp only
   rw [if_pos (ct_lt hi),ya hi,yOb,nxt (by omega)]
  ·dsimp only
   rw [y3m,ybD hr.so hi,g1]
 ·obtain ⟨k,out⟩:=s
  dsimp only at e1 g1
  subst e1
  rw [List.take_length] at g1
  refine⟨out,?_,g1⟩
  rw [y1j]
  dsimp only
  rw [if_neg ct_ge]
theorem ybY {P S:AutT} (hP:Alp P.1) (hS:Alp S.1):y2X [P,S]=some (mg (fun a b=>a || b) P.1 S.1):=by
 have l1:=hP.len
 have l2:=hS.len
 have h0:mg (fun a b=>a || b) [] P.1=P.1:=by
  have h:=y3n (fun a b=>a || b) [] P.1 List.Pairwise.nil hP.1
  refine y8e (lt:=fun a b:Int=>a < b) (fun a b h1 h2=>by omega) h.1 hP.1 fun x=>?_
  rw [h.2]
  constructor
  ·rintro ⟨h1 | h1,_⟩
   ·cases h1
   ·exact h1
  ·intro h1
   refine⟨.inr h1,?_⟩
   rw [yc.2 h1]
   simp
 have h:iter (y1h [P,S]) (0,[])=some (mg (fun a b=>a || b) P.1 S.1):=by
  refine y3Y (n:=3) (by omega) ?_
  rw [yf,y1h]
  dsimp only
  rw [if_pos (by simp),show idx [P,S] 0=some P from rfl,yOb,yai (by simp) (by omega),yOb,h0]
  dsimp only
  rw [yf,y1h]
  dsimp only
  rw [show W (0 + 1)=1 from rfl,if_pos (by simp),show idx [P,S] 1=some S from rfl,yOb,yai (by omega) (by omega),yOb]
  dsimp only
  rw [yf,y1h]
  dsimp only
  rw [show W (1 + 1)=2 from rfl,if_neg (by simp)]
 rw [y2X,h]
 rfl
theorem yaS {P S:AutT} {n1 n2:Nat} (hP:Right P n1) (hS:Right S n2):∃o1 o2,y2Y [P,S]=some ([P,S],mg (fun a b=>a || b) P.1 S.1,[o1,o2])∧(∀q:Int×Int,kget o1 q=st1 P q.1 q.2)∧∀q:Int×Int,kget o2 q=st1 S q.1 q.2:=by
 obtain⟨o1,h1,g1⟩:=yaj hP
 obtain⟨o2,h2,g2⟩:=yaj hS
 refine⟨o1,o2,?_,g1,g2⟩
 have h:iter (y1C [P,S]) (0,[])=some [o1,o2]:=by
  refine y3Y (n:=3) (by omega) ?_
  rw [yf,y1C]
  dsimp only
  rw [if_pos (by simp),show idx [P,S] 0=some P from rfl,yOb,h1,yOb,yl (by simp),yOb]
  dsimp only
  rw [yf,y1C]
  dsimp only
  rw [show W (0 + 1)=1 from rfl,if_pos (by simp),show idx [P,S] 1=some S from rfl,yOb,h2,yOb,yl (by simp),yOb]
  dsimp only
  rw [yf,y1C]
  dsimp only
  rw [show W (1 + 1)=2 from rfl,if_neg (by simp)]
  rfl
 rw [y2Y,ybY ⟨hP.ali,hP.alr⟩ ⟨hS.ali,hS.alr⟩,yOb,h]
 rfl
def pst (P S:AutT) (x y e:Int):Option (Int×Int):=(if hasB P.1 e=true then st1 P x e else some x).bind fun x'=>(if hasB S.1 e=true then st1 S y e else some y).map fun y'=>(x',y')
theorem ye7 {P S:AutT} {n1 n2:Nat} (hP:Right P n1) (hS:Right S n2) {ev:List Int} {o1 o2:List ((Int×Int)×Int)} (g1:∀q:Int×Int,kget o1 q=st1 P q.1 q.2) (g2:∀q:Int×Int,kget o2 q=st1 S q.1 q.2) (x y e:Int):
  yR ([P,S],ev,[o1,o2]) [x,y] e=some (match pst P S x y e with
   | some u=>([u.1,u.2],true)
   | none=>([],false)):=by
 have l1:=hP.l1
 have l2:=hS.l1
 have f0:yi ([P,S],ev,[o1,o2]) [x,y] e (0,[x,y])=some (match (if hasB P.1 e=true then st1 P x e else some x) with
   | some x'=> .inl (1,[x',y])
   | none=> .inr (.inr ())):=by
  rw [yi]
  dsimp only
  rw [if_pos (by simp),show idx [P,S] 0=some P from rfl,yOb,y3A (by omega) hP.ali,yOb]
  cases hb:hasB P.1 e with
  | false=>
   rw [if_pos (by simp),yq,if_neg (by simp)]
   rfl
  | true=>
   rw [if_neg (by simp),show idx [o1,o2] 0=some o1 from rfl,yOb,show idx [x,y] 0=some x from rfl,yOb,g1,if_pos rfl]
   dsimp only
   cases st1 P x e with
   | none=>rw [if_pos (by simp)]
   | some v=>
    rw [if_neg (by simp),yOb,show upd [x,y] 0 ((some v).getD 0)=some [v,y] from rfl,yOb,yq]
    rfl
 have f1:∀x',yi ([P,S],ev,[o1,o2]) [x,y] e (1,[x',y])=some (match (if hasB S.1 e=true then st1 S y e else some y) with
   | some y'=> .inl (2,[x',y'])
   | none=> .inr (.inr ())):=fun x'=>by
  rw [yi]
  dsimp only
  rw [if_pos (by simp),show idx [P,S] 1=some S from rfl,yOb,y3A (by omega) hS.ali,yOb]
  cases hb:hasB S.1 e with
  | false=>
   rw [if_pos (by simp),yq,if_neg (by simp)]
   rfl
  | true=>
   rw [if_neg (by simp),show idx [o1,o2] 1=some o2 from rfl,yOb,show idx [x,y] 1=some y from rfl,yOb,g2,if_pos rfl]
   dsimp only
   cases st1 S y e with
   | none=>rw [if_pos (by simp)]
   | some v=>
    rw [if_neg (by simp),show idx [x',y] 1=some y from rfl,yOb,show upd [x',y] 1 ((some v).getD 0)=some [x',v] from rfl,yOb,yq]
    rfl
 have f2:∀u,yi ([P,S],ev,[o1,o2]) [x,y] e (2,u)=some (.inr (.inl u)):=fun u=>by
  rw [yi]
  dsimp only
  rw [if_neg (by simp)]
 have h:iter (yi ([P,S],ev,[o1,o2]) [x,y] e) (0,[x,y])=some (match pst P S x y e with
   | some u=> .inl [u.1,u.2]
   | none=> .inr ()):=by
  refine y3Y (n:=3) (by omega) ?_
  rw [yf,f0]
  unfold pst
  cases (if hasB P.1 e=true then st1 P x e else some x) with
  | none=>rfl
  | some x'=>
   dsimp only
   rw [yf,f1,yOb]
   cases (if hasB S.1 e=true then st1 S y e else some y) with
   | none=>rfl
   | some y'=>
    dsimp only
    rw [yf,f2]
    rfl
 rw [yR,y5K (by simp),yOb,h,yOb]
 cases pst P S x y e <;> rfl
structure Loop (P S p:AutT) (T:List (List Int)) (n:Nat):Prop where
 right:Right p n
 pos:1≤n
 le:n≤4000
 tl:T.length=n
 nd:T.Nodup
 tt:∀t∈T,∃x y,t= [x,y]∧0≤x∧x < P.2.1∧0≤y∧y < S.2.1
 t0:T[0]? =some [0,0]
 ev:∀e,e∈p.1↔e∈P.1∨e∈S.1
 no:∀(a:Nat) (x y e:Int),T[a]? =some [x,y]→e∈p.1→pst P S x y e=none→st1 p (a:Int) e=none
 yes:∀(a:Nat) (x y e x' y':Int),T[a]? =some [x,y]→e∈p.1→pst P S x y e=some (x',y')→∃q:Nat,st1 p (a:Int) e=some (q:Int)∧T[q]? =some [x',y']
 num:Num (edsOf p) n
theorem ye8 {P S:AutT} {n1 n2:Nat} (hP:Right P n1) (hS:Right S n2) {ev:List Int} {o1 o2:List ((Int×Int)×Int)} (g1:∀q:Int×Int,kget o1 q=st1 P q.1 q.2) (g2:∀q:Int×Int,kget o2 q=st1 S q.1 q.2) (x y e:Int):
  mst ([P,S],ev,[o1,o2]) [x,y] e=(pst P S x y e).map fun u=> [u.1,u.2]:=by
 unfold mst
 rw [ye7 hP hS g1 g2]
 cases pst P S x y e <;> rfl
theorem ye9 {P S:AutT} {n1 n2 B:Nat} (hP:Right P n1) (hS:Right S n2) (p1:1≤n1) (p2:1≤n2) (b1:n1≤B) (b2:n2≤B) (hB:B≤99) (hBB:B * B≤4000):∃p T n,yk [P,S]=some (p,T,0)∧Loop P S p T n:=by
 have hL:LOkB B [P,S]:=⟨by simp,fun a ha=>by
  rcases List.mem_cons.1 ha with rfl | ha
  ·exact ⟨n1,p1,b1,hP⟩
  ·rw [List.mem_singleton.1 ha];exact⟨n2,p2,b2,hS⟩,hB,by
  show B ^ 2≤4000
  rw [Nat.pow_two];exact hBB⟩
 obtain⟨m,p,T,n,h1,h2,h3,h⟩:=ydq hL
 obtain⟨o1,o2,e1,g1,g2⟩:=yaS hP hS
 rw [h1] at e1
 obtain rfl:=Option.some.inj e1
 have htt:∀t∈T,∃x y,t= [x,y]∧0≤x∧x < P.2.1∧0≤y∧y < S.2.1:=fun t ht=>by
  obtain⟨hl,hr⟩:=h.inT t ht
  match t,hl,hr with
  | [x,y],_,hr=>
   have q1:=hr 0 (by simp) (by simp)
   have q2:=hr 1 (by simp) (by simp)
   exact⟨x,y,rfl,q1.1,q1.2,q2.1,q2.2⟩
 have hms:=ye8 hP hS (ev:=mg (fun a b=>a || b) P.1 S.1) g1 g2
 have hev:p.1=mg (fun a b=>a || b) P.1 S.1:=h.ev
 refine⟨p,T,n,h3,h.right,h.pos,h.le,h.tl,h.nd,htt,?_,fun e=>?_,fun a x y e ha he hp=>?_,fun a x y e x' y' ha he hp=>?_,h.num⟩
 ·obtain ⟨t,q1,q2⟩:=h.t0
  rw [q1]
  have hin:yp ([P,S],mg (fun a b=>a || b) P.1 S.1,[o1,o2])=some ([0,0],true):=by
   have hi:iter (yh ([P,S],mg (fun a b=>a || b) P.1 S.1,[o1,o2])) 0=some (.inl ()):=by
    refine y3Y (n:=3) (by omega) ?_
    rw [yf,yh]
    dsimp only
    rw [if_pos (by simp),show idx [P,S] 0=some P from rfl,yOb,hP.nn,if_neg (by simp;omega)]
    dsimp only
    rw [yf,yh]
    dsimp only
    rw [show W (0 + 1)=1 from rfl,if_pos (by simp),show idx [P,S] 1=some S from rfl,yOb,hS.nn,if_neg (by simp;omega)]
    dsimp only
    rw [yf,yh]
    dsimp only
    rw [show W (1 + 1)=2 from rfl,if_neg (by simp)]
   rw [yp,hi,yOb]
   dsimp only
   rw [y8u (by simp) (by simp),yOb]
   rfl
  rw [hin] at q2
  cases q2
  rfl
 ·have hsp:=y3n (fun a b=>a || b) P.1 S.1 hP.ali hS.ali
  rw [hev,hsp.2]
  constructor
  ·exact fun q=>q.1
  ·intro q
   refine⟨q,?_⟩
   rcases q with q | q
   ·rw [yc.2 q];rfl
   ·rw [yc.2 q];simp
 ·cases hs:st1 p (a:Int) e with
  | none=>rfl
  | some t=>
   obtain⟨a',q,u,r,k1,k2,k3,k4,k5⟩:=h.sn _ ((y4B h.right).1 hs)
   dsimp only at k1 k2 k5
   have:a'=a:=by omega
   subst this
   rw [ha] at k3
   cases k3
   rw [hms,hp] at k5
   cases k5
 ·have hm:mst ([P,S],mg (fun a b=>a || b) P.1 S.1,[o1,o2]) [x,y] e=some [x',y']:=by rw [hms,hp];rfl
  obtain⟨q,k1,k2⟩:=h.ed a [x,y] e [x',y'] ha he hm
  exact⟨q,(y4B h.right).2 k1,k2⟩
theorem y7v {n:Int} {xs:List Int} (h:yU n none xs=0):Inc xs∧∀x∈xs,0≤x∧x < n:=by
 have key:∀(xs:List Int) (p:Option Int),yU n p xs=0→Inc xs∧(∀x∈xs,0≤x∧x < n)∧∀q,p=some q→∀x∈xs,q < x:=by
  intro xs
  induction xs with
  | nil=>intro p _;exact⟨List.Pairwise.nil,fun x hx=>(by cases hx),fun q _ x hx=>(by cases hx)⟩
  | cons y xs ih=>
   intro p h
   rw [yU] at h
   split at h
   ·cases h
   ·rename_i h1
    split at h
    ·cases h
    ·rename_i h2
     obtain⟨g1,g2,g3⟩:=ih _ h
     refine⟨List.pairwise_cons.2 ⟨fun z hz=>g3 y rfl z hz,g1⟩,fun x hx=>?_,fun q hq x hx=>?_⟩
     ·rcases List.mem_cons.1 hx with rfl | hx
      ·omega
      ·exact g2 x hx
     ·have hqy:q < y:=by
       have:¬y≤q:=fun hc=>h2 ⟨q,hq,hc⟩
       omega
      rcases List.mem_cons.1 hx with rfl | hx
      ·exact hqy
      ·have:=g3 y rfl x hx
       omega
 exact⟨(key xs none h).1,(key xs none h).2.1⟩
theorem ybZ {a:Aut} (h:a.err=0):yU 32 none a.al=0∧0≤a.n∧a.n≤4096∧yU a.n none a.ms=0∧edErr a.al a.n none a.es=0:=by
 unfold Aut.err at h
 split at h
 ·rename_i h1;rw [h] at h1;exact absurd h1 (by decide)
 ·rename_i h1
  split at h
  ·cases h
  ·split at h
   ·cases h
   ·split at h
    ·rename_i h4;rw [h] at h4;exact absurd h4 (by decide)
    ·rename_i h2 h3 h4
     exact⟨by simpa using h1,by omega,by omega,by simpa using h4,h⟩
theorem ybE {al:List Int} {n:Int}:∀(es:List Ed) (p:Option Ed),edErr al n p es=0→y8G es∧(∀q,p=some q→∀x∈es,edLt q x)∧∀x∈es,x.e∈al
 | [],_,_=>⟨List.Pairwise.nil,fun _ _ x hx=>(by cases hx),fun x hx=>(by cases hx)⟩
 | y :: es,p,h=>by
  rw [edErr] at h
  split at h
  ·cases h
  ·split at h
   ·cases h
   ·rename_i h2
    split at h
    ·cases h
    ·rename_i h3
     obtain⟨g1,g2,g4⟩:=ybE es _ h
     have g3:=g2 y rfl
     refine⟨List.pairwise_cons.2 ⟨g3,g1⟩,fun q hq x hx=>?_,fun x hx=>?_⟩
     ·have hqy:edLt q y:=by
       have h4:¬(y.f < q.f∨(y.f=q.f∧y.e≤q.e)):=fun hc=>h3 ⟨q,hq,hc⟩
       unfold edLt;omega
      rcases List.mem_cons.1 hx with rfl | hx
      ·exact hqy
      ·have h5:=g3 x hx
       unfold edLt at hqy h5 ⊢;omega
     ·rcases List.mem_cons.1 hx with rfl | hx
      ·exact yc.1 (by simpa using h2)
      ·exact g4 x hx
theorem yak {a:AutT} (h:(toAut a).err=0) (h1:a.1.length≤1000000) (h2:a.2.2.1.length≤1000000) (h3:a.2.2.2.length≤1000000):Right a a.2.1.toNat:=by
 obtain⟨g1,g2,g3,g4,g5⟩:=ybZ h
 have hok:=Aut.ok_of h
 obtain⟨e1,_,e3⟩:=ybE _ _ g5
 obtain⟨al1,al2⟩:=y7v g1
 obtain⟨ms1,ms2⟩:=y7v g4
 have hn:(toAut a).n=a.2.1:=rfl
 rw [hn] at g2 g3
 have hnn:((a.2.1.toNat:Nat):Int)=a.2.1:=Int.toNat_of_nonneg g2
 refine⟨hnn.symm,by omega,al1,al2,ms1,fun x hx=>by rw [hnn];exact ms2 x hx,fun x hx=>?_,?_,h1,h2,h3⟩
 ·have:=hok.es (toEd x) (List.mem_map_of_mem hx)
  have h4:=e3 (toEd x) (List.mem_map_of_mem hx)
  rw [hnn]
  exact⟨this.1,this.2.1,this.2.2.1,this.2.2.2,h4⟩
 ·have e1:(a.2.2.2.map toEd).Pairwise edLt:=e1
  rw [List.pairwise_map] at e1
  exact e1
theorem y7w {a:AutT} (h1:a.1.length≤1000000) (h2:a.2.2.1.length≤1000000) (h3:a.2.2.2.length≤1000000):yt a=some (toAut a).err:=by
 have:=yaO (a:=toAut a) (by simp [toAut];omega) (by simp [toAut];omega) (by simp [toAut];omega)
 rwa [y8d] at this
abbrev GrT :=AutT×List ((Int×Int)×Int)
abbrev TaskT :=GrT×GrT×GrT×List (List Int)×List Int×List Int
abbrev ProbT :=AutT×AutT×List Int
theorem y8f {a:AutT} {n:Nat} (hr:Right a n):∃o,y3P a=some (a,o)∧∀q:Int×Int,kget o q=st1 a q.1 q.2:=by
 have hl:=hr.l3
 obtain⟨o,h1,h2⟩:=yb (f:=y4z a) (fun i s=>s.1=(i:Int)∧∀q:Int×Int,kget s.2 q=((a.2.2.2.take i).find? fun x=>x.1 == q.1 && x.2.1 == q.2).map fun x=>x.2.2) (fun o=>∀q:Int×Int,kget o q=st1 a q.1 q.2) a.2.2.2.length 0 (by omega) (fun i s hi ⟨e1,g1⟩=>by
   obtain⟨k,out⟩:=s
   dsimp only at e1 g1
   subst e1
   refine .inl ⟨(((i + 1:Nat):Int),kput out (a.2.2.2[i].1,a.2.2.2[i].2.1) a.2.2.2[i].2.2),?_,rfl,fun q=>?_⟩
   ·rw [y4z]
    dsimp only
    rw [if_pos (ct_lt hi),ya hi,yOb,nxt (by omega)]
   ·dsimp only
    rw [y3m,ybD hr.so hi,g1]) (fun s ⟨e1,g1⟩=>by
   obtain⟨k,out⟩:=s
   dsimp only at e1 g1
   subst e1
   rw [List.take_length] at g1
   refine⟨out,?_,g1⟩
   rw [y4z]
   dsimp only
   rw [if_neg ct_ge]) (Nat.zero_le _) (0,[]) ⟨rfl,fun q=>rfl⟩
 exact⟨o,by rw [y3P,h1];rfl,h2⟩
def GrOk (g:GrT) (a:AutT):Prop:=g.1=a∧∀q:Int×Int,kget g.2 q=st1 a q.1 q.2
theorem to_eq {g:GrT} {a:AutT} (h:GrOk g a) (s e:Int):y1f g s e=some ((st1 a s e).getD (-1)):=by
 rw [y1f,h.2 (s,e)]
 cases st1 a s e <;> rfl
structure LoopZ (P S p:AutT) (T:List (List Int)) (n:Nat):Prop where
 right:Right p n
 le:n≤4000
 tl:T.length=n
 nd:T.Nodup
 tt:∀t∈T,∃x y,t= [x,y]∧0≤x∧x < P.2.1∧0≤y∧y < S.2.1
 t0:0 < n→T[0]? =some [0,0]
 zero:n=0↔P.2.1=0∨S.2.1=0
 ev:∀e,e∈p.1↔e∈P.1∨e∈S.1
 no:∀(a:Nat) (x y e:Int),T[a]? =some [x,y]→e∈p.1→pst P S x y e=none→st1 p (a:Int) e=none
 yes:∀(a:Nat) (x y e x' y':Int),T[a]? =some [x,y]→e∈p.1→pst P S x y e=some (x',y')→∃q:Nat,st1 p (a:Int) e=some (q:Int)∧T[q]? =some [x',y']
 num:Num (edsOf p) n
theorem ycD {P S:AutT} {n1 n2:Nat} (hP:Right P n1) (hS:Right S n2):y3p [P,S]=some 0:=by
 have h1:iter (y1n [P,S]) 0=some (.inl ()):=by
  refine y3Y (n:=3) (by omega) ?_
  rw [yf,y1n,if_pos (by simp),show idx [P,S] 0=some P from rfl,yOb,hP.check,yOb,if_neg (by simp)]
  dsimp only
  rw [yf,y1n,show W (0 + 1)=1 from rfl,if_pos (by simp),show idx [P,S] 1=some S from rfl,yOb,hS.check,yOb,if_neg (by simp)]
  dsimp only
  rw [yf,y1n,show W (1 + 1)=2 from rfl,if_neg (by simp)]
 rw [y3p,if_neg (by simp),h1]
 rfl
theorem ydr {P S:AutT} {n1 n2:Nat} (hP:Right P n1) (hS:Right S n2) (b1:n1≤40) (b2:n2≤40):∃p T n,yk [P,S]=some (p,T,0)∧LoopZ P S p T n:=by
 by_cases h0:n1=0∨n2=0
 ·obtain ⟨o1,o2,h1,g1,g2⟩:=yaS hP hS
  have hi:∀ev,yp ([P,S],ev,[o1,o2])=some ([],false):=fun ev=>by
   have h2:iter (yh ([P,S],ev,[o1,o2])) 0=some (.inr ()):=by
    refine y3Y (n:=2) (by omega) ?_
    rw [yf,yh]
    dsimp only
    rw [if_pos (by simp),show idx [P,S] 0=some P from rfl,yOb,hP.nn]
    by_cases h1:n1=0
    ·rw [if_pos (by simp [h1])]
    ·rw [if_neg (by simp;omega)]
     dsimp only
     rw [yf,yh]
     dsimp only
     rw [show W (0 + 1)=1 from rfl,if_pos (by simp),show idx [P,S] 1=some S from rfl,yOb,hS.nn,if_pos (by simp;omega)]
   rw [yp,h2]
   rfl
  have hsp:=y3n (fun a b=>a || b) P.1 S.1 hP.ali hS.ali
  have hev:∀e,e∈mg (fun a b=>a || b) P.1 S.1↔e∈P.1∨e∈S.1:=fun e=>by
   rw [hsp.2]
   constructor
   ·exact fun q=>q.1
   ·intro q
    refine⟨q,?_⟩
    rcases q with q | q
    ·rw [yc.2 q];rfl
    ·rw [yc.2 q];simp
  have halr:∀e∈mg (fun a b=>a || b) P.1 S.1,0≤e∧e < 32:=fun e he=>by
   rcases(hev e).1 he with h | h
   ·exact hP.alr e h
   ·exact hS.alr e h
  have hlen:=Alp.len ⟨hsp.1,halr⟩
  refine⟨(mg (fun a b=>a || b) P.1 S.1,0,[],[]),[],0,?_,⟨⟨rfl,by omega,hsp.1,halr,List.Pairwise.nil,fun x hx=>(by cases hx),fun x hx=>(by cases hx),List.Pairwise.nil,by dsimp only;omega,by simp,by simp⟩,by omega,rfl,List.nodup_nil,fun t ht=>(by cases ht),fun h=>absurd h (by omega),?_,hev,fun a x y e ha=>(by simp at ha),fun a x y e x' y' ha=>(by simp at ha),?_⟩⟩
  ·rw [yk,ycD hP hS,yOb,if_neg (by simp),h1,yOb,hi,yOb,if_pos (by simp)]
  ·have e1:=hP.nn
   have e2:=hS.nn
   exact⟨fun _=>by omega,fun _=>rfl⟩
  ·exact ⟨List.Pairwise.nil,fun x hx=>(by cases hx),fun k h1 h2=>by omega,fun n hn=>(by simp [edsOf] at hn),fun n hn=>(by simp [edsOf] at hn)⟩
 ·obtain ⟨p,T,n,h1,h⟩:=ye9 (B:=40) hP hS (by omega) (by omega) b1 b2 (by omega) (by omega)
  have e1:=hP.nn
  have e2:=hS.nn
  have:=h.pos
  exact⟨p,T,n,h1,h.right,h.le,h.tl,h.nd,h.tt,fun _=>h.t0,⟨fun _=>by omega,fun _=>by omega⟩,h.ev,h.no,h.yes,h.num⟩
theorem y8g {xs:List Int} {n:Int} (hl:xs.length < 4611686018427387904):y2P xs n=some (yU n none xs):=y7u hl
def errP (q:ProbT):Int:=
 if(toAut q.1).err≠0 then(toAut q.1).err
 else if(toAut q.2.1).err≠0 then(toAut q.2.1).err
 else if(mg (fun a b=>a && !b) q.2.1.1 q.1.1).length≠0 then 9
 else yU 32 none q.2.2
structure ShortP (q:ProbT):Prop where
 p1:q.1.1.length≤1000000
 p2:q.1.2.2.1.length≤1000000
 p3:q.1.2.2.2.length≤1000000
 s1:q.2.1.1.length≤1000000
 s2:q.2.1.2.2.1.length≤1000000
 s3:q.2.1.2.2.2.length≤1000000
 u1:q.2.2.length≤1000000
theorem y8H {us vs:List Int} (hu:us.length≤1000000) (hv:vs.length≤1000000):y2V us vs=some (mg (fun a b=>a && !b) us vs):=by
 rw [y2V,y9q (f:=y4y) (kp:=fun a b=>a && !b) (fun a b=>rfl) hu hv]
 rfl
theorem yal {us vs:List Int} (hu:us.length≤1000000) (hv:vs.length≤1000000):y2C us vs=some (mg (fun a b=>a && b) us vs):=by
 rw [y2C,y9q (f:=y3M) (kp:=fun a b=>a && b) (fun a b=>rfl) hu hv]
 rfl
theorem yc0 {us vs:List Int} (hu:us.length≤1000000) (hv:vs.length≤1000000):y4a us vs=some (decide ((mg (fun a b=>a && !b) us vs).length=0)):=by
 rw [y4a,y8H hu hv,yOb]
 congr 1
 rw [Bool.eq_iff_iff]
 simp
structure TaskOk (q:ProbT) (t:TaskT) (p:AutT) (T:List (List Int)) (n1 n2 n:Nat):Prop where
 rP:Right q.1 n1
 rS:Right q.2.1 n2
 iu:Inc q.2.2
 ur:∀x∈q.2.2,0≤x∧x < 32
 sub:∀x∈q.2.1.1,x∈q.1.1
 g1:GrOk t.1 q.1
 g2:GrOk t.2.1 q.2.1
 g3:GrOk t.2.2.1 p
 tt:t.2.2.2.1=T
 un:t.2.2.2.2.1=mg (fun a b=>a && b) q.1.1 q.2.2
 co:t.2.2.2.2.2=mg (fun a b=>a && !b) q.1.1 (mg (fun a b=>a && b) q.1.1 q.2.2)
 loop:LoopZ q.1 q.2.1 p T n
theorem ycE {q:ProbT} (h:ShortP q) (he:errP q=0) (b1:q.1.2.1≤40) (b2:q.2.1.2.1≤40):∃t p T n1 n2 n,y2S q=some (some t,0)∧TaskOk q t p T n1 n2 n∧yk [q.1,q.2.1]=some (p,T,0):=by
 unfold errP at he
 by_cases h1:(toAut q.1).err=0
 ·rw [if_neg (by simpa using h1)] at he
  by_cases h2:(toAut q.2.1).err=0
  ·rw [if_neg (by simpa using h2)] at he
   by_cases h3:(mg (fun a b=>a && !b) q.2.1.1 q.1.1).length=0
   ·rw [if_neg (by simpa using h3)] at he
    have rP:=yak h1 h.p1 h.p2 h.p3
    have rS:=yak h2 h.s1 h.s2 h.s3
    obtain⟨iu,ur⟩:=y7v he
    obtain⟨p,T,n,e1,hL⟩:=ydr rP rS (by omega) (by omega)
    obtain⟨o1,i1,k1⟩:=y8f rP
    obtain⟨o2,i2,k2⟩:=y8f rS
    obtain⟨o3,i3,k3⟩:=y8f hL.right
    have hit3:iter (y4k q) 0=some (.inl ()):=by
     refine y3Y (n:=3) (by omega) ?_
     rw [yf,y4k,if_pos (by simp),show idx [q.1,q.2.1] 0=some q.1 from rfl,yOb,rP.check,yOb,if_neg (by simp)]
     dsimp only
     rw [yf,y4k,show W (0 + 1)=1 from rfl,if_pos (by simp),show idx [q.1,q.2.1] 1=some q.2.1 from rfl,yOb,rS.check,yOb,if_neg (by simp)]
     dsimp only
     rw [yf,y4k,show W (1 + 1)=2 from rfl,if_neg (by simp)]
    have hin:∀x,x∈mg (fun a b=>a && b) q.1.1 q.2.2→x∈q.1.1:=fun x hx=>by
     have:=((y3n (fun a b=>a && b) q.1.1 q.2.2 rP.ali iu).2 x).1 hx
     simp only [Bool.and_eq_true] at this
     exact yc.1 this.2.1
    have hil:(mg (fun a b=>a && b) q.1.1 q.2.2).length≤32:=Alp.len ⟨(y3n (fun a b=>a && b) q.1.1 q.2.2 rP.ali iu).1,fun x hx=>rP.alr x (hin x hx)⟩
    refine⟨((q.1,o1),(q.2.1,o2),(p,o3),T,mg (fun a b=>a && b) q.1.1 q.2.2,mg (fun a b=>a && !b) q.1.1 (mg (fun a b=>a && b) q.1.1 q.2.2)),p,T,_,_,n,?_,⟨rP,rS,iu,ur,fun x hx=>?_,⟨rfl,k1⟩,⟨rfl,k2⟩,⟨rfl,k3⟩,rfl,rfl,rfl,hL⟩,e1⟩
    ·rw [y2S,hit3,yOb]
     dsimp only
     rw [yc0 h.s1 h.p1,yOb,if_neg (by simpa using h3),y8g (by have:=h.u1;omega),yOb,he,if_neg (by simp),e1,yOb]
     dsimp only
     rw [if_neg (by simp),yal h.p1 h.u1,yOb,i1,yOb,i2,yOb,i3,yOb,y8H h.p1 (by omega),yOb]
    ·by_cases hh:x∈q.1.1
     ·exact hh
     ·have hm:x∈mg (fun a b=>a && !b) q.2.1.1 q.1.1:=by
       rw [(y3n (fun a b=>a && !b) q.2.1.1 q.1.1 rS.ali rP.ali).2]
       refine⟨.inl hx,?_⟩
       rw [yc.2 hx]
       cases hb:hasB q.1.1 x
       ·rfl
       ·exact absurd (yc.1 hb) hh
      rw [List.eq_nil_of_length_eq_zero h3] at hm
      cases hm
   ·rw [if_pos (by simpa using h3)] at he
    cases he
  ·rw [if_pos (by simpa using h2)] at he
   exact absurd he h2
 ·rw [if_pos (by simpa using h1)] at he
  exact absurd he h1
def idxL1 {α:Type} (xs:List α) (f:α→Option Bool) (st:Int):Option (Int ⊕ (Unit ⊕ Int)):=
 if decide (st < (xs.length:Int)) then
  (idx xs st).bind fun x=>
  (f x).bind fun r=>
  if r then some (.inr (.inr st)) else some (.inl (W (st + 1)))
 else
  some (.inr (.inl ()))
theorem ybF {α:Type} {xs:List α} {f:α→Option Bool} {g:α→Bool} (hf:∀x∈xs,f x=some (g x)) (hl:xs.length < 4611686018427387904):
  ∃o,iter (idxL1 xs f) 0=some o∧((o= .inl ()∧∀x∈xs,g x=false)∨∃k:Nat,∃hk:k < xs.length,o= .inr (k:Int)∧g xs[k]=true∧∀j (hj:j < xs.length),j < k→g xs[j]=false):=by
 refine yb (f:=idxL1 xs f) (fun i s=>s=(i:Int)∧∀j (hj:j < xs.length),j < i→g xs[j]=false) (fun o=>(o= .inl ()∧∀x∈xs,g x=false)∨∃k:Nat,∃hk:k < xs.length,o= .inr (k:Int)∧g xs[k]=true∧∀j (hj:j < xs.length),j < k→g xs[j]=false) xs.length 0 (by omega) (fun i s hi ⟨e1,g1⟩=>?_) (fun s ⟨e1,g1⟩=>?_) (Nat.zero_le _) 0 ⟨rfl,fun j hj h=>by omega⟩
 ·subst e1
  rw [idxL1,if_pos (ct_lt hi),ya hi,yOb,hf _ (List.getElem_mem hi),yOb]
  cases hg:g xs[i]
  ·rw [if_neg (by simp),nxt (by omega)]
   refine .inl ⟨_,rfl,rfl,fun j hj h=>?_⟩
   by_cases e:j=i
   ·subst e;exact hg
   ·exact g1 j hj (by omega)
  ·rw [if_pos rfl]
   exact .inr ⟨_,rfl,.inr ⟨i,hi,rfl,hg,g1⟩⟩
 ·subst e1
  rw [idxL1,if_neg ct_ge]
  refine⟨_,rfl,.inl ⟨rfl,fun x hx=>?_⟩⟩
  obtain⟨j,hj,rfl⟩:=List.getElem_of_mem hx
  exact g1 j hj hj
theorem ybG {xs:List (Int×Int×Int)} {f:Int×Int×Int→Option Bool} {g:Int×Int×Int→Bool} (hf:∀x∈xs,f x=some (g x)) (hl:xs.length < 4611686018427387904):
  ∃r,y1U xs f=some r∧((r= -1∧∀x∈xs,g x=false)∨∃k:Nat,∃hk:k < xs.length,r=(k:Int)∧g xs[k]=true∧∀j (hj:j < xs.length),j < k→g xs[j]=false):=by
 obtain⟨o,h1,h2⟩:=ybF hf hl
 have h1:iter (y3Z xs f) 0=some o:=h1
 rw [y1U,h1,yOb]
 rcases h2 with ⟨rfl,h3⟩ | ⟨k,hk,rfl,h3,h4⟩
 ·exact ⟨_,rfl,.inl ⟨rfl,h3⟩⟩
 ·exact ⟨_,rfl,.inr ⟨k,hk,rfl,h3,h4⟩⟩
theorem yea {xs:List Int} {f:Int→Option Bool} {g:Int→Bool} (hf:∀x∈xs,f x=some (g x)) (hl:xs.length < 4611686018427387904):
  ∃r,y2c xs f=some r∧((r= -1∧∀x∈xs,g x=false)∨∃k:Nat,∃hk:k < xs.length,r=(k:Int)∧g xs[k]=true∧∀j (hj:j < xs.length),j < k→g xs[j]=false):=by
 obtain⟨o,h1,h2⟩:=ybF hf hl
 have h1:iter (y4h xs f) 0=some o:=h1
 rw [y2c,h1,yOb]
 rcases h2 with ⟨rfl,h3⟩ | ⟨k,hk,rfl,h3,h4⟩
 ·exact ⟨_,rfl,.inl ⟨rfl,h3⟩⟩
 ·exact ⟨_,rfl,.inr ⟨k,hk,rfl,h3,h4⟩⟩
theorem yeb {g:GrT} {a:AutT} {n:Nat} (hg:GrOk g a) (hr:Right a n) (hn:Num (edsOf a) n) {k:Nat} (hk:k < n) (hnl:n≤4096):y2h g (k:Int)=some (wN (edsOf a) (k:Int)):=by
 have hl3:=hr.l3
 obtain⟨o,h1,h2,h3⟩:=yb (f:=y3q g) (fun i s=>∃k':Nat,s.2=(k':Int)∧k' + i≤k∧s.1.length≤i∧wN (edsOf a) (k:Int)=wN (edsOf a) (k':Int) ++ s.1.reverse) (fun o=>wN (edsOf a) (k:Int)=o.reverse∧o.length≤k) k 0 (by omega) (fun i s hi ⟨k',e1,g1,g2,g3⟩=>by
   obtain⟨out,c⟩:=s
   dsimp only at e1 g2 g3
   subst e1
   rw [y3q]
   dsimp only
   by_cases h0:0 < k'
   ·left
    rw [if_pos (by simp;omega),hg.1]
    obtain⟨x,hx,hf,ht,hx0,hxk,hw⟩:=hn.step h0 (by omega)
    obtain⟨r,q1,q2⟩:=ybG (xs:=a.2.2.2) (f:=y4o (k':Int)) (g:=fun y=>y.2.2 == (k':Int)) (fun y _=>rfl) (by omega)
    rw [q1,yOb]
    rcases q2 with ⟨_,q3⟩ | ⟨j,hj,rfl,q3,q4⟩
    ·obtain ⟨y,hy,rfl⟩:=List.mem_map.1 hx
     have:=q3 y hy
     have ht:y.2.2=(k':Int):=ht
     simp [ht] at this
    ·have he:toEd a.2.2.2[j]=x:=by
      have:(edsOf a).find? (fun y=>y.t == (k':Int))=some (toEd a.2.2.2[j]):=by
       rw [List.find?_eq_some_iff_getElem]
       refine⟨q3,j,by simpa [edsOf] using hj,by simp [edsOf],fun i hi=>?_⟩
       have:=q4 i (by omega) hi
       have e2:(edsOf a)[i]'(by simp [edsOf];omega)=toEd a.2.2.2[i]:=by simp [edsOf]
       rw [e2]
       show(!(a.2.2.2[i].2.2 == (k':Int)))=true
       rw [this]
       rfl
      rw [hf] at this
      exact(Option.some.inj this).symm
     rw [ya hj,yOb,yl (by simp;omega),yOb,yOb]
     refine⟨_,rfl,x.f.toNat,?_,by omega,by simp;omega,?_⟩
     ·dsimp only
      rw [←he]
      rw [←he] at hx0
      exact(Int.toNat_of_nonneg hx0).symm
     ·dsimp only
      rw [g3,hw,Int.toNat_of_nonneg hx0,List.reverse_append,List.reverse_singleton,List.append_assoc,←he]
      rfl
   ·right
    obtain rfl:k'=0:=by omega
    rw [if_neg (by simp)]
    exact⟨_,rfl,by rw [g3];rfl,by omega⟩) (fun s ⟨k',e1,g1,g2,g3⟩=>by
   obtain⟨out,c⟩:=s
   dsimp only at e1 g2 g3
   subst e1
   rw [y3q]
   dsimp only
   obtain rfl:k'=0:=by omega
   rw [if_neg (by simp)]
   exact⟨_,rfl,by rw [g3];rfl,by omega⟩) (Nat.zero_le _) ([],(k:Int)) ⟨k,rfl,by omega,by simp,by simp⟩
 rw [y2h,h1,yOb,y2A,if_pos (by omega),yOb,h2]
def hdl (S:AutT):Int→List Int→Int×Nat
 | s,[]=>(s,0)
 | s,e :: l=>if hasB S.1 e=true then(match st1 S s e with
   | none=>(s,0)
   | some u=>((hdl S u l).1,(hdl S u l).2 + 1)) else((hdl S s l).1,(hdl S s l).2 + 1)
theorem yam {q:ProbT} {t:TaskT} {p:AutT} {T:List (List Int)} {n1 n2 n:Nat} (h:TaskOk q t p T n1 n2 n) (s:Int) {l:List Int} (hl:l.length≤1000000):y3d t s l=some ((hdl q.2.1 s l).1,((hdl q.2.1 s l).2:Int)):=by
 obtain⟨o,h1,h2⟩:=yb (f:=y3c t l) (fun i st=>st.1=(i:Int)∧hdl q.2.1 s l=((hdl q.2.1 st.2 (l.drop i)).1,i + (hdl q.2.1 st.2 (l.drop i)).2)) (fun o=>(match o with
   | .inl u=>(u,(l.length:Int))
   | .inr u=>(u.2,u.1))=((hdl q.2.1 s l).1,((hdl q.2.1 s l).2:Int))) l.length 0 (by omega) (fun i st hi ⟨e1,g1⟩=>by
   obtain⟨k,c⟩:=st
   dsimp only at e1 g1
   subst e1
   rw [List.drop_eq_getElem_cons hi,hdl] at g1
   rw [y3c]
   dsimp only
   rw [if_pos (ct_lt hi),ya hi,yOb,h.g2.1,y3A (by have:=h.rS.l1;omega) h.rS.ali,yOb]
   cases hb:hasB q.2.1.1 l[i]
   ·left
    rw [hb,if_neg (by simp)] at g1
    rw [if_pos (by rfl),y2q]
    dsimp only
    rw [nxt (by omega)]
    refine⟨_,rfl,rfl,?_⟩
    dsimp only
    rw [g1]
    congr 1
    omega
   ·rw [hb,if_pos rfl] at g1
    rw [if_neg (by simp),to_eq h.g2,yOb]
    cases hs:st1 q.2.1 c l[i] with
    | none=>
     right
     rw [hs] at g1
     rw [if_pos (by rfl)]
     refine⟨_,rfl,?_⟩
     dsimp only at g1 ⊢
     rw [g1]
     rfl
    | some u=>
     left
     rw [hs] at g1
     have:=y4M h.rS hs
     rw [if_neg (by simp;omega),y2q]
     dsimp only [Option.getD]
     rw [nxt (by omega)]
     refine⟨_,rfl,rfl,?_⟩
     dsimp only at g1 ⊢
     rw [g1]
     congr 1
     omega) (fun st ⟨e1,g1⟩=>by
   obtain⟨k,c⟩:=st
   dsimp only at e1 g1
   subst e1
   rw [y3c]
   dsimp only
   rw [if_neg ct_ge]
   refine⟨_,rfl,?_⟩
   rw [List.drop_length,hdl] at g1
   dsimp only at g1 ⊢
   rw [g1]
   rfl) (Nat.zero_le _) (0,s) ⟨rfl,by simp⟩
 rw [y3d,h1,yOb,←h2]
 cases o <;> rfl
theorem ybH :∀(xs:List Int) (m k:Nat) (a:List Int),k + m=xs.length→a.length + m≤4294967296→rngF (fun k=>y1q (xs.getD k 0)) m k a=some (a ++ xs.drop k)
 | xs,0,k,a,e,hl=>by
  rw [rngF,List.drop_of_length_le (by omega),List.append_nil]
 | xs,m + 1,k,a,e,hl=>by
  have hk:k < xs.length:=by omega
  rw [rngF,y1q,yl (by simp;omega),yOb,yOb,ybH xs m (k + 1) _ (by omega) (by simp;omega),List.drop_eq_getElem_cons hk,List.getD_eq_getElem?_getD,yGe hk]
  simp
theorem ycF {l:List Int} (hl:l.length≤1000000):y2i l=some (isL l):=by
 have hlen:(isL l).length=l.length:=(y6O l).length_eq
 rw [y2i,y4g,y3L,ybH l l.length 0 [] (by omega) (by simp;omega),yOb,yOb,yOb,List.drop_zero,List.nil_append,y4C,if_pos (by omega),yOb,lenEq,if_pos hlen,yOb]
def okB (S:AutT) (y:Int) (l:List Int):Bool:=((((hdl S y l).2:Int) == (l.length:Int)) && (((hdl S y (isL l)).2:Int) == (l.length:Int))) && ((hdl S y l).1 == (hdl S y (isL l)).1)
theorem yc1 {q:ProbT} {t:TaskT} {p:AutT} {T:List (List Int)} {n1 n2 n:Nat} (h:TaskOk q t p T n1 n2 n) {k:Nat} {x y:Int} (hk:T[k]? =some [x,y]) {l:List Int} (hl:l.length≤1000000):y3E t (k:Int) l=some (okB q.2.1 y l):=by
 have hlen:(isL l).length=l.length:=(y6O l).length_eq
 rw [y3E,h.tt,y5L,hk,yOb,show idx [x,y] 1=some y from rfl,yOb,yam h y hl,yOb,y2O,if_pos (by omega),yOb,ycF hl,yOb,yam h y (by omega),yOb]
 rfl
def pot :Nat→Nat
 | 0=>1
 | f + 1=>1 + 32 * pot f
theorem ybI :∀f,1≤pot f
 | 0=>Nat.le_refl _
 | _ + 1=>by rw [pot];omega
def potL (z:Nat) (l:List (Int×List Int)):Nat:=(l.map fun r=>pot (z - r.2.length)).sum
theorem y9r (z:Nat):∀l,l.length≤potL z l
 | []=>Nat.zero_le _
 | r :: l=>by
  have h1:=y9r z l
  have h2:=ybI (z - r.2.length)
  unfold potL at h1 ⊢
  rw [List.map_cons,List.sum_cons,List.length_cons]
  omega
theorem yds (z:Nat) (l m:List (Int×List Int)):potL z (l ++ m)=potL z l + potL z m:=by
 unfold potL
 rw [List.map_append,List.sum_append]
theorem ydt (z:Nat) (r:Int×List Int):potL z [r]=pot (z - r.2.length):=by
 unfold potL
 simp
section
variable {q:ProbT} {t:TaskT} {p:AutT} {T:List (List Int)} {n1 n2 n:Nat}
theorem TaskOk.uni (h:TaskOk q t p T n1 n2 n):Inc t.2.2.2.2.1∧t.2.2.2.2.1.length≤32∧∀x,x∈t.2.2.2.2.1↔x∈q.1.1∧x∈q.2.2:=by
 have hs:=y3n (fun a b=>a && b) q.1.1 q.2.2 h.rP.ali h.iu
 have hm:∀x,x∈mg (fun a b=>a && b) q.1.1 q.2.2↔x∈q.1.1∧x∈q.2.2:=fun x=>by
  rw [hs.2]
  simp only [Bool.and_eq_true,yc]
  exact⟨fun h=>h.2,fun h=>⟨.inl h.1,h⟩⟩
 rw [h.un]
 exact⟨hs.1,Alp.len ⟨hs.1,fun x hx=>h.rP.alr x ((hm x).1 hx).1⟩,hm⟩
theorem TaskOk.con (h:TaskOk q t p T n1 n2 n):Inc t.2.2.2.2.2∧t.2.2.2.2.2.length≤32∧∀x,x∈t.2.2.2.2.2↔x∈q.1.1∧x∉q.2.2:=by
 obtain⟨ui,ul,um⟩:=h.uni
 have hs:=y3n (fun a b=>a && !b) q.1.1 t.2.2.2.2.1 h.rP.ali ui
 have hm:∀x,x∈mg (fun a b=>a && !b) q.1.1 t.2.2.2.2.1↔x∈q.1.1∧x∉q.2.2:=fun x=>by
  rw [hs.2]
  simp only [Bool.and_eq_true,yc,Bool.not_eq_true']
  have e:hasB t.2.2.2.2.1 x=false↔ ¬(x∈q.1.1∧x∈q.2.2):=by
   rw [←um x,←yc,Bool.not_eq_true]
  rw [e]
  constructor
  ·rintro ⟨_,h1,h2⟩
   exact⟨h1,fun h3=>h2 ⟨h1,h3⟩⟩
  ·rintro ⟨h1,h2⟩
   exact⟨.inl h1,h1,fun h3=>h2 h3.2⟩
 rw [h.co,←h.un]
 exact⟨hs.1,Alp.len ⟨hs.1,fun x hx=>h.rP.alr x ((hm x).1 hx).1⟩,hm⟩
theorem ycG (h:TaskOk q t p T n1 n2 n) {z c:Nat} {out:List (List Int)} {l:List (Int×List Int)} {r:Int×List Int} (hc:l[c]? =some r) (hz:r.2.length < z) (hz3:z≤3) (hl:l.length≤1000000) (hw:∀r∈l,r.2.length≤z):
  ∃N,iter (yB t ((c:Int),out,l)) (0,l)=some (l ++ N)∧N.length≤32∧∀u∈N,u.2.length=r.2.length + 1:=by
 obtain⟨ui,ul,um⟩:=h.uni
 obtain⟨o,h1,N,rfl,h2,h3⟩:=yb (f:=yB t ((c:Int),out,l)) (fun i s=>s.1=(i:Int)∧∃N,s.2=l ++ N∧N.length≤i∧∀u∈N,u.2.length=r.2.length + 1) (fun o=>∃N,o=l ++ N∧N.length≤32∧∀u∈N,u.2.length=r.2.length + 1) t.2.2.2.2.1.length 0 (by omega) (fun i s hi ⟨e1,N,e2,g1,g2⟩=>by
   obtain⟨k,m⟩:=s
   dsimp only at e1 e2
   subst e1
   subst e2
   have hx:idx (l ++ N) (c:Int)=some r:=by
    rw [y5L,List.getElem?_append_left (List.getElem?_eq_some_iff.1 hc).1,hc]
   have hrl:=hw r (List.mem_of_getElem? hc)
   left
   rw [yB]
   dsimp only
   rw [if_pos (ct_lt hi),ya hi,yOb,hx,yOb,to_eq h.g1,yOb]
   by_cases hb:((st1 q.1 r.1 t.2.2.2.2.1[i]).getD (-1) != (-1))=true
   ·rw [if_pos hb,yOb,y4V (by omega),yOb,yOb]
    cases hh:hasB r.2 t.2.2.2.2.1[i]
    ·rw [if_pos (by rfl),yOb,y5K (by omega),yOb,yl (by simp;omega),yOb,yl (by simp;omega),yOb,yA]
     dsimp only
     rw [nxt (by omega)]
     refine⟨_,rfl,rfl,N ++ [_],by rw [List.append_assoc],by simp;omega,fun u hu=>?_⟩
     rcases List.mem_append.1 hu with hu | hu
     ·exact g2 u hu
     ·rw [List.mem_singleton.1 hu]
      simp
    ·rw [if_neg (by simp),yA]
     dsimp only
     rw [nxt (by omega)]
     exact⟨_,rfl,rfl,N,rfl,by omega,g2⟩
   ·rw [if_neg hb,yOb,if_neg (by simp),yA]
    dsimp only
    rw [nxt (by omega)]
    exact⟨_,rfl,rfl,N,rfl,by omega,g2⟩) (fun s ⟨e1,N,e2,g1,g2⟩=>by
   obtain⟨k,m⟩:=s
   dsimp only at e1 e2
   subst e1
   subst e2
   rw [yB]
   dsimp only
   rw [if_neg ct_ge]
   exact⟨_,rfl,N,rfl,by omega,g2⟩) (Nat.zero_le _) (0,l) ⟨rfl,[],by simp,by simp,fun u hu=>by cases hu⟩
 exact⟨N,h1,h2,h3⟩
theorem yeB :∀{z:Nat},z≤3→pot z≤33825
 | 0,_=>by decide
 | 1,_=>by decide
 | 2,_=>by decide
 | 3,_=>by decide
theorem yaT {z k:Nat}:∀{N:List (Int×List Int)},(∀u∈N,u.2.length=k)→potL z N=N.length * pot (z - k)
 | [],_=>by simp [potL]
 | u :: N,h=>by
  have h1:=yaT (z:=z) (N:=N) fun v hv=>h v (List.mem_cons_of_mem _ hv)
  unfold potL at h1 ⊢
  rw [List.map_cons,List.sum_cons,h1,h u (List.mem_cons_self ..),List.length_cons,Nat.add_mul,Nat.one_mul,Nat.add_comm]
theorem TaskOk.pair (h:TaskOk q t p T n1 n2 n) {k:Nat} (hk:k < T.length):∃x y,T[k]? =some [x,y]∧0≤x∧x < (n1:Int)∧0≤y∧y < (n2:Int):=by
 obtain⟨x,y,e,h1,h2,h3,h4⟩:=h.loop.tt _ (List.getElem_mem hk)
 rw [h.rP.nn] at h2
 rw [h.rS.nn] at h4
 exact⟨x,y,by rw [yGe hk,e],h1,h2,h3,h4⟩
theorem TaskOk.word (h:TaskOk q t p T n1 n2 n) {k:Nat} (hk:k < T.length):y2h t.2.2.1 (k:Int)=some (wN (edsOf p) (k:Int)):=
 yeb h.g3 h.loop.right h.loop.num (by rw [←h.loop.tl];exact hk) (by have:=h.loop.le;omega)
end
def priE (al u:List Int):List Int→List Int→Int
 | _,[]=>0
 | d,e :: l=>if hasB al e=false then 9 else if hasB u e=true then 13 else if hasB d e=true then 8 else priE al u (d ++ [e]) l
theorem ydu {α:Type} {xs:List α} {i:Nat} (h:i≤xs.length):slc xs 0 (i:Int)=some (xs.take i):=by
 rw [slc,if_pos ⟨by omega,by omega,by omega⟩]
 simp
section
variable {q:ProbT} {t:TaskT} {p:AutT} {T:List (List Int)} {n1 n2 n:Nat}
theorem TaskOk.unB (h:TaskOk q t p T n1 n2 n) {e:Int} (ha:hasB q.1.1 e=true):hasB t.2.2.2.2.1 e=hasB q.2.2 e:=by
 rw [Bool.eq_iff_iff,yc,yc,h.uni.2.2]
 exact⟨fun x=>x.2,fun x=>⟨yc.1 ha,x⟩⟩
theorem yec (h:TaskOk q t p T n1 n2 n) {l:List Int} (hl:l.length≤1000000):y2l t l=some (priE q.1.1 q.2.2 [] l):=by
 have hl1:=h.rP.l1
 obtain⟨ui,ul,um⟩:=h.uni
 obtain⟨o,h1,h2⟩:=yb (f:=y1J t l) (fun i s=>s=(i:Int)∧priE q.1.1 q.2.2 [] l=priE q.1.1 q.2.2 (l.take i) (l.drop i)) (fun o=>(match o with
   | .inl _=>0
   | .inr u=>u)=priE q.1.1 q.2.2 [] l) l.length 0 (by omega) (fun i s hi ⟨e1,g1⟩=>by
   subst e1
   rw [List.drop_eq_getElem_cons hi,priE] at g1
   rw [y1J,if_pos (ct_lt hi),ya hi,yOb,h.g1.1,y3A (by omega) h.rP.ali,yOb]
   cases ha:hasB q.1.1 l[i]
   ·right
    rw [if_pos ha] at g1
    rw [if_pos (by rfl)]
    exact⟨_,rfl,g1.symm⟩
   ·rw [if_neg (by simp [ha])] at g1
    rw [if_neg (by simp),y3A (by omega) ui,yOb,h.unB ha]
    cases hu:hasB q.2.2 l[i]
    ·rw [if_neg (by simp [hu])] at g1
     rw [if_neg (by simp),ydu (by omega),yOb,y4V (by simp;omega),yOb]
     cases hd:hasB (l.take i) l[i]
     ·left
      rw [if_neg (by simp [hd])] at g1
      rw [if_neg (by simp),nxt (by omega)]
      refine⟨_,rfl,rfl,?_⟩
      rw [g1,List.take_succ_eq_append_getElem hi]
     ·right
      rw [if_pos hd] at g1
      rw [if_pos rfl]
      exact⟨_,rfl,g1.symm⟩
    ·right
     rw [if_pos hu] at g1
     rw [if_pos rfl]
     exact⟨_,rfl,g1.symm⟩) (fun s ⟨e1,g1⟩=>by
   subst e1
   rw [y1J,if_neg ct_ge]
   refine⟨_,rfl,?_⟩
   rw [g1,List.drop_length,priE]) (Nat.zero_le _) 0 ⟨rfl,rfl⟩
 rw [y2l,h1,yOb]
 cases o with
 | inl u=>exact congrArg some h2
 | inr u=>exact congrArg some h2
def chz (p:AutT) (l:List Int) (s:Int):Int:=(l.find? fun e=>(st1 p s e).isSome).getD (-1)
theorem ycH (h:TaskOk q t p T n1 n2 n) (s:Int) {l:List Int} (hl:l.length≤1000000):y3Q t s l=some (chz p l s):=by
 obtain⟨r,h1,h2⟩:=yea (xs:=l) (f:=y2D (some t) s) (g:=fun e=>(st1 p s e).isSome) (fun e _=>by
  rw [y2D,yOb,to_eq h.g3,yOb]
  congr 1
  cases hs:st1 p s e with
  | none=>rfl
  | some v=>
   have:=y4M h.loop.right hs
   simp
   omega) (by omega)
 rw [y3Q,h1,yOb,chz]
 rcases h2 with ⟨rfl,h3⟩ | ⟨k,hk,rfl,h3,h4⟩
 ·rw [if_pos (by simp),List.find?_eq_none.2 (fun x hx=>by rw [h3 x hx];simp)]
  rfl
 ·rw [if_neg (by simp),ya hk,yOb]
  have:l.find? (fun e=>(st1 p s e).isSome)=some l[k]:=by
   rw [List.find?_eq_some_iff_getElem]
   exact⟨h3,k,hk,rfl,fun j hj=>by rw [h4 j (by omega) hj];rfl⟩
  rw [this]
  rfl
theorem yed (h:TaskOk q t p T n1 n2 n) (ho:y2S q=some (some t,0)) {l:List Int} (hl:l.length≤1000000):y4U q l=if priE q.1.1 q.2.2 [] l=0 then some (some t,0) else some (none,priE q.1.1 q.2.2 [] l):=by
 rw [y4U,ho,yOb,if_neg (by simp),yOb,yec h hl,yOb]
 by_cases h0:priE q.1.1 q.2.2 [] l=0
 ·rw [if_neg (by simpa using h0),if_pos h0]
 ·rw [if_pos (by simpa using h0),if_neg h0]
end
def stR (p:AutT) (u l:List Int) (s e:Int):Option Int:=if(e == chz p l s || hasB u e)=true then st1 p s e else none
structure SR (st:Int→Int→Option Int) (al:List Int) (n i j:Nat) (T:List Int) (kn:List (Int×Int)) (E:List (Int×Int×Int)):Prop where
 f:Fnd st al i j T E
 k1:∀s v,kget kn s=some v→∃q:Nat,v=(q:Int)∧T[q]? =some s
 k2:∀s∈T,(kget kn s).isSome=true
 nd:T.Nodup
 tr:∀s∈T,0≤s∧s < (n:Int)
 so:E.Pairwise fun x y=>x.1 < y.1∨(x.1=y.1∧x.2.1 < y.2.1)
 ei:∀x∈E,x.1 < (i:Int)∨(x.1=(i:Int)∧∃b,∃hb:b < al.length,b < j∧al[b]=x.2.1)
 ea:∀x∈E,x.2.1∈al
 el:E.length≤32 * i + j
namespace SR
variable {st:Int→Int→Option Int} {al:List Int} {n i j:Nat} {T:List Int} {kn:List (Int×Int)} {E:List (Int×Int×Int)}
theorem len (h:SR st al n i j T kn E):T.length≤n:=by
 have:=y5T n (T.map Int.toNat) (by
  unfold List.Nodup
  rw [List.pairwise_map]
  refine h.nd.imp_of_mem fun {a b} ha hb hab=>?_
  have h1:=h.tr a ha
  have h2:=h.tr b hb
  omega) (fun x hx=>by
  obtain⟨y,hy,rfl⟩:=List.mem_map.1 hx
  have:=h.tr y hy
  omega)
 simpa using this
theorem skip (h:SR st al n i j T kn E) {s e:Int} (ht:T[i]? =some s) (he:al[j]? =some e) (hs:st s e=none):SR st al n i (j + 1) T kn E:=
 ⟨h.f.skip ht he hs,h.k1,h.k2,h.nd,h.tr,h.so,fun x hx=>by
  rcases h.ei x hx with h1 | ⟨h1,b,hb,h2,h3⟩
  ·exact .inl h1
  ·exact .inr ⟨h1,b,hb,by omega,h3⟩,h.ea,by have:=h.el;omega⟩
theorem next (h:SR st al n i j T kn E) (hj:al.length≤j) (hj2:j≤32):SR st al n (i + 1) 0 T kn E:=
 ⟨h.f.next hj,h.k1,h.k2,h.nd,h.tr,h.so,fun x hx=>by
  rcases h.ei x hx with h1 | ⟨h1,_⟩
  ·exact .inl (by omega)
  ·exact .inl (by omega),h.ea,by have:=h.el;omega⟩
theorem pw (h:SR st al n i j T kn E) (ia:Inc al) (hj:j < al.length) (v:Int):(E ++ [((i:Int),al[j],v)]).Pairwise fun x y=>x.1 < y.1∨(x.1=y.1∧x.2.1 < y.2.1):=by
 rw [List.pairwise_append]
 refine⟨h.so,List.pairwise_singleton _ _,fun x hx y hy=>?_⟩
 rw [List.mem_singleton.1 hy]
 rcases h.ei x hx with h1 | ⟨h1,b,hb,h2,h3⟩
 ·exact .inl h1
 ·refine .inr ⟨h1,?_⟩
  rw [←h3]
  exact List.pairwise_iff_getElem.1 ia b j hb hj h2
theorem ei' (h:SR st al n i j T kn E) (hj:j < al.length) (v:Int):∀x∈E ++ [((i:Int),al[j],v)],x.1 < (i:Int)∨(x.1=(i:Int)∧∃b,∃hb:b < al.length,b < j + 1∧al[b]=x.2.1):=fun x hx=>by
 rcases List.mem_append.1 hx with hx | hx
 ·rcases h.ei x hx with h1 | ⟨h1,b,hb,h2,h3⟩
  ·exact .inl h1
  ·exact .inr ⟨h1,b,hb,by omega,h3⟩
 ·rw [List.mem_singleton.1 hx]
  exact .inr ⟨rfl,j,hj,by omega,rfl⟩
theorem ea' (h:SR st al n i j T kn E) (hj:j < al.length) (v:Int):∀x∈E ++ [((i:Int),al[j],v)],x.2.1∈al:=fun x hx=>by
 rcases List.mem_append.1 hx with hx | hx
 ·exact h.ea x hx
 ·rw [List.mem_singleton.1 hx]
  exact List.getElem_mem hj
theorem edge (h:SR st al n i j T kn E) (ia:Inc al) (hj:j < al.length) {s v:Int} {q:Nat} (ht:T[i]? =some s) (hs:st s al[j]=some v) (hq:T[q]? =some v):SR st al n i (j + 1) T kn (E ++ [((i:Int),al[j],(q:Int))]):=
 ⟨h.f.edge ht (yGe hj) hs hq,h.k1,h.k2,h.nd,h.tr,h.pw ia hj _,h.ei' hj _,h.ea' hj _,by have:=h.el;simp;omega⟩
theorem new (h:SR st al n i j T kn E) (ia:Inc al) (hj:j < al.length) {s v:Int} (ht:T[i]? =some s) (hs:st s al[j]=some v) (hk:kget kn v=none) (v0:0≤v) (v1:v < (n:Int)):SR st al n i (j + 1) (T ++ [v]) (kput kn v (T.length:Int)) (E ++ [((i:Int),al[j],(T.length:Int))]):=by
 have hi:=(List.getElem?_eq_some_iff.1 ht).1
 refine⟨h.f.new hi ht (yGe hj) hs,fun s' w hw=>?_,fun s' hs'=>?_,?_,fun s' hs'=>?_,h.pw ia hj _,h.ei' hj _,h.ea' hj _,by have:=h.el;simp;omega⟩
 ·rw [y3m] at hw
  split at hw
  ·rename_i e
   subst e
   cases hw
   exact⟨T.length,rfl,by rw [List.getElem?_append_right (Nat.le_refl _)];simp⟩
  ·obtain ⟨q,h1,h2⟩:=h.k1 s' w hw
   exact⟨q,h1,by rw [List.getElem?_append_left (List.getElem?_eq_some_iff.1 h2).1,h2]⟩
 ·rw [y3m]
  split
  ·rfl
  ·rename_i e
   rcases List.mem_append.1 hs' with hs' | hs'
   ·exact h.k2 s' hs'
   ·exact absurd (List.mem_singleton.1 hs') e
 ·unfold List.Nodup
  rw [List.pairwise_append]
  refine⟨h.nd,List.pairwise_singleton _ _,fun a ha b hb e=>?_⟩
  rw [List.mem_singleton.1 hb] at e
  subst e
  have:=h.k2 a ha
  rw [hk] at this
  cases this
 ·rcases List.mem_append.1 hs' with hs' | hs'
  ·exact h.tr s' hs'
  ·rw [List.mem_singleton.1 hs']
   exact⟨v0,v1⟩
end SR
section
variable {q:ProbT} {t:TaskT} {p:AutT} {T:List (List Int)} {n1 n2 n:Nat}
theorem yeC (h:TaskOk q t p T n1 n2 n) {l M X:List Int} {i:Nat} {kn:List (Int×Int)} {E:List (Int×Int×Int)} (hS:SR (stR p t.2.2.2.2.1 l) p.1 n i 0 X kn E) (hi:i < X.length):
  ∃kn' X' E',iter (y1u t p.1 ((i:Int),X,kn,M,E) (chz p l X[i])) (0,X,kn,E)=some (X',kn',E')∧SR (stR p t.2.2.2.2.1 l) p.1 n (i + 1) 0 X' kn' E'∧∃U,X'=X ++ U:=by
 obtain⟨ui,ul,um⟩:=h.uni
 have hpr:=h.loop.right
 have hle:=h.loop.le
 have hal:p.1.length≤32:=Alp.len ⟨hpr.ali,hpr.alr⟩
 obtain⟨o,h1,h2,h3⟩:=yb (f:=y1u t p.1 ((i:Int),X,kn,M,E) (chz p l X[i])) (fun j s=>s.1=(j:Int)∧SR (stR p t.2.2.2.2.1 l) p.1 n i j s.2.1 s.2.2.1 s.2.2.2∧s.2.1[i]? =some X[i]∧∃U,s.2.1=X ++ U) (fun o=>SR (stR p t.2.2.2.2.1 l) p.1 n (i + 1) 0 o.1 o.2.1 o.2.2∧∃U,o.1=X ++ U) p.1.length 0 (by omega) (fun j s hj ⟨e1,g1,g2,g3⟩=>by
   obtain⟨c,Y,k',F⟩:=s
   dsimp only at e1 g1 g2 g3
   subst e1
   have hYl:=g1.len
   have hFl:=g1.el
   left
   rw [y1u]
   dsimp only
   rw [if_pos (ct_lt hj),ya hj,yOb,y5L,g2,yOb,to_eq h.g3,yOb]
   have hskip:stR p t.2.2.2.2.1 l X[i] p.1[j]=none→∃s',yK ((j:Int),Y,k',F) Y k' F=some (.inl s')∧s'.1=((j + 1:Nat):Int)∧SR (stR p t.2.2.2.2.1 l) p.1 n i (j + 1) s'.2.1 s'.2.2.1 s'.2.2.2∧s'.2.1[i]? =some X[i]∧∃U,s'.2.1=X ++ U:=fun hn=>by
    rw [yK]
    dsimp only
    rw [nxt (by omega)]
    exact⟨_,rfl,rfl,g1.skip g2 (yGe hj) hn,g2,g3⟩
   cases hs:st1 p X[i] p.1[j] with
   | none=>
    rw [if_pos (by rfl),yOb,if_pos rfl]
    refine hskip ?_
    unfold stR
    rw [hs]
    split <;> rfl
   | some v=>
    have hv:=y4M hpr hs
    dsimp only [Option.getD_some]
    rw [if_neg (by simp;omega)]
    have hb:((if (p.1[j] != chz p l X[i])=true then(yx t.2.2.2.2.1 p.1[j]).bind fun r=>some (!r) else some false).bind fun b=>some b)=some (!(p.1[j] == chz p l X[i] || hasB t.2.2.2.2.1 p.1[j])):=by
     rw [y3A (by omega) ui,yOb]
     by_cases hc:p.1[j]=chz p l X[i]
     ·rw [if_neg (by simp [hc]),yOb]
      simp [hc]
     ·rw [if_pos (by simp [hc]),yOb]
      simp [hc]
    rw [hb,yOb]
    by_cases ha:(p.1[j] == chz p l X[i] || hasB t.2.2.2.2.1 p.1[j])=true
    ·have hst:stR p t.2.2.2.2.1 l X[i] p.1[j]=some v:=by
      unfold stR
      rw [if_pos ha,hs]
     rw [ha,if_neg (by simp)]
     by_cases hk:(kget k' v).isSome=true
     case neg=>
      have hk:kget k' v=none:=by simpa using hk
      have hYi:i < Y.length:=(List.getElem?_eq_some_iff.1 g2).1
      obtain⟨U,hU⟩:=g3
      rw [if_pos (by rw [hk];rfl),yl (by simp;omega),yOb,y1t]
      dsimp only
      rw [y3m,if_pos rfl,yl (by simp;omega),yOb,yK]
      dsimp only [Option.getD_some]
      rw [nxt (by omega)]
      refine⟨_,rfl,rfl,g1.new hpr.ali hj g2 hst hk hv.2.2.1 hv.2.2.2.1,?_,U ++ [v],by dsimp only;rw [hU,List.append_assoc]⟩
      dsimp only
      rw [List.getElem?_append_left (by omega)]
      exact g2
     case pos=>
      obtain⟨w,hk⟩:=Option.isSome_iff_exists.1 hk
      have hYi:i < Y.length:=(List.getElem?_eq_some_iff.1 g2).1
      obtain⟨r,rfl,hr⟩:=g1.k1 v w hk
      rw [if_neg (by rw [hk];simp),y1t]
      dsimp only
      rw [hk,yl (by simp;omega),yOb,yK]
      dsimp only [Option.getD_some]
      rw [nxt (by omega)]
      exact⟨_,rfl,rfl,g1.edge hpr.ali hj g2 hst hr,g2,g3⟩
    ·rw [if_pos (by simpa using ha)]
     refine hskip ?_
     unfold stR
     rw [if_neg ha]) (fun s ⟨e1,g1,g2,g3⟩=>by
   obtain⟨c,Y,k',F⟩:=s
   dsimp only at e1 g1 g2 g3
   subst e1
   rw [y1u]
   dsimp only
   rw [if_neg ct_ge]
   exact⟨_,rfl,g1.next (Nat.le_refl _) hal,g3⟩) (Nat.zero_le _) (0,X,kn,E) ⟨rfl,hS,yGe hi,[],by simp⟩
 exact⟨o.2.1,o.1,o.2.2,h1,h2,h3⟩
structure ResOk (p:AutT) (u l:List Int) (r:AutT) (X:List Int):Prop where
 right:Right r X.length
 al:r.1=p.1
 le:X.length≤4000
 zero:X.length=0↔p.2.1=0
 x0:0 < X.length→X[0]? =some 0
 disc:Disc (stR p u l) p.1 X r.2.2.2
 mkd:∀(i:Nat) (s:Int),X[i]? =some s→((i:Int)∈r.2.2.1↔s∈p.2.2.1)
theorem yas (h:TaskOk q t p T n1 n2 n) (l:List Int) (hl:l.length≤1000000):∃g r X,y2d t l=some g∧GrOk g r∧ResOk p t.2.2.2.2.1 l r X:=by
 have hpr:=h.loop.right
 have hle:=h.loop.le
 have hal:p.1.length≤32:=Alp.len ⟨hpr.ali,hpr.alr⟩
 have hp2:=hpr.l2
 have main:∀X0 kn0,SR (stR p t.2.2.2.2.1 l) p.1 n 0 0 X0 kn0 []→X0.length≤1→(X0.length=0↔n=0)→(0 < X0.length→X0[0]? =some 0)→∃g r X,y1x t l p.1 X0 kn0=some g∧GrOk g r∧ResOk p t.2.2.2.2.1 l r X:=fun X0 kn0 hS0 hX0 hz hx0=>by
  obtain⟨o,h1,kn,h2,h3,h4,h5,h6,h7⟩:=yb (f:=y1w t l p.1) (fun i s=>s.1=(i:Int)∧i≤s.2.1.length∧SR (stR p t.2.2.2.2.1 l) p.1 n i 0 s.2.1 s.2.2.1 s.2.2.2.2∧Inc s.2.2.2.1∧(∀x∈s.2.2.2.1,0≤x∧x < (i:Int))∧(s.2.1.length=0↔n=0)∧(0 < s.2.1.length→s.2.1[0]? =some 0)∧∀(a:Nat) (x:Int),a < i→s.2.1[a]? =some x→((a:Int)∈s.2.2.2.1↔x∈p.2.2.1)) (fun o=>∃kn,SR (stR p t.2.2.2.2.1 l) p.1 n o.1.length 0 o.1 kn o.2.2∧Inc o.2.1∧(∀x∈o.2.1,0≤x∧x < (o.1.length:Int))∧(o.1.length=0↔n=0)∧(0 < o.1.length→o.1[0]? =some 0)∧∀(a:Nat) (x:Int),o.1[a]? =some x→((a:Int)∈o.2.1↔x∈p.2.2.1)) n 0 (by omega) (fun i s hi ⟨e1,g0,g1,g2,g3,g4,g5,g6⟩=>by
    obtain⟨c,X,kn,M,E⟩:=s
    dsimp only at e1 g0 g1 g2 g3 g4 g5 g6
    subst e1
    have hXl:=g1.len
    have hMl:=y3C (n:=i) (lo:=0) g2 g3 (Int.le_refl _)
    by_cases hix:i < X.length
    ·left
     obtain⟨kn',X',E',k1,k2,U,k3⟩:=yeC h (l:=l) (M:=M) g1 hix
     have hpre:∀a,a < X.length→X'[a]? =X[a]? :=fun a ha=>by rw [k3,List.getElem?_append_left ha]
     have hXX:X.length≤X'.length:=by rw [k3];simp
     have hj2:∀M':List Int,Inc M'→(∀x∈M',0≤x∧x < ((i + 1:Nat):Int))→(∀x:Int,x≠(i:Int)→(x∈M'↔x∈M))→((i:Int)∈M'↔X[i]∈p.2.2.1)→∃s',y1v t l p.1 ((i:Int),X,kn,M,E) M'=some (.inl s')∧s'.1=((i + 1:Nat):Int)∧i + 1≤s'.2.1.length∧SR (stR p t.2.2.2.2.1 l) p.1 n (i + 1) 0 s'.2.1 s'.2.2.1 s'.2.2.2.2∧Inc s'.2.2.2.1∧(∀x∈s'.2.2.2.1,0≤x∧x < ((i + 1:Nat):Int))∧(s'.2.1.length=0↔n=0)∧(0 < s'.2.1.length→s'.2.1[0]? =some 0)∧∀(a:Nat) (x:Int),a < i + 1→s'.2.1[a]? =some x→((a:Int)∈s'.2.2.2.1↔x∈p.2.2.1):=fun M' m1 m2 m3 m4=>by
      rw [y1v]
      dsimp only
      rw [ya hix,yOb,ycH h _ hl,yOb,k1,yOb]
      dsimp only
      rw [nxt (by omega)]
      refine⟨_,rfl,rfl,by dsimp only;omega,k2,m1,m2,by dsimp only;omega,fun _=>?_,fun a x ha hx=>?_⟩
      ·dsimp only
       rw [hpre 0 (by omega)]
       exact g5 (by omega)
      ·dsimp only at hx ⊢
       rw [hpre a (by omega)] at hx
       by_cases e:a=i
       ·subst e
        rw [yGe hix] at hx
        cases hx
        exact m4
       ·rw [m3 _ (by omega)]
        exact g6 a x (by omega) hx
     rw [y1w]
     dsimp only
     rw [if_pos (ct_lt hix),ya hix,yOb,h.g3.1,y3A (by omega) hpr.msi,yOb]
     cases hm:hasB p.2.2.1 X[i]
     ·rw [if_neg (by simp)]
      refine hj2 M g2 (fun x hx=>by have:=g3 x hx;omega) (fun x _=>Iff.rfl) ⟨fun hx=>by have:=g3 _ hx;omega,fun hx=>?_⟩
      rw [yc.2 hx] at hm
      cases hm
     ·rw [if_pos rfl,yl (by simp;omega),yOb]
      refine hj2 _ ?_ (fun x hx=>?_) (fun x hx=>?_) ⟨fun _=>yc.1 hm,fun _=>List.mem_append_right _ (List.mem_singleton.2 rfl)⟩
      ·unfold Inc at g2 ⊢
       rw [List.pairwise_append]
       exact⟨g2,List.pairwise_singleton _ _,fun a ha b hb=>by rw [List.mem_singleton.1 hb];exact(g3 a ha).2⟩
      ·rcases List.mem_append.1 hx with hx | hx
       ·have:=g3 x hx;omega
       ·rw [List.mem_singleton.1 hx];omega
      ·rw [List.mem_append,List.mem_singleton]
       exact⟨fun h=>h.resolve_right hx,.inl⟩
    ·right
     obtain rfl:i=X.length:=by omega
     rw [y1w]
     dsimp only
     rw [if_neg ct_ge]
     exact⟨_,rfl,kn,g1,g2,g3,g4,g5,fun a x hx=>g6 a x (List.getElem?_eq_some_iff.1 hx).1 hx⟩) (fun s ⟨e1,g0,g1,g2,g3,g4,g5,g6⟩=>by
    obtain⟨c,X,kn,M,E⟩:=s
    dsimp only at e1 g0 g1 g2 g3 g4 g5 g6
    subst e1
    have hXl:=g1.len
    have hX:n=X.length:=by omega
    rw [y1w]
    dsimp only
    rw [if_neg (by simp;omega)]
    exact⟨_,rfl,kn,by rw [←hX];exact hX ▸ g1,g2,by rw [←hX];exact g3,g4,g5,fun a x hx=>g6 a x (by have h8:a < X.length:=(List.getElem?_eq_some_iff.1 hx).1;omega) hx⟩) (Nat.zero_le _) (0,X0,kn0,[],[]) ⟨rfl,Nat.zero_le _,hS0,List.Pairwise.nil,fun x hx=>(by cases hx),hz,hx0,fun a x ha=>by omega⟩
  obtain⟨X,M,E⟩:=o
  dsimp only at h2 h3 h4 h5 h6 h7
  have hXl:=h2.len
  have hEl:=h2.el
  have hMl:=y3C (n:=X.length) (lo:=0) h3 h4 (Int.le_refl _)
  have hR:Right (p.1,(X.length:Int),M,E) X.length:=by
   refine⟨rfl,by omega,hpr.ali,hpr.alr,h3,h4,fun x hx=>?_,h2.so,by dsimp only;omega,by dsimp only;omega,by dsimp only;omega⟩
   obtain⟨a,b,s,r,q1,q2,q3,q4,q5⟩:=h2.f.sn x hx
   have e3:=(List.getElem?_eq_some_iff.1 q3).1
   have e4:=(List.getElem?_eq_some_iff.1 q4).1
   exact⟨by omega,by omega,by omega,by omega,h2.ea x hx⟩
  obtain⟨oo,i1,i2⟩:=y8f hR
  refine⟨((p.1,(X.length:Int),M,E),oo),(p.1,(X.length:Int),M,E),X,?_,⟨rfl,i2⟩,hR,rfl,by omega,?_,h6,h2.f.disc h2.nd h2.so h2.ea hpr.alr,h7⟩
  ·rw [y1x,h1,yOb]
   dsimp only
   rw [i1,yOb]
  ·rw [h5]
   have:=hpr.nn
   omega
 rw [y2d,h.g3.1,y5K (by omega),yOb,hpr.nn]
 by_cases h0:n=0
 ·rw [if_neg (by simp;omega)]
  exact main [] [] ⟨Fnd.start (by simp),fun s v hv=>(by cases hv),fun s hs=>(by cases hs),List.nodup_nil,fun s hs=>(by cases hs),List.Pairwise.nil,fun x hx=>(by cases hx),fun x hx=>(by cases hx),by simp⟩ (by simp) (by simp [h0]) (fun h=>by simp at h)
 ·rw [if_pos (by simp;omega),yl (by simp),yOb]
  refine main [0] _ ⟨Fnd.start (by simp),fun s v hv=>?_,fun s hs=>?_,by simp,fun s hs=>?_,List.Pairwise.nil,fun x hx=>(by cases hx),fun x hx=>(by cases hx),by simp⟩ (by simp) (by simp [h0]) (fun _=>rfl)
  ·rw [y3m] at hv
   split at hv
   ·rename_i e
    subst e
    cases hv
    exact⟨0,rfl,rfl⟩
   ·cases hv
  ·rw [List.mem_singleton.1 hs,y3m,if_pos rfl]
   rfl
  ·rw [List.mem_singleton.1 hs]
   omega
end
theorem yee :y3V=some true:=by kernel_rfl
structure CanOf (st:Int→Int→Option Int) (al ms:List Int) (r:AutT) (X:List Int):Prop where
 right:Right r X.length
 ale:r.1=al
 x0:0 < X.length→X[0]? =some 0
 disc:Disc st al X r.2.2.2
 mkd:∀(i:Nat) (s:Int),X[i]? =some s→((i:Int)∈r.2.2.1↔s∈ms)
theorem ResOk.can {p:AutT} {u l:List Int} {r:AutT} {X:List Int} (h:ResOk p u l r X):CanOf (stR p u l) p.1 p.2.2.1 r X:=⟨h.right,h.al,h.x0,h.disc,h.mkd⟩
theorem SR.skips {st:Int→Int→Option Int} {al:List Int} {n i j:Nat} {T:List Int} {kn:List (Int×Int)} {E:List (Int×Int×Int)} (h:SR st al n i j T kn E) {s:Int} (ht:T[i]? =some s):∀(b:Nat),j≤b→b≤al.length→(∀c (hc:c < al.length),j≤c→c < b→st s al[c]=none)→SR st al n i b T kn E
 | 0,hj,_,_=>by
  obtain rfl:j=0:=by omega
  exact h
 | b + 1,hj,hb,hn=>by
  by_cases e:j=b + 1
  ·subst e;exact h
  ·have hb2:b < al.length:=by omega
   exact(h.skips ht b (by omega) (by omega) fun c hc h1 h2=>hn c hc h1 (by omega)).skip ht (yGe hb2) (hn b hb2 (by omega) (by omega))
theorem y6h {S R:Type} {f:S→Option (S ⊕ (Unit ⊕ R))} (mk:Int→S) (n:Nat) (hn:n≤4000000) (b:Nat→Bool) (r:Nat→R) (step:∀i,i < n→f (mk (i:Int))=if b i=true then some (.inr (.inr (r i))) else some (.inl (mk ((i + 1:Nat):Int)))) (last:f (mk (n:Int))=some (.inr (.inl ()))):
  ∃o,iter f (mk 0)=some o∧((o= .inl ()∧∀i,i < n→b i=false)∨∃i,i < n∧o= .inr (r i)∧b i=true∧∀j,j < i→b j=false):=by
 refine yb (f:=f) (fun i s=>s=mk (i:Int)∧∀j,j < i→b j=false) _ n 0 (by omega) (fun i s hi ⟨e1,g1⟩=>?_) (fun s ⟨e1,g1⟩=>?_) (Nat.zero_le _) (mk 0) ⟨rfl,fun j hj=>absurd hj (by omega)⟩
 ·subst e1
  rw [step i hi]
  cases hb:b i with
  | true=>exact .inr ⟨_,rfl,.inr ⟨i,hi,rfl,hb,g1⟩⟩
  | false=>
   refine .inl ⟨_,by rw [if_neg (by simp)],rfl,fun j hj=>?_⟩
   by_cases e:j=i
   ·rw [e];exact hb
   ·exact g1 j (by omega)
 ·subst e1
  exact⟨_,last,.inl ⟨rfl,g1⟩⟩
theorem y9s (p:Int):∃ev,yW p=some ev∧Inc ev∧(∀x∈ev,0≤x∧x < 5)∧ev.length≤5:=by
 obtain⟨o,h1,h2⟩:=yb (f:=y1A p) (fun i s=>s.1=(i:Int)∧Inc s.2∧(∀x∈s.2,0≤x∧x < (i:Int))∧s.2.length≤i) (fun o=>Inc o∧(∀x∈o,0≤x∧x < 5)∧o.length≤5) 5 0 (by omega) (fun i s hi ⟨e1,e2,e3,e4⟩=>by
   obtain⟨s1,s2⟩:=s
   dsimp only at e1 e2 e3 e4
   subst e1
   have hj:∀l:List Int,yZ ((i:Int),s2) l=some (.inl (((i + 1:Nat):Int),l)):=fun l=>by
    rw [yZ];dsimp only;rw [nxt (by omega)]
   left
   rw [y1A]
   dsimp only
   rw [if_pos (by simp;omega),show ng (i:Int)=some () from if_neg (by omega),yOb]
   split
   ·rw [yl (by simp;omega),yOb,hj]
    refine⟨_,rfl,rfl,?_,fun x hx=>?_,by simp;omega⟩
    ·unfold Inc at e2 ⊢
     rw [List.pairwise_append]
     exact⟨e2,List.pairwise_singleton ..,fun a ha b hb=>by rw [List.mem_singleton.1 hb];exact(e3 a ha).2⟩
    ·dsimp only at hx
     rcases List.mem_append.1 hx with h | h
     ·have:=e3 x h;omega
     ·rw [List.mem_singleton.1 h];omega
   ·rw [hj]
    exact⟨_,rfl,rfl,e2,fun x hx=>by have:=e3 x hx;omega,by dsimp only;omega⟩) (fun s ⟨e1,e2,e3,e4⟩=>by
   obtain⟨s1,s2⟩:=s
   dsimp only at e1 e2 e3 e4
   subst e1
   refine⟨s2,?_,e2,e3,e4⟩
   rw [y1A]
   dsimp only
   rw [if_neg (by simp)]) (by omega) (0,[]) ⟨rfl,List.Pairwise.nil,fun x hx=>(by cases hx),by simp⟩
 exact⟨o,by rw [yW,h1];rfl,h2⟩
theorem yan {xs:List Int} (h:xs.length≤1000000):y1K xs=some (xs,0,[],[]):=by
 rw [y1K,yl (by simp;omega)];rfl
theorem ybJ {xs:List Int} {x:Int} (hl:xs.length≤1000000):y2Q xs x=some (hasB xs x):=by
 obtain⟨o,h1,h2⟩:=y6h (f:=y2T xs x) (fun i=>i) xs.length (by omega) (fun i=>xs[i]? == some x) (fun _=>()) (fun i hi=>by
  rw [y2T]
  rw [if_pos (ct_lt hi),ya hi,yOb,nxt (by omega),yGe hi]
  by_cases e:xs[i]=x
  ·rw [if_pos (by simpa using e),if_pos (by simpa using e)]
  ·rw [if_neg (by simpa using e),if_neg (by simpa using e)]) (by
  rw [y2T]
  rw [if_neg ct_ge])
 rw [y2Q,h1,yOb]
 rcases h2 with ⟨rfl,h3⟩ | ⟨i,hi,rfl,h3,h4⟩
 ·have:hasB xs x=false:=by
   rw [←Bool.not_eq_true,yc]
   intro hm
   obtain⟨k,hk,e⟩:=List.getElem_of_mem hm
   have:=h3 k hk
   rw [yGe hk,e] at this
   simp at this
  rw [this]
 ·have:hasB xs x=true:=by
   rw [yc]
   rw [yGe hi] at h3
   have h3:xs[i]=x:=by simpa using h3
   exact h3 ▸ List.getElem_mem hi
  rw [this]
theorem ycI {xs:List Int} {x:Int} (hl:xs.length≤1000000) (hm:x∈xs):∃k:Nat,y3f xs x=some (k:Int)∧xs[k]? =some x:=by
 obtain⟨o,h1,h2⟩:=y6h (f:=y2x xs x) (fun i=>i) xs.length (by omega) (fun i=>xs[i]? == some x) (fun i=>(i:Int)) (fun i hi=>by
  rw [y2x]
  rw [if_pos (ct_lt hi),ya hi,yOb,nxt (by omega),yGe hi]
  by_cases e:xs[i]=x
  ·rw [if_pos (by simpa using e),if_pos (by simpa using e)]
  ·rw [if_neg (by simpa using e),if_neg (by simpa using e)]) (by
  rw [y2x]
  rw [if_neg ct_ge])
 rw [y3f,h1,yOb]
 rcases h2 with ⟨rfl,h3⟩ | ⟨i,hi,rfl,h3,h4⟩
 ·exfalso
  obtain⟨k,hk,e⟩:=List.getElem_of_mem hm
  have:=h3 k hk
  rw [yGe hk,e] at this
  simp at this
 ·exact ⟨i,rfl,by simpa using h3⟩
theorem yaU {a:AutT} {s e:Int} (h:∀x∈a.2.2.2,¬(x.1=s∧x.2.1=e)):st1 a s e=none:=by
 unfold st1
 rw [Option.map_eq_none_iff,List.find?_eq_none]
 intro x hx
 have:=h x hx
 simpa using this
theorem yaV {a:AutT} {n:Nat} (hr:Right a n) (s e:Int):y2E a s e=some ((st1 a s e).getD (-1)):=by
 have hl:=hr.l3
 obtain⟨o,h1,h2⟩:=y6h (f:=y2J a s e) (fun i=>i) a.2.2.2.length (by omega) (fun i=>match a.2.2.2[i]? with | some x=>x.1 == s && x.2.1 == e | none=>false) (fun i=>(a.2.2.2.getD i (0,0,0)).2.2) (fun i hi=>by
  rw [y2J]
  rw [if_pos (ct_lt hi),ya hi,yOb,nxt (by omega),yGe hi,List.getD_eq_getElem?_getD,yGe hi]
  dsimp only [Option.getD_some]
  by_cases e1:a.2.2.2[i].1=s
  ·rw [if_pos (by simpa using e1),yOb,yOb,yOb]
   by_cases e2:a.2.2.2[i].2.1=e
   ·rw [if_pos (by simpa using e2),if_pos (by simp [e1,e2])]
   ·rw [if_neg (by simpa using e2),if_neg (by simp [e2])]
  ·rw [if_neg (by simpa using e1),yOb,if_neg (by simp),if_neg (by simp [e1])]) (by
  rw [y2J]
  rw [if_neg ct_ge])
 rw [y2E,h1,yOb]
 rcases h2 with ⟨rfl,h3⟩ | ⟨i,hi,rfl,h3,h4⟩
 ·rw [yaU fun x hx hxx=>?_]
  ·rfl
  ·obtain ⟨k,hk,e'⟩:=List.getElem_of_mem hx
   have:=h3 k hk
   rw [yGe hk,e'] at this
   simp [hxx.1,hxx.2] at this
 ·rw [yGe hi] at h3
  have h3:a.2.2.2[i].1=s∧a.2.2.2[i].2.1=e:=by simpa using h3
  have:st1 a s e=some a.2.2.2[i].2.2:=by
   rw [y4B hr,←h3.1,←h3.2]
   exact List.getElem_mem hi
  rw [this,List.getD_eq_getElem?_getD,yGe hi]
  rfl
section
variable {a:AutT} {n:Nat}
theorem ydv (hr:Right a n) (hal:a.1.length≤32) {i:Nat} {y:List Int} {X:List Int} {kn:List (Int×Int)} {E:List (Int×Int×Int)} (hS:SR (st1 a) a.1 n i 0 X kn E) (hi:i < X.length):
  ∃kn' X' E',iter (y1M a ((i:Int),y)) (0,X)=some X'∧SR (st1 a) a.1 n (i + 1) 0 X' kn' E'∧∃U,X'=X ++ U:=by
 have hnl:=hr.nl
 obtain⟨o,h1,kn',E',hS',hU⟩:=yb (f:=y1M a ((i:Int),y)) (fun j s=>s.1=(j:Int)∧∃kn E,SR (st1 a) a.1 n i j s.2 kn E∧∃U,s.2=X ++ U) (fun o=>∃kn E,SR (st1 a) a.1 n (i + 1) 0 o kn E∧∃U,o=X ++ U) a.1.length 0 (by omega) (fun j s hj ⟨e1,kn1,E1,hS1,U,hU⟩=>by
   obtain⟨c,X1⟩:=s
   dsimp only at e1 hS1 hU
   subst e1
   have hX1:=hS1.len
   have hi1:i < X1.length:=by rw [hU,List.length_append];omega
   have hj2:∀l:List Int,y1L ((j:Int),X1) l=some (.inl (((j + 1:Nat):Int),l)):=fun l=>by
    rw [y1L];dsimp only;rw [nxt (by omega)]
   left
   rw [y1M]
   dsimp only
   rw [if_pos (ct_lt hj),ya hi1,yOb,ya hj,yOb,yaV hr,yOb]
   cases hst:st1 a X1[i] a.1[j] with
   | none=>
    rw [Option.getD_none,if_neg (by simp),yOb,if_neg (by simp),hj2]
    exact⟨_,rfl,rfl,kn1,E1,hS1.skip (yGe hi1) (yGe hj) hst,U,hU⟩
   | some t=>
    have ht:=y4M hr hst
    rw [Option.getD_some,if_pos (by simp;omega),ybJ (by omega),yOb,yOb]
    by_cases hm:t∈X1
    ·obtain ⟨q,hq⟩:=List.getElem?_of_mem hm
     rw [yc.2 hm,if_neg (by simp),hj2]
     exact⟨_,rfl,rfl,kn1,_,hS1.edge hr.ali hj (yGe hi1) hst hq,U,hU⟩
    ·have hb:hasB X1 t=false:=by rw [←Bool.not_eq_true,yc];exact hm
     rw [hb,if_pos (by simp),yl (by simp;omega),yOb,hj2]
     have hk:kget kn1 t=none:=by
      cases hk:kget kn1 t with
      | none=>rfl
      | some v=>
       obtain⟨q,_,hq⟩:=hS1.k1 _ _ hk
       exact absurd (List.mem_of_getElem? hq) hm
     exact⟨_,rfl,rfl,_,_,hS1.new hr.ali hj (yGe hi1) hst hk ht.2.2.1 ht.2.2.2.1,U ++ [t],by dsimp only;rw [hU,List.append_assoc]⟩) (fun s ⟨e1,kn1,E1,hS1,hU⟩=>by
   obtain⟨c,X1⟩:=s
   dsimp only at e1 hS1 hU
   subst e1
   rw [y1M]
   dsimp only
   rw [if_neg ct_ge]
   exact⟨_,rfl,kn1,E1,hS1.next (Nat.le_refl _) hal,hU⟩) (Nat.zero_le _) (0,X) ⟨rfl,kn,E,hS,[],(List.append_nil _).symm⟩
 exact⟨kn',o,E',h1,hS',hU⟩
theorem ydw (hr:Right a n) (h0:0 < n):∃X kn E,y3e a=some X∧SR (st1 a) a.1 n X.length 0 X kn E∧X[0]? =some 0:=by
 have hnl:=hr.nl
 have hal:a.1.length≤32:=Alp.len ⟨hr.ali,hr.alr⟩
 have hS0:SR (st1 a) a.1 n 0 0 [0] (kput [] 0 0) []:=by
  refine⟨Fnd.start (by simp),fun s v hv=>?_,fun s hs=>?_,by simp,fun s hs=>?_,List.Pairwise.nil,fun x hx=>(by cases hx),fun x hx=>(by cases hx),by simp⟩
  ·rw [y3m] at hv
   split at hv
   ·rename_i e
    subst e
    cases hv
    exact⟨0,rfl,rfl⟩
   ·cases hv
  ·rw [List.mem_singleton.1 hs,y3m,if_pos rfl]
   rfl
  ·rw [List.mem_singleton.1 hs]
   omega
 obtain⟨o,h1,kn,E,h2,h3⟩:=yb (f:=y1N a) (fun i s=>s.1=(i:Int)∧i≤s.2.length∧∃kn E,SR (st1 a) a.1 n i 0 s.2 kn E∧s.2[0]? =some 0) (fun o=>∃kn E,SR (st1 a) a.1 n o.length 0 o kn E∧o[0]? =some 0) n 0 (by omega) (fun i s hi ⟨e1,hle,kn,E,hS,x0⟩=>by
   obtain⟨c,X⟩:=s
   dsimp only at e1 hle hS x0
   subst e1
   have hXl:=hS.len
   rw [y1N]
   dsimp only
   by_cases hix:i < X.length
   ·left
    obtain⟨kn',X',E',w1,w2,U,hU⟩:=ydv hr hal (y:=X) hS hix
    rw [if_pos (ct_lt hix),w1,yOb,nxt (by omega)]
    exact⟨_,rfl,rfl,by dsimp only;rw [hU,List.length_append];omega,kn',E',w2,by dsimp only;rw [hU,List.getElem?_append_left (by omega)];exact x0⟩
   ·right
    obtain rfl:i=X.length:=by omega
    rw [if_neg ct_ge]
    exact⟨_,rfl,kn,E,hS,x0⟩) (fun s ⟨e1,hle,kn,E,hS,x0⟩=>by
   obtain⟨c,X⟩:=s
   dsimp only at e1 hle hS x0
   subst e1
   have hXl:=hS.len
   have hX:n=X.length:=by omega
   rw [y1N]
   dsimp only
   rw [if_neg (by simp;omega)]
   exact⟨_,rfl,kn,E,by rw [←hX];exact hX ▸ hS,x0⟩) (Nat.zero_le _) (0,[0]) ⟨rfl,by simp,kput [] 0 0,[],hS0,rfl⟩
 refine⟨o,kn,E,?_,h2,h3⟩
 rw [y3e,if_pos (by rw [hr.nn];simp;omega),yl (by simp),yOb,y2w,show iter (y1N a) (0,([]:List Int) ++ [0])=some o from h1]
 rfl
structure EL (st:Int→Int→Option Int) (al X:List Int) (i j:Nat) (E:List (Int×Int×Int)):Prop where
 so:E.Pairwise fun x y=>x.1 < y.1∨(x.1=y.1∧x.2.1 < y.2.1)
 ei:∀x∈E,x.1 < (i:Int)∨(x.1=(i:Int)∧∃b,∃hb:b < al.length,b < j∧al[b]=x.2.1)
 sn:∀x∈E,∃(a q:Nat) (t r:Int),x.1=(a:Int)∧x.2.2=(q:Int)∧X[a]? =some t∧X[q]? =some r∧x.2.1∈al∧st t x.2.1=some r
 ed:∀(a b:Nat) (t e r:Int),(a < i∨(a=i∧b < j))→X[a]? =some t→al[b]? =some e→st t e=some r→∃q:Nat,((a:Int),e,(q:Int))∈E∧X[q]? =some r
 el:E.length≤32 * i + j
theorem EL.skip {st:Int→Int→Option Int} {al X:List Int} {i j:Nat} {E:List (Int×Int×Int)} (h:EL st al X i j E) {s e:Int} (ht:X[i]? =some s) (he:al[j]? =some e) (hs:st s e=none):EL st al X i (j + 1) E:=by
 refine⟨h.so,fun x hx=>?_,h.sn,fun a b t' e' r hab ha hb hst=>?_,by have:=h.el;omega⟩
 ·rcases h.ei x hx with h1 | ⟨h1,b,hb,h2,h3⟩
  ·exact .inl h1
  ·exact .inr ⟨h1,b,hb,by omega,h3⟩
 ·by_cases hx:a=i∧b=j
  ·obtain ⟨rfl,rfl⟩:=hx
   rw [ht] at ha
   rw [he] at hb
   cases ha
   cases hb
   rw [hs] at hst
   cases hst
  ·exact h.ed a b t' e' r (by omega) ha hb hst
theorem EL.edge {st:Int→Int→Option Int} {al X:List Int} {i j:Nat} {E:List (Int×Int×Int)} (h:EL st al X i j E) (ia:Inc al) (hj:j < al.length) {s v:Int} {q:Nat} (ht:X[i]? =some s) (hs:st s al[j]=some v) (hq:X[q]? =some v):EL st al X i (j + 1) (E ++ [((i:Int),al[j],(q:Int))]):=by
 refine⟨?_,fun x hx=>?_,fun x hx=>?_,fun a b t' e' r hab ha hb hst=>?_,by have:=h.el;rw [List.length_append,List.length_singleton];omega⟩
 ·rw [List.pairwise_append]
  refine⟨h.so,List.pairwise_singleton _ _,fun x hx y hy=>?_⟩
  rw [List.mem_singleton.1 hy]
  rcases h.ei x hx with h1 | ⟨h1,b,hb,h2,h3⟩
  ·exact .inl h1
  ·refine .inr ⟨h1,?_⟩
   rw [←h3]
   exact List.pairwise_iff_getElem.1 ia b j hb hj h2
 ·rcases List.mem_append.1 hx with hx | hx
  ·rcases h.ei x hx with h1 | ⟨h1,b,hb,h2,h3⟩
   ·exact .inl h1
   ·exact .inr ⟨h1,b,hb,by omega,h3⟩
  ·rw [List.mem_singleton.1 hx]
   exact .inr ⟨rfl,j,hj,by omega,rfl⟩
 ·rcases List.mem_append.1 hx with hx | hx
  ·exact h.sn x hx
  ·rw [List.mem_singleton.1 hx]
   exact⟨i,q,s,v,rfl,rfl,ht,hq,List.getElem_mem hj,hs⟩
 ·by_cases hx:a=i∧b=j
  ·obtain ⟨rfl,rfl⟩:=hx
   rw [ht] at ha
   rw [yGe hj] at hb
   cases ha
   cases hb
   rw [hs] at hst
   cases hst
   exact⟨q,List.mem_append_right _ (List.mem_singleton.2 rfl),hq⟩
  ·obtain ⟨q',g1,g2⟩:=h.ed a b t' e' r (by omega) ha hb hst
   exact⟨q',List.mem_append_left _ g1,g2⟩
theorem EL.next {st:Int→Int→Option Int} {al X:List Int} {i j:Nat} {E:List (Int×Int×Int)} (h:EL st al X i j E) (hj:al.length≤j) (hj2:j≤32):EL st al X (i + 1) 0 E:=
 ⟨h.so,fun x hx=>by
  rcases h.ei x hx with h1 | ⟨h1,_⟩
  ·exact .inl (by omega)
  ·exact .inl (by omega),h.sn,fun a b t e r hab ha hb hst=>h.ed a b t e r (by have:=(List.getElem?_eq_some_iff.1 hb).1;omega) ha hb hst,by have:=h.el;omega⟩
theorem ycJ (hr:Right a n) (hal:a.1.length≤32) {X:List Int} {kn:List (Int×Int)} {E0:List (Int×Int×Int)} (hS:SR (st1 a) a.1 n X.length 0 X kn E0) {i:Nat} (hi:i < X.length) {ms:List Int} {y E:List (Int×Int×Int)} (hE:EL (st1 a) a.1 X i 0 E):
  ∃E',iter (y1d a X ((i:Int),ms,y)) (0,E)=some E'∧EL (st1 a) a.1 X (i + 1) 0 E':=by
 have hnl:=hr.nl
 have hXl:=hS.len
 refine yb (f:=y1d a X ((i:Int),ms,y)) (fun j s=>s.1=(j:Int)∧EL (st1 a) a.1 X i j s.2) (fun o=>EL (st1 a) a.1 X (i + 1) 0 o) a.1.length 0 (by omega) (fun j s hj ⟨e1,hE1⟩=>?_) (fun s ⟨e1,hE1⟩=>?_) (Nat.zero_le _) (0,E) ⟨rfl,hE⟩
 ·obtain ⟨c,E1⟩:=s
  dsimp only at e1 hE1
  subst e1
  have hel:=hE1.el
  have hj2:∀l:List (Int×Int×Int),y1c ((j:Int),E1) l=some (.inl (((j + 1:Nat):Int),l)):=fun l=>by
   rw [y1c];dsimp only;rw [nxt (by omega)]
  left
  rw [y1d]
  dsimp only
  rw [if_pos (ct_lt hj),ya hi,yOb,ya hj,yOb,yaV hr,yOb]
  cases hst:st1 a X[i] a.1[j] with
  | none=>
   rw [Option.getD_none,if_neg (by simp),hj2]
   exact⟨_,rfl,rfl,hE1.skip (yGe hi) (yGe hj) hst⟩
  | some t=>
   have ht:=y4M hr hst
   obtain⟨q,_,hq⟩:=hS.f.ed i j X[i] a.1[j] t (.inl hi) (yGe hi) (yGe hj) hst
   obtain⟨k,hk,hk2⟩:=ycI (xs:=X) (x:=t) (by omega) (List.mem_of_getElem? hq)
   rw [Option.getD_some,if_pos (by simp;omega),yOb,hk,yOb,yl (by simp;omega),yOb,hj2]
   exact⟨_,rfl,rfl,hE1.edge hr.ali hj (yGe hi) hst hk2⟩
 ·obtain ⟨c,E1⟩:=s
  dsimp only at e1 hE1
  subst e1
  rw [y1d]
  dsimp only
  rw [if_neg ct_ge]
  exact⟨_,rfl,hE1.next (Nat.le_refl _) hal⟩
theorem ycK (hr:Right a n) (h0:0 < n):∃r X,y2m a=some r∧CanOf (st1 a) a.1 a.2.2.1 r X∧0 < X.length∧X.length≤n:=by
 have hnl:=hr.nl
 have hl1:=hr.l1
 have hl2:=hr.l2
 have hal:a.1.length≤32:=Alp.len ⟨hr.ali,hr.alr⟩
 obtain⟨X,kn,E0,hf,hS,x0⟩:=ydw hr h0
 have hXl:=hS.len
 have hX0:0 < X.length:=(List.getElem?_eq_some_iff.1 x0).1
 obtain⟨o,h1,hE,m1,m2,mk⟩:=yb (f:=y1O a X) (fun i s=>s.1=(i:Int)∧i≤X.length∧EL (st1 a) a.1 X i 0 s.2.2∧Inc s.2.1∧(∀x∈s.2.1,0≤x∧x < (i:Int))∧∀(c:Nat) (x:Int),c < i→X[c]? =some x→((c:Int)∈s.2.1↔x∈a.2.2.1))
   (fun o=>EL (st1 a) a.1 X X.length 0 o.2∧Inc o.1∧(∀x∈o.1,0≤x∧x < (X.length:Int))∧∀(c:Nat) (x:Int),X[c]? =some x→((c:Int)∈o.1↔x∈a.2.2.1)) X.length 0 (by omega) (fun i s hi ⟨e1,_,hE,m1,m2,mk⟩=>by
   obtain⟨c,M,E⟩:=s
   dsimp only at e1 hE m1 m2 mk
   subst e1
   have hMl:=y3C (n:=i) (lo:=0) m1 m2 (Int.le_refl _)
   have hj1:∀M':List Int,Inc M'→(∀x∈M',0≤x∧x < ((i + 1:Nat):Int))→(∀x:Int,x≠(i:Int)→(x∈M'↔x∈M))→((i:Int)∈M'↔X[i]∈a.2.2.1)→
     ∃s',y1e a X ((i:Int),M,E) M'=some (.inl s')∧s'.1=((i + 1:Nat):Int)∧i + 1≤X.length∧EL (st1 a) a.1 X (i + 1) 0 s'.2.2∧Inc s'.2.1∧(∀x∈s'.2.1,0≤x∧x < ((i + 1:Nat):Int))∧∀(c:Nat) (x:Int),c < i + 1→X[c]? =some x→((c:Int)∈s'.2.1↔x∈a.2.2.1):=fun M' q1 q2 q3 q4=>by
    obtain⟨E',w1,w2⟩:=ycJ hr hal hS hi (ms:=M) (y:=E) hE
    rw [y1e]
    dsimp only
    rw [w1,yOb,nxt (by omega)]
    refine⟨_,rfl,rfl,hi,w2,q1,q2,fun c x hc hx=>?_⟩
    dsimp only
    by_cases e:c=i
    ·subst e
     rw [yGe hi] at hx
     cases hx
     exact q4
    ·rw [q3 _ (by omega)]
     exact mk c x (by omega) hx
   left
   rw [y1O]
   dsimp only
   rw [if_pos (ct_lt hi),ya hi,yOb,ybJ (by omega),yOb]
   cases hm:hasB a.2.2.1 X[i] with
   | true=>
    rw [if_pos rfl,yl (by simp;omega),yOb]
    refine hj1 _ ?_ (fun x hx=>?_) (fun x hx=>?_) ⟨fun _=>yc.1 hm,fun _=>List.mem_append_right _ (List.mem_singleton.2 rfl)⟩
    ·unfold Inc at m1 ⊢
     rw [List.pairwise_append]
     exact⟨m1,List.pairwise_singleton _ _,fun c hc b hb=>by rw [List.mem_singleton.1 hb];exact(m2 c hc).2⟩
    ·rcases List.mem_append.1 hx with hx | hx
     ·have:=m2 x hx;omega
     ·rw [List.mem_singleton.1 hx];omega
    ·rw [List.mem_append,List.mem_singleton]
     exact⟨fun h=>h.resolve_right hx,.inl⟩
   | false=>
    rw [if_neg (by simp)]
    refine hj1 M m1 (fun x hx=>by have:=m2 x hx;omega) (fun x _=>Iff.rfl) ⟨fun hx=>by have:=m2 _ hx;omega,fun hx=>?_⟩
    rw [yc.2 hx] at hm
    cases hm) (fun s ⟨e1,_,hE,m1,m2,mk⟩=>by
   obtain⟨c,M,E⟩:=s
   dsimp only at e1 hE m1 m2 mk
   subst e1
   rw [y1O]
   dsimp only
   rw [if_neg ct_ge]
   exact⟨_,rfl,hE,m1,m2,fun c x hx=>mk c x (List.getElem?_eq_some_iff.1 hx).1 hx⟩) (Nat.zero_le _) (0,[],[]) ⟨rfl,Nat.zero_le _,⟨List.Pairwise.nil,fun x hx=>(by cases hx),fun x hx=>(by cases hx),fun a b t e r hab=>by omega,by simp⟩,List.Pairwise.nil,fun x hx=>(by cases hx),fun c x hc=>absurd hc (Nat.not_lt_zero _)⟩
 obtain⟨M,E⟩:=o
 dsimp only at hE m1 m2 mk
 have hMl:=y3C (n:=X.length) (lo:=0) m1 m2 (Int.le_refl _)
 have hD:=hS.f.disc hS.nd hS.so hS.ea hr.alr
 have hEE:E=E0:=y8e (lt:=fun x y=>x.1 < y.1∨(x.1=y.1∧x.2.1 < y.2.1)) (fun a b h1 h2=>by omega) hE.so hD.so fun x=>by
  have same:∀{a q q':Nat} {t r r':Int},X[a]? =some t→X[q]? =some r→X[q']? =some r→q=q':=fun {a q q' t r r'} _ h1 h2=>by
   have e1:=(List.getElem?_eq_some_iff.1 h1).2
   have e2:=(List.getElem?_eq_some_iff.1 h2).2
   exact(List.getElem_inj hS.nd).1 (e1.trans e2.symm)
  constructor
  ·intro hx
   obtain⟨c,q,t,r,g1,g2,g3,g4,g5,g6⟩:=hE.sn x hx
   obtain⟨q',k1,k2⟩:=hD.ed c t x.2.1 r g3 g5 g6
   have:=same (r':=r) g3 g4 k2
   subst this
   rw [←g1,←g2] at k1
   exact k1
  ·intro hx
   obtain⟨c,q,t,r,g1,g2,g3,g4,g5,g6⟩:=hD.sn x hx
   obtain⟨b,hb,hbe⟩:=List.getElem_of_mem g5
   obtain⟨q',k1,k2⟩:=hE.ed c b t x.2.1 r (.inl (List.getElem?_eq_some_iff.1 g3).1) g3 (by rw [yGe hb,hbe]) g6
   have:=same (r':=r) g3 g4 k2
   subst this
   rw [←g1,←g2] at k1
   exact k1
 subst hEE
 have hEl:=hE.el
 refine⟨(a.1,(X.length:Int),M,E),X,?_,⟨⟨rfl,by omega,hr.ali,hr.alr,m1,m2,fun x hx=>?_,hE.so,hl1,by dsimp only;omega,by dsimp only;omega⟩,rfl,fun _=>x0,hD,mk⟩,hX0,hXl⟩
 ·rw [y2m,hf,yOb,yan (by omega),yOb,h1]
  rfl
 ·obtain ⟨c,q,t,r,g1,g2,g3,g4,g5,_⟩:=hE.sn x hx
  have e3:=(List.getElem?_eq_some_iff.1 g3).1
  have e4:=(List.getElem?_eq_some_iff.1 g4).1
  exact⟨by omega,by omega,by omega,by omega,g5⟩
end
abbrev Row5 :=Int×Int×Int×Int×Int
def y8Q (g:Row5×Row5×Row5×Row5×Row5):List Int:=
 [g.1.1,g.1.2.1,g.1.2.2.1,g.1.2.2.2.1,g.1.2.2.2.2,g.2.1.1,g.2.1.2.1,g.2.1.2.2.1,g.2.1.2.2.2.1,g.2.1.2.2.2.2,g.2.2.1.1,g.2.2.1.2.1,g.2.2.1.2.2.1,g.2.2.1.2.2.2.1,g.2.2.1.2.2.2.2,g.2.2.2.1.1,g.2.2.2.1.2.1,g.2.2.2.1.2.2.1,g.2.2.2.1.2.2.2.1,g.2.2.2.1.2.2.2.2,g.2.2.2.2.1,g.2.2.2.2.2.1,g.2.2.2.2.2.2.1,g.2.2.2.2.2.2.2.1,g.2.2.2.2.2.2.2.2]
structure GrIn (g:y1Y):Prop where
 s:0≤g.1∧g.1 < 256
 c:∀y∈y8Q g.2.2,0≤y∧y < 256
structure MG (ev:List Int) (n i j:Nat) (E:List (Int×Int×Int)):Prop where
 er:∀x∈E,0≤x.1∧x.1≤(i:Int)∧x.2.1∈ev∧0≤x.2.2∧x.2.2 < (n:Int)
 es:∀x∈E,x.1=(i:Int)→∃b,∃hb:b < ev.length,b < j∧ev[b]=x.2.1
 so:E.Pairwise fun x y=>x.1 < y.1∨(x.1=y.1∧x.2.1 < y.2.1)
 el:E.length≤5 * i + j
theorem MG.push {ev:List Int} {n i j:Nat} {E:List (Int×Int×Int)} {q:Int} (h:MG ev n i j E) (ie:Inc ev) (hj:j < ev.length) (h0:0≤q) (h1:q < (n:Int)):MG ev n i (j + 1) (E ++ [((i:Int),ev[j],q)]):=by
 refine⟨fun x hx=>?_,fun x hx e=>?_,?_,by have:=h.el;rw [List.length_append,List.length_singleton];omega⟩
 ·rcases List.mem_append.1 hx with hx | hx
  ·exact h.er x hx
  ·rw [List.mem_singleton.1 hx];exact⟨by dsimp only;omega,by dsimp only;omega,List.getElem_mem hj,h0,h1⟩
 ·rcases List.mem_append.1 hx with hx | hx
  ·obtain ⟨b,hb,h2,h3⟩:=h.es x hx e
   exact⟨b,hb,by omega,h3⟩
  ·rw [List.mem_singleton.1 hx];exact⟨j,hj,by omega,rfl⟩
 ·rw [List.pairwise_append]
  refine⟨h.so,List.pairwise_singleton _ _,fun a ha b hb=>?_⟩
  rw [List.mem_singleton.1 hb]
  have h2:=h.er a ha
  by_cases e:a.1=(i:Int)
  ·obtain ⟨b,hb,h3,h4⟩:=h.es a ha e
   refine .inr ⟨e,?_⟩
   rw [←h4]
   exact List.pairwise_iff_getElem.1 ie b j hb hj h3
  ·exact .inl (by dsimp only;omega)
theorem MG.skip {ev:List Int} {n i j:Nat} {E:List (Int×Int×Int)} (h:MG ev n i j E):MG ev n i (j + 1) E:=⟨h.er,fun x hx e=>by
 obtain⟨b,hb,h2,h3⟩:=h.es x hx e
 exact⟨b,hb,by omega,h3⟩,h.so,by have:=h.el;omega⟩
theorem MG.next {ev:List Int} {n i j:Nat} {E:List (Int×Int×Int)} (h:MG ev n i j E) (hj:j≤5):MG ev n (i + 1) 0 E:=⟨fun x hx=>by
 have:=h.er x hx
 exact⟨this.1,by omega,this.2.2⟩,fun x hx e=>by have:=h.er x hx;omega,h.so,by have:=h.el;omega⟩
theorem yaW {ev:List Int} (ie:Inc ev) (he:∀x∈ev,0≤x∧x < 32) (hel:ev.length≤5) {g:y1Y} (hg:GrIn g):∃r n,y2F ev g=some r∧Right r n∧n≤5∧r.1=ev:=by
 obtain⟨s,m,c⟩:=g
 obtain⟨hs,hc⟩:=hg
 dsimp only at hs hc
 rw [y2F,yan (by omega)]
 dsimp only
 by_cases h250:s≥250
 ·rw [if_pos (by simpa using h250),yOb]
  exact⟨_,0,rfl,⟨rfl,by omega,ie,he,List.Pairwise.nil,fun x hx=>(by cases hx),fun x hx=>(by cases hx),List.Pairwise.nil,by dsimp only;omega,by simp,by simp⟩,by omega,rfl⟩
 rw [if_neg (by simpa using h250),yOb]
 obtain⟨n,hn0,hn5,hn⟩:∃n:Nat,0 < n∧n≤5∧W (1 + W (s.tmod 5))=(n:Int):=by
  refine⟨(1 + s % 5).toNat,by omega,by omega,?_⟩
  rw [Int.tmod_eq_emod_of_nonneg hs.1,W_of (x:=s % 5) (by omega) (by omega),W_of (by omega) (by omega)]
  omega
 have hn2:W ((n:Int) + 2)=((n + 2:Nat):Int):=by rw [show (n:Int) + 2=((n + 2:Nat):Int) by omega,W_nat (by omega)]
 rw [hn]
 obtain⟨o,h1,m1,m2,hM⟩:=yb (f:=y2L ev (s,m,c)) (fun i t=>t.1=(i:Int)∧Inc t.2.1∧(∀x∈t.2.1,0≤x∧x < (i:Int))∧MG ev n i 0 t.2.2) (fun o=>Inc o.1∧(∀x∈o.1,0≤x∧x < (n:Int))∧MG ev n n 0 o.2) n 0 (by omega) (fun i t hi ⟨e1,m1,m2,hM⟩=>by
   obtain⟨t1,t2,t3⟩:=t
   dsimp only at e1 m1 m2 hM
   subst e1
   have hMl:=y3C (n:=i) (lo:=0) m1 m2 (Int.le_refl _)
   have hj:∀l:List Int,Inc l→(∀x∈l,0≤x∧x < ((i + 1:Nat):Int))→∃s',y1W ev (s,m,c) ((i:Int),t2,t3) l=some (.inl s')∧s'.1=((i + 1:Nat):Int)∧Inc s'.2.1∧(∀x∈s'.2.1,0≤x∧x < ((i + 1:Nat):Int))∧MG ev n (i + 1) 0 s'.2.2:=by
    intro l hl1 hl2
    obtain⟨o,h1,h2⟩:=yb (f:=y2K ev (s,m,c) ((i:Int),t2,t3)) (fun k t=>t.1=(k:Int)∧MG ev n i k t.2) (fun o=>MG ev n i ev.length o) ev.length 0 (by omega) (fun k t hk ⟨g1,g2⟩=>by
      obtain⟨u1,u2⟩:=t
      dsimp only at g1 g2
      subst g1
      have hel2:=g2.el
      have hj2:∀l:List (Int×Int×Int),y1V ((k:Int),u2) l=some (.inl (((k + 1:Nat):Int),l)):=fun l=>by
       rw [y1V];dsimp only;rw [nxt (by omega)]
      left
      have hlt:i * 5 + k * 1 < (y8Q c).length:=by show _ < 25;omega
      obtain⟨v,hcell,hv⟩:∃v,(y8Q c)[i * 5 + k * 1]? =some v∧0≤v∧v < 256:=⟨_,yGe hlt,hc _ (List.getElem_mem hlt)⟩
      rw [y8Q] at hcell
      rw [y2K]
      dsimp only
      rw [if_pos (by simp;omega),show rng (i:Int) 5=some () from if_pos (by simp;omega),yOb,show rng (k:Int) 5=some () from if_pos (by simp;omega),yOb,Int.toNat_natCast,Int.toNat_natCast,hcell,yOb,hn,hn2,show nz ((n + 2:Nat):Int)=some () from if_neg (by omega),yOb,W_of (x:=v) (by omega) (by omega),Int.tmod_eq_emod_of_nonneg hv.1]
      have hm0:=Int.emod_nonneg v (show ((n + 2:Nat):Int)≠0 by omega)
      by_cases hlt2:v % ((n + 2:Nat):Int) < (n:Int)
      ·rw [if_pos (decide_eq_true hlt2),ya hk,yOb,yl (by rw [List.length_cons,List.length_nil];omega),yOb,hj2]
       exact⟨_,rfl,rfl,g2.push ie hk hm0 hlt2⟩
      ·rw [if_neg (by simpa using hlt2),hj2]
       exact⟨_,rfl,rfl,g2.skip⟩) (fun t ⟨g1,g2⟩=>by
      obtain⟨u1,u2⟩:=t
      dsimp only at g1 g2
      subst g1
      rw [y2K]
      dsimp only
      rw [if_neg (by simp)]
      exact⟨_,rfl,g2⟩) (Nat.zero_le _) (0,t3) ⟨rfl,hM⟩
    rw [y1W]
    dsimp only
    rw [h1,yOb,nxt (by omega)]
    exact⟨_,rfl,rfl,hl1,hl2,h2.next hel⟩
   left
   rw [y2L]
   dsimp only
   rw [hn,if_pos (by simp;omega),show ng (i:Int)=some () from if_neg (by omega),yOb]
   split
   ·rw [yl (by simp;omega),yOb]
    refine hj _ ?_ (fun x hx=>?_)
    ·unfold Inc at m1 ⊢
     rw [List.pairwise_append]
     exact⟨m1,List.pairwise_singleton _ _,fun c hc b hb=>by rw [List.mem_singleton.1 hb];exact(m2 c hc).2⟩
    ·rcases List.mem_append.1 hx with hx | hx
     ·have:=m2 x hx;omega
     ·rw [List.mem_singleton.1 hx];omega
   ·exact hj _ m1 (fun x hx=>by have:=m2 x hx;omega)) (fun t ⟨e1,m1,m2,hM⟩=>by
   obtain⟨t1,t2,t3⟩:=t
   dsimp only at e1 m1 m2 hM
   subst e1
   rw [y2L]
   dsimp only
   rw [hn,if_neg (by simp)]
   exact⟨_,rfl,m1,m2,hM⟩) (Nat.zero_le _) (0,[],[]) ⟨rfl,List.Pairwise.nil,fun x hx=>(by cases hx),⟨fun x hx=>(by cases hx),fun x hx=>(by cases hx),List.Pairwise.nil,by simp⟩⟩
 obtain⟨M,E⟩:=o
 dsimp only at m1 m2 hM
 have hMl:=y3C (n:=n) (lo:=0) m1 m2 (Int.le_refl _)
 have hel2:=hM.el
 have hR:Right (ev,(n:Int),M,E) n:=⟨rfl,by omega,ie,he,m1,m2,fun x hx=>by
  have h:=hM.er x hx
  refine⟨h.1,?_,h.2.2.2.1,h.2.2.2.2,h.2.2.1⟩
  by_cases e:x.1=(n:Int)
  ·obtain ⟨b,_,hb,_⟩:=hM.es x hx e
   omega
  ·omega,hM.so,by dsimp only;omega,by dsimp only;omega,by dsimp only;omega⟩
 obtain⟨r,X,hc1,hc2,hc3,hc4⟩:=ycK hR hn0
 rw [h1,yOb,hc1,yOb]
 exact⟨r,X.length,rfl,hc2.right,by omega,hc2.ale⟩
structure PbOk (q:ProbT) (n1 n2:Nat):Prop where
 rP:Right q.1 n1
 rS:Right q.2.1 n2
 l1:n1≤40
 l2:n2≤40
 sub:∀x∈q.2.1.1,x∈q.1.1
 iu:Inc q.2.2
 ur:∀x∈q.2.2,0≤x∧x < 32
theorem PbOk.open {q:ProbT} {n1 n2:Nat} (h:PbOk q n1 n2):∃t p T n1 n2 n,y2S q=some (some t,0)∧TaskOk q t p T n1 n2 n∧yk [q.1,q.2.1]=some (p,T,0):=by
 have hu:=Alp.len ⟨h.iu,h.ur⟩
 refine ycE ⟨h.rP.l1,h.rP.l2,h.rP.l3,h.rS.l1,h.rS.l2,h.rS.l3,by omega⟩ ?_ (by rw [h.rP.nn];have:=h.l1;omega) (by rw [h.rS.nn];have:=h.l2;omega)
 have hm:mg (fun a b=>a && !b) q.2.1.1 q.1.1= []:=List.eq_nil_iff_forall_not_mem.2 fun x hx=>by
  rw [(y3n (fun a b=>a && !b) q.2.1.1 q.1.1 h.rS.ali h.rP.ali).2] at hx
  obtain⟨_,h2⟩:=hx
  rw [Bool.and_eq_true,yc] at h2
  have:=yc.2 (h.sub x h2.1)
  rw [this] at h2
  simp at h2
 unfold errP
 rw [h.rP.err,h.rS.err,hm,if_neg (by simp),if_neg (by simp),if_neg (by simp)]
 exact y5S h.iu h.ur (fun q hq=>by cases hq)
abbrev PartT :=Int×y1Y
abbrev Des26 :=PartT×PartT×Int
structure Des26In (d:Des26):Prop where
 g1:GrIn d.1.2
 g2:GrIn d.2.1.2
theorem ycL {d:Des26} (hd:Des26In d):∃q n1 n2,y3r d=some q∧PbOk q n1 n2∧n1≤5∧n2≤5∧∀x∈q.1.1,0≤x∧x < 5:=by
 obtain⟨e1,a1,i1,r1,z1⟩:=y9s d.1.1
 obtain⟨P,n1,b1,R1,s1,t1⟩:=yaW i1 (fun x hx=>by have:=r1 x hx;omega) z1 hd.g1
 obtain⟨e2,a2,i2,r2,z2⟩:=y9s d.2.1.1
 have hsp:=y3n (fun a b=>a && b) e2 P.1 i2 R1.ali
 have hmem:∀x,x∈mg (fun a b=>a && b) e2 P.1→x∈e2∧x∈P.1:=fun x hx=>by
  have:=(hsp.2 x).1 hx
  simp only [Bool.and_eq_true] at this
  exact⟨yc.1 this.2.1,yc.1 this.2.2⟩
 have hl:=y3C (n:=5) (lo:=0) hsp.1 (fun x hx=>r2 x (hmem x hx).1) (Int.le_refl _)
 obtain⟨S,n2,b2,R2,s2,t2⟩:=yaW hsp.1 (fun x hx=>by have:=r2 x (hmem x hx).1;omega) (by omega) hd.g2
 obtain⟨e3,a3,i3,r3,z3⟩:=y9s d.2.2
 refine⟨(P,S,e3),n1,n2,?_,⟨R1,R2,by omega,by omega,fun x hx=>?_,i3,fun x hx=>by have:=r3 x hx;omega⟩,s1,s2,fun x hx=>?_⟩
 ·rw [y3r,a1,yOb,b1,yOb,a2,yOb,yal (by omega) R1.l1,yOb,b2,yOb,a3]
  rfl
 ·dsimp only at hx
  rw [t2] at hx
  exact(hmem x hx).2
 ·dsimp only at hx
  rw [t1] at hx
  exact r1 x hx
def stK (a:AutT) (g:List Bool) (s e:Int):Option Int:=(st1 a s e).filter fun t=>g.getD t.toNat false
theorem y9t {a:AutT} {n:Nat} (hr:Right a n) {g:List Bool} {s e t:Int}:stK a g s e=some t↔(s,e,t)∈a.2.2.2∧g.getD t.toNat false=true:=by
 unfold stK
 rw [Option.filter_eq_some_iff,y4B hr]
theorem ydx {a:AutT} {n:Nat} (hr:Right a n) (hE32:a.1.length≤32) {g:List Bool} {i s:Nat} {X:List Int} {kn:List (Int×Int)} {E:List (Int×Int×Int)} (hS:SR (stK a g) a.1 n i 0 X kn E) (hi:X[i]? =some (s:Int)) (M:List Int) {os:List (Int×Int×Int)} (hos:os=a.2.2.2.filter fun x=>x.1 == (s:Int) && g.getD x.2.2.toNat false):
  ∃kn' X' E',iter (yE ((i:Int),X,kn,M,E) os) (0,X,kn,E)=some (X',kn',E')∧SR (stK a g) a.1 n (i + 1) 0 X' kn' E'∧∃U,X'=X ++ U:=by
 have hnl:=hr.nl
 have hl3:=hr.l3
 have hil:i < X.length:=(List.getElem?_eq_some_iff.1 hi).1
 have hmem:∀x∈os,x∈a.2.2.2∧x.1=(s:Int)∧g.getD x.2.2.toNat false=true:=fun x hx=>by
  rw [hos] at hx
  have:=List.mem_filter.1 hx
  rw [Bool.and_eq_true] at this
  exact⟨this.1,by simpa using this.2.1,this.2.2⟩
 have hso:os.Pairwise fun x y=>x.2.1 < y.2.1:=by
  have h:=hr.so.filter (fun x=>x.1 == (s:Int) && g.getD x.2.2.toNat false)
  rw [←hos] at h
  refine h.imp_of_mem fun {x y} hx hy hxy=>?_
  have:=(hmem x hx).2.1
  have:=(hmem y hy).2.1
  omega
 have hol:os.length≤1000000:=by rw [hos];exact Nat.le_trans (List.length_filter_le _ _) hl3
 have hin:∀{e t:Int},stK a g (s:Int) e=some t→((s:Int),e,t)∈os:=fun {e t} h=>by
  rw [hos]
  have:=(y9t hr).1 h
  exact List.mem_filter.2 ⟨this.1,by simp only [beq_self_eq_true,Bool.true_and];exact this.2⟩
 obtain⟨o,h1,j,hS',hU,hj,hlast⟩:=yb (f:=yE ((i:Int),X,kn,M,E) os)
  (fun k s'=>s'.1=(k:Int)∧k≤os.length∧∃j,SR (stK a g) a.1 n i j s'.2.1 s'.2.2.1 s'.2.2.2∧(∃U,s'.2.1=X ++ U)∧j≤a.1.length∧
   (∀c (hc:c < a.1.length),c < j→∀k' (hk:k' < os.length),k≤k'→os[k'].2.1≠a.1[c])∧∀k' (hk:k' < os.length),k' < k→∀c (hc:c < a.1.length),j≤c→os[k'].2.1≠a.1[c])
  (fun o=>∃j,SR (stK a g) a.1 n i j o.1 o.2.1 o.2.2∧(∃U,o.1=X ++ U)∧j≤a.1.length∧∀k' (hk:k' < os.length),∀c (hc:c < a.1.length),j≤c→os[k'].2.1≠a.1[c])
  os.length 0 (by omega) (fun k s' hk ⟨e1,_,j,hS',⟨U,hU⟩,hj,hlo,hhi⟩=>by
   obtain⟨c',X1,kn',E1⟩:=s'
   dsimp only at e1 hS' hU
   subst e1
   have hx:=hmem _ (List.getElem_mem hk)
   have hxe:=hr.es _ hx.1
   obtain⟨t,ht⟩:∃t:Nat,os[k].2.2=(t:Int):=⟨os[k].2.2.toNat,by omega⟩
   have htn:t < n:=by omega
   obtain⟨b,hb,hbe⟩:=List.getElem_of_mem hxe.2.2.2.2
   have hjb:j≤b:=Nat.le_of_not_lt fun hlt=>hlo b hb hlt k hk (Nat.le_refl _) hbe.symm
   have hiX:X1[i]? =some (s:Int):=by rw [hU,List.getElem?_append_left hil];exact hi
   have hstx:stK a g (s:Int) a.1[b]=some (t:Int):=by
    rw [y9t hr,hbe,←ht]
    refine⟨?_,hx.2.2⟩
    rw [←hx.2.1]
    exact hx.1
   have hSb:=hS'.skips hiX b hjb (by omega) fun c hc h1 h2=>by
    cases hst:stK a g (s:Int) a.1[c] with
    | none=>rfl
    | some v=>
     exfalso
     obtain⟨k',hk',e'⟩:=List.getElem_of_mem (hin hst)
     have ev:os[k'].2.1=a.1[c]:=by rw [e']
     have hcb:a.1[c] < a.1[b]:=List.pairwise_iff_getElem.1 hr.ali c b hc hb h2
     by_cases h3:k' < k
     ·exact hhi k' hk' h3 c hc h1 ev
     ·by_cases h4:k'=k
      ·subst h4;omega
      ·have:=List.pairwise_iff_getElem.1 hso k k' hk hk' (by omega)
       omega
   have hpos:∀(X2:List Int) (E2:List (Int×Int×Int)) (kn2:List (Int×Int)),SR (stK a g) a.1 n i (b + 1) X2 kn2 E2→(∃U,X2=X ++ U)→
     (∃j,SR (stK a g) a.1 n i j X2 kn2 E2∧(∃U,X2=X ++ U)∧j≤a.1.length∧
   (∀c (hc:c < a.1.length),c < j→∀k' (hk:k' < os.length),k + 1≤k'→os[k'].2.1≠a.1[c])∧∀k' (hk:k' < os.length),k' < k + 1→∀c (hc:c < a.1.length),j≤c→os[k'].2.1≠a.1[c]):=fun X2 E2 kn2 g1 g3=>by
    refine⟨b + 1,g1,g3,hb,fun c hc h1 k' hk' h2 e=>?_,fun k' hk' h2 c hc h1 e=>?_⟩
    ·have h5:=List.pairwise_iff_getElem.1 hso k k' hk hk' (by omega)
     by_cases h6:c=b
     ·subst h6;omega
     ·have:=List.pairwise_iff_getElem.1 hr.ali c b hc hb (by omega)
      omega
    ·have h5:=List.pairwise_iff_getElem.1 hr.ali b c hb hc (by omega)
     by_cases h6:k'=k
     ·subst h6;omega
     ·have:=List.pairwise_iff_getElem.1 hso k' k hk' hk (by omega)
      omega
   have hXl:=hSb.len
   have hEl:=hSb.el
   have hil2:i < n:=by have:=(List.getElem?_eq_some_iff.1 hiX).1;omega
   have hj2:∀(X2:List Int) (v:Int) (kn2:List (Int×Int)),yD ((i:Int),X,kn,M,E) os[k] ((k:Int),X1,kn',E1) X2 v kn2=some (.inl (((k + 1:Nat):Int),X2,kn2,E1 ++ [((i:Int),os[k].2.1,v)])):=fun X2 v kn2=>by
    rw [yD]
    dsimp only
    rw [yl (by simp;omega),yOb,nxt (by omega)]
   left
   rw [yE]
   dsimp only
   rw [if_pos (ct_lt hk),ya hk,yOb,ht]
   cases hkg:kget kn' (t:Int) with
   | none=>
    rw [if_pos (by simp),yl (by simp;omega),yOb,hj2]
    refine⟨_,rfl,rfl,hk,?_⟩
    dsimp only
    rw [←hbe]
    exact hpos _ _ _ (hSb.new hr.ali hb hiX hstx hkg (by omega) (by omega)) ⟨U ++ [(t:Int)],by rw [hU,List.append_assoc]⟩
   | some v=>
    obtain⟨q,hv,hq⟩:=hSb.k1 _ _ hkg
    subst hv
    rw [if_neg (by simp),hj2]
    refine⟨_,rfl,rfl,hk,?_⟩
    dsimp only
    rw [←hbe,Option.getD_some]
    exact hpos _ _ _ (hSb.edge hr.ali hb hiX hstx hq) ⟨U,hU⟩) (fun s' ⟨e1,_,j,hS',hU,hj,hlo,hhi⟩=>by
   obtain⟨c',X1,kn',E1⟩:=s'
   dsimp only at e1 hS' hU
   subst e1
   refine⟨(X1,kn',E1),?_,j,hS',hU,hj,fun k' hk' c hc hjc=>hhi k' hk' hk' c hc hjc⟩
   rw [yE]
   dsimp only
   rw [if_neg ct_ge]) (Nat.zero_le _) (0,X,kn,E) ⟨rfl,Nat.zero_le _,0,hS,⟨[],(List.append_nil _).symm⟩,Nat.zero_le _,fun c hc h=>absurd h (Nat.not_lt_zero _),fun k' hk' h=>absurd h (Nat.not_lt_zero _)⟩
 obtain⟨X',kn',E'⟩:=o
 obtain⟨U,hU⟩:=hU
 dsimp only at hS' hU
 have hiX:X'[i]? =some (s:Int):=by rw [hU,List.getElem?_append_left hil];exact hi
 have hSe:=hS'.skips hiX a.1.length hj (Nat.le_refl _) fun c hc h1 _=>by
  cases hst:stK a g (s:Int) a.1[c] with
  | none=>rfl
  | some v=>
   exfalso
   obtain⟨k',hk',e'⟩:=List.getElem_of_mem (hin hst)
   exact hlast k' hk' c hc h1 (by rw [e'])
 exact⟨kn',X',E',h1,hSe.next (Nat.le_refl _) hE32,U,hU⟩
theorem yc2 {a:AutT} {n:Nat} (hr:Right a n) {g:List Bool} (hg:g.length=n) (p:AutT×List Int×List (Int×List Int)×List Bool) (hp1:p.1=a) (hp2:p.2.2.2=g):
  ∃R:List EdgL,iter (yH p) (0,List.replicate n [])=some R∧R.length=n∧∀s:Nat,s < n→R[s]? =some (a.2.2.2.filter fun x=>x.1 == (s:Int) && g.getD x.2.2.toNat false):=by
 subst hp1 hp2
 have hl3:=hr.l3
 have hnl:=hr.nl
 obtain⟨R,h1,h2,h3⟩:=yb (f:=yH p) (fun i s=>s.1=(i:Int)∧i≤p.1.2.2.2.length∧s.2.length=n∧∀t:Nat,t < n→s.2[t]? =some ((p.1.2.2.2.take i).filter fun x=>x.1 == (t:Int) && p.2.2.2.getD x.2.2.toNat false))
  (fun R=>R.length=n∧∀t:Nat,t < n→R[t]? =some (p.1.2.2.2.filter fun x=>x.1 == (t:Int) && p.2.2.2.getD x.2.2.toNat false)) p.1.2.2.2.length 0 (by omega) (fun i s hi ⟨e1,_,hl,hR⟩=>by
   obtain⟨c,R⟩:=s
   dsimp only at e1 hl hR
   subst e1
   have hx:=hr.es _ (List.getElem_mem hi)
   obtain⟨q,hq⟩:∃q:Nat,(p.1.2.2.2[i]).1=(q:Int):=⟨(p.1.2.2.2[i]).1.toNat,by omega⟩
   obtain⟨t,ht⟩:∃t:Nat,(p.1.2.2.2[i]).2.2=(t:Int):=⟨(p.1.2.2.2[i]).2.2.toNat,by omega⟩
   have hqn:q < n:=by omega
   have htn:t < p.2.2.2.length:=by omega
   have hql:q < R.length:=by omega
   have hRq:R[q]=(p.1.2.2.2.take i).filter fun x=>x.1 == (q:Int) && p.2.2.2.getD x.2.2.toNat false:=by
    have:=hR q hqn
    rw [yGe hql] at this
    exact Option.some.inj this
   have hgt:p.2.2.2.getD (p.1.2.2.2[i]).2.2.toNat false=p.2.2.2[t]:=by
    rw [ht,Int.toNat_natCast,List.getD_eq_getElem?_getD,yGe htn,Option.getD_some]
   have htake:p.1.2.2.2.take (i + 1)=p.1.2.2.2.take i ++ [p.1.2.2.2[i]]:=by rw [List.take_add_one,yGe hi];rfl
   left
   rw [yH]
   dsimp only
   rw [if_pos (ct_lt hi),ya hi,yOb,ht,ya htn,yOb]
   cases hgb:p.2.2.2[t] with
   | true=>
    have hlen:R[q].length≤1000000:=by rw [hRq];exact Nat.le_trans (List.length_filter_le _ _) (Nat.le_trans (List.length_take_le _ _) (by omega))
    rw [if_pos rfl,hq,ya hql,yOb,yl (by simp;omega),yOb,yOb,y6z hql,yOb,yG]
    dsimp only
    rw [nxt (by omega)]
    refine⟨_,rfl,rfl,hi,by dsimp only;rw [List.length_set];exact hl,fun s' hs'=>?_⟩
    dsimp only
    rw [List.getElem?_set,htake,List.filter_append]
    by_cases e:q=s'
    ·subst e
     rw [if_pos rfl,if_pos hql,hRq,List.filter_cons_of_pos (by rw [hq,hgt,hgb];simp)]
     rfl
    ·rw [if_neg e,List.filter_cons_of_neg (by rw [hq];simp;omega),List.filter_nil,List.append_nil]
     exact hR s' hs'
   | false=>
    rw [if_neg (by simp),yG]
    dsimp only
    rw [nxt (by omega)]
    refine⟨_,rfl,rfl,hi,hl,fun s' hs'=>?_⟩
    dsimp only
    rw [htake,List.filter_append,List.filter_cons_of_neg (by rw [hgt,hgb];simp),List.filter_nil,List.append_nil]
    exact hR s' hs') (fun s ⟨e1,_,hl,hR⟩=>by
   obtain⟨c,R⟩:=s
   dsimp only at e1 hl hR
   subst e1
   refine⟨R,?_,hl,fun t ht=>by have:=hR t ht;rwa [List.take_length] at this⟩
   rw [yH]
   dsimp only
   rw [if_neg ct_ge]) (Nat.zero_le _) (0,List.replicate n []) ⟨rfl,Nat.zero_le _,by simp,fun t ht=>by simp [List.getElem?_replicate,ht]⟩
 exact⟨R,h1,h2,h3⟩
theorem ydy {a:AutT} {n:Nat} (hr:Right a n) {g:List Bool} (hg:g.length=n) (p:AutT×List Int×List (Int×List Int)×List Bool) (hp1:p.1=a) (hp2:p.2.2.2=g):
  ∃r X,y1p p=some (r,X)∧CanOf (stK a g) a.1 a.2.2.1 r X∧X.length≤n∧∀s∈X,0≤s∧s < (n:Int)∧g.getD s.toNat false=true:=by
 subst hp1 hp2
 have hnn:=hr.nn
 have hnl:=hr.nl
 have hl1:=hr.l1
 have hal:p.1.1.length≤32:=Alp.len ⟨hr.ali,hr.alr⟩
 have hcl:yS p.1.1=some p.1.1:=y5K (by omega)
 have hemp:∃r X,some ((p.1.1,(0:Int),([]:List Int),([]:List (Int×Int×Int))),([]:List Int))=some (r,X)∧CanOf (stK p.1 p.2.2.2) p.1.1 p.1.2.2.1 r X∧X.length≤n∧∀s∈X,0≤s∧s < (n:Int)∧p.2.2.2.getD s.toNat false=true:=
  ⟨_,[],rfl,⟨⟨rfl,by simp,hr.ali,hr.alr,List.Pairwise.nil,fun x hx=>(by cases hx),fun x hx=>(by cases hx),List.Pairwise.nil,hl1,by simp,by simp⟩,rfl,fun h=>absurd h (by simp),(Fnd.start (by simp)).disc List.nodup_nil List.Pairwise.nil (fun x hx=>(by cases hx)) hr.alr,fun i s hi=>by simp at hi⟩,by simp,fun s hs=>by cases hs⟩
 rw [y1p,hcl,yOb,hnn]
 by_cases h0:n=0
 ·subst h0
  rw [if_pos (by simp),yOb,if_pos rfl]
  exact hemp
 have hg0:0 < p.2.2.2.length:=by omega
 rw [if_neg (by simp;omega),show idx p.2.2.2 0=some p.2.2.2[0] from ya hg0,yOb,yOb]
 cases hb:p.2.2.2[0] with
 | false=>
  rw [if_pos (show (!false)=true from rfl)]
  exact hemp
 | true=>
 obtain⟨R,f1,f2,f3⟩:=yc2 hr hg p rfl rfl
 have hS0:SR (stK p.1 p.2.2.2) p.1.1 n 0 0 [0] (kput [] 0 0) []:=by
  refine⟨Fnd.start (by simp),fun s v hv=>?_,fun s hs=>?_,by simp,fun s hs=>?_,List.Pairwise.nil,fun x hx=>(by cases hx),fun x hx=>(by cases hx),by simp⟩
  ·rw [y3m] at hv
   split at hv
   ·rename_i e
    subst e
    cases hv
    exact⟨0,rfl,rfl⟩
   ·cases hv
  ·rw [List.mem_singleton.1 hs,y3m,if_pos rfl]
   rfl
  ·rw [List.mem_singleton.1 hs]
   omega
 obtain⟨o,g1,kn,g2,g3,g4,g5,g6⟩:=yb (f:=yF p R) (fun i s=>s.1=(i:Int)∧i≤s.2.1.length∧SR (stK p.1 p.2.2.2) p.1.1 n i 0 s.2.1 s.2.2.1 s.2.2.2.2∧Inc s.2.2.2.1∧(∀x∈s.2.2.2.1,0≤x∧x < (i:Int))∧s.2.1[0]? =some 0∧∀(c:Nat) (x:Int),c < i→s.2.1[c]? =some x→((c:Int)∈s.2.2.2.1↔x∈p.1.2.2.1))
  (fun o=>∃kn,SR (stK p.1 p.2.2.2) p.1.1 n o.1.length 0 o.1 kn o.2.2∧Inc o.2.1∧(∀x∈o.2.1,0≤x∧x < (o.1.length:Int))∧o.1[0]? =some 0∧∀(c:Nat) (x:Int),o.1[c]? =some x→((c:Int)∈o.2.1↔x∈p.1.2.2.1)) n 0 (by omega) (fun i s hi ⟨e1,hle,hS,m1,m2,x0,mk⟩=>by
   obtain⟨k,X,kn,M,E⟩:=s
   dsimp only at e1 hle hS m1 m2 x0 mk
   subst e1
   have hXl:=hS.len
   have hMl:=y3C (n:=i) (lo:=0) m1 m2 (Int.le_refl _)
   by_cases hiq:i < X.length
   ·left
    have hq:=hS.tr _ (List.getElem_mem hiq)
    obtain⟨s,hs⟩:∃s:Nat,X[i]=(s:Int):=⟨X[i].toNat,by omega⟩
    have hsn:s < n:=by omega
    have hsR:s < R.length:=by omega
    have hRs:R[s]=p.1.2.2.2.filter fun x=>x.1 == (s:Int) && p.2.2.2.getD x.2.2.toNat false:=by
     have:=f3 s hsn
     rw [yGe hsR] at this
     exact Option.some.inj this
    obtain⟨kn',X',E',w1,w2,U,hU⟩:=ydx hr hal hS (by rw [yGe hiq,hs]) M hRs
    have hpre:∀c,c < X.length→X'[c]? =X[c]? :=fun c hc=>by rw [hU,List.getElem?_append_left hc]
    have hXX:X.length≤X'.length:=by rw [hU];simp
    have hiX':i < X'.length:=by omega
    have hXi:X'[i]=(s:Int):=by
     have:=hpre i hiq
     rw [yGe hiq,yGe hiX',hs] at this
     exact Option.some.inj this
    have hml:p.1.2.2.1.length < 4611686018427387904:=by have:=hr.l2;omega
    have hj1:∀M':List Int,Inc M'→(∀x∈M',0≤x∧x < ((i + 1:Nat):Int))→(∀x:Int,x≠(i:Int)→(x∈M'↔x∈M))→((i:Int)∈M'↔(s:Int)∈p.1.2.2.1)→
      ∃s',yC ((i:Int),X,kn,M,E) X' kn' M' E'=some (.inl s')∧s'.1=((i + 1:Nat):Int)∧i + 1≤s'.2.1.length∧SR (stK p.1 p.2.2.2) p.1.1 n (i + 1) 0 s'.2.1 s'.2.2.1 s'.2.2.2.2∧Inc s'.2.2.2.1∧(∀x∈s'.2.2.2.1,0≤x∧x < ((i + 1:Nat):Int))∧s'.2.1[0]? =some 0∧∀(c:Nat) (x:Int),c < i + 1→s'.2.1[c]? =some x→((c:Int)∈s'.2.2.2.1↔x∈p.1.2.2.1):=fun M' q1 q2 q3 q4=>by
     rw [yC]
     dsimp only
     rw [nxt (by omega)]
     refine⟨_,rfl,rfl,by dsimp only;omega,w2,q1,q2,?_,fun c x hc hx=>?_⟩
     ·dsimp only
      rw [hpre 0 (by omega)]
      exact x0
     ·dsimp only at hx ⊢
      rw [hpre c (by omega)] at hx
      by_cases e:c=i
      ·subst e
       rw [yGe hiq,hs] at hx
       cases hx
       exact q4
      ·rw [q3 _ (by omega)]
       exact mk c x (by omega) hx
    rw [yF]
    dsimp only
    rw [if_pos (ct_lt hiq),ya hiq,yOb,hs,ya hsR,yOb,w1,yOb]
    dsimp only
    rw [ya hiX',yOb,hXi,y4V hml,yOb]
    cases hm:hasB p.1.2.2.1 (s:Int) with
    | true=>
     rw [if_pos rfl,yl (by simp;omega),yOb]
     refine hj1 _ ?_ (fun x hx=>?_) (fun x hx=>?_) ⟨fun _=>yc.1 hm,fun _=>List.mem_append_right _ (List.mem_singleton.2 rfl)⟩
     ·unfold Inc at m1 ⊢
      rw [List.pairwise_append]
      exact⟨m1,List.pairwise_singleton _ _,fun c hc b hb=>by rw [List.mem_singleton.1 hb];exact(m2 c hc).2⟩
     ·rcases List.mem_append.1 hx with hx | hx
      ·have:=m2 x hx;omega
      ·rw [List.mem_singleton.1 hx];omega
     ·rw [List.mem_append,List.mem_singleton]
      exact⟨fun h=>h.resolve_right hx,.inl⟩
    | false=>
     rw [if_neg (by simp)]
     refine hj1 M m1 (fun x hx=>by have:=m2 x hx;omega) (fun x _=>Iff.rfl) ⟨fun hx=>by have:=m2 _ hx;omega,fun hx=>?_⟩
     rw [yc.2 hx] at hm
     cases hm
   ·right
    obtain rfl:i=X.length:=by omega
    refine⟨(X,M,E),?_,kn,hS,m1,m2,x0,fun c x hx=>mk c x (List.getElem?_eq_some_iff.1 hx).1 hx⟩
    rw [yF]
    dsimp only
    rw [if_neg ct_ge]) (fun s ⟨e1,hle,hS,m1,m2,x0,mk⟩=>by
   obtain⟨k,X,kn,M,E⟩:=s
   dsimp only at e1 hle hS m1 m2 x0 mk
   subst e1
   have hXl:=hS.len
   have hnq:n=X.length:=by omega
   refine⟨(X,M,E),?_,kn,by dsimp only;rw [←hnq];exact hnq ▸ hS,m1,by dsimp only;rw [←hnq];exact m2,x0,fun c x hx=>mk c x (by have h8:c < X.length:=(List.getElem?_eq_some_iff.1 hx).1;omega) hx⟩
   rw [yF]
   dsimp only
   rw [if_neg (by simp;omega)]) (Nat.zero_le _) (0,[0],kput [] 0 0,[],[]) ⟨rfl,by simp,hS0,List.Pairwise.nil,fun x hx=>(by cases hx),rfl,fun c x hc=>absurd hc (Nat.not_lt_zero _)⟩
 obtain⟨X,M,E⟩:=o
 dsimp only at g2 g3 g4 g5 g6
 have hXl:=g2.len
 have hEl:=g2.el
 have hMl:=y3C (n:=X.length) (lo:=0) g3 g4 (Int.le_refl _)
 have hX0:0 < X.length:=(List.getElem?_eq_some_iff.1 g5).1
 refine⟨(p.1.1,(X.length:Int),M,E),X,?_,⟨⟨rfl,by omega,hr.ali,hr.alr,g3,g4,fun x hx=>?_,g2.so,hl1,by dsimp only;omega,by dsimp only;omega⟩,rfl,fun _=>g5,g2.f.disc g2.nd g2.so g2.ea hr.alr,g6⟩,hXl,fun s hs=>?_⟩
 ·rw [if_neg (by simp),y8u (by omega) (by omega),yOb,Int.toNat_natCast,f1,yOb,g1]
  rfl
 ·obtain ⟨c,b,s,r,q1,q2,q3,q4,q5⟩:=g2.f.sn x hx
  have e3:=(List.getElem?_eq_some_iff.1 q3).1
  have e4:=(List.getElem?_eq_some_iff.1 q4).1
  exact⟨by omega,by omega,by omega,by omega,g2.ea x hx⟩
 ·refine ⟨(g2.tr s hs).1,(g2.tr s hs).2,?_⟩
  obtain⟨k,hk,rfl⟩:=List.getElem_of_mem hs
  by_cases hk0:k=0
  ·subst hk0
   rw [yGe hX0] at g5
   rw [Option.some.inj g5,Int.toNat_zero,List.getD_eq_getElem?_getD,yGe hg0,Option.getD_some,hb]
  ·obtain ⟨x,hx,e⟩:=g2.f.cov k (by omega) hk
   obtain⟨c,b,s,r,q1,q2,q3,q4,q5⟩:=g2.f.sn x hx
   obtain rfl:b=k:=by omega
   rw [yGe hk] at q4
   rw [Option.some.inj q4]
   exact((y9t hr).1 q5).2
inductive LiveG (a:AutT) (g:List Bool):Nat→Prop
 | mk {s:Nat}:g[s]? =some true→(s:Int)∈a.2.2.1→LiveG a g s
 | st {s t:Nat} {e:Int}:g[s]? =some true→((s:Int),e,(t:Int))∈a.2.2.2→LiveG a g t→LiveG a g s
structure DQs (a:AutT) (g:List Bool) (n:Nat) (Q d:List Int):Prop where
 dl:d.length=n
 qn:Q.Nodup
 qd:∀(k:Nat) (x:Int),Q[k]? =some x→∃s:Nat,x=(s:Int)∧s < n∧∃v:Int,d[s]? =some v∧0≤v∧v≤(k:Int)
 lv:∀(s:Nat) (v:Int),d[s]? =some v→0≤v→LiveG a g s
theorem DQs.len {a:AutT} {g:List Bool} {n:Nat} {Q d:List Int} (h:DQs a g n Q d):Q.length≤n:=by
 have hr:∀x∈Q,0≤x∧x < (n:Int):=fun x hx=>by
  obtain⟨k,hk,rfl⟩:=List.getElem_of_mem hx
  obtain⟨s,e,h1,_⟩:=h.qd k _ (yGe hk)
  omega
 have:=y5T n (Q.map Int.toNat) (by
  unfold List.Nodup
  rw [List.pairwise_map]
  refine h.qn.imp_of_mem fun {a b} ha hb hab=>?_
  have h1:=hr a ha
  have h2:=hr b hb
  omega) (fun x hx=>by
  obtain⟨y,hy,rfl⟩:=List.mem_map.1 hx
  have:=hr y hy
  omega)
 simpa using this
theorem DQs.add {a:AutT} {g:List Bool} {n:Nat} {Q d:List Int} (h:DQs a g n Q d) {s:Nat} (hs:s < n) {v0 v:Int} (hd:d[s]? =some v0) (hv0:v0 < 0) (v1:0≤v) (v2:v≤(Q.length:Int)) (hl:LiveG a g s):DQs a g n (Q ++ [(s:Int)]) (d.set s v):=by
 have hsd:s < d.length:=by rw [h.dl];exact hs
 refine⟨by rw [List.length_set];exact h.dl,?_,fun k x hx=>?_,fun t w hw h0=>?_⟩
 ·unfold List.Nodup
  rw [List.pairwise_append]
  refine⟨h.qn,List.pairwise_singleton _ _,fun x hx y hy e=>?_⟩
  rw [List.mem_singleton.1 hy] at e
  subst e
  obtain⟨k,hk,e⟩:=List.getElem_of_mem hx
  obtain⟨s',e1,_,w,e2,e3,_⟩:=h.qd k _ (yGe hk)
  obtain rfl:s'=s:=by omega
  rw [hd] at e2
  cases e2
  omega
 ·by_cases hk:k < Q.length
  ·rw [List.getElem?_append_left hk] at hx
   obtain⟨s',e1,e2,w,e3,e4,e5⟩:=h.qd k x hx
   refine⟨s',e1,e2,?_⟩
   rw [List.getElem?_set]
   by_cases e:s=s'
   ·subst e
    rw [hd] at e3
    cases e3
    omega
   ·rw [if_neg e]
    exact⟨w,e3,e4,e5⟩
  ·rw [List.getElem?_append_right (by omega)] at hx
   have hk2:k - Q.length=0:=by
    have:=(List.getElem?_eq_some_iff.1 hx).1
    simp at this
    omega
   rw [hk2] at hx
   cases hx
   exact⟨s,rfl,hs,v,by rw [List.getElem?_set,if_pos rfl,if_pos hsd],v1,by omega⟩
 ·rw [List.getElem?_set] at hw
  by_cases e:s=t
  ·subst e
   exact hl
  ·rw [if_neg e] at hw
   exact h.lv t w hw h0
def IncOk (a:AutT) (n:Nat) (m:List (Int×List Int)):Prop:=∀(t:Int),((kget m t).getD []).length≤a.2.2.2.length∧∀x∈(kget m t).getD [],0≤x∧x < (n:Int)∧∃e,(x,e,t)∈a.2.2.2
section
variable {a:AutT} {n:Nat} {g:List Bool} {u:List Int} {m:List (Int×List Int)}
theorem yc3 (hr:Right a n) (hg:g.length=n):∃Q d,iter (yP (a,u,m,g)) (0,[],List.replicate n (-1))=some (Q,d)∧DQs a g n Q d:=by
 have hl2:=hr.l2
 have hnl:=hr.nl
 obtain⟨o,h1,h2⟩:=yb (f:=yP (a,u,m,g)) (fun i s=>s.1=(i:Int)∧i≤a.2.2.1.length∧DQs a g n s.2.1 s.2.2∧∀(t:Nat) (v:Int),s.2.2[t]? =some v→0≤v→∃k,k < i∧a.2.2.1[k]? =some (t:Int)) (fun o=>DQs a g n o.1 o.2) a.2.2.1.length 0 (by omega) (fun i s hi ⟨e1,_,hd,hm⟩=>by
   obtain⟨c,Q,d⟩:=s
   dsimp only at e1 hd hm
   subst e1
   have hQl:=hd.len
   have hx:=hr.msr _ (List.getElem_mem hi)
   obtain⟨t,ht⟩:∃t:Nat,a.2.2.1[i]=(t:Int):=⟨(a.2.2.1[i]).toNat,by omega⟩
   have htg:t < g.length:=by omega
   have htd:t < d.length:=by rw [hd.dl];omega
   left
   rw [yP]
   dsimp only
   rw [if_pos (ct_lt hi),ya hi,yOb,ht,ya htg,yOb]
   cases hgb:g[t] with
   | true=>
    have hgt:g[t]? =some true:=by rw [yGe htg,hgb]
    have hneg:d[t] < 0:=by
     refine Int.not_le.1 fun h0=>?_
     obtain⟨k,hk,e⟩:=hm t _ (yGe htd) h0
     have hkl:k < a.2.2.1.length:=by omega
     rw [yGe hkl] at e
     have:=List.pairwise_iff_getElem.1 hr.msi k i hkl hi hk
     rw [Option.some.inj e,ht] at this
     omega
    rw [if_pos rfl,ya htd,yOb,y6z htd,yOb,yl (by simp;omega),yOb,yO]
    dsimp only
    rw [nxt (by omega)]
    refine⟨_,rfl,rfl,hi,hd.add (by omega) (yGe htd) hneg (Int.le_refl _) (by omega) (.mk hgt (by rw [←ht];exact List.getElem_mem hi)),fun s' v hv h0=>?_⟩
    dsimp only at hv
    rw [List.getElem?_set] at hv
    by_cases e:t=s'
    ·subst e
     exact⟨i,by omega,by rw [yGe hi,ht]⟩
    ·rw [if_neg e] at hv
     obtain⟨k,hk,e2⟩:=hm s' v hv h0
     exact⟨k,by omega,e2⟩
   | false=>
    rw [if_neg (by simp),yO]
    dsimp only
    rw [nxt (by omega)]
    refine⟨_,rfl,rfl,hi,hd,fun s' v hv h0=>?_⟩
    obtain⟨k,hk,e2⟩:=hm s' v hv h0
    exact⟨k,by omega,e2⟩) (fun s ⟨e1,_,hd,hm⟩=>by
   obtain⟨c,Q,d⟩:=s
   dsimp only at e1 hd
   subst e1
   refine⟨(Q,d),?_,hd⟩
   rw [yP]
   dsimp only
   rw [if_neg ct_ge]) (Nat.zero_le _) (0,[],List.replicate n (-1)) ⟨rfl,Nat.zero_le _,⟨by simp,List.nodup_nil,fun k x hx=>by simp at hx,fun s v hv h0=>by
    rw [List.getElem?_replicate] at hv
    split at hv
    ·cases hv
     omega
    ·cases hv⟩,fun s v hv h0=>by
    dsimp only at hv
    rw [List.getElem?_replicate] at hv
    split at hv
    ·cases hv
     omega
    ·cases hv⟩
 exact⟨o.1,o.2,h1,h2⟩
theorem yef (hr:Right a n) (hg:g.length=n) (hm:IncOk a n m) {i:Nat} {Q d:List Int} (hd:DQs a g n Q d) (hi:i < Q.length) (z:List Int×List Int):
  ∃Q' d',iter (yM (a,u,m,g) ((i:Int),z) Q[i]) (0,Q,d)=some (Q',d')∧DQs a g n Q' d'∧Q.length≤Q'.length:=by
 have hl3:=hr.l3
 have hnl:=hr.nl
 obtain⟨ml,mm⟩:=hm Q[i]
 obtain⟨q,hq,hqn,vq,hvq,hvq0,_⟩:=hd.qd i _ (yGe hi)
 have hlq:=hd.lv q vq hvq hvq0
 obtain⟨o,h1,h2,h3⟩:=yb (f:=yM (a,u,m,g) ((i:Int),z) Q[i]) (fun k s=>s.1=(k:Int)∧k≤((kget m Q[i]).getD []).length∧DQs a g n s.2.1 s.2.2∧Q.length≤s.2.1.length) (fun o=>DQs a g n o.1 o.2∧Q.length≤o.1.length) ((kget m Q[i]).getD []).length 0 (by omega) (fun k s hk ⟨e1,_,hd1,hle⟩=>by
   obtain⟨c,Q1,d1⟩:=s
   dsimp only at e1 hd1 hle
   subst e1
   have hQl:=hd1.len
   obtain⟨x0,x1,e,hxe⟩:=mm _ (List.getElem_mem hk)
   obtain⟨t,ht⟩:∃t:Nat,((kget m Q[i]).getD [])[k]=(t:Int):=⟨(((kget m Q[i]).getD [])[k]).toNat,by omega⟩
   rw [ht] at hxe x1
   have htg:t < g.length:=by omega
   have htd:t < d1.length:=by rw [hd1.dl];omega
   have hi1:i < Q1.length:=by omega
   have hj1:∀Q2 d2,yL ((k:Int),Q1,d1) Q2 d2=some (.inl (((k + 1:Nat):Int),Q2,d2)):=fun Q2 d2=>by
    rw [yL]
    dsimp only
    rw [nxt (by omega)]
   left
   rw [yM]
   dsimp only
   rw [if_pos (ct_lt hk),ya hk,yOb,ht,ya htg,yOb,ya htd]
   cases hgb:g[t] with
   | true=>
    have hgt:g[t]? =some true:=by rw [yGe htg,hgb]
    rw [if_pos rfl,yOb,yOb]
    by_cases hneg:d1[t] < 0
    ·obtain ⟨q1,e1,e2,v1,e3,e4,e5⟩:=hd1.qd i _ (yGe hi1)
     have hq1d:q1 < d1.length:=by rw [hd1.dl];exact e2
     have hv1:d1[q1]=v1:=by
      rw [yGe hq1d] at e3
      exact Option.some.inj e3
     rw [if_pos (by simpa using hneg),ya hi1,yOb,e1,ya hq1d,yOb,yOb,y6z htd,yOb,yl (by simp;omega),yOb,hj1]
     refine⟨_,rfl,rfl,hk,hd1.add (by omega) (yGe htd) hneg ?_ ?_ (.st (e:=e) hgt ?_ hlq),by dsimp only;simp;omega⟩
     ·rw [hv1,W_of (by omega) (by omega)];omega
     ·rw [hv1,W_of (by omega) (by omega)];omega
     ·rw [←hq]
      exact hxe
    ·rw [if_neg (by simpa using hneg),hj1]
     exact⟨_,rfl,rfl,hk,hd1,hle⟩
   | false=>
    rw [if_neg (by simp),yOb,if_neg (by simp),hj1]
    exact⟨_,rfl,rfl,hk,hd1,hle⟩) (fun s ⟨e1,_,hd1,hle⟩=>by
   obtain⟨c,Q1,d1⟩:=s
   dsimp only at e1 hd1 hle
   subst e1
   refine⟨(Q1,d1),?_,hd1,hle⟩
   rw [yM]
   dsimp only
   rw [if_neg ct_ge]) (Nat.zero_le _) (0,Q,d) ⟨rfl,Nat.zero_le _,hd,Nat.le_refl _⟩
 exact⟨o.1,o.2,h1,h2,h3⟩
theorem ybK (hr:Right a n) (hg:g.length=n) (hm:IncOk a n m):∃d,y1a (a,u,m,g)=some d∧d.length=n∧∀(s:Nat) (v:Int),d[s]? =some v→0≤v→LiveG a g s:=by
 have hnn:=hr.nn
 have hnl:=hr.nl
 have hf:iter (yQ (List.replicate n 0)) (0,List.replicate n 0)=some (List.replicate n (-1)):=by
  obtain⟨o,g1,rfl⟩:=yb (f:=yQ (List.replicate n 0)) (fun i s=>i≤n∧s=((i:Int),List.replicate i (-1) ++ List.replicate (n - i) 0)) (fun o=>o=List.replicate n (-1)) n 0 (by omega) (fun i s hi ⟨_,e1⟩=>by
    subst e1
    refine .inl ⟨(((i + 1:Nat):Int),List.replicate (i + 1) (-1) ++ List.replicate (n - (i + 1)) 0),?_,hi,rfl⟩
    rw [yQ]
    dsimp only
    rw [if_pos (by simp;omega),ya (by simp;omega),yOb,y6z (by simp;omega),yOb,nxt (by omega)]
    rw [List.set_append_right _ _ (by simp),List.length_replicate,Nat.sub_self,show n - i=(n - (i + 1)) + 1 by omega,List.replicate_succ,List.set_cons_zero,List.replicate_succ',List.append_assoc]
    rfl) (fun s ⟨_,e1⟩=>by
    subst e1
    refine⟨_,?_,rfl⟩
    rw [yQ]
    dsimp only
    rw [if_neg (by simp),Nat.sub_self]
    simp) (Nat.zero_le _) (0,List.replicate n 0) ⟨Nat.zero_le _,by simp⟩
  exact g1
 obtain⟨Q,d,h1,h2⟩:=yc3 (u:=u) (m:=m) hr hg
 obtain⟨o,h3,h4,h5⟩:=yb (f:=yN (a,u,m,g)) (fun i s=>s.1=(i:Int)∧i≤s.2.1.length∧DQs a g n s.2.1 s.2.2) (fun o=>o.length=n∧∀(s:Nat) (v:Int),o[s]? =some v→0≤v→LiveG a g s) n 0 (by omega) (fun i s hi ⟨e1,hle,hd⟩=>by
   obtain⟨c,Q,d⟩:=s
   dsimp only at e1 hd hle
   subst e1
   by_cases hiq:i < Q.length
   ·left
    obtain⟨Q',d',w1,w2,w3⟩:=yef (u:=u) hr hg hm hd hiq (Q,d)
    rw [yN]
    dsimp only
    rw [if_pos (ct_lt hiq),ya hiq,yOb,w1,yOb,nxt (by omega)]
    exact⟨_,rfl,rfl,by dsimp only;omega,w2⟩
   ·right
    obtain rfl:i=Q.length:=by omega
    refine⟨d,?_,hd.dl,hd.lv⟩
    rw [yN]
    dsimp only
    rw [if_neg ct_ge]) (fun s ⟨e1,hle,hd⟩=>by
   obtain⟨c,Q,d⟩:=s
   dsimp only at e1 hd hle
   subst e1
   have:=hd.len
   refine⟨d,?_,hd.dl,hd.lv⟩
   rw [yN]
   dsimp only
   rw [if_neg (by simp;omega)]) (Nat.zero_le _) (0,Q,d) ⟨rfl,Nat.zero_le _,h2⟩
 refine⟨o,?_,h4,h5⟩
 rw [y1a]
 dsimp only
 rw [hnn,y8u (by omega) (by omega),yOb,Int.toNat_natCast,hf,yOb,h1,yOb,h3]
 rfl
end
theorem ycM :∀{g g':List Bool},g'.length=g.length→(∀s:Nat,g'[s]? =some true→g[s]? =some true)→g'.count true≤g.count true
 | [],[],_,_=>Nat.le_refl _
 | [],_ :: _,h,_=>by simp at h
 | _ :: _,[],h,_=>by simp at h
 | x :: g,y :: g',h,hs=>by
  have ih:=ycM (g:=g) (g':=g') (by simpa using h) fun s hs'=>hs (s + 1) (by simpa using hs')
  have h0:=hs 0
  cases y with
  | true=>
   have:x=true:=by simpa using h0 rfl
   subst this
   simp [ih]
  | false=>cases x <;> simp <;> omega
theorem ycN :∀{g g':List Bool},g'.length=g.length→(∀s:Nat,g'[s]? =some true→g[s]? =some true)→∀{s:Nat},g[s]? =some true→g'[s]? ≠some true→g'.count true < g.count true
 | [],[],_,_,s,h,_=>by simp at h
 | [],_ :: _,h,_,_,_,_=>by simp at h
 | _ :: _,[],h,_,_,_,_=>by simp at h
 | x :: g,y :: g',h,hs,0,h1,h2=>by
  have:=ycM (g:=g) (g':=g') (by simpa using h) fun s hs'=>hs (s + 1) (by simpa using hs')
  have hx:x=true:=by simpa using h1
  subst hx
  cases y with
  | true=>exact absurd rfl h2
  | false=>simp;omega
 | x :: g,y :: g',h,hs,s + 1,h1,h2=>by
  have:=ycN (g:=g) (g':=g') (by simpa using h) (fun s hs'=>hs (s + 1) (by simpa using hs')) (s:=s) (by simpa using h1) (by simpa using h2)
  have h0:=hs 0
  cases y with
  | true=>
   have hx:x=true:=by simpa using h0 rfl
   subst hx
   simp
   omega
  | false=>cases x <;> simp <;> omega
theorem yc4 {L:List (Int×Int×Int×Int)} (h:∀x∈L,0≤x.1∧x.1 < 4294967296) (hl:L.length≤4294967296):∃r,y1y L=some r:=by
 unfold y1y
 by_cases h0:L= []
 ·subst h0
  rw [dif_neg (by simp),if_pos rfl]
  exact⟨_,rfl⟩
 ·rw [dif_pos ⟨h,hl,List.length_pos_iff.2 h0⟩]
  exact⟨_,rfl⟩
def RemIn (g:List Bool) (L:List (Int×Int×Int×Int)):Prop:=∀x∈L,∃s:Nat,x.1=(s:Int)∧g[s]? =some true
theorem RemIn.app {g:List Bool} {L:List (Int×Int×Int×Int)} (h:RemIn g L) {x:Int×Int×Int×Int} {s:Nat} (hx:x.1=(s:Int)) (hg:g[s]? =some true):RemIn g (L ++ [x]):=fun y hy=>by
 rcases List.mem_append.1 hy with hy | hy
 ·exact h y hy
 ·rw [List.mem_singleton.1 hy]
  exact⟨s,hx,hg⟩
section
variable {a:AutT} {n:Nat} {g:List Bool} {u:List Int} {m:List (Int×List Int)}
theorem yeg (hr:Right a n) (hg:g.length=n) (hu:u.length < 4611686018427387904) (k:Int):∃L,y2y (a,u,m,g) k=some L∧L.length≤a.2.2.2.length∧RemIn g L:=by
 have hl3:=hr.l3
 have hnl:=hr.nl
 obtain⟨o,h1,h2,h3⟩:=yb (f:=y1R (a,u,m,g) k) (fun i s=>s.1=(i:Int)∧i≤a.2.2.2.length∧s.2.length≤i∧RemIn g s.2) (fun o=>o.length≤a.2.2.2.length∧RemIn g o) a.2.2.2.length 0 (by omega) (fun i s hi ⟨e1,_,hL,hR⟩=>by
   obtain⟨c,L⟩:=s
   dsimp only at e1 hL hR
   subst e1
   have hx:=hr.es _ (List.getElem_mem hi)
   obtain⟨q,hq⟩:∃q:Nat,(a.2.2.2[i]).1=(q:Int):=⟨(a.2.2.2[i]).1.toNat,by omega⟩
   obtain⟨t,ht⟩:∃t:Nat,(a.2.2.2[i]).2.2=(t:Int):=⟨(a.2.2.2[i]).2.2.toNat,by omega⟩
   have hqg:q < g.length:=by omega
   have htg:t < g.length:=by omega
   have hj1:∀L':List (Int×Int×Int×Int),L'.length≤i + 1→RemIn g L'→∃s',yT ((i:Int),L) L'=some (.inl s')∧s'.1=((i + 1:Nat):Int)∧i + 1≤a.2.2.2.length∧s'.2.length≤i + 1∧RemIn g s'.2:=fun L' g1 g2=>by
    rw [yT]
    dsimp only
    rw [nxt (by omega)]
    exact⟨_,rfl,rfl,hi,g1,g2⟩
   have hj3:g[q]? =some true→∀b,∃s',y1i k ((i:Int),L) a.2.2.2[i] b=some (.inl s')∧s'.1=((i + 1:Nat):Int)∧i + 1≤a.2.2.2.length∧s'.2.length≤i + 1∧RemIn g s'.2:=fun hgq b=>by
    rw [y1i]
    cases b with
    | true=>
     rw [if_pos rfl]
     exact hj1 _ (by dsimp only;omega) hR
    | false=>
     rw [if_neg (by simp)]
     dsimp only
     rw [yl (by simp;omega),yOb]
     exact hj1 _ (by simp;omega) (hR.app hq hgq)
   left
   rw [y1R]
   dsimp only
   rw [if_pos (ct_lt hi),ya hi,yOb,hq,ya hqg,yOb]
   cases hgb:g[q] with
   | false=>
    rw [if_pos (show (!false)=true from rfl),yy,if_pos rfl]
    exact hj1 _ (by dsimp only;omega) hR
   | true=>
    have hgq:g[q]? =some true:=by rw [yGe hqg,hgb]
    rw [if_neg (by simp),ht,ya htg,yOb]
    cases g[t] with
    | true=>
     rw [if_pos rfl,yy,if_pos rfl]
     exact hj1 _ (by dsimp only;omega) hR
    | false=>
     rw [if_neg (by simp),y4V hu,yOb,yy]
     cases hasB u (a.2.2.2[i]).2.1 with
     | false=>
      rw [if_pos (show (!false)=true from rfl)]
      exact hj1 _ (by dsimp only;omega) hR
     | true=>
      rw [if_neg (by simp)]
      dsimp only
      by_cases hL0:0 < L.length
      ·rw [if_pos (by rw [decide_eq_true_eq];omega),show W ((L.length:Int) - 1)=((L.length - 1:Nat):Int) by rw [W_of (by omega) (by omega)];omega,ya (by omega),yOb]
       exact hj3 hgq _
      ·rw [if_neg (by rw [decide_eq_true_eq];omega)]
       exact hj3 hgq _) (fun s ⟨e1,_,hL,hR⟩=>by
   obtain⟨c,L⟩:=s
   dsimp only at e1 hL hR
   subst e1
   refine⟨L,?_,hL,hR⟩
   rw [y1R]
   dsimp only
   rw [if_neg ct_ge]) (Nat.zero_le _) (0,[]) ⟨rfl,Nat.zero_le _,Nat.zero_le _,fun x hx=>by cases hx⟩
 exact⟨o,by rw [y2y,h1];rfl,h2,h3⟩
theorem yc5 (hr:Right a n) (hg:g.length=n) (hm:IncOk a n m) (k:Int):∃L,y1S (a,u,m,g) k=some L∧L.length≤n∧RemIn g L∧(L= []→∀s:Nat,g[s]? =some true→LiveG a g s):=by
 have hnl:=hr.nl
 obtain⟨d,d1,d2,d3⟩:=ybK (u:=u) hr hg hm
 obtain⟨o,h1,h2,h3,h4⟩:=yb (f:=y1o (a,u,m,g) k d) (fun i s=>s.1=(i:Int)∧i≤n∧s.2.length≤i∧RemIn g s.2∧(s.2= []→∀t:Nat,t < i→g[t]? =some true→LiveG a g t)) (fun o=>o.length≤n∧RemIn g o∧(o= []→∀t:Nat,t < n→g[t]? =some true→LiveG a g t)) n 0 (by omega) (fun i s hi ⟨e1,_,hL,hR,hv⟩=>by
   obtain⟨c,L⟩:=s
   dsimp only at e1 hL hR hv
   subst e1
   have hid:i < d.length:=by omega
   have hig:i < g.length:=by omega
   left
   rw [y1o]
   dsimp only
   rw [if_pos (by simp;omega),ya hid,yOb,ya hig,yOb]
   by_cases hb:g[i]=true∧d[i] < 0
   ·rw [if_pos (by simp;exact hb),yl (by simp;omega),yOb,yV]
    dsimp only
    rw [nxt (by omega)]
    exact⟨_,rfl,rfl,hi,by simp;omega,hR.app rfl (by rw [yGe hig,hb.1]),fun h=>by simp at h⟩
   ·rw [if_neg (by simp;exact fun h=>Int.not_lt.1 fun h2=>hb ⟨h,h2⟩),yV]
    dsimp only
    rw [nxt (by omega)]
    refine⟨_,rfl,rfl,hi,by dsimp only;omega,hR,fun h t ht hgt=>?_⟩
    by_cases e:t=i
    ·subst e
     refine d3 t _ (yGe hid) (Int.not_lt.1 fun h2=>hb ⟨?_,h2⟩)
     rw [yGe hig] at hgt
     exact Option.some.inj hgt
    ·exact hv h t (by omega) hgt) (fun s ⟨e1,_,hL,hR,hv⟩=>by
   obtain⟨c,L⟩:=s
   dsimp only at e1 hL hR hv
   subst e1
   refine⟨L,?_,hL,hR,hv⟩
   rw [y1o]
   dsimp only
   rw [if_neg (by simp;omega)]) (Nat.zero_le _) (0,[]) ⟨rfl,Nat.zero_le _,Nat.zero_le _,fun x hx=>by(cases hx),fun _ t ht=>absurd ht (Nat.not_lt_zero _)⟩
 refine⟨o,by rw [y1S,d1,yOb,h1];rfl,h2,h3,fun h s hs=>h4 h s ?_ hs⟩
 rw [←hg]
 exact(List.getElem?_eq_some_iff.1 hs).1
theorem yaX (hr:Right a n) (hg:g.length=n) (hm:IncOk a n m) (hu:u.length < 4611686018427387904) (k:Int):∃L,y2z (a,u,m,g) k true=some L∧L.length≤1000000∧RemIn g L∧(L= []→∀s:Nat,g[s]? =some true→LiveG a g s):=by
 have hl3:=hr.l3
 have hnl:=hr.nl
 obtain⟨L,h1,h2,h3⟩:=yeg (m:=m) hr hg hu k
 obtain⟨L',w1,w2,w3,w4⟩:=yc5 (u:=u) hr hg hm k
 rw [y2z,h1,yOb]
 by_cases h0:0 < L.length
 ·rw [if_pos (by rw [decide_eq_true (show (L.length:Int) > 0 by omega)];rfl)]
  exact⟨L,rfl,by omega,h3,fun h=>by rw [h] at h0;simp at h0⟩
 ·rw [if_neg (by rw [decide_eq_false (show ¬(L.length:Int) > 0 by omega)];simp),w1]
  exact⟨L',rfl,by omega,w3,w4⟩
theorem ycO (hr:Right a n) {f:List Int} (hf:∀x∈f,0≤x∧x < (n:Int)) (hfl:f.length≤1000000) (u:List Int):∃m g,y4c a f u=some (a,u,m,g)∧g.length=n∧IncOk a n m:=by
 have hnn:=hr.nn
 have hnl:=hr.nl
 have hl3:=hr.l3
 have h1:iter (y2H (List.replicate n false)) (0,List.replicate n false)=some (List.replicate n true):=by
  obtain⟨o,g1,rfl⟩:=yb (f:=y2H (List.replicate n false)) (fun i s=>i≤n∧s=((i:Int),List.replicate i true ++ List.replicate (n - i) false)) (fun o=>o=List.replicate n true) n 0 (by omega) (fun i s hi ⟨_,e1⟩=>by
    subst e1
    refine .inl ⟨(((i + 1:Nat):Int),List.replicate (i + 1) true ++ List.replicate (n - (i + 1)) false),?_,hi,rfl⟩
    rw [y2H]
    dsimp only
    rw [if_pos (by simp;omega),ya (by simp;omega),yOb,y6z (by simp;omega),yOb,nxt (by omega)]
    rw [List.set_append_right _ _ (by simp),List.length_replicate,Nat.sub_self,show n - i=(n - (i + 1)) + 1 by omega,List.replicate_succ,List.set_cons_zero,List.replicate_succ',List.append_assoc]
    rfl) (fun s ⟨_,e1⟩=>by
    subst e1
    refine⟨_,?_,rfl⟩
    rw [y2H]
    dsimp only
    rw [if_neg (by simp),Nat.sub_self]
    simp) (Nat.zero_le _) (0,List.replicate n false) ⟨Nat.zero_le _,by simp⟩
  exact g1
 obtain⟨g,h2,h3⟩:=yb (f:=y3t f) (fun i s=>s.1=(i:Int)∧i≤f.length∧s.2.length=n) (fun o=>o.length=n) f.length 0 (by omega) (fun i s hi ⟨e1,_,hl⟩=>by
   obtain⟨c,g⟩:=s
   dsimp only at e1 hl
   subst e1
   have hx:=hf _ (List.getElem_mem hi)
   obtain⟨t,ht⟩:∃t:Nat,f[i]=(t:Int):=⟨(f[i]).toNat,by omega⟩
   have htg:t < g.length:=by omega
   left
   rw [y3t]
   dsimp only
   rw [if_pos (ct_lt hi),ya hi,yOb,ht,ya htg,yOb,y6z htg,yOb,nxt (by omega)]
   exact⟨_,rfl,rfl,hi,by dsimp only;rw [List.length_set];exact hl⟩) (fun s ⟨e1,_,hl⟩=>by
   obtain⟨c,g⟩:=s
   dsimp only at e1 hl
   subst e1
   refine⟨g,?_,hl⟩
   rw [y3t]
   dsimp only
   rw [if_neg ct_ge]) (Nat.zero_le _) (0,List.replicate n true) ⟨rfl,Nat.zero_le _,by simp⟩
 obtain⟨m,h4,h5⟩:=yb (f:=y3s a) (fun i s=>s.1=(i:Int)∧i≤a.2.2.2.length∧∀t,((kget s.2 t).getD []).length≤i∧∀x∈(kget s.2 t).getD [],0≤x∧x < (n:Int)∧∃e,(x,e,t)∈a.2.2.2) (fun o=>IncOk a n o) a.2.2.2.length 0 (by omega) (fun i s hi ⟨e1,_,hm⟩=>by
   obtain⟨c,m⟩:=s
   dsimp only at e1 hm
   subst e1
   have hx:=hr.es _ (List.getElem_mem hi)
   obtain⟨m1,m2⟩:=hm (a.2.2.2[i]).2.2
   left
   rw [y3s]
   dsimp only
   rw [if_pos (ct_lt hi),ya hi,yOb,yl (by simp;omega),yOb,nxt (by omega)]
   refine⟨_,rfl,rfl,hi,fun t=>?_⟩
   dsimp only
   rw [y3m]
   by_cases e:t=(a.2.2.2[i]).2.2
   ·subst e
    rw [if_pos rfl,Option.getD_some]
    refine⟨by simp;omega,fun x hx'=>?_⟩
    rcases List.mem_append.1 hx' with hx' | hx'
    ·exact m2 x hx'
    ·rw [List.mem_singleton.1 hx']
     exact⟨hx.1,hx.2.1,(a.2.2.2[i]).2.1,List.getElem_mem hi⟩
   ·rw [if_neg e]
    exact⟨by have:=(hm t).1;omega,(hm t).2⟩) (fun s ⟨e1,_,hm⟩=>by
   obtain⟨c,m⟩:=s
   dsimp only at e1 hm
   subst e1
   refine⟨m,?_,hm⟩
   rw [y3s]
   dsimp only
   rw [if_neg ct_ge]) (Nat.zero_le _) (0,[]) ⟨rfl,Nat.zero_le _,fun t=>⟨by simp [kget],fun x hx=>by simp [kget] at hx⟩⟩
 refine⟨m,g,?_,h3,h5⟩
 rw [y4c,hnn,y8u (by omega) (by omega),yOb,Int.toNat_natCast,h1,yOb,h2,yOb,h4]
 rfl
theorem ydz (hn:n≤4096) (hg:g.length=n) {L:List (Int×Int×Int×Int)} (hL:RemIn g L) (hl:L.length≤1000000):∃g',iter (y2t L) (0,g)=some g'∧g'.length=n∧(∀s:Nat,g'[s]? =some true→g[s]? =some true)∧∀(k s:Nat) (h:k < L.length),(L[k]).1=(s:Int)→g'[s]? ≠some true:=by
 obtain⟨o,h1,h2,h3,h4⟩:=yb (f:=y2t L) (fun i s=>s.1=(i:Int)∧i≤L.length∧s.2.length=n∧(∀t:Nat,s.2[t]? =some true→g[t]? =some true)∧∀(k t:Nat) (h:k < L.length),k < i→(L[k]).1=(t:Int)→s.2[t]? ≠some true) (fun o=>o.length=n∧(∀t:Nat,o[t]? =some true→g[t]? =some true)∧∀(k t:Nat) (h:k < L.length),(L[k]).1=(t:Int)→o[t]? ≠some true) L.length 0 (by omega) (fun i s hi ⟨e1,_,q1,q2,q3⟩=>by
   obtain⟨c,g1⟩:=s
   dsimp only at e1 q1 q2 q3
   subst e1
   obtain⟨t,ht,hgt⟩:=hL _ (List.getElem_mem hi)
   have htl:t < g1.length:=by
    have:=(List.getElem?_eq_some_iff.1 hgt).1
    omega
   left
   rw [y2t]
   dsimp only
   rw [if_pos (ct_lt hi),ya hi,yOb,ht,ya htl,yOb,y6z htl,yOb,nxt (by omega)]
   refine⟨_,rfl,rfl,hi,by dsimp only;rw [List.length_set];exact q1,fun s' hs'=>?_,fun k s' hk hki e=>?_⟩
   ·dsimp only at hs'
    rw [List.getElem?_set] at hs'
    by_cases e2:t=s'
    ·subst e2
     rw [if_pos rfl,if_pos htl] at hs'
     cases hs'
    ·rw [if_neg e2] at hs'
     exact q2 s' hs'
   ·dsimp only
    rw [List.getElem?_set]
    by_cases e2:t=s'
    ·subst e2
     rw [if_pos rfl,if_pos htl]
     simp
    ·rw [if_neg e2]
     by_cases e3:k=i
     ·subst e3
      omega
     ·exact q3 k s' hk (by omega) e) (fun s ⟨e1,_,q1,q2,q3⟩=>by
   obtain⟨c,g1⟩:=s
   dsimp only at e1 q1 q2 q3
   subst e1
   refine⟨g1,?_,q1,q2,fun k t h e=>q3 k t h h e⟩
   rw [y2t]
   dsimp only
   rw [if_neg ct_ge]) (Nat.zero_le _) (0,g) ⟨rfl,Nat.zero_le _,hg,fun t h=>h,fun k t h hk=>absurd hk (Nat.not_lt_zero _)⟩
 exact⟨o,h1,h2,h3,h4⟩
end
section
variable {a:AutT} {n:Nat} {u f:List Int}
structure SynOk (a:AutT) (n:Nat) (g:List Bool) (r:AutT) (X:List Int):Prop where
 gl:g.length=n
 can:CanOf (stK a g) a.1 a.2.2.1 r X
 le:X.length≤n
 kept:∀s∈X,0≤s∧s < (n:Int)∧g.getD s.toNat false=true
 live:∀s:Nat,g[s]? =some true→LiveG a g s
theorem ycP (hr:Right a n) (hn:n≤40) (hf:∀x∈f,0≤x∧x < (n:Int)) (hfl:f.length≤1000000) (hu:u.length < 4611686018427387904):
  ∃z k g r X,y3R a f u true=some (z,k,r,X)∧SynOk a n g r X:=by
 obtain⟨m,g0,s1,s2,s3⟩:=ycO hr hf hfl u
 obtain⟨o1,h1,h2,h3⟩:=yb (f:=y3h f) (fun i s=>s.1=(i:Int)∧i≤f.length∧s.2.1.length≤i∧∀x∈s.2.1,0≤x.1∧x.1 < (n:Int)) (fun o=>o.1.length≤f.length∧∀x∈o.1,0≤x.1∧x.1 < (n:Int)) f.length 0 (by omega) (fun i s hi ⟨e1,_,q1,q2⟩=>by
   obtain⟨c,L,w⟩:=s
   dsimp only at e1 q1 q2
   subst e1
   left
   rw [y3h]
   dsimp only
   rw [if_pos (ct_lt hi),ya hi,yOb,yl (by simp;omega),yOb,nxt (by omega)]
   refine⟨_,rfl,rfl,hi,by simp;omega,fun x hx=>?_⟩
   dsimp only at hx
   rcases List.mem_append.1 hx with hx | hx
   ·exact q2 x hx
   ·rw [List.mem_singleton.1 hx]
    exact hf _ (List.getElem_mem hi)) (fun s ⟨e1,_,q1,q2⟩=>by
   obtain⟨c,L,w⟩:=s
   dsimp only at e1 q1 q2
   subst e1
   refine⟨(L,w),?_,q1,q2⟩
   rw [y3h]
   dsimp only
   rw [if_neg ct_ge]) (Nat.zero_le _) (0,[],0) ⟨rfl,Nat.zero_le _,Nat.zero_le _,fun x hx=>by cases hx⟩
 obtain⟨o2,h4,h5,h6,h7,h8⟩:=yb (f:=y3g true (a,u,m,g0)) (fun i s=>s.2.1.length≤1000000 + i * 1000000∧(∀x∈s.2.1,0≤x.1∧x.1 < (n:Int))∧s.2.2.2.length=n∧i + s.2.2.2.count true≤n) (fun o=>o.1.length≤100000000∧(∀x∈o.1,0≤x.1∧x.1 < (n:Int))∧o.2.2.length=n∧∀s:Nat,o.2.2[s]? =some true→LiveG a o.2.2 s) n 0 (by omega) (fun i s hi ⟨q1,q2,q3,q4⟩=>by
   obtain⟨c,L,w,g⟩:=s
   dsimp only at q1 q2 q3 q4
   obtain⟨R,r1,r2,r3,r4⟩:=yaX (u:=u) hr q3 s3 hu c
   rw [y3g]
   dsimp only
   rw [r1,yOb]
   by_cases h0:R= []
   ·right
    subst h0
    rw [if_pos (by simp)]
    exact⟨_,rfl,by dsimp only;omega,q2,q3,r4 rfl⟩
   ·left
    have hRl:0 < R.length:=List.length_pos_iff.2 h0
    obtain⟨g',w1,w2,w3,w4⟩:=ydz (n:=n) (by omega) q3 r3 r2
    rw [if_neg (by simp [h0]),w1,yOb,yl (by omega),yOb]
    obtain⟨t,ht,hgt⟩:=r3 _ (List.getElem_mem hRl)
    have hc:=ycN (by omega) w3 hgt (w4 0 t hRl ht)
    refine⟨_,rfl,by simp;omega,fun x hx=>?_,w2,by dsimp only;omega⟩
    dsimp only at hx
    rcases List.mem_append.1 hx with hx | hx
    ·exact q2 x hx
    ·obtain ⟨s',e,hs'⟩:=r3 x hx
     have:=(List.getElem?_eq_some_iff.1 hs').1
     omega) (fun s ⟨q1,q2,q3,q4⟩=>by
   obtain⟨c,L,w,g⟩:=s
   dsimp only at q1 q2 q3 q4
   obtain⟨R,r1,r2,r3,r4⟩:=yaX (u:=u) hr q3 s3 hu c
   rw [y3g]
   dsimp only
   rw [r1,yOb]
   by_cases h0:R= []
   ·subst h0
    rw [if_pos (by simp)]
    exact⟨_,rfl,by dsimp only;omega,q2,q3,r4 rfl⟩
   ·exfalso
    have hRl:0 < R.length:=List.length_pos_iff.2 h0
    obtain⟨t,ht,hgt⟩:=r3 _ (List.getElem_mem hRl)
    have:0 < g.count true:=List.count_pos_iff.2 (List.mem_of_getElem? hgt)
    omega) (Nat.zero_le _) (2,o1.1,o1.2,g0) ⟨by dsimp only;omega,h3,s2,by
    dsimp only
    have:=List.count_le_length (a:=true) (l:=g0)
    omega⟩
 obtain⟨rem,hrem⟩:=yc4 (fun x hx=>by have:=h6 x hx;omega) (by omega:o2.1.length≤4294967296)
 obtain⟨d,d1,d2,d3⟩:=ybK (u:=u) hr h7 s3
 obtain⟨o3,h9⟩:∃o3,iter (y2s o2 d) (0,[],[])=some o3:=by
  obtain⟨o,w,_⟩:=yb (f:=y2s o2 d) (fun i s=>s.1=(i:Int)∧i≤n∧s.2.1.length≤i∧s.2.2.length≤i) (fun o=>True) n 0 (by omega) (fun i s hi ⟨e1,_,q1,q2⟩=>by
    obtain⟨c,A,B⟩:=s
    dsimp only at e1 q1 q2
    subst e1
    have hid:i < d.length:=by omega
    have hig:i < o2.2.2.length:=by omega
    left
    rw [y2s]
    dsimp only
    rw [if_pos (by simp;omega),ya hid,yOb,ya hig,yOb]
    cases o2.2.2[i] with
    | true=>
     rw [if_pos rfl,yl (by simp;omega),yOb,yl (by simp;omega),yOb,y2r]
     dsimp only
     rw [nxt (by omega)]
     exact⟨_,rfl,rfl,hi,by simp;omega,by simp;omega⟩
    | false=>
     rw [if_neg (by simp),y2r]
     dsimp only
     rw [nxt (by omega)]
     exact⟨_,rfl,rfl,hi,by dsimp only;omega,by dsimp only;omega⟩) (fun s ⟨e1,_,q1,q2⟩=>by
    obtain⟨c,A,B⟩:=s
    dsimp only at e1 q1 q2
    subst e1
    refine⟨(A,B),?_,trivial⟩
    rw [y2s]
    dsimp only
    rw [if_neg (by simp;omega)]) (Nat.zero_le _) (0,[],[]) ⟨rfl,Nat.zero_le _,Nat.zero_le _,Nat.zero_le _⟩
  exact⟨o,w⟩
 obtain⟨r,X,x1,x2,x3,x4⟩:=ydy hr h7 (a,u,m,o2.2.2) rfl rfl
 refine⟨(o3.1,o3.2,rem),o2.2.1,o2.2.2,r,X,?_,h7,x2,x3,x4,h8⟩
 rw [y3R,s1,yOb,h1,yOb]
 dsimp only
 rw [h4,yOb,hrem,yOb,d1,yOb,h9,yOb,x1]
 rfl
theorem yeD (hr:Right a n) (hn:n≤40) (hfi:Inc f) (hf:∀x∈f,0≤x∧x < (n:Int)) (hui:Inc u) (hur:∀x∈u,0≤x∧x < 32):
  ∃z k g r X,y2e a f u=some ((z,k,r,X),0)∧SynOk a n g r X:=by
 have hfl:=y3C (n:=n) (lo:=0) hfi hf (Int.le_refl _)
 have hul:=Alp.len ⟨hui,hur⟩
 obtain⟨z,k,g,r,X,h1,h2⟩:=ycP hr hn hf (by omega) (u:=u) (by omega)
 refine⟨z,k,g,r,X,?_,h2⟩
 have hc:y4b a f u=some 0:=by
  rw [y4b,y7w hr.l1 hr.l2 hr.l3,hr.err,yOb,if_neg (by simp),hr.nn,y8g (by omega),y5S hfi hf (fun q hq=>by cases hq),yOb,if_neg (by simp),y8g (by omega),y5S hui hur (fun q hq=>by cases hq)]
  rfl
 rw [y2e,hc,yOb,if_neg (by simp),h1]
 rfl
theorem yao (hr:Right a n) (s e:Int):y2G a s e=some ((st1 a s e).getD (-1)):=by
 have hl3:=hr.l3
 obtain⟨o,h1,h2⟩:=yb (f:=y2M a s e) (fun i c=>c=(i:Int)∧i≤a.2.2.2.length∧∀k (h:k < a.2.2.2.length),k < i→¬((a.2.2.2[k]).1=s∧(a.2.2.2[k]).2.1=e)) (fun o=>match o with
  | .inl _=>st1 a s e=none
  | .inr t=>st1 a s e=some t) a.2.2.2.length 0 (by omega) (fun i c hi ⟨e1,_,hk⟩=>by
   subst e1
   rw [y2M,if_pos (ct_lt hi),ya hi,yOb]
   by_cases hx:(a.2.2.2[i]).1=s∧(a.2.2.2[i]).2.1=e
   ·right
    rw [if_pos (by simpa using hx.1),yOb,yOb,if_pos (by simpa using hx.2),yOb]
    refine⟨_,rfl,?_⟩
    dsimp only
    rw [y4B hr,←hx.1,←hx.2]
    exact List.getElem_mem hi
   ·left
    refine⟨((i + 1:Nat):Int),?_,rfl,hi,fun k h hki=>?_⟩
    ·by_cases h1:(a.2.2.2[i]).1=s
     ·rw [if_pos (by simpa using h1),yOb,yOb,if_neg (by simpa using fun h2=>hx ⟨h1,h2⟩),nxt (by omega)]
     ·rw [if_neg (by simpa using h1),yOb,if_neg (by simp),nxt (by omega)]
    ·by_cases e:k=i
     ·subst e
      exact hx
     ·exact hk k h (by omega)) (fun c ⟨e1,_,hk⟩=>by
   subst e1
   refine⟨.inl (),by rw [y2M,if_neg ct_ge],?_⟩
   dsimp only
   cases hst:st1 a s e with
   | none=>rfl
   | some t=>
    exfalso
    obtain⟨k,h,e2⟩:=List.getElem_of_mem ((y4B hr).1 hst)
    exact hk k h h (by rw [e2];exact⟨rfl,rfl⟩)) (Nat.zero_le _) 0 ⟨rfl,Nat.zero_le _,fun k h hk=>absurd hk (Nat.not_lt_zero _)⟩
 rw [y2G,h1,yOb]
 cases o with
 | inl _=>dsimp only at h2 ⊢;rw [h2];rfl
 | inr t=>dsimp only at h2 ⊢;rw [h2];rfl
end
theorem LoopZ.few {P S p:AutT} {T:List (List Int)} {n n1 n2:Nat} (h:LoopZ P S p T n) (hP:P.2.1=(n1:Int)) (hS:S.2.1=(n2:Int)):n≤n1 * n2:=by
 rw [←h.tl]
 have hx:∀t∈T,∃x y:Nat,t= [(x:Int),(y:Int)]∧x < n1∧y < n2:=fun t ht=>by
  obtain⟨x,y,e,g1,g2,g3,g4⟩:=h.tt t ht
  exact⟨x.toNat,y.toNat,by rw [e,Int.toNat_of_nonneg g1,Int.toNat_of_nonneg g3],by omega,by omega⟩
 have:=y5T (n1 * n2) (T.map fun t=>match t with
  | [x,y]=>x.toNat * n2 + y.toNat
  | _=>0) (by
  unfold List.Nodup
  rw [List.pairwise_map]
  refine h.nd.imp_of_mem fun {s t} hs ht hst=>?_
  obtain⟨x,y,rfl,g1,g2⟩:=hx s hs
  obtain⟨x',y',rfl,g3,g4⟩:=hx t ht
  dsimp only
  rw [Int.toNat_natCast,Int.toNat_natCast,Int.toNat_natCast,Int.toNat_natCast]
  intro e
  refine hst ?_
  have e1:x=x':=by
   have a1:(x * n2 + y) / n2=x:=by rw [Nat.mul_comm,Nat.mul_add_div (by omega),Nat.div_eq_of_lt g2,Nat.add_zero]
   have a2:(x' * n2 + y') / n2=x':=by rw [Nat.mul_comm,Nat.mul_add_div (by omega),Nat.div_eq_of_lt g4,Nat.add_zero]
   rw [←a1,e,a2]
  subst e1
  have:y=y':=by omega
  rw [this]) (fun v hv=>by
  obtain⟨t,ht,rfl⟩:=List.mem_map.1 hv
  obtain⟨x,y,rfl,g1,g2⟩:=hx t ht
  dsimp only
  rw [Int.toNat_natCast,Int.toNat_natCast]
  calc x * n2 + y < x * n2 + n2:=by omega
   _=(x + 1) * n2:=by rw [Nat.succ_mul]
   _≤n1 * n2:=Nat.mul_le_mul_right _ g1)
 simpa using this
theorem yeh {q:ProbT} {n1 n:Nat} {A:AutT} {T:List (List Int)} {z:Int} (hP:Right q.1 n1) (hA:Right A n) (hu:q.2.2.length≤32) (hT:∀t∈T,∃x y,t= [x,y]) {i:Nat} (hi:i < T.length) {o:List Int} (ho:o.length≤1000000):
  ∃o',iter (y1X q (A,T,z) ((i:Int),o)) 0=some o'∧(o'=o∨o'=o ++ [(i:Int)]):=by
 obtain⟨x,y,hxy⟩:=hT _ (List.getElem_mem hi)
 obtain⟨o',h1,h2⟩:=yb (f:=y1X q (A,T,z) ((i:Int),o)) (fun j c=>c=(j:Int)∧j≤q.2.2.length) (fun o'=>o'=o∨o'=o ++ [(i:Int)]) q.2.2.length 0 (by omega) (fun j c hj ⟨e1,_⟩=>by
   subst e1
   have hj1:∀b,(∃s',y1k ((i:Int),o) (j:Int) b=some (.inl s')∧s'=((j + 1:Nat):Int)∧j + 1≤q.2.2.length)∨∃o',y1k ((i:Int),o) (j:Int) b=some (.inr o')∧(o'=o∨o'=o ++ [(i:Int)]):=fun b=>by
    rw [y1k]
    cases b with
    | true=>
     right
     rw [if_pos rfl]
     dsimp only
     rw [yl (by simp;omega)]
     exact⟨_,rfl,.inr rfl⟩
    | false=>
     left
     rw [if_neg (by simp),nxt (by omega)]
     exact⟨_,rfl,rfl,hj⟩
   rw [y1X]
   dsimp only
   rw [if_pos (ct_lt hj),ya hj,yOb,ya hi,yOb,hxy,show idx [x,y] 0=some x from rfl,yOb,yao hP,yOb]
   split
   ·rw [yao hA,yOb]
    exact hj1 _
   ·exact hj1 _) (fun c ⟨e1,_⟩=>by
   subst e1
   refine⟨o,?_,.inl rfl⟩
   rw [y1X]
   dsimp only
   rw [if_neg ct_ge]) (Nat.zero_le _) 0 ⟨rfl,Nat.zero_le _⟩
 exact⟨o',h1,h2⟩
theorem yei {q:ProbT} {n1 n:Nat} {A:AutT} {T:List (List Int)} {z:Int} (hP:Right q.1 n1) (hA:Right A n) (hu:q.2.2.length≤32) (hT:∀t∈T,∃x y,t= [x,y]) (hl:T.length≤4000):
  ∃o,iter (y1l q (A,T,z)) (0,[])=some o∧Inc o∧∀x∈o,0≤x∧x < (T.length:Int):=by
 obtain⟨o,h1,h2,h3⟩:=yb (f:=y1l q (A,T,z)) (fun i s=>s.1=(i:Int)∧i≤T.length∧Inc s.2∧∀x∈s.2,0≤x∧x < (i:Int)) (fun o=>Inc o∧∀x∈o,0≤x∧x < (T.length:Int)) T.length 0 (by omega) (fun i s hi ⟨e1,_,q1,q2⟩=>by
   obtain⟨c,o⟩:=s
   dsimp only at e1 q1 q2
   subst e1
   have hol:=y3C (n:=i) (lo:=0) q1 q2 (Int.le_refl _)
   obtain⟨o',w1,w2⟩:=yeh (z:=z) hP hA hu hT hi (o:=o) (by omega)
   left
   rw [y1l]
   dsimp only
   rw [if_pos (ct_lt hi),w1,yOb,nxt (by omega)]
   refine⟨_,rfl,rfl,hi,?_⟩
   dsimp only
   rcases w2 with rfl | rfl
   ·exact ⟨q1,fun x hx=>by have:=q2 x hx;omega⟩
   ·refine ⟨?_,fun x hx=>?_⟩
    ·unfold Inc at q1 ⊢
     rw [List.pairwise_append]
     exact⟨q1,List.pairwise_singleton _ _,fun c hc b hb=>by rw [List.mem_singleton.1 hb];exact(q2 c hc).2⟩
    ·rcases List.mem_append.1 hx with hx | hx
     ·have:=q2 x hx;omega
     ·rw [List.mem_singleton.1 hx];omega) (fun s ⟨e1,_,q1,q2⟩=>by
   obtain⟨c,o⟩:=s
   dsimp only at e1 q1 q2
   subst e1
   refine⟨o,?_,q1,q2⟩
   rw [y1l]
   dsimp only
   rw [if_neg ct_ge]) (Nat.zero_le _) (0,[]) ⟨rfl,Nat.zero_le _,List.Pairwise.nil,fun x hx=>by cases hx⟩
 exact⟨o,h1,h2,h3⟩
theorem yej {q:ProbT} {m1 m2:Nat} (h:PbOk q m1 m2) (l1:m1≤5) (l2:m2≤5):∃A T n o z k g r X,yk [q.1,q.2.1]=some (A,T,0)∧iter (y1l q (A,T,0)) (0,[])=some o∧y2e A o q.2.2=some ((z,k,r,X),0)∧LoopZ q.1 q.2.1 A T n∧n≤25∧SynOk A n g r X∧PbOk (q.1,r,q.2.2) m1 X.length:=by
 obtain⟨t,A,T,k1,k2,n,_,hk,hs⟩:=h.open
 have hL:=hk.loop
 have hn:n≤25:=Nat.le_trans (hL.few h.rP.nn h.rS.nn) (Nat.mul_le_mul l1 l2)
 have hul:=Alp.len ⟨h.iu,h.ur⟩
 obtain⟨o,o1,o2,o3⟩:=yei (z:=0) h.rP hL.right hul (fun t ht=>by
  obtain⟨x,y,e,_⟩:=hL.tt t ht
  exact⟨x,y,e⟩) (by rw [hL.tl];exact hL.le)
 rw [hL.tl] at o3
 obtain⟨z,k,g,r,X,s1,s2⟩:=yeD hL.right (by omega) o2 o3 h.iu h.ur
 refine⟨A,T,n,o,z,k,g,r,X,hs,o1,s1,hL,hn,s2,h.rP,s2.can.right,h.l1,by have:=s2.le;omega,fun x hx=>?_,h.iu,h.ur⟩
 dsimp only at hx
 rw [s2.can.ale,hL.ev] at hx
 exact hx.elim id (h.sub x)
theorem yc6 {d:Des26} (hd:Des26In d) (keep:Bool):∃q n1 n2,y3u d keep=some q∧PbOk q n1 n2∧n1≤5∧n2≤25∧∀x∈q.1.1,0≤x∧x < 5:=by
 obtain⟨q,n1,n2,h1,h2,h3,h4,h5⟩:=ycL hd
 rw [y3u,h1,yOb]
 cases keep with
 | false=>
  rw [if_pos (show (!false)=true from rfl)]
  exact⟨q,n1,n2,rfl,h2,h3,by omega,h5⟩
 | true=>
  obtain⟨A,T,n,o,z,k,g,r,X,s1,s2,s3,s4,s5,s6,s7⟩:=yej h2 h3 h4
  rw [if_neg (by simp),s1,yOb]
  dsimp only
  rw [s2,yOb,s3]
  exact⟨_,n1,X.length,rfl,s7,h3,by have:=s6.le;omega,h5⟩
structure WF (es:List Ed) (n most i:Nat) (A:List (List Int×Int)):Prop where
 lead:∀r∈A,Leads es anyE 0 r.1 r.2
 st:∀r∈A,0≤r.2∧r.2 < (n:Int)
 len:∀r∈A,r.1.length≤most
 so:A.Pairwise fun r r'=>wval r.1 < wval r'.1
 root:(([]:List Int),(0:Int))∈A
 clo:∀(j:Nat) (r:List Int×Int),j < i→A[j]? =some r→∀x∈es,x.f=r.2→(r.1 ++ [x.e],x.t)∈A
 bd:∀(j:Nat) (r:List Int×Int),i≤j→A[j]? =some r→∀q∈A,wval q.1≤33 * wval r.1
theorem WF.all {es:List Ed} {n most i:Nat} {A:List (List Int×Int)} (hE:EvEs es) (h:WF es n most i A) (hi:∀(j:Nat) (r:List Int×Int),i≤j→A[j]? =some r→most≤r.1.length):AllW es most A:=by
 refine⟨h.lead,h.len,h.so,fun u=>?_⟩
 refine y8c (P:=fun u=>∀t,Leads es anyE 0 u t→u.length≤most→(u,t)∈A) (fun t ht _=>?_) (fun v e ih t ht hl=>?_) u
 ·have ht:(0:Int)=t:=ht
  subst ht
  exact h.root
 ·obtain ⟨x,hx,hv,he,hxt,_⟩:=ht.of_snoc
  rw [List.length_append,List.length_singleton] at hl
  have hm:=ih x.f hv (by omega)
  obtain⟨j,hj,e2⟩:=List.getElem_of_mem hm
  have ej:A[j]? =some (v,x.f):=by rw [yGe hj,e2]
  by_cases hji:j < i
  ·have:=h.clo j _ hji ej x hx rfl
   rw [he,hxt] at this
   exact this
  ·have:=hi j _ (by omega) ej
   dsimp only at this
   omega
theorem ydA {p:AutT} {n:Nat} (hr:Right p n) {most:Nat} (hm:most≤4096) {i s:Nat} (hs:s < n) {A:List (List Int×Int)} {w:List Int} (hA:WF (edsOf p) n most i A) (hi:A[i]? =some (w,(s:Int))) (hw:w.length < most) (hl:A.length≤1024) {os:List (Int×Int×Int)} (hos:os=p.2.2.2.filter fun x=>x.1 == (s:Int)):
  ∃A',iter (y2I ((i:Int),A) os) (0,A)=some A'∧WF (edsOf p) n most (i + 1) A'∧A.length≤A'.length:=by
 have hl3:=hr.l3
 have hmem:∀x∈os,x∈p.2.2.2∧x.1=(s:Int):=fun x hx=>by
  rw [hos] at hx
  have:=List.mem_filter.1 hx
  exact⟨this.1,by simpa using this.2⟩
 have hso:os.Pairwise fun x y=>x.2.1 < y.2.1:=by
  have h:=hr.so.filter (fun x=>x.1 == (s:Int))
  rw [←hos] at h
  refine h.imp_of_mem fun {x y} hx hy hxy=>?_
  have:=(hmem x hx).2
  have:=(hmem y hy).2
  omega
 have hol:os.length≤1000000:=by rw [hos];exact Nat.le_trans (List.length_filter_le _ _) hl3
 have hil:i < A.length:=(List.getElem?_eq_some_iff.1 hi).1
 have hev:∀x∈os,0≤x.2.1∧x.2.1 < 32:=fun x hx=>hr.alr _ (hr.es x (hmem x hx).1).2.2.2.2
 obtain⟨A',h1,h2,h3,h4,h5,h6,h7,h8,h9⟩:=yb (f:=y2I ((i:Int),A) os)
  (fun k z=>z.1=(k:Int)∧k≤os.length∧(∃U,z.2=A ++ U)∧z.2.length=A.length + k∧(∀r∈z.2,Leads (edsOf p) anyE 0 r.1 r.2)∧(∀r∈z.2,0≤r.2∧r.2 < (n:Int))∧(∀r∈z.2,r.1.length≤most)∧(z.2.Pairwise fun r r'=>wval r.1 < wval r'.1)∧
   (∀k' (h:k' < os.length),k≤k'→∀r∈z.2,wval r.1 < 33 * wval w + os[k'].2.1 + 1)∧(∀k' (h:k' < os.length),k' < k→(w ++ [os[k'].2.1],os[k'].2.2)∈z.2)∧∀r∈z.2,wval r.1≤33 * wval w + 32)
  (fun o=>(∃U,o=A ++ U)∧(∀r∈o,Leads (edsOf p) anyE 0 r.1 r.2)∧(∀r∈o,0≤r.2∧r.2 < (n:Int))∧(∀r∈o,r.1.length≤most)∧(o.Pairwise fun r r'=>wval r.1 < wval r'.1)∧
   (∀k' (h:k' < os.length),(w ++ [os[k'].2.1],os[k'].2.2)∈o)∧(∀r∈o,wval r.1≤33 * wval w + 32)∧A.length≤o.length)
  os.length 0 (by omega) (fun k z hk ⟨e1,_,⟨U,hU⟩,q0,q1,q2,q3,q4,q5,q6,q7⟩=>by
   obtain⟨c,B⟩:=z
   dsimp only at e1 hU q0 q1 q2 q3 q4 q5 q6 q7
   subst e1
   have hx:=hmem _ (List.getElem_mem hk)
   have hxe:=hr.es _ hx.1
   have hxv:=hev _ (List.getElem_mem hk)
   have hiB:B[i]? =some (w,(s:Int)):=by rw [hU,List.getElem?_append_left hil];exact hi
   obtain⟨hib,eib⟩:=List.getElem?_eq_some_iff.1 hiB
   left
   rw [y2I]
   dsimp only
   rw [if_pos (ct_lt hk),ya hk,yOb,ya hib,yOb,eib]
   dsimp only
   rw [y5K (by omega),yOb,yl (by simp;omega),yOb,yl (by simp;omega),yOb,nxt (by omega)]
   have hw1:(w,(s:Int))∈B:=List.mem_of_getElem? hiB
   have hled:Leads (edsOf p) anyE 0 (w ++ [os[k].2.1]) os[k].2.2:=by
    have:=(q1 _ hw1).snoc (x:=toEd os[k]) (List.mem_map_of_mem hx.1) hx.2 rfl
    exact this
   have hwv:wval (w ++ [os[k].2.1])=33 * wval w + os[k].2.1 + 1:=y5R _ _
   refine⟨_,rfl,rfl,hk,⟨U ++ [(w ++ [os[k].2.1],os[k].2.2)],by dsimp only;rw [hU,List.append_assoc]⟩,by simp;omega,fun r hr'=>?_,fun r hr'=>?_,fun r hr'=>?_,?_,fun k' hk' hkk r hr'=>?_,fun k' hk' hkk=>?_,fun r hr'=>?_⟩
   ·rcases List.mem_append.1 hr' with hr' | hr'
    ·exact q1 r hr'
    ·rw [List.mem_singleton.1 hr'];exact hled
   ·rcases List.mem_append.1 hr' with hr' | hr'
    ·exact q2 r hr'
    ·rw [List.mem_singleton.1 hr'];exact⟨hxe.2.2.1,hxe.2.2.2.1⟩
   ·rcases List.mem_append.1 hr' with hr' | hr'
    ·exact q3 r hr'
    ·rw [List.mem_singleton.1 hr'];simp;omega
   ·dsimp only
    rw [List.pairwise_append]
    refine⟨q4,List.pairwise_singleton _ _,fun r hr' r' hr2=>?_⟩
    rw [List.mem_singleton.1 hr2]
    dsimp only
    rw [hwv]
    exact q5 k hk (Nat.le_refl _) r hr'
   ·rcases List.mem_append.1 hr' with hr' | hr'
    ·exact q5 k' hk' (by omega) r hr'
    ·rw [List.mem_singleton.1 hr']
     dsimp only
     rw [hwv]
     have:=List.pairwise_iff_getElem.1 hso k k' hk hk' (by omega)
     omega
   ·by_cases e:k'=k
    ·subst e
     exact List.mem_append_right _ (List.mem_singleton.2 rfl)
    ·exact List.mem_append_left _ (q6 k' hk' (by omega))
   ·rcases List.mem_append.1 hr' with hr' | hr'
    ·exact q7 r hr'
    ·rw [List.mem_singleton.1 hr']
     dsimp only
     rw [hwv]
     omega) (fun z ⟨e1,_,hU,q0,q1,q2,q3,q4,q5,q6,q7⟩=>by
   obtain⟨c,B⟩:=z
   dsimp only at e1 hU q0 q1 q2 q3 q4 q5 q6 q7
   subst e1
   refine⟨B,?_,hU,q1,q2,q3,q4,fun k' hk'=>q6 k' hk' hk',q7,by omega⟩
   rw [y2I]
   dsimp only
   rw [if_neg ct_ge]) (Nat.zero_le _) (0,A) ⟨rfl,Nat.zero_le _,⟨[],(List.append_nil _).symm⟩,rfl,hA.lead,hA.st,hA.len,hA.so,fun k' hk' _ r hr'=>by
    have:=hA.bd i _ (Nat.le_refl _) hi r hr'
    have:=hev _ (List.getElem_mem hk')
    dsimp only at *
    omega,fun k' hk' h=>absurd h (Nat.not_lt_zero _),fun r hr'=>by
    have:=hA.bd i _ (Nat.le_refl _) hi r hr'
    dsimp only at *
    omega⟩
 obtain⟨U,hU⟩:=h2
 have hiA:A'[i]? =some (w,(s:Int)):=by rw [hU,List.getElem?_append_left hil];exact hi
 refine⟨A',h1,⟨h3,h4,h5,h6,by rw [hU];exact List.mem_append_left _ hA.root,fun j r hji hj x hx hxr=>?_,fun j r hij hj q hq=>?_⟩,h9⟩
 ·by_cases e:j=i
  ·subst e
   rw [hiA] at hj
   cases hj
   obtain⟨y,hy,rfl⟩:=List.mem_map.1 hx
   have hy2:y∈os:=by
    rw [hos]
    exact List.mem_filter.2 ⟨hy,by have h9:y.1=(s:Int):=hxr;simpa using h9⟩
   obtain⟨k,hk,e⟩:=List.getElem_of_mem hy2
   have:=h7 k hk
   rw [e] at this
   exact this
  ·rw [hU,List.getElem?_append_left (by omega)] at hj
   rw [hU]
   exact List.mem_append_left _ (hA.clo j r (by omega) hj x hx hxr)
 ·obtain ⟨hj1,hj2⟩:=List.getElem?_eq_some_iff.1 hj
  obtain⟨hi1,hi2⟩:=List.getElem?_eq_some_iff.1 hiA
  have:=List.pairwise_iff_getElem.1 h6 i j hi1 hj1 (by omega)
  rw [hi2,hj2] at this
  have:=h8 q hq
  dsimp only at *
  omega
theorem ydB {p:AutT} {n:Nat} (hr:Right p n) (hn:0 < n) {most:Nat} (hm:most≤4096):∃l g,yY p (most:Int) false=some (l,g)∧((∃L,AllW (edsOf p) most L∧l=L.map Prod.fst∧g=0∧L.length≤1024)∨(l= []∧g=3)):=by
 have hnl:=hr.nl
 have hE:EvEs (edsOf p):=fun x hx=>by
  obtain⟨y,hy,rfl⟩:=List.mem_map.1 hx
  exact hr.alr _ (hr.es y hy).2.2.2.2
 obtain⟨o,h1,h2⟩:=yb (f:=y3x p (most:Int)) (fun i s=>s.1=(i:Int)∧i≤s.2.length∧s.2.length≤1024∧WF (edsOf p) n most i s.2) (fun o=>match o with
  | .inl L=>AllW (edsOf p) most L∧L.length≤1024
  | .inr _=>True) 1025 0 (by omega) (fun i s hi ⟨e1,hle,hl,hA⟩=>by
   obtain⟨c,A⟩:=s
   dsimp only at e1 hle hl hA
   subst e1
   by_cases hiA:i < A.length
   ·obtain ⟨s,hs⟩:∃s:Nat,(A[i]).2=(s:Int):=⟨(A[i]).2.toNat,by have:=hA.st _ (List.getElem_mem hiA);omega⟩
    have hsn:=(hA.st _ (List.getElem_mem hiA)).2
    have hlen:=hA.len _ (List.getElem_mem hiA)
    have hi2:A[i]? =some ((A[i]).1,(s:Int)):=by rw [yGe hiA,←hs]
    rw [y3x]
    dsimp only
    rw [if_pos (ct_lt hiA),ya hiA,yOb]
    by_cases hmo:(A[i]).1.length=most
    ·right
     rw [if_pos (by simp [hmo])]
     refine⟨_,rfl,hA.all hE fun j r hij hj=>?_,hl⟩
     obtain⟨hj1,hj2⟩:=List.getElem?_eq_some_iff.1 hj
     rw [←hmo]
     refine yde (Leads.evs hE (hA.lead _ (List.getElem_mem hiA))) (Leads.evs hE (hA.lead _ (List.mem_of_getElem? hj))) ?_
     by_cases e:i=j
     ·subst e
      rw [hj2]
      exact Int.le_refl _
     ·have:=List.pairwise_iff_getElem.1 hA.so i j hiA hj1 (by omega)
      rw [hj2] at this
      omega
    ·rw [if_neg (by simp;omega),yOb,hs,ybA hr (by omega),yOb]
     obtain⟨A',w1,w2,w3⟩:=ydA hr hm (by omega) hA hi2 (by omega) hl rfl
     rw [w1,yOb]
     by_cases hlA:A'.length≤1024
     ·left
      rw [if_neg (by simp;omega),nxt (by omega)]
      exact⟨_,rfl,rfl,by dsimp only;omega,hlA,w2⟩
     ·right
      rw [if_pos (by simp;omega)]
      exact⟨_,rfl,trivial⟩
   ·right
    obtain rfl:i=A.length:=by omega
    refine⟨.inl A,?_,hA.all hE fun j r hij hj=>?_,hl⟩
    ·rw [y3x]
     dsimp only
     rw [if_neg ct_ge]
    ·have:=(List.getElem?_eq_some_iff.1 hj).1
     omega) (fun s ⟨e1,hle,hl,hA⟩=>by omega) (Nat.zero_le _) (0,[(([]:List Int),(0:Int))]) ⟨rfl,Nat.zero_le _,by simp,⟨fun r hr'=>by rw [List.mem_singleton.1 hr'];rfl,fun r hr'=>by rw [List.mem_singleton.1 hr'];dsimp only;omega,fun r hr'=>by rw [List.mem_singleton.1 hr'];simp,List.pairwise_singleton _ _,List.mem_singleton.2 rfl,fun j r hj=>absurd hj (Nat.not_lt_zero _),fun j r _ hj q hq=>by
    rw [List.mem_singleton.1 (List.mem_of_getElem? hj),List.mem_singleton.1 hq]
    decide⟩⟩
 rw [yY,y7w hr.l1 hr.l2 hr.l3,hr.err,yOb,if_neg (by simp),if_neg (by simp;omega),if_neg (by rw [hr.nn];simp;omega),h1,yOb]
 cases o with
 | inr _=>exact⟨_,_,rfl,.inr ⟨rfl,rfl⟩⟩
 | inl L=>
  dsimp only at h2 ⊢
  obtain⟨h2,h3⟩:=h2
  obtain⟨o,w1,w2⟩:=yb (f:=y3w p false L) (fun i s=>s.1=(i:Int)∧i≤L.length∧s.2=(L.take i).map Prod.fst) (fun o=>o=L.map Prod.fst) L.length 0 (by omega) (fun i s hi ⟨e1,_,e2⟩=>by
   obtain⟨c,B⟩:=s
   dsimp only at e1 e2
   subst e1 e2
   have hlw:=h2.len _ (List.getElem_mem hi)
   left
   rw [y3w]
   dsimp only
   rw [if_pos (ct_lt hi),ya hi,yOb,if_pos (show (!false)=true from rfl),yOb,if_pos rfl,yl (by simp;omega),yOb,yl (by simp;omega),yOb,y3v]
   dsimp only
   rw [nxt (by omega)]
   refine⟨_,rfl,rfl,hi,?_⟩
   dsimp only
   rw [List.take_add_one,yGe hi,List.nil_append,List.map_append]
   rfl) (fun s ⟨e1,_,e2⟩=>by
   obtain⟨c,B⟩:=s
   dsimp only at e1 e2
   subst e1 e2
   refine⟨(L.take L.length).map Prod.fst,?_,by rw [List.take_length]⟩
   rw [y3w]
   dsimp only
   rw [if_neg ct_ge]) (Nat.zero_le _) (0,[]) ⟨rfl,Nat.zero_le _,rfl⟩
  rw [w1]
  exact⟨_,_,rfl,.inl ⟨L,h2,w2,rfl,h3⟩⟩
theorem yc7 {p:AutT} (hr:Right p 0) {most:Nat} (hm:most≤4096):yY p (most:Int) false=some ([],0):=by
 rw [yY,y7w hr.l1 hr.l2 hr.l3,hr.err,yOb,if_neg (by simp),if_neg (by simp;omega),if_pos (by rw [hr.nn];rfl)]
def dB (P p:AutT) (T:List (List Int)) (s u c:Int):Bool:=match st1 p s u with
 | none=>false
 | some r=>(st1 p s c).isSome && (st1 p r c).isNone && (match T[r.toNat]? with
  | some (x :: _)=>(st1 P x c).isSome
  | _=>false)
section
variable {q:ProbT} {t:TaskT} {p:AutT} {T:List (List Int)} {n1 n2 n:Nat}
theorem y8R {a:AutT} {m:Nat} (hr:Right a m) (s e:Int):((st1 a s e).getD (-1) != -1)=(st1 a s e).isSome:=by
 cases hs:st1 a s e with
 | none=>rfl
 | some v=>
  have hv:=y4M hr hs
  have:v≠ -1:=by omega
  simpa using this
theorem yc8 (h:TaskOk q t p T n1 n2 n) (k:Nat) (u c:Int):y3F t (k:Int) u c=some (dB q.1 p T (k:Int) u c):=by
 rw [y3F,to_eq h.g3,yOb,y8R h.loop.right,dB]
 cases hs:st1 p (k:Int) u with
 | none=>rfl
 | some v=>
  have hv:=y4M h.loop.right hs
  have hvt:v.toNat < T.length:=by rw [h.loop.tl];omega
  obtain⟨x,y,e,_⟩:=h.pair hvt
  have hix:idx t.2.2.2.1 v=some [x,y]:=by
   rw [h.tt,←Int.toNat_of_nonneg hv.2.2.1,y5L,e]
  rw [if_pos (show (some v).isSome=true from rfl),to_eq h.g3,yOb,y8R h.loop.right]
  dsimp only [Option.getD_some]
  rw [e]
  dsimp only
  cases hc:(st1 p (k:Int) c).isSome with
  | false=>rw [if_neg (by simp)];rfl
  | true=>
   rw [if_pos rfl,to_eq h.g3,yOb]
   have h7:((st1 p v c).getD (-1) == -1)=(st1 p v c).isNone:=by
    have:=y8R h.loop.right v c
    cases hq:st1 p v c with
    | none=>rfl
    | some w=>
     have:=y4M h.loop.right hq
     have:w≠ -1:=by omega
     simpa using this
   rw [h7]
   cases hn:(st1 p v c).isNone with
   | false=>rw [if_neg (by simp)];rfl
   | true=>
    rw [if_pos rfl,hix,yOb,show idx [x,y] 0=some x from rfl,yOb,to_eq h.g1,yOb,y8R h.rP]
    rfl
end
def FD (al:List Int) (L:Int→Int→Bool):Option (Int×Int)→Prop
 | none=>∀u∈al,∀c∈al,L u c=false
 | some z=>z.1∈al∧z.2∈al∧L z.1 z.2=true∧(∀u∈al,u < z.1→∀c∈al,L u c=false)∧∀c∈al,c < z.2→L z.1 c=false
section
variable {q:ProbT} {t:TaskT} {p:AutT} {T:List (List Int)} {n1 n2 n:Nat}
def dL (q:ProbT) (p:AutT) (T:List (List Int)) (s u c:Int):Bool:=hasB q.2.2 u && !hasB q.2.2 c && dB q.1 p T s u c
theorem ycQ (h:TaskOk q t p T n1 n2 n) {k:Nat} (hk:k < T.length):∃o,FD q.1.1 (dL q p T (k:Int)) o∧iter (y3K t (k:Int)) 0=some (match o with
  | none=> .inl ()
  | some z=> .inr (wN (edsOf p) (k:Int),[z.1,z.2])):=by
 obtain⟨ui,ul,um⟩:=h.uni
 obtain⟨ci,cl,cm⟩:=h.con
 obtain⟨U,hU⟩:∃U,U=t.2.2.2.2.1:=⟨_,rfl⟩
 obtain⟨V,hV⟩:∃V,V=t.2.2.2.2.2:=⟨_,rfl⟩
 rw [←hU] at ui ul um
 rw [←hV] at ci cl cm
 have hLu:∀u∈U,∀c∈V,dL q p T (k:Int) u c=dB q.1 p T (k:Int) u c:=fun u hu c hc=>by
  have h1:=yc.2 ((um u).1 hu).2
  have h2:hasB q.2.2 c=false:=by
   cases hb:hasB q.2.2 c with
   | false=>rfl
   | true=>exact absurd (yc.1 hb) ((cm c).1 hc).2
  rw [dL,h1,h2]
  rfl
 have hLn:∀u∈q.1.1,∀c∈q.1.1,(u∈U→c∈V→dB q.1 p T (k:Int) u c=false)→dL q p T (k:Int) u c=false:=fun u hu c hc hd=>by
  by_cases h1:u∈q.2.2
  ·by_cases h2:c∈q.2.2
   ·rw [dL,yc.2 h2]
    simp
   ·have hu':=(um u).2 ⟨hu,h1⟩
    have hc':=(cm c).2 ⟨hc,h2⟩
    rw [hLu u hu' c hc']
    exact hd hu' hc'
  ·have:hasB q.2.2 u=false:=by
    cases hb:hasB q.2.2 u with
    | false=>rfl
    | true=>exact absurd (yc.1 hb) h1
   rw [dL,this]
   rfl
 have hin:∀u∈U,∃o,iter (y3J t (k:Int) u) 0=some o∧((o= .inl ()∧∀c∈V,dB q.1 p T (k:Int) u c=false)∨∃i,∃hi:i < V.length,o= .inr (wN (edsOf p) (k:Int),[u,V[i]])∧dB q.1 p T (k:Int) u V[i]=true∧∀j (hj:j < V.length),j < i→dB q.1 p T (k:Int) u V[j]=false):=fun u hu=>by
  have hg:∀i (hi:i < V.length),V.getD i 0=V[i]:=fun i hi=>by rw [List.getD_eq_getElem?_getD,yGe hi,Option.getD_some]
  obtain⟨o,h1,h2⟩:=y6h (f:=y3J t (k:Int) u) (fun i=>i) V.length (by omega) (fun i=>dB q.1 p T (k:Int) u (V.getD i 0)) (fun i=>(wN (edsOf p) (k:Int),[u,V.getD i 0])) (fun i hi=>by
   rw [y3J,←hV,if_pos (ct_lt hi),ya hi,yOb,yc8 h,yOb,nxt (by omega),hg i hi,h.word hk,yOb]) (by rw [y3J,←hV,if_neg ct_ge])
  refine⟨o,h1,?_⟩
  rcases h2 with ⟨e,h3⟩ | ⟨i,hi,e,h3,h4⟩
  ·refine .inl ⟨e,fun c hc=>?_⟩
   obtain⟨i,hi,rfl⟩:=List.getElem_of_mem hc
   rw [←hg i hi]
   exact h3 i hi
  ·exact .inr ⟨i,hi,by rw [e,hg i hi],by rw [←hg i hi];exact h3,fun j hj hji=>by rw [←hg j hj];exact h4 j hji⟩
 obtain⟨o,h1,o',h2,h3⟩:=yb (f:=y3K t (k:Int)) (fun i s=>s=(i:Int)∧i≤U.length∧∀j (hj:j < U.length),j < i→∀c∈V,dB q.1 p T (k:Int) U[j] c=false) (fun o=>∃o',FD q.1.1 (dL q p T (k:Int)) o'∧o=(match o' with
  | none=> .inl ()
  | some z=> .inr (wN (edsOf p) (k:Int),[z.1,z.2]))) U.length 0 (by omega) (fun i s hi ⟨e1,_,hz⟩=>by
   subst e1
   obtain⟨o,w1,w2⟩:=hin _ (List.getElem_mem hi)
   rw [y3K,←hU,if_pos (ct_lt hi),ya hi,yOb,w1,yOb]
   rcases w2 with ⟨rfl,w3⟩ | ⟨j,hj,rfl,w3,w4⟩
   ·left
    dsimp only
    rw [nxt (by omega)]
    refine⟨_,rfl,rfl,hi,fun j hj hji c hc=>?_⟩
    by_cases e:j=i
    ·subst e
     exact w3 c hc
    ·exact hz j hj (by omega) c hc
   ·right
    have hUi:=List.getElem_mem hi
    have hVj:=List.getElem_mem hj
    refine⟨_,rfl,some (U[i],V[j]),⟨((um _).1 hUi).1,((cm _).1 hVj).1,by dsimp only;rw [hLu _ hUi _ hVj];exact w3,fun u hu hlt c hc=>hLn u hu c hc fun hu' hc'=>?_,fun c hc hlt=>hLn _ ((um _).1 hUi).1 c hc fun _ hc'=>?_⟩,rfl⟩
    ·obtain ⟨i',hi',rfl⟩:=List.getElem_of_mem hu'
     refine hz i' hi' (Nat.lt_of_not_le fun hle=>?_) c hc'
     dsimp only at hlt
     by_cases e:i=i'
     ·subst e;omega
     ·have:=List.pairwise_iff_getElem.1 ui i i' hi hi' (by omega)
      omega
    ·obtain ⟨i',hi',rfl⟩:=List.getElem_of_mem hc'
     refine w4 i' hi' (Nat.lt_of_not_le fun hle=>?_)
     dsimp only at hlt
     by_cases e:j=i'
     ·subst e;omega
     ·have:=List.pairwise_iff_getElem.1 ci j i' hj hi' (by omega)
      omega) (fun s ⟨e1,_,hz⟩=>by
   subst e1
   refine⟨.inl (),by rw [y3K,←hU,if_neg ct_ge],none,fun u hu c hc=>hLn u hu c hc fun hu' hc'=>?_,rfl⟩
   obtain⟨i',hi',rfl⟩:=List.getElem_of_mem hu'
   exact hz i' hi' hi' c hc') (Nat.zero_le _) 0 ⟨rfl,Nat.zero_le _,fun j hj h0=>absurd h0 (Nat.not_lt_zero _)⟩
 exact⟨o',h2,by rw [h1,h3]⟩
theorem ycR (h:TaskOk q t p T n1 n2 n) (ho:y2S q=some (some t,0)):∃r,y4v q=some r∧((r=((0,[],[]),true,0)∧∀k,k < T.length→FD q.1.1 (dL q p T (k:Int)) none)∨∃(k:Nat) (z:Int×Int),k < T.length∧FD q.1.1 (dL q p T (k:Int)) (some z)∧(∀j,j < k→FD q.1.1 (dL q p T (j:Int)) none)∧r=((2,wN (edsOf p) (k:Int),[z.1,z.2]),false,0)):=by
 have htl:=h.loop.tl
 have hle:=h.loop.le
 obtain⟨o,h1,h2⟩:=yb (f:=y4m t) (fun i s=>s=(i:Int)∧i≤T.length∧∀j,j < i→FD q.1.1 (dL q p T (j:Int)) none) (fun o=>(o= .inl ()∧∀k,k < T.length→FD q.1.1 (dL q p T (k:Int)) none)∨∃(k:Nat) (z:Int×Int),k < T.length∧FD q.1.1 (dL q p T (k:Int)) (some z)∧(∀j,j < k→FD q.1.1 (dL q p T (j:Int)) none)∧o= .inr (wN (edsOf p) (k:Int),[z.1,z.2])) T.length 0 (by omega) (fun i s hi ⟨e1,_,hz⟩=>by
   subst e1
   obtain⟨o,w1,w2⟩:=ycQ h hi
   rw [y4m,h.tt,if_pos (ct_lt hi),w2,yOb]
   cases o with
   | none=>
    left
    dsimp only
    rw [nxt (by omega)]
    refine⟨_,rfl,rfl,hi,fun j hj=>?_⟩
    by_cases e:j=i
    ·subst e;exact w1
    ·exact hz j (by omega)
   | some z=>
    right
    exact⟨_,rfl,.inr ⟨i,z,hi,w1,hz,rfl⟩⟩) (fun s ⟨e1,_,hz⟩=>by
   subst e1
   exact⟨.inl (),by rw [y4m,h.tt,if_neg ct_ge],.inl ⟨rfl,hz⟩⟩) (Nat.zero_le _) 0 ⟨rfl,Nat.zero_le _,fun j hj=>absurd hj (Nat.not_lt_zero _)⟩
 rw [y4v,ho,yOb,if_neg (by simp),yOb,h1,yOb]
 rcases h2 with ⟨rfl,h3⟩ | ⟨k,z,hk,h3,h4,rfl⟩
 ·exact ⟨_,rfl,.inl ⟨rfl,h3⟩⟩
 ·exact ⟨_,rfl,.inr ⟨k,z,hk,h3,h4,rfl⟩⟩
end
def folP (a:AutT):Int→List Int→Int×Nat
 | s,[]=>(s,0)
 | s,e :: u=>match st1 a s e with
  | some r=>((folP a r u).1,(folP a r u).2 + 1)
  | none=>(s,0)
theorem yap {a:AutT}:∀{u:List Int} {s t:Int},stw (st1 a) s u=some t→folP a s u=(t,u.length)
 | [],s,t,h=>by
  have h:some s=some t:=h
  cases h
  rfl
 | e :: u,s,t,h=>by
  rw [stw] at h
  obtain⟨r,h1,h2⟩:=Option.bind_eq_some_iff.1 h
  rw [folP,h1]
  dsimp only
  rw [yap h2]
  rfl
theorem yaq {a:AutT}:∀{u:List Int} {s:Int},stw (st1 a) s u=none→(folP a s u).2 < u.length
 | [],s,h=>by cases h
 | e :: u,s,h=>by
  rw [stw] at h
  rw [folP]
  cases h1:st1 a s e with
  | none=>simp
  | some r=>
   rw [h1,yOb] at h
   have:=yaq h
   dsimp only
   rw [List.length_cons]
   omega
section
variable {a:AutT} {n:Nat}
theorem ydC (hr:Right a n) {s:Nat} (hs:s < n) (e:Int):y4n a (s:Int) e=some ((st1 a (s:Int) e).getD (-1)):=by
 have hl3:=hr.l3
 obtain⟨os,hos⟩:∃os,os=a.2.2.2.filter fun x=>x.1 == (s:Int):=⟨_,rfl⟩
 have hol:os.length≤1000000:=by rw [hos];exact Nat.le_trans (List.length_filter_le _ _) hl3
 have hmem:∀x∈os,x∈a.2.2.2∧x.1=(s:Int):=fun x hx=>by
  rw [hos] at hx
  have:=List.mem_filter.1 hx
  exact⟨this.1,by simpa using this.2⟩
 obtain⟨r,h1,h2⟩:=ybG (xs:=os) (f:=y3S e) (g:=fun x=>x.2.1 == e) (fun x _=>rfl) (by omega)
 rw [y4n,ybA hr hs,yOb,←hos,h1,yOb]
 rcases h2 with ⟨rfl,h3⟩ | ⟨k,hk,rfl,h3,h4⟩
 ·rw [if_pos (by simp),yaU fun x hx hxx=>?_]
  ·rfl
  ·have:=h3 x (by rw [hos];exact List.mem_filter.2 ⟨hx,by simp [hxx.1]⟩)
   simp [hxx.2] at this
 ·have hm:=hmem _ (List.getElem_mem hk)
  have h3:os[k].2.1=e:=by simpa using h3
  have:st1 a (s:Int) e=some os[k].2.2:=by
   rw [y4B hr,←hm.2,←h3]
   exact hm.1
  rw [if_neg (by simp),ya hk,yOb,this]
  rfl
theorem ycS (hr:Right a n) {s:Int} (s0:0≤s) (s1:s < (n:Int)) {u:List Int} (hl:u.length≤1000000):y3j a s u=some ((folP a s u).1,((folP a s u).2:Int)):=by
 obtain⟨o,h1,h2⟩:=yb (f:=y3i a u) (fun i st=>st.1=(i:Int)∧0≤st.2∧st.2 < (n:Int)∧(folP a st.2 (u.drop i)).1=(folP a s u).1∧(folP a st.2 (u.drop i)).2 + i=(folP a s u).2)
   (fun o=>(∃t,o= .inl t∧t=(folP a s u).1∧u.length=(folP a s u).2)∨∃t,o= .inr (((folP a s u).2:Int),t)∧t=(folP a s u).1) u.length 0 (by omega) (fun i st hi ⟨e1,g0,g1,g2,g3⟩=>by
   obtain⟨c,x⟩:=st
   dsimp only at e1 g0 g1 g2 g3
   subst e1
   obtain⟨k,hk⟩:∃k:Nat,x=(k:Int):=⟨x.toNat,by omega⟩
   subst hk
   rw [List.drop_eq_getElem_cons hi,folP] at g2 g3
   rw [y3i]
   dsimp only
   rw [if_pos (ct_lt hi),ya hi,yOb,ydC hr (by omega),yOb]
   cases hst:st1 a (k:Int) u[i] with
   | none=>
    rw [hst] at g2 g3
    dsimp only at g2 g3
    right
    rw [if_pos (by simp)]
    exact⟨_,rfl,.inr ⟨(k:Int),by rw [←g3,Nat.zero_add],g2⟩⟩
   | some t=>
    rw [hst] at g2 g3
    dsimp only at g2 g3
    have ht:=y4M hr hst
    left
    rw [Option.getD_some,if_neg (by simp;omega),nxt (by omega)]
    exact⟨_,rfl,rfl,ht.2.2.1,ht.2.2.2.1,g2,by dsimp only;omega⟩) (fun st ⟨e1,g0,g1,g2,g3⟩=>by
   obtain⟨c,x⟩:=st
   dsimp only at e1 g0 g1 g2 g3
   subst e1
   rw [List.drop_length,folP] at g2 g3
   rw [y3i]
   dsimp only
   rw [if_neg ct_ge]
   exact⟨_,rfl,.inl ⟨x,rfl,g2,by dsimp only at g3;omega⟩⟩) (Nat.zero_le _) (0,s) ⟨rfl,s0,s1,by rw [List.drop_zero],by rw [List.drop_zero];rfl⟩
 rw [y3j,h1,yOb]
 rcases h2 with ⟨t,rfl,h3,h4⟩ | ⟨t,rfl,h3⟩
 ·rw [h3,←h4]
 ·rw [h3]
theorem yaY (hr:Right a n) {u:List Int} (hl:u.length≤1000000):y3k a u=some (decide (0 < n) && (stw (st1 a) 0 u).isSome,0):=by
 rw [y3k,hr.check,yOb,if_neg (by simp),y4p,hr.nn]
 by_cases h0:n=0
 ·subst h0
  rw [if_pos (by simp)]
  rfl
 ·rw [if_neg (by simp;omega),ycS hr (by omega) (by omega) hl,yOb,yOb]
  cases hs:stw (st1 a) 0 u with
  | none=>
   have:=yaq hs
   have hne:(((folP a 0 u).2:Int) == (u.length:Int))=false:=by
    rw [beq_eq_false_iff_ne];omega
   simp [hne]
  | some t=>
   rw [yap hs]
   simp;omega
end
theorem ybL {al u:List Int}:∀{l d:List Int},(∀e∈l,e∈al∧e∉u∧e∉d)→l.Nodup→priE al u d l=0
 | [],_,_,_=>rfl
 | e :: l,d,h,hn=>by
  obtain⟨h1,h2,h3⟩:=h e (List.mem_cons_self ..)
  obtain⟨n1,n2⟩:=List.nodup_cons.1 hn
  have hb:∀{xs:List Int},e∉xs→¬hasB xs e=true:=fun hx hb=>hx (yc.1 hb)
  rw [priE,if_neg (by rw [yc.2 h1];simp),if_neg (hb h2),if_neg (hb h3)]
  refine ybL (fun x hx=>?_) n2
  obtain⟨g1,g2,g3⟩:=h x (List.mem_cons_of_mem _ hx)
  refine⟨g1,g2,fun hm=>?_⟩
  rcases List.mem_append.1 hm with hm | hm
  ·exact g3 hm
  ·rw [List.mem_singleton.1 hm] at hx
   exact n1 hx
theorem yar {a:AutT} {n:Nat} (hr:Right a n):∀{u:List Int} {s t:Int},Leads (edsOf a) anyE s u t→stw (st1 a) s u=some t
 | [],s,t,h=>by
  have h:s=t:=h
  rw [h]
  rfl
 | e :: u,s,t,⟨x,hx,h1,h2,_,h4⟩=>by
  obtain⟨y,hy,rfl⟩:=List.mem_map.1 hx
  have:st1 a s e=some y.2.2:=by
   rw [y4B hr,←h1,←h2]
   exact hy
  rw [stw,this]
  exact yar hr h4
theorem yek {us vs:List Int} (hu:Inc us) (hv:Inc vs) (e:Int):e∈mg (fun a b=>a && !b) us vs↔e∈us∧e∉vs:=by
 rw [(y3n (fun a b=>a && !b) us vs hu hv).2,Bool.and_eq_true,yc,Bool.not_eq_true',←Bool.not_eq_true,yc]
 exact⟨fun h=>h.2,fun h=>⟨.inl h.1,h⟩⟩
end Go.Proofs.YtecmobjeeonmaaaGreatDoor
