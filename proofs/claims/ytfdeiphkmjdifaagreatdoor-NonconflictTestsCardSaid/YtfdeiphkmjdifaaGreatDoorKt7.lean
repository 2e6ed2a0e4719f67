/- Parts of the proof, without what nothing here names. -/
import Derived.Test.YtfdeiphkmjdifaaGreatDoorKt6
namespace Go.Proofs.YtfdeiphkmjdifaaGreatDoor
section
inductive Star {S:Type} (R:S→S→Prop):S→S→Prop
 | refl (s:S):Star R s s
 | tail {s t u:S}:Star R s t→R t u→Star R s u
namespace Star
variable{S T:Type}{R:S→S→Prop}{s t u:S}
theorem one(h:R s t):Star R s t:= .tail (.refl _) h
theorem trans(h:Star R s t)(h2:Star R t u):Star R s u:=by
 induction h2 with
 | refl=>exact h
 | tail _ g ih=>exact .tail ih g
theorem head(h:R s t)(h2:Star R t u):Star R s u:=(one h).trans h2
theorem map{Q:T→T→Prop}(f:S→T)(hf:∀a b,R a b→Q (f a) (f b))(h:Star R s t):Star Q (f s) (f t):=by
 induction h with
 | refl=>exact .refl _
 | tail _ g ih=>exact .tail ih (hf _ _ g)
theorem mono{Q:S→S→Prop}(hf:∀a b,R a b→Q a b)(h:Star R s t):Star Q s t:=h.map id hf
end Star
structure Lts (S:Type) where
 ini:S→Prop
 fin:S→Prop
 st:Int→S→S→Prop
 ev:Int→Prop
namespace Lts
variable{S S' T U:Type}
def nxt1(L:Lts S)(s t:S):Prop:=∃e,L.st e s t
def Wf(L:Lts S):Prop:=(∀e s t,L.st e s t→e= -1∨L.ev e)∧¬L.ev (-1)
def rch(L:Lts S)(s:S):Prop:=∃i,L.ini i∧Star L.nxt1 i s
def NB(L:Lts S):Prop:=∀s,L.rch s→∃t,Star L.nxt1 s t∧L.fin t
def par(L:Lts S)(Q:Lts T):Lts (S×T) where
 ini p:=L.ini p.1∧Q.ini p.2
 fin p:=L.fin p.1∧Q.fin p.2
 ev e:=L.ev e∨Q.ev e
 st e p q:=(e= -1∧((L.st e p.1 q.1∧q.2=p.2)∨(Q.st e p.2 q.2∧q.1=p.1)))∨
  (e≠ -1∧((L.ev e∧Q.ev e∧L.st e p.1 q.1∧Q.st e p.2 q.2)∨(L.ev e∧¬Q.ev e∧L.st e p.1 q.1∧q.2=p.2)∨(¬L.ev e∧Q.ev e∧Q.st e p.2 q.2∧q.1=p.1)))
def tau(L:Lts S):S→S→Prop:=Star (L.st (-1))
def wk(L:Lts S)(e:Int)(s t:S):Prop:=(e= -1∧L.tau s t)∨(e≠ -1∧∃a b,L.tau s a∧L.st e a b∧L.tau b t)
theorem ycw{L:Lts S}{e:Int}{s t:S}(h:L.st e s t):L.wk e s t:=by
 by_cases he:e= -1
 ·exact .inl ⟨he,.one (he▸h)⟩
 ·exact .inr ⟨he,_,_,.refl _,h,.refl _⟩
structure WSim (L:Lts S) (L':Lts S') (R:S→S'→Prop):Prop where
 ini:∀s,L.ini s→∃s',L'.ini s'∧R s s'
 st:∀e s s' t,R s s'→L.st e s t→∃t',L'.wk e s' t'∧R t t'
 fin:∀s s',R s s'→L.fin s→∃t',L'.tau s' t'∧L'.fin t'
theorem y8t{L:Lts S}{Q:Lts T}{s t:S}(q:T)(h:L.tau s t):Star (par L Q).nxt1 (s,q) (t,q):=
 Star.map (fun x=>(x,q)) (fun _ _ g=>⟨-1,.inl ⟨rfl,.inl ⟨g,rfl⟩⟩⟩) h
theorem WSim.path{L:Lts S}{L':Lts S'}{R:S→S'→Prop}(h:WSim L L' R)(hev:∀e,L.ev e↔L'.ev e){Q:Lts T}{p p2:S×T}(hp:Star (par L Q).nxt1 p p2){s':S'}(hr:R p.1 s'):
  ∃t',Star (par L' Q).nxt1 (s',p.2) (t',p2.2)∧R p2.1 t':=by
 induction hp with
 | refl=>exact⟨s',.refl _,hr⟩
 | tail _ g ih=>
  obtain⟨t',h1,h2⟩:=ih;obtain⟨e,g⟩:=g;rename_i t u _;obtain⟨t1,t2⟩:=t;obtain⟨u1,u2⟩:=u;rcases g with ⟨rfl,⟨g1,g2⟩|⟨g1,g2⟩⟩|⟨he,⟨k1,k2,g1,g2⟩|⟨k1,k2,g1,g2⟩|⟨k1,k2,g1,g2⟩⟩ <;> simp only at g1 g2 h1 h2 ⊢
  ·subst g2;obtain⟨u',w,h3⟩:=h.st _ _ _ _ h2 g1;rcases w with ⟨_,w⟩|⟨w,_⟩
   ·exact ⟨u',h1.trans (y8t _ w),h3⟩
   ·exact absurd rfl w
  ·subst g2;exact⟨t',.tail h1 ⟨-1,.inl ⟨rfl,.inr ⟨g1,rfl⟩⟩⟩,h2⟩
  ·obtain ⟨u',w,h3⟩:=h.st _ _ _ _ h2 g1;rcases w with ⟨w,_⟩|⟨_,a,b,w1,w2,w3⟩
   ·exact absurd w he
   ·exact ⟨u',((h1.trans (y8t _ w1)).tail ⟨e,.inr ⟨he,.inl ⟨(hev e).1 k1,k2,w2,g2⟩⟩⟩).trans (y8t _ w3),h3⟩
  ·subst g2;obtain⟨u',w,h3⟩:=h.st _ _ _ _ h2 g1;rcases w with ⟨w,_⟩|⟨_,a,b,w1,w2,w3⟩
   ·exact absurd w he
   ·exact ⟨u',((h1.trans (y8t _ w1)).tail (u:=(b,u2)) ⟨e,.inr ⟨he,.inr (.inl ⟨(hev e).1 k1,k2,w2,rfl⟩)⟩⟩).trans (y8t _ w3),h3⟩
  ·subst g2;exact⟨t',.tail h1 ⟨e,.inr ⟨he,.inr (.inr ⟨fun g=>k1 ((hev e).2 g),k2,g1,rfl⟩)⟩⟩,h2⟩
theorem NB.par_sim{L:Lts S}{L':Lts S'}{R:S→S'→Prop}(h:WSim L L' R)(h2:WSim L' L fun x y=>R y x)(hev:∀e,L.ev e↔L'.ev e){Q:Lts T}(hn:(par L Q).NB):(par L' Q).NB:=by
 rintro⟨s',q⟩ ⟨⟨i',j⟩,⟨hi,hj⟩,hp⟩;obtain⟨i,hi',hr⟩:=h2.ini _ hi;obtain⟨s,h3,h4⟩:=h2.path (fun e=>(hev e).symm) hp hr;obtain⟨⟨t,q2⟩,h5,m1,m2⟩:=hn (s,q) ⟨(i,j),⟨hi',hj⟩,h3⟩;obtain⟨t',h6,h7⟩:=h.path hev h5 h4;obtain⟨t'',h8,h9⟩:=h.fin _ _ h7 m1;exact⟨(t'',q2),h6.trans (y8t _ h8),h9,m2⟩
structure WBis (L:Lts S) (L':Lts S') (R:S→S'→Prop):Prop where
 f:WSim L L' R
 b:WSim L' L fun x y=>R y x
 ev:∀e,L.ev e↔L'.ev e
theorem WBis.nb{L:Lts S}{L':Lts S'}{R:S→S'→Prop}(h:WBis L L' R)(Q:Lts T):(par L Q).NB↔(par L' Q).NB:=
 ⟨fun hn=>hn.par_sim h.f h.b h.ev,fun hn=>hn.par_sim h.b h.f fun e=>(h.ev e).symm⟩
structure Same (A:Lts S) (B:Lts T) (R:S→T→Prop):Prop where
 i1:∀s,A.ini s→∃t,B.ini t∧R s t
 i2:∀t,B.ini t→∃s,A.ini s∧R s t
 s1:∀s t s',R s t→A.nxt1 s s'→∃t',B.nxt1 t t'∧R s' t'
 s2:∀s t t',R s t→B.nxt1 t t'→∃s',A.nxt1 s s'∧R s' t'
 m:∀s t,R s t→(A.fin s↔B.fin t)
theorem Same.symm{A:Lts S}{B:Lts T}{R:S→T→Prop}(h:Same A B R):Same B A fun x y=>R y x:=
 ⟨h.i2,h.i1,fun s t s' hr=>h.s2 t s s' hr,fun s t t' hr=>h.s1 t s t' hr,fun s t hr=>(h.m t s hr).symm⟩
theorem Same.path{A:Lts S}{B:Lts T}{R:S→T→Prop}(h:Same A B R){s s2:S}(hp:Star A.nxt1 s s2){t:T}(hr:R s t):∃t2,Star B.nxt1 t t2∧R s2 t2:=by
 induction hp with
 | refl=>exact⟨t,.refl _,hr⟩
 | tail _ g ih=>
  obtain⟨t',h1,h2⟩:=ih;obtain⟨t2,h3,h4⟩:=h.s1 _ _ _ h2 g;exact⟨t2,.tail h1 h3,h4⟩
theorem Same.nb1{A:Lts S}{B:Lts T}{R:S→T→Prop}(h:Same A B R)(hn:A.NB):B.NB:=by
 rintro t ⟨i,hi,hp⟩;obtain⟨i',hi',hr⟩:=h.i2 _ hi;obtain⟨s,h1,h2⟩:=h.symm.path hp hr;obtain⟨s2,h3,h4⟩:=hn s ⟨i',hi',h1⟩;obtain⟨t2,h5,h6⟩:=h.path h3 h2;exact⟨t2,h5,(h.m _ _ h6).1 h4⟩
theorem Same.nb{A:Lts S}{B:Lts T}{R:S→T→Prop}(h:Same A B R):A.NB↔B.NB:=⟨h.nb1,h.symm.nb1⟩
structure Lab (A:Lts S) (B:Lts T) (R:S→T→Prop):Prop where
 i1:∀s,A.ini s→∃t,B.ini t∧R s t
 i2:∀t,B.ini t→∃s,A.ini s∧R s t
 s1:∀e s t s',R s t→A.st e s s'→∃t',B.st e t t'∧R s' t'
 s2:∀e s t t',R s t→B.st e t t'→∃s',A.st e s s'∧R s' t'
 m:∀s t,R s t→(A.fin s↔B.fin t)
 ev:∀e,A.ev e↔B.ev e
theorem Lab.same{A:Lts S}{B:Lts T}{R:S→T→Prop}(h:Lab A B R):Same A B R:=
 ⟨h.i1,h.i2,fun s t s' hr ⟨e,g⟩=>by obtain⟨t',h1,h2⟩:=h.s1 e s t s' hr g;exact⟨t',⟨e,h1⟩,h2⟩,fun s t t' hr ⟨e,g⟩=>by obtain⟨s',h1,h2⟩:=h.s2 e s t t' hr g;exact⟨s',⟨e,h1⟩,h2⟩,h.m⟩
theorem Lab.bis{A:Lts S}{B:Lts T}{R:S→T→Prop}(h:Lab A B R):WBis A B R where
 ev:=h.ev
 f:=⟨h.i1,fun e s t s' hr g=>by obtain⟨t',h1,h2⟩:=h.s1 e s t s' hr g;exact⟨t',ycw h1,h2⟩,fun s t hr g=>⟨t,.refl _,(h.m s t hr).1 g⟩⟩
 b:=⟨h.i2,fun e t s t' hr g=>by obtain⟨s',h1,h2⟩:=h.s2 e s t t' hr g;exact⟨s',ycw h1,h2⟩,fun t s hr g=>⟨s,.refl _,(h.m s t hr).2 g⟩⟩
theorem yeH(A:Lts S)(B:Lts T):Same (par A B) (par B A) fun p q=>q=(p.2,p.1) where
 i1 s h:=⟨_,⟨h.2,h.1⟩,rfl⟩
 i2 t h:=⟨(t.2,t.1),⟨h.2,h.1⟩,rfl⟩
 m s t hr:=by subst hr;exact And.comm
 s1 s t s' hr h:=by
  subst hr;obtain⟨e,h⟩:=h;refine⟨_,⟨e,?_⟩,rfl⟩;rcases h with ⟨he,h|h⟩|⟨he,⟨k1,k2,g1,g2⟩|⟨k1,k2,g1,g2⟩|⟨k1,k2,g1,g2⟩⟩
  ·exact .inl ⟨he,.inr h⟩
  ·exact .inl ⟨he,.inl h⟩
  ·exact .inr ⟨he,.inl ⟨k2,k1,g2,g1⟩⟩
  ·exact .inr ⟨he,.inr (.inr ⟨k2,k1,g1,g2⟩)⟩
  ·exact .inr ⟨he,.inr (.inl ⟨k2,k1,g1,g2⟩)⟩
 s2 s t t' hr h:=by
  subst hr;obtain⟨e,h⟩:=h;refine⟨(t'.2,t'.1),⟨e,?_⟩,rfl⟩;rcases h with ⟨he,h|h⟩|⟨he,⟨k1,k2,g1,g2⟩|⟨k1,k2,g1,g2⟩|⟨k1,k2,g1,g2⟩⟩
  ·exact .inl ⟨he,.inr h⟩
  ·exact .inl ⟨he,.inl h⟩
  ·exact .inr ⟨he,.inl ⟨k2,k1,g2,g1⟩⟩
  ·exact .inr ⟨he,.inr (.inr ⟨k2,k1,g1,g2⟩)⟩
  ·exact .inr ⟨he,.inr (.inl ⟨k2,k1,g1,g2⟩)⟩
theorem WBis.nbR{L:Lts S}{L':Lts S'}{R:S→S'→Prop}(h:WBis L L' R)(Q:Lts T):(par Q L).NB↔(par Q L').NB:=
 (yeH Q L).nb.trans ((h.nb Q).trans (yeH L' Q).nb)
theorem assoc(A:Lts S)(B:Lts T)(C:Lts U):Same (par (par A B) C) (par A (par B C)) fun p q=>q=(p.1.1,(p.1.2,p.2)) where
 i1 s h:=⟨_,⟨h.1.1,h.1.2,h.2⟩,rfl⟩
 i2 t h:=⟨((t.1,t.2.1),t.2.2),⟨⟨h.1,h.2.1⟩,h.2.2⟩,rfl⟩
 m s t hr:=by subst hr;exact⟨fun h=>⟨h.1.1,h.1.2,h.2⟩,fun h=>⟨⟨h.1,h.2.1⟩,h.2.2⟩⟩
 s1 s t s' hr h:=by
  subst hr;obtain⟨e,h⟩:=h;refine⟨_,⟨e,?_⟩,rfl⟩;obtain⟨⟨s1,s2⟩,s3⟩:=s;obtain⟨⟨t1,t2⟩,t3⟩:=s';simp only [par] at *;by_cases he:e= -1
  ·subst he;simp only [true_and,ne_eq,not_true_eq_false,false_and,or_false,Prod.mk.injEq] at h ⊢;rcases h with ⟨⟨g1,g2⟩|⟨g1,g2⟩,g3⟩|⟨g1,g2,g3⟩
   ·exact .inl ⟨g1,g2,g3⟩
   ·exact .inr ⟨.inl ⟨g1,g3⟩,g2⟩
   ·exact .inr ⟨.inr ⟨g1,g3⟩,g2⟩
  ·simp only [he,false_and,false_or,ne_eq,not_false_eq_true,true_and,Prod.mk.injEq,not_or] at h ⊢;by_cases ha:A.ev e <;> by_cases hb:B.ev e <;> by_cases hc:C.ev e <;> simp only [ha,hb,hc,true_and,false_and,not_true_eq_false,not_false_eq_true,or_false,false_or,or_true,and_true,and_false,or_self,and_self] at h ⊢ <;> simp_all
 s2 s t t' hr h:=by
  subst hr;obtain⟨e,h⟩:=h;refine⟨((t'.1,t'.2.1),t'.2.2),⟨e,?_⟩,rfl⟩;obtain⟨⟨s1,s2⟩,s3⟩:=s;obtain⟨t1,t2,t3⟩:=t';simp only [par] at *;by_cases he:e= -1
  ·subst he;simp only [true_and,ne_eq,not_true_eq_false,false_and,or_false,Prod.mk.injEq] at h ⊢;rcases h with ⟨g1,g2,g3⟩|⟨⟨g1,g3⟩|⟨g1,g3⟩,g2⟩
   ·exact .inl ⟨.inl ⟨g1,g2⟩,g3⟩
   ·exact .inl ⟨.inr ⟨g1,g2⟩,g3⟩
   ·exact .inr ⟨g1,g2,g3⟩
  ·simp only [he,false_and,false_or,ne_eq,not_false_eq_true,true_and,Prod.mk.injEq,not_or] at h ⊢;by_cases ha:A.ev e <;> by_cases hb:B.ev e <;> by_cases hc:C.ev e <;> simp only [ha,hb,hc,true_and,false_and,not_true_eq_false,not_false_eq_true,or_false,false_or,or_true,and_true,and_false,or_self,and_self] at h ⊢ <;> simp_all
def hide(H:Int→Prop)(L:Lts S):Lts S where
 ini:=L.ini
 fin:=L.fin
 ev e:=L.ev e∧¬H e
 st e s t:=(e= -1∧(L.st (-1) s t∨∃x,H x∧L.st x s t))∨(e≠ -1∧¬H e∧L.st e s t)
theorem ydD{H:Int→Prop}{L:Lts S}{Q:Lts T}(hL:L.Wf)(hH:∀e,H e→¬Q.ev e)(h1:¬H (-1)):Same (par (hide H L) Q) (par L Q) fun p q=>p=q where
 i1 s h:=⟨s,h,rfl⟩
 i2 t h:=⟨t,h,rfl⟩
 m s t hr:=by subst hr;exact Iff.rfl
 s1 s t s' hr h:=by
  subst hr;obtain⟨e,h⟩:=h;refine⟨s',?_,rfl⟩;rcases h with ⟨rfl,⟨g1,g2⟩|⟨g1,g2⟩⟩|⟨he,⟨k1,k2,g1,g2⟩|⟨k1,k2,g1,g2⟩|⟨k1,k2,g1,g2⟩⟩
  ·rcases g1 with ⟨_,g1|⟨x,hx,g1⟩⟩|⟨g1,_⟩
   ·exact ⟨-1,.inl ⟨rfl,.inl ⟨g1,g2⟩⟩⟩
   ·rcases hL.1 _ _ _ g1 with rfl|hv
    ·exact absurd hx h1
    ·exact ⟨x,.inr ⟨fun e=>h1 (e▸hx),.inr (.inl ⟨hv,hH x hx,g1,g2⟩)⟩⟩
   ·exact absurd rfl g1
  ·exact ⟨-1,.inl ⟨rfl,.inr ⟨g1,g2⟩⟩⟩
  ·rcases g1 with ⟨g1,_⟩|⟨_,_,g1⟩
   ·exact absurd g1 he
   ·exact ⟨e,.inr ⟨he,.inl ⟨k1.1,k2,g1,g2⟩⟩⟩
  ·rcases g1 with ⟨g1,_⟩|⟨_,_,g1⟩
   ·exact absurd g1 he
   ·exact ⟨e,.inr ⟨he,.inr (.inl ⟨k1.1,k2,g1,g2⟩)⟩⟩
  ·exact ⟨e,.inr ⟨he,.inr (.inr ⟨fun g=>k1 ⟨g,fun hh=>hH e hh k2⟩,k2,g1,g2⟩)⟩⟩
 s2 s t t' hr h:=by
  subst hr;obtain⟨e,h⟩:=h;refine⟨t',?_,rfl⟩;rcases h with ⟨rfl,⟨g1,g2⟩|⟨g1,g2⟩⟩|⟨he,⟨k1,k2,g1,g2⟩|⟨k1,k2,g1,g2⟩|⟨k1,k2,g1,g2⟩⟩
  ·exact ⟨-1,.inl ⟨rfl,.inl ⟨.inl ⟨rfl,.inl g1⟩,g2⟩⟩⟩
  ·exact ⟨-1,.inl ⟨rfl,.inr ⟨g1,g2⟩⟩⟩
  ·have hh:¬H e:=fun g=>hH e g k2;exact⟨e,.inr ⟨he,.inl ⟨⟨k1,hh⟩,k2,.inr ⟨he,hh,g1⟩,g2⟩⟩⟩
  ·by_cases hh:H e
   ·exact ⟨-1,.inl ⟨rfl,.inl ⟨.inl ⟨rfl,.inr ⟨e,hh,g1⟩⟩,g2⟩⟩⟩
   ·exact ⟨e,.inr ⟨he,.inr (.inl ⟨⟨k1,hh⟩,k2,.inr ⟨he,hh,g1⟩,g2⟩)⟩⟩
  ·exact ⟨e,.inr ⟨he,.inr (.inr ⟨fun g=>k1 g.1,k2,g1,g2⟩)⟩⟩
def unit :Lts (List Int) where
 ini v:=v= []
 fin v:=v= []
 st _ _ _:=False
 ev _:=False
theorem yiJ(L:Lts S)(hL:L.Wf):Same (par L unit) L fun p s=>p=(s,[]) where
 i1 s h:=⟨s.1,h.1,by obtain⟨a,b⟩:=s;have:b= []:=h.2;rw [this]⟩
 i2 t h:=⟨(t,[]),⟨h,rfl⟩,rfl⟩
 m s t hr:=by subst hr;exact⟨fun h=>h.1,fun h=>⟨h,rfl⟩⟩
 s1 s t s' hr h:=by
  subst hr;obtain⟨e,h⟩:=h;obtain⟨a,b⟩:=s';rcases h with ⟨rfl,⟨g1,g2⟩|⟨g1,g2⟩⟩|⟨he,⟨k1,k2,g1,g2⟩|⟨k1,k2,g1,g2⟩|⟨k1,k2,g1,g2⟩⟩
  ·exact ⟨a,⟨-1,g1⟩,by rw [show b= [] from g2]⟩
  ·exact g1.elim
  ·exact g2.elim
  ·exact ⟨a,⟨e,g1⟩,by rw [show b= [] from g2]⟩
  ·exact g1.elim
 s2 s t t' hr h:=by
  subst hr;obtain⟨e,h⟩:=h;refine⟨(t',[]),⟨e,?_⟩,rfl⟩;by_cases he:e= -1
  ·exact .inl ⟨he,.inl ⟨h,rfl⟩⟩
  ·rcases hL.1 _ _ _ h with g|g
   ·exact absurd g he
   ·exact .inr ⟨he,.inr (.inl ⟨g,fun h=>h,h,rfl⟩)⟩
/-! Tuples. -/
def tIni :List (Lts Int)→List Int→Prop
 | [],[]=>True
 | a::l,x::v=>a.ini x∧tIni l v
 | _,_=>False
def tMk :List (Lts Int)→List Int→Prop
 | [],[]=>True
 | a::l,x::v=>a.fin x∧tMk l v
 | _,_=>False
def tSt(e:Int):List (Lts Int)→List Int→List Int→Prop
 | [],[],[]=>True
 | a::l,x::v,y::w=>((a.ev e∧a.st e x y)∨(¬a.ev e∧y=x))∧tSt e l v w
 | _,_,_=>False
def TL(l:List (Lts Int)):Lts (List Int) where
 ini:=tIni l
 fin:=tMk l
 ev e:=∃a∈l,a.ev e
 st e v w:=(∃a∈l,a.ev e)∧tSt e l v w
def Det(L:Lts S):Prop:=(∀e s t,L.st e s t→L.ev e)∧¬L.ev (-1)
theorem Det.wf{L:Lts S}(h:L.Det):L.Wf:=⟨fun e s t g=> .inr (h.1 e s t g),h.2⟩
theorem yhp{e:Int}:∀{l:List (Lts Int)} {v w:List Int},(∀a∈l,¬a.ev e)→tSt e l v w→w=v
 | [],[],[],_,_=>rfl
 | a::l,x::v,y::w,h,⟨g1,g2⟩=>by
  rcases g1 with ⟨g,_⟩|⟨_,rfl⟩
  ·exact absurd g (h a (.head _))
  ·rw [yhp (fun b hb=>h b (.tail _ hb)) g2]
 | [],_::_,_,_,h=>by cases h
 | [],[],_::_,_,h=>by cases h
 | _::_,[],_,_,h=>by cases h
 | _::_,_::_,[],_,h=>by cases h
theorem yeI{e:Int}:∀{l:List (Lts Int)} {v:List Int},l.length=v.length→(∀a∈l,¬a.ev e)→tSt e l v v
 | [],[],_,_=>trivial
 | a::l,x::v,hl,h=>⟨.inr ⟨h a (.head _),rfl⟩,yeI (by simpa using hl) fun b hb=>h b (.tail _ hb)⟩
 | [],_::_,h,_=>by cases h
 | _::_,[],h,_=>by cases h
theorem y7E :∀{l:List (Lts Int)} {v:List Int},tIni l v→l.length=v.length
 | [],[],_=>rfl
 | _::_,_::_,h=>congrArg (· + 1) (y7E h.2)
 | [],_::_,h=>h.elim
 | _::_,[],h=>h.elim
theorem y7F{e:Int}:∀{l:List (Lts Int)} {v w:List Int},tSt e l v w→l.length=v.length∧l.length=w.length
 | [],[],[],_=>⟨rfl,rfl⟩
 | _::_,_::_,_::_,h=>by obtain⟨h1,h2⟩:=y7F h.2;exact⟨congrArg (· + 1) h1,congrArg (· + 1) h2⟩
 | [],_::_,_,h=>by cases h
 | [],[],_::_,h=>by cases h
 | _::_,[],_,h=>by cases h
 | _::_,_::_,[],h=>by cases h
theorem yhq{a:Lts Int}{l:List (Lts Int)}(ha:a.Det):Lab (par a (TL l)) (TL (a::l)) fun p u=>u=p.1::p.2∧l.length=p.2.length where
 i1 s h:=⟨s.1::s.2,h,rfl,y7E h.2⟩
 i2 t h:=by
  cases t with
  | nil=>exact h.elim
  | cons x v=>exact⟨(x,v),h,rfl,y7E h.2⟩
 m s t hr:=by rw [hr.1];exact Iff.rfl
 s1 e s t s' hr h:=by
  obtain⟨rfl,hl⟩:=hr;obtain⟨s1,s2⟩:=s;obtain⟨t1,t2⟩:=s';rcases h with ⟨rfl,⟨g1,g2⟩|⟨g1,g2⟩⟩|⟨he,⟨k1,k2,g1,g2⟩|⟨k1,k2,g1,g2⟩|⟨k1,k2,g1,g2⟩⟩ <;> simp only at g1 g2 hl ⊢
  ·exact absurd (ha.1 _ _ _ g1) ha.2
  ·obtain ⟨b,hb,g⟩:=g1.1;subst g2;exact⟨t1::t2,⟨⟨b,.tail _ hb,g⟩,.inr ⟨ha.2,rfl⟩,g1.2⟩,rfl,(y7F g1.2).2⟩
  ·exact ⟨t1::t2,⟨⟨a,.head _,k1⟩,.inl ⟨k1,g1⟩,g2.2⟩,rfl,(y7F g2.2).2⟩
  ·subst g2;exact⟨t1::t2,⟨⟨a,.head _,k1⟩,.inl ⟨k1,g1⟩,yeI hl fun b hb g=>k2 ⟨b,hb,g⟩⟩,rfl,hl⟩
  ·subst g2;obtain⟨b,hb,g⟩:=k2;exact⟨t1::t2,⟨⟨b,.tail _ hb,g⟩,.inr ⟨k1,rfl⟩,g1.2⟩,rfl,(y7F g1.2).2⟩
 s2 e s t t' hr h:=by
  obtain⟨rfl,hl⟩:=hr;obtain⟨h1,h2⟩:=h;obtain⟨s1,s2⟩:=s;cases t' with
  | nil=>exact h2.elim
  | cons t1 t2=>
   obtain⟨g1,g2⟩:=h2;refine⟨(t1,t2),?_,rfl,(y7F g2).2⟩;rcases g1 with ⟨k,g1⟩|⟨k,rfl⟩
   ·have he:e≠ -1:=fun e=>ha.2 (e▸k);by_cases hq:(TL l).ev e
    ·exact .inr ⟨he,.inl ⟨k,hq,g1,hq,g2⟩⟩
    ·exact .inr ⟨he,.inr (.inl ⟨k,hq,g1,yhp (fun b hb g=>hq ⟨b,hb,g⟩) g2⟩)⟩
   ·obtain ⟨b,hb,g⟩:=h1;rcases List.mem_cons.1 hb with rfl|hb
    ·exact absurd g k
    ·by_cases he:e= -1
     ·exact .inl ⟨he,.inr ⟨⟨⟨b,hb,g⟩,g2⟩,rfl⟩⟩
     ·exact .inr ⟨he,.inr (.inr ⟨k,⟨b,hb,g⟩,⟨⟨b,hb,g⟩,g2⟩,rfl⟩)⟩
 ev e:=⟨fun h=>h.elim (fun h=>⟨a,.head _,h⟩) fun⟨b,hb,g⟩=>⟨b,.tail _ hb,g⟩,fun⟨b,hb,g⟩=>(List.mem_cons.1 hb).elim (fun e=> .inl (e▸g)) fun hb=> .inr ⟨b,hb,g⟩⟩
theorem ydE{a:Lts Int}{x:Int}:∀{l:List (Lts Int)} {v:List Int},l.length=v.length→(tIni (l++[a]) (v++[x])↔tIni l v∧a.ini x)
 | [],[],_=>⟨fun h=>⟨trivial,h.1⟩,fun h=>⟨h.2,trivial⟩⟩
 | b::l,y::v,hl=>by
  have:=ydE (a:=a) (x:=x) (l:=l) (v:=v) (by simpa using hl);show b.ini y∧tIni (l++[a]) (v++[x])↔(b.ini y∧tIni l v)∧a.ini x;rw [this,and_assoc]
 | [],_::_,h=>by cases h
 | _::_,[],h=>by cases h
theorem yeJ{a:Lts Int}{x:Int}:∀{l:List (Lts Int)} {v:List Int},l.length=v.length→(tMk (l++[a]) (v++[x])↔tMk l v∧a.fin x)
 | [],[],_=>⟨fun h=>⟨trivial,h.1⟩,fun h=>⟨h.2,trivial⟩⟩
 | b::l,y::v,hl=>by
  have:=yeJ (a:=a) (x:=x) (l:=l) (v:=v) (by simpa using hl);show b.fin y∧tMk (l++[a]) (v++[x])↔(b.fin y∧tMk l v)∧a.fin x;rw [this,and_assoc]
 | [],_::_,h=>by cases h
 | _::_,[],h=>by cases h
theorem yeK{e:Int}{a:Lts Int}{x y:Int}:∀{l:List (Lts Int)} {v w:List Int},l.length=v.length→l.length=w.length→(tSt e (l++[a]) (v++[x]) (w++[y])↔tSt e l v w∧((a.ev e∧a.st e x y)∨(¬a.ev e∧y=x)))
 | [],[],[],_,_=>⟨fun h=>⟨trivial,h.1⟩,fun h=>⟨h.2,trivial⟩⟩
 | b::l,p::v,q::w,hl,hl2=>by
  have:=yeK (e:=e) (a:=a) (x:=x) (y:=y) (l:=l) (v:=v) (w:=w) (by simpa using hl) (by simpa using hl2);show _∧tSt e (l++[a]) (v++[x]) (w++[y])↔(_∧tSt e l v w)∧_;rw [this,and_assoc]
 | [],_::_,_,h,_=>by cases h
 | [],[],_::_,_,h=>by cases h
 | _::_,[],_,h,_=>by cases h
 | _::_,_::_,[],_,h=>by cases h
theorem ybU :∀{l:List (Lts Int)} {v:List Int},l.length=v.length→(tIni l.reverse v.reverse↔tIni l v)
 | [],[],_=>Iff.rfl
 | b::l,y::v,hl=>by
  have hl':l.length=v.length:=by simpa using hl
  rw [List.reverse_cons,List.reverse_cons,ydE (by simpa using hl'),ybU hl',And.comm];exact Iff.rfl
 | [],_::_,h=>by cases h
 | _::_,[],h=>by cases h
theorem yfQ :∀{l:List (Lts Int)} {v:List Int},l.length=v.length→(tMk l.reverse v.reverse↔tMk l v)
 | [],[],_=>Iff.rfl
 | b::l,y::v,hl=>by
  have hl':l.length=v.length:=by simpa using hl
  rw [List.reverse_cons,List.reverse_cons,yeJ (by simpa using hl'),yfQ hl',And.comm];exact Iff.rfl
 | [],_::_,h=>by cases h
 | _::_,[],h=>by cases h
theorem yd3{e:Int}:∀{l:List (Lts Int)} {v w:List Int},l.length=v.length→l.length=w.length→(tSt e l.reverse v.reverse w.reverse↔tSt e l v w)
 | [],[],[],_,_=>Iff.rfl
 | b::l,y::v,z::w,hl,hl2=>by
  have hl':l.length=v.length:=by simpa using hl
  have hl2':l.length=w.length:=by simpa using hl2
  rw [List.reverse_cons,List.reverse_cons,List.reverse_cons,yeK (by simpa using hl') (by simpa using hl2'),yd3 hl' hl2',And.comm];exact Iff.rfl
 | [],_::_,_,h,_=>by cases h
 | [],[],_::_,_,h=>by cases h
 | _::_,[],_,h,_=>by cases h
 | _::_,_::_,[],_,h=>by cases h
theorem ykC(l:List (Lts Int)):Same (TL l) (TL l.reverse) fun v w=>w=v.reverse∧l.length=v.length where
 i1 s h:=⟨s.reverse,(ybU (y7E h)).2 h,rfl,y7E h⟩
 i2 t h:=by
  have hl:l.length=t.reverse.length:=by have:=y7E h;simpa using this
  refine⟨t.reverse,(ybU hl).1 ?_,by rw [List.reverse_reverse],hl⟩;rw [List.reverse_reverse];exact h
 m s t hr:=by rw [hr.1];exact(yfQ hr.2).symm
 s1 s t s' hr h:=by
  obtain⟨rfl,hl⟩:=hr;obtain⟨e,⟨a,ha,g⟩,h2⟩:=h;have hl2:=(y7F h2).2;exact⟨s'.reverse,⟨e,⟨a,by simpa using ha,g⟩,(yd3 hl hl2).2 h2⟩,rfl,hl2⟩
 s2 s t t' hr h:=by
  obtain⟨rfl,hl⟩:=hr;obtain⟨e,⟨a,ha,g⟩,h2⟩:=h;have hl2:l.length=t'.reverse.length:=by have:=(y7F h2).2;simpa using this
  refine⟨t'.reverse,⟨e,⟨a,by simpa using ha,g⟩,(yd3 hl hl2).1 ?_⟩,by rw [List.reverse_reverse],hl2⟩;rw [List.reverse_reverse];exact h2
theorem nb_rev(l:List (Lts Int)):(TL l).NB↔(TL l.reverse).NB:=(ykC l).nb
theorem yjW{a:Lts Int}{l:List (Lts Int)}(ha:a.Det):(par a (TL l)).NB↔(TL (a::l)).NB:=(yhq ha).same.nb
theorem nb_round{a:Lts Int}{l:List (Lts Int)}(ha:a.Det){W:Lts S}{N:Lts S'}{B:Lts T}{H:Int→Prop}{R:S'→S×Int→Prop}{R':S'→T→Prop}(hN:WBis N (par W a) R)(hw:N.Wf)(hB:WBis (hide H N) B R')(hH:∀e,H e→¬(TL l).ev e)(h1:¬H (-1)):
  (par B (TL l)).NB↔(par W (TL (a::l))).NB:=
 (hB.nb (TL l)).symm.trans ((ydD hw hH h1).nb.trans ((hN.nb (TL l)).trans ((assoc W a (TL l)).nb.trans ((yhq ha).bis.nbR W))))
theorem nb_first{a:Lts Int}{l:List (Lts Int)}(ha:a.Det){N:Lts S'}{B:Lts T}{H:Int→Prop}{R:S'→Int→Prop}{R':S'→T→Prop}(hN:WBis N a R)(hw:N.Wf)(hB:WBis (hide H N) B R')(hH:∀e,H e→¬(TL l).ev e)(h1:¬H (-1)):
  (par B (TL l)).NB↔(TL (a::l)).NB:=
 (hB.nb (TL l)).symm.trans ((ydD hw hH h1).nb.trans ((hN.nb (TL l)).trans (yjW ha)))
theorem nb_last{B:Lts Int}(hw:B.Wf):(par B (TL [])).NB↔B.NB:=by
 have hn:∀s:List Int,(tIni [] s↔s= [])∧(tMk [] s↔s= []):=fun s=>by
  cases s with
  | nil=>exact⟨⟨fun _=>rfl,fun _=>trivial⟩,⟨fun _=>rfl,fun _=>trivial⟩⟩
  | cons x l=>exact⟨⟨fun h=>h.elim,nofun⟩,⟨fun h=>h.elim,nofun⟩⟩
 have hs:∀{e s t},¬(TL []).st e s t:=fun⟨⟨_,hb,_⟩,_⟩=>by cases hb
 have h:Lab (TL []) unit fun v w=>v=w:=
  {
   i1:=fun s h=>⟨s,(hn s).1.1 h,rfl⟩,
   i2:=fun s h=>⟨s,(hn s).1.2 h,rfl⟩,
   s1:=fun _ _ _ _ _ g=>(hs g).elim,
   s2:=fun _ _ _ _ _ g=>g.elim,
   m:=fun s t hr=>by subst hr;exact(hn s).2,
   ev:=fun e=>⟨fun ⟨_,hb,_⟩=>(by cases hb),fun h=>h.elim⟩ }
 exact(h.bis.nbR B).trans (yiJ B hw).nb
end Lts
namespace Lts
def mks(L:Lts Int)(s:Int):Prop:=∃m,L.tau s m∧L.fin m
def lab(L:Lts Int)(e:Int):Prop:=e= -1∨L.ev e
structure In (L:Lts Int) (V:Int→Prop):Prop where
 i:∀s,L.ini s→V s
 m:∀s,L.fin s→V s
 s:∀e s t,L.st e s t→V s∧V t
 wf:L.Wf
theorem In.tau{L:Lts Int}{V:Int→Prop}(h:L.In V){s t:Int}(hs:V s)(hp:L.tau s t):V t:=by
 induction hp with
 | refl=>exact hs
 | tail _ g _=>exact(h.s _ _ _ g).2
theorem In.wk{L:Lts Int}{V:Int→Prop}(h:L.In V){e s t:Int}(hs:V s)(hp:L.wk e s t):V t:=by
 rcases hp with ⟨_,hp⟩|⟨_,a,b,h1,h2,h3⟩
 ·exact h.tau hs hp
 ·exact h.tau (h.s _ _ _ h2).2 h3
structure Stb (L:Lts Int) (V:Int→Prop) (P:Int→Int→Prop):Prop where
 sy:∀s t,V s→V t→P s t→P t s
 m:∀s t,V s→V t→P s t→L.mks s→L.mks t
 w:∀s t,V s→V t→P s t→∀e,L.lab e→∀s',L.wk e s s'→∃t',L.wk e t t'∧P s' t'
def Crs(L:Lts Int)(V:Int→Prop)(c:Int→Int):Prop:=∀P,Stb L V P→∀s t,V s→V t→P s t→c s=c t
structure Abs (L:Lts Int) (c:Int→Int) (B:Lts Int):Prop where
 i:∀x,B.ini x↔ ∃s,L.ini s∧c s=x
 m:∀x,B.fin x↔ ∃s,L.fin s∧c s=x
 ev:∀e,B.ev e↔L.ev e
 s:∀e x y,B.st e x y↔ ∃s t,L.st e s t∧c s=x∧c t=y∧(e≠ -1∨x≠y)
section
variable{L B:Lts Int}{V:Int→Prop}{c:Int→Int}
theorem Abs.tau(h:Abs L c B){s t:Int}(hp:L.tau s t):B.tau (c s) (c t):=by
 induction hp with
 | refl=>exact .refl _
 | tail _ g ih=>
  rename_i a b _;by_cases hc:c a=c b
  ·rw [←hc];exact ih
  ·exact ih.tail ((h.s _ _ _).2 ⟨a,b,g,rfl,rfl,.inr hc⟩)
theorem Abs.wk(h:Abs L c B){e s t:Int}(hp:L.wk e s t):B.wk e (c s) (c t):=by
 rcases hp with ⟨he,hp⟩|⟨he,a,b,h1,h2,h3⟩
 ·exact .inl ⟨he,h.tau hp⟩
 ·exact .inr ⟨he,_,_,h.tau h1,(h.s _ _ _).2 ⟨a,b,h2,rfl,rfl,.inl he⟩,h.tau h3⟩
theorem ydF{s t u:Int}(h:L.tau s t)(h2:L.tau t u):L.tau s u:=Star.trans h h2
theorem Abs.step(h:Abs L c B)(hV:L.In V)(hS:Stb L V fun s t=>c s=c t){e s x:Int}(hs:V s)(hp:B.st e (c s) x):∃t,L.wk e s t∧c t=x:=by
 obtain⟨s1,t1,h1,h2,rfl,_⟩:=(h.s _ _ _).1 hp;obtain⟨t,h3,h4⟩:=hS.w s1 s (hV.s _ _ _ h1).1 hs h2 e (hV.wf.1 _ _ _ h1) t1 (ycw h1);exact⟨t,h3,h4.symm⟩
theorem Abs.tauB(h:Abs L c B)(hV:L.In V)(hS:Stb L V fun s t=>c s=c t){s x:Int}(hs:V s)(hp:B.tau (c s) x):∃t,L.tau s t∧c t=x:=by
 generalize hy:c s=y at hp
 induction hp with
 | refl=>exact⟨s,.refl _,hy⟩
 | tail _ g ih=>
  obtain⟨a,h1,rfl⟩:=ih;obtain⟨t,h2,h3⟩:=h.step hV hS (hV.tau hs h1) g;rcases h2 with ⟨_,h2⟩|⟨h2,_⟩
  ·exact ⟨t,ydF h1 h2,h3⟩
  ·exact absurd rfl h2
theorem Abs.mks(h:Abs L c B)(hV:L.In V)(hS:Stb L V fun s t=>c s=c t){s:Int}(hs:V s):B.mks (c s)↔L.mks s:=by
 constructor
 ·rintro ⟨m,h1,h2⟩;obtain⟨t,h3,rfl⟩:=h.tauB hV hS hs h1;obtain⟨u,h4,h5⟩:=(h.m _).1 h2;obtain⟨w,h6,h7⟩:=hS.m u t (hV.m _ h4) (hV.tau hs h3) h5 ⟨u,.refl _,h4⟩;exact⟨w,ydF h3 h6,h7⟩
 ·rintro ⟨m,h1,h2⟩;exact⟨c m,h.tau h1,(h.m _).2 ⟨m,h2,rfl⟩⟩
theorem Abs.bis(h:Abs L c B)(hV:L.In V)(hS:Stb L V fun s t=>c s=c t):WBis L B fun s x=>V s∧x=c s where
 ev e:=(h.ev e).symm
 f:=⟨fun s hs=>⟨c s,(h.i _).2 ⟨s,hs,rfl⟩,hV.i s hs,rfl⟩,fun e s x t hr hst=>by
   obtain⟨_,rfl⟩:=hr;exact⟨c t,h.wk (ycw hst),(hV.s _ _ _ hst).2,rfl⟩,
  fun s x hr hm=>by
   obtain⟨_,rfl⟩:=hr;exact⟨c s,.refl _,(h.m _).2 ⟨s,hm,rfl⟩⟩⟩
 b:=⟨fun x hx=>by
   obtain⟨s,hs,rfl⟩:=(h.i _).1 hx;exact⟨s,hs,hV.i s hs,rfl⟩,
  fun e x s y hr hst=>by
   obtain⟨hs,rfl⟩:=hr;obtain⟨t,h1,rfl⟩:=h.step hV hS hs hst;exact⟨t,h1,hV.wk hs h1,rfl⟩,
  fun x s hr hm=>by
   obtain⟨hs,rfl⟩:=hr;obtain⟨m,h1,h2⟩:=(h.mks hV hS hs).1 ⟨c s,.refl _,hm⟩;exact⟨m,h1,h2⟩⟩
end
end Lts
def y2z(c:List Int):Prop:=∀(i:Nat) (x:Int),c[i]? =some x→0≤x∧(∀y:Int,0≤y→y<x→∃j,j<i∧c[j]? =some y)∧((∃j,j<i∧c[j]? =some x)∨∀j y,j<i→c[j]? =some y→y<x)
theorem y2z.unique{c d:List Int}(hc:y2z c)(hd:y2z d)(hl:c.length=d.length)(he:∀(i j:Nat) (x y:Int),c[i]? =some x→c[j]? =some y→∀u v,d[i]? =some u→d[j]? =some v→(x=y↔u=v)):c=d:=by
 have key:∀n i:Nat,i<n→c[i]? =d[i]? :=by
  intro n
  induction n with
  | zero=>intro i hi;omega
  | succ n ih=>
   intro i hi;by_cases hlt:i<n
   ·exact ih i hlt
   have hin:i=n:=by omega
   subst hin;by_cases hic:i<c.length
   ·have hid:i<d.length:=by omega
    have e1:=yGe hic;have e2:=yGe hid;rw [e1,e2];generalize c[i]=x at e1;generalize d[i]=u at e2;congr 1;obtain⟨hx0,hx1,hx2⟩:=hc i x e1;obtain⟨hu0,hu1,hu2⟩:=hd i u e2;by_cases hex:∃j,j<i∧c[j]? =some x
    ·obtain ⟨j,hj,g⟩:=hex;have g2:d[j]? =some x:=by rw [←ih j hj];exact g
     exact(he i j x x e1 g u x e2 g2).1 rfl |>.symm
    ·have hx3:=hx2.resolve_left hex;by_cases heu:∃j,j<i∧d[j]? =some u
     ·obtain ⟨j,hj,g⟩:=heu;have g2:c[j]? =some u:=by rw [ih j hj];exact g
      exact absurd ⟨j,hj,by rw [(he i j x u e1 g2 u u e2 g).2 rfl];exact g2⟩ hex
     ·have hu3:=hu2.resolve_left heu;rcases Int.lt_trichotomy x u with h|h|h
      ·obtain ⟨j,hj,g⟩:=hu1 x hx0 h;have:=hx3 j x hj (by rw [ih j hj];exact g);omega
      ·exact h
      ·obtain ⟨j,hj,g⟩:=hx1 u hu0 h;have:=hu3 j u hj (by rw [←ih j hj];exact g);omega
   ·rw [List.getElem?_eq_none (by omega),List.getElem?_eq_none (by omega)]
 exact List.ext_getElem? fun i=>key (i+1) i (by omega)
end
section
open Go Go.RowKit
variable{a:NdT}{α:Type}{l:List (Int×Int)}{b:NdT}{q:Int×Int}{td:List α}
def ltsN(a:NdT):Lts Int:=⟨fun s=>s∈a.2.2.1,fun s=>s∈a.2.2.2.1,fun e s t=>(s,e,t)∈a.2.2.2.2,fun e=>e∈a.1⟩
theorem NdOk.wf(ha:NdOk a):(ltsN a).Wf:=⟨fun _ _ _ h=>(ha.esr _ h).2.2.2.2,fun h=>by have:=ha.alr _ h;omega⟩
theorem NdOk.inn(ha:NdOk a):(ltsN a).In fun s=>0≤s∧s<a.2.1:=⟨fun s h=>ha.inr s h,fun s h=>ha.mkr s h,fun e s t h=>by have:=ha.esr _ h;dsimp only at this;omega,ha.wf⟩
theorem yfR(a b:NdT)(i:Int)(p:Int×Int):∀(ev:LI) (st:List (Int×Int)×List E3),(∃t,(evF a b i p ev st).1=st.1++t)∧(∀e∈ev,∀q∈stpL a b p e,q∈(evF a b i p ev st).1)∧
  ∀x:E3,x∈(evF a b i p ev st).2↔x∈st.2∨∃e∈ev,∃q∈stpL a b p e,x=(i,e,((evF a b i p ev st).1.idxOf q:Int))
 | [],st=>⟨⟨[],by simp [evF]⟩,fun e he=>(by cases he),fun x=>by simp [evF]⟩
 | e::ev,st=>by
  obtain⟨⟨t,h1⟩,h2,h3⟩:=yfR a b i p ev (evS i st e (stpL a b p e));obtain⟨u,h5,_⟩:=yak (stpL a b p e) st.1;have e1:evF a b i p (e::ev) st=evF a b i p ev (evS i st e (stpL a b p e)):=rfl;have e2:(evS i st e (stpL a b p e)).2=st.2++(isL (rowF (stpL a b p e) st.1).1).map fun k=>(i,e,k):=rfl;have e3:(evS i st e (stpL a b p e)).1=(rowF (stpL a b p e) st.1).2:=rfl;have hm:∀q∈stpL a b p e,q∈(rowF (stpL a b p e) st.1).2:=fun q hq=>y8a (stpL a b p e) ([],st.1) q hq;rw [e1];rw [e3] at h1;refine⟨⟨u++t,by rw [h1,h5,yAa]⟩,fun e' he' q hq=>?_,fun x=>?_⟩
  ·rcases yMo.1 he' with rfl|he'
   ·rw [h1];exact yMl _ (hm q hq)
   ·exact h2 e' he' q hq
  ·rw [h3 x,e2,yMa,yMp];have hix:∀q∈stpL a b p e,(((evF a b i p ev (evS i st e (stpL a b p e))).1.idxOf q:Nat):Int)=(((rowF (stpL a b p e) st.1).2.idxOf q:Nat):Int):=fun q hq=>by rw [h1,y7Z (hm q hq)]
   have hrow:∀k,k∈isL (rowF (stpL a b p e) st.1).1↔ ∃q∈stpL a b p e,(((rowF (stpL a b p e) st.1).2.idxOf q:Nat):Int)=k:=fun k=>by
    rw [(y2e _).mem_iff,ybT,yMp]
   constructor
   ·rintro ((h|⟨k,hk,rfl⟩)|⟨e',he',q,hq,rfl⟩)
    ·exact .inl h
    ·obtain ⟨q,hq,rfl⟩:=(hrow k).1 hk;exact .inr ⟨e,.head _,q,hq,by rw [hix q hq]⟩
    ·exact .inr ⟨e',.tail _ he',q,hq,rfl⟩
   ·rintro (h|⟨e',he',q,hq,rfl⟩)
    ·exact .inl (.inl h)
    ·rcases yMo.1 he' with rfl|he'
     ·exact .inl (.inr ⟨_,(hrow _).2 ⟨q,hq,rfl⟩,by rw [hix q hq]⟩)
     ·exact .inr ⟨e',he',q,hq,rfl⟩
theorem yhr{l t:List α}{i:Nat}(h:i<l.length):(l++t)[i]? =l[i]? :=yAl h
structure PrI (a b:NdT) (ev:LI) (i:Nat) (S:List (Int×Int)×LI×List E3):Prop where
 m:∀x:Int,x∈S.2.1↔ ∃(m:Nat) (p:Int×Int),x=m∧m<i∧S.1[m]? =some p∧p.1∈a.2.2.2.1∧p.2∈b.2.2.2.1
 e:∀x:E3,x∈S.2.2↔ ∃(m:Nat) (p q:Int×Int),m<i∧S.1[m]? =some p∧q∈S.1∧x.2.1∈ev∧q∈stpL a b p x.2.1∧x.1=m∧x.2.2=(S.1.idxOf q:Int)
 q:∀(m:Nat) (p:Int×Int),m<i→S.1[m]? =some p→∀e∈ev,∀q∈stpL a b p e,q∈S.1
theorem yhs(a b:NdT)(ev:LI)(l:List (Int×Int)):∀i:Nat,(∀j,j<i→j<(prN a b ev l j).1.length)→PrI a b ev i (prN a b ev l i)
 | 0,_=>⟨fun x=>by simp [prN],fun x=>by simp [prN],fun m p hm=>by omega⟩
 | i+1,h=>by
  have ih:=yhs a b ev l i fun j hj=>h j (by omega);have hi:=h i (by omega);have e0:prN a b ev l (i+1)=prS a b ev i (prN a b ev l i):=rfl;rw [e0];unfold prS;generalize prN a b ev l i=S at ih hi;obtain⟨p0,hp0⟩:∃p,S.1[i]? =some p:=⟨S.1[i],yGe hi⟩;have hd:S.1.getD i (0,0)=p0:=by rw [yGd,hp0];rfl
  rw [hd];obtain⟨⟨t,h1⟩,h2,h3⟩:=yfR a b (i:Int) p0 ev (S.1,S.2.2);dsimp only at h1 h3 ⊢;generalize evF a b (i:Int) p0 ev (S.1,S.2.2)=r at h1 h2 h3;have hat:∀m:Nat,m≤i→r.1[m]? =S.1[m]? :=fun m hm=>by rw [h1];exact yhr (by omega)
  refine⟨fun x=>?_,fun x=>?_,fun m p hm hp e he q hq=>?_⟩
  ·dsimp only;have hold:x∈S.2.1↔ ∃(m:Nat) (p:Int×Int),x=m∧m<i∧r.1[m]? =some p∧p.1∈a.2.2.2.1∧p.2∈b.2.2.2.1:=by
    rw [ih.m x];constructor
    ·rintro ⟨m,p,h1,h2,h3,h4⟩;exact⟨m,p,h1,h2,by rw [hat m (by omega)];exact h3,h4⟩
    ·rintro ⟨m,p,h1,h2,h3,h4⟩;exact⟨m,p,h1,h2,by rw [←hat m (by omega)];exact h3,h4⟩
   split
   ·rename_i hb;rw [yAe,yd,yd] at hb;rw [yMa,hold,yMs];constructor
    ·rintro (⟨m,p,h1,h2,h3⟩|rfl)
     ·exact ⟨m,p,h1,by omega,h3⟩
     ·exact ⟨i,p0,rfl,by omega,by rw [hat i (by omega)];exact hp0,hb⟩
    ·rintro ⟨m,p,h1,h2,h3⟩;by_cases hm:m<i
     ·exact .inl ⟨m,p,h1,hm,h3⟩
     ·have:m=i:=by omega
      subst this;exact .inr h1
   ·rename_i hb;rw [yAe,yd,yd] at hb;rw [hold];constructor
    ·rintro ⟨m,p,h1,h2,h3⟩;exact⟨m,p,h1,by omega,h3⟩
    ·rintro ⟨m,p,k1,k2,k3,k4⟩;by_cases hm:m<i
     ·exact ⟨m,p,k1,hm,k3,k4⟩
     ·have:m=i:=by omega
      subst this;rw [hat m (by omega),hp0] at k3;cases k3;exact absurd k4 hb
  ·dsimp only;rw [h3 x,ih.e x];constructor
   ·rintro (⟨m,p,q,k1,k2,k3,k4,k5,k6,k7⟩|⟨e,he,q,hq,rfl⟩)
    ·exact ⟨m,p,q,by omega,by rw [hat m (by omega)];exact k2,by rw [h1];exact yMl _ k3,k4,k5,k6,by rw [h1,y7Z k3];exact k7⟩
    ·exact ⟨i,p0,q,by omega,by rw [hat i (by omega)];exact hp0,h2 e he q hq,he,hq,rfl,rfl⟩
   ·rintro ⟨m,p,q,k1,k2,k3,k4,k5,k6,k7⟩;by_cases hm:m<i
    ·rw [hat m (by omega)] at k2;have k8:=ih.q m p hm k2 _ k4 q k5;exact .inl ⟨m,p,q,hm,k2,k8,k4,k5,k6,by rw [h1,y7Z k8] at k7;exact k7⟩
    ·have:m=i:=by omega
     subst this;rw [hat m (by omega),hp0] at k2;cases k2;exact .inr ⟨_,k4,q,k5,Prod.ext k6 (Prod.ext rfl k7)⟩
  ·by_cases hm':m<i
   ·rw [hat m (by omega)] at hp;rw [h1];exact yMl _ (ih.q m p hm' hp e he q hq)
   ·have:m=i:=by omega
    subst this;rw [hat m (by omega),hp0] at hp;cases hp;exact h2 e he q hq
theorem yht{P:Int×Int→Prop}{i:Int}{p:Int×Int}:∀(ev:LI) (st:List (Int×Int)×List E3),(∀q∈st.1,P q)→(∀e∈ev,∀q∈stpL a b p e,P q)→∀q∈(evF a b i p ev st).1,P q
 | [],_,h,_=>h
 | e::ev,st,h,hs=>by
  have e1:evF a b i p (e::ev) st=evF a b i p ev (evS i st e (stpL a b p e)):=rfl;rw [e1];refine yht ev _ (fun q hq=>?_) fun e' he'=>hs e' (.tail _ he');obtain⟨u,h5,h6⟩:=yak (stpL a b p e) st.1;have hq:q∈(rowF (stpL a b p e) st.1).2:=hq;rw [h5] at hq;rcases yMa.1 hq with hq|hq
  ·exact h q hq
  ·exact hs e (.head _) q (h6 q hq)
theorem yhu{ev:LI}{P:Int×Int→Prop}(hl:∀q∈l,P q)(hs:∀p e q,P p→e∈ev→q∈stpL a b p e→P q):∀i:Nat,(∀j,j<i→j<(prN a b ev l j).1.length)→∀q∈(prN a b ev l i).1,P q
 | 0,_=>hl
 | i+1,h=>by
  have ih:=yhu hl hs i fun j hj=>h j (by omega);have hi:=h i (by omega);have e0:prN a b ev l (i+1)=prS a b ev i (prN a b ev l i):=rfl;rw [e0];unfold prS;refine yht ev _ ih fun e he q hq=>hs _ e q (ih _ ?_) he hq;rw [yGd,yGe hi];exact yGm hi
structure CmpOk (a b c:NdT) (ps:List (Int×Int)):Prop where
 al:c.1=dd (isL (a.1++b.1))
 st:c.2.1=(ps.length:Int)
 nd:ps.Nodup
 ing:∀p∈ps,InG a b p
 ini:∀x:Int,x∈c.2.2.1↔ ∃(m:Nat) (p:Int×Int),x=m∧ps[m]? =some p∧p.1∈a.2.2.1∧p.2∈b.2.2.1
 il:∀p q:Int,p∈a.2.2.1→q∈b.2.2.1→(p,q)∈ps
 m:∀x:Int,x∈c.2.2.2.1↔ ∃(m:Nat) (p:Int×Int),x=m∧ps[m]? =some p∧p.1∈a.2.2.2.1∧p.2∈b.2.2.2.1
 e:∀x:E3,x∈c.2.2.2.2↔ ∃(m k:Nat) (p q:Int×Int),x.1=m∧x.2.2=k∧ps[m]? =some p∧ps[k]? =some q∧(x.2.1= -1∨x.2.1∈c.1)∧q∈stpL a b p x.2.1
 q:∀p∈ps,∀e,(e= -1∨e∈c.1)→∀q∈stpL a b p e,q∈ps
theorem yeL(hn:l.Nodup){k:Nat}(h:l[k]? =some q):l.idxOf q=k:=by
 obtain⟨hk,e⟩:=yGs.1 h;rw [←e];exact hn.idxOf_getElem k hk
theorem ybV(h:q∈l):l[l.idxOf q]? =some q:=by
 have:=List.idxOf_lt_length_of_mem h;rw [yGe this,List.getElem_idxOf]
theorem yiK{p:Int×Int}{e:Int}(he:e= -1∨e∈a.1∨e∈b.1):q∈stpL a b p e↔(Lts.par (ltsN a) (ltsN b)).st e p q:=by
 rw [yeC];unfold rawL tsL Lts.par ltsN;dsimp only;by_cases h1:e= -1
 ·subst h1;simp only [if_true,ne_eq,not_true_eq_false,false_and,if_false,yMa,y2F,y5N,yMs,true_and,or_false];constructor
  ·rintro (⟨g1,g2⟩|⟨g1,g2⟩)
   ·exact .inl ⟨g1,g2⟩
   ·exact .inr ⟨g2,g1⟩
  ·rintro (⟨g1,g2⟩|⟨g1,g2⟩)
   ·exact .inl ⟨g1,g2⟩
   ·exact .inr ⟨g2,g1⟩
 ·rw [iN h1,y2F];have hB:∀xs:LI,hasB xs e=false↔e∉xs:=fun xs=>by rw [←yd];simp
  simp only [h1,false_and,false_or,ne_eq,not_false_eq_true,true_and,hB];have hc:e∈a.1∨e∈b.1:=he.resolve_left h1;by_cases k1:e∈a.1 <;> by_cases k2:e∈b.1 <;> simp only [k1,k2,not_true_eq_false,not_false_eq_true,if_true,if_false,y5N,yMs,true_and,false_and,or_false,false_or]
  ·constructor
   ·rintro ⟨g1,g2⟩;exact⟨g2,g1⟩
   ·rintro ⟨g1,g2⟩;exact⟨g2,g1⟩
  ·simp [k1,k2] at hc
theorem CmpOk.lab{c:NdT}{ps:List (Int×Int)}(h:CmpOk a b c ps)(ha:NdOk a)(hb:NdOk b):Lts.Lab (ltsN c) (Lts.par (ltsN a) (ltsN b)) fun i p=>0≤i∧ps[i.toNat]? =some p:=by
 have hev:∀e,e∈c.1↔e∈a.1∨e∈b.1:=fun e=>by rw [h.al,y6d,yMa]
 have hstp:∀(p q:Int×Int) (e:Int),(e= -1∨e∈c.1)→(q∈stpL a b p e↔(Lts.par (ltsN a) (ltsN b)).st e p q):=fun p q e he=>yiK (he.imp id (hev e).1);exact
  {
   i1:=fun s hs=>by
    obtain⟨m,p,rfl,g1,g2⟩:=(h.ini s).1 hs;exact⟨p,g2,by omega,by rw [yTn];exact g1⟩,
   i2:=fun p hp=>by
    have g:=ybV (h.il p.1 p.2 hp.1 hp.2);exact⟨(ps.idxOf p:Int),(h.ini _).2 ⟨_,p,rfl,g,hp⟩,by omega,by rw [yTn];exact g⟩,
   s1:=fun e s p s' ⟨h0,hr⟩ hst=>by
    obtain⟨m,k,p',q,g1,g2,g3,g4,g5,g6⟩:=(h.e _).1 hst;dsimp only at g1 g2 g5 g6;subst g1;subst g2;rw [yTn,g3] at hr;cases hr;exact⟨q,(hstp p q e g5).1 g6,by omega,by rw [yTn];exact g4⟩,
   s2:=fun e s p q ⟨h0,hr⟩ hst=>by
    have he:e= -1∨e∈c.1:=by
     rcases hst with ⟨h1,_⟩|⟨_,⟨h1,_⟩|⟨h1,_⟩|⟨_,h1,_⟩⟩
     ·exact .inl h1
     ·exact .inr ((hev e).2 (.inl h1))
     ·exact .inr ((hev e).2 (.inl h1))
     ·exact .inr ((hev e).2 (.inr h1))
    have hq:=(hstp p q e he).2 hst;have hqm:=h.q p (List.mem_of_getElem? hr) e he q hq;have g:=ybV hqm;exact⟨(ps.idxOf q:Int),(h.e _).2 ⟨s.toNat,_,p,q,by dsimp only;omega,rfl,hr,g,he,hq⟩,by omega,by rw [yTn];exact g⟩,
   m:=fun s p ⟨h0,hr⟩=>by
    constructor
    ·intro hs;obtain⟨m,p',rfl,g1,g2⟩:=(h.m s).1 hs;rw [yTn,g1] at hr;cases hr;exact g2
    ·intro hp;exact(h.m s).2 ⟨s.toNat,p,by omega,hr,hp⟩,
   ev:=hev }
theorem yeM(a b:NdT){ev:LI}(hev:ev.Pairwise (· < ·))(l:List (Int×Int)):∀i:Nat,
  (prN a b ev l i).2.1.Pairwise (· < ·)∧(∀m∈(prN a b ev l i).2.1,0≤m∧m<(i:Int))∧(prN a b ev l i).2.2.Pairwise ltE3∧
  (∀x∈(prN a b ev l i).2.2,0≤x.1∧x.1<(i:Int)∧x.2.1∈ev∧0≤x.2.2∧x.2.2<((prN a b ev l i).1.length:Int))∧∃t,(prN a b ev l i).1=l++t
 | 0=>⟨.nil,by simp [prN],.nil,by simp [prN],[],by simp [prN]⟩
 | i+1=>by
  obtain⟨h1,h2,h3,h4,t,h5⟩:=yeM a b hev l i;have e:prN a b ev l (i+1)=prS a b ev i (prN a b ev l i):=rfl;rw [e];unfold prS;generalize prN a b ev l i=S at h1 h2 h3 h4 h5;obtain⟨new,k1,k2,k3,u,k4⟩:=yaW a b (i:Int) (S.1.getD i (0,0)) ev (S.1,S.2.2) hev;refine⟨?_,fun m hm=>?_,?_,fun x hx=>?_,t++u,?_⟩
  ·dsimp only;split
   ·rw [List.pairwise_append];exact⟨h1,List.pairwise_singleton _ _,fun x hx y hy=>by rw [yMs.1 hy];exact(h2 x hx).2⟩
   ·exact h1
  ·dsimp only at hm;split at hm
   ·rcases yMa.1 hm with h|h
    ·have:=h2 m h;omega
    ·rw [yMs.1 h];omega
   ·have:=h2 m hm;omega
  ·dsimp only;rw [k1,List.pairwise_append];refine⟨h3,k2,fun x hx y hy=>?_⟩;have:=h4 x hx;have:=(k3 y hy).1;unfold ltE3;omega
  ·dsimp only at hx k4 ⊢;rw [k1] at hx;rcases yMa.1 hx with hx|hx
   ·obtain ⟨g1,g2,g3,g4,g5⟩:=h4 x hx;refine⟨g1,by omega,g3,g4,?_⟩;rw [k4,yLa];omega
   ·obtain ⟨g1,g2,g3,g4⟩:=k3 x hx;exact⟨by omega,by omega,g2,g3,g4⟩
  ·dsimp only at k4 ⊢;rw [k4,h5,yAa]
theorem yhv(n:Nat):(numsL n).Pairwise (· < ·):=by
 unfold numsL;rw [List.pairwise_map];exact List.pairwise_lt_range.imp fun h=>by omega
theorem ydG{n:Nat}{k:Int}(h:k∈numsL n):0≤k∧k<(n:Int):=by
 unfold numsL at h;obtain⟨i,hi,rfl⟩:=yMp.1 h;have:=List.mem_range.1 hi;omega
theorem ygr(ha:NdOk a)(hb:NdOk b)(hN:a.2.1.toNat*b.2.1.toNat≤4096)(lu:a.1.length+b.1.length≤64):
  ∃(c:NdT) (ps:List (Int×Int)),y4n a b=some (c,ps)∧yz a b=some (c,ps,0)∧CmpOk a b c ps∧(c.2.2.2.2.length≤65536→NdOk c)∧c.2.2.2.2.length≤(a.2.1.toNat*b.2.1.toNat)*((c.1.length+1)*(a.2.1.toNat*b.2.1.toNat))∧
   c.2.2.2.2.Pairwise ltE3∧∀P:Int×Int→Prop,(∀p q,p∈a.2.2.1→q∈b.2.2.1→P (p,q))→(∀p e q,P p→(e= -1∨e∈c.1)→q∈stpL a b p e→P q)→∀p∈ps,P p:=by
 obtain⟨n,h1,h2,h3,h4,h5,h6⟩:=ygq ha hb hN lu;have hu0:∀e∈dd (isL (a.1++b.1)),0≤e∧e<32:=fun e he=>by
  rcases yMa.1 (y6d.1 he) with h|h
  ·exact ha.alr e h
  ·exact hb.alr e h
 have hu:(dd (isL (a.1++b.1))).length≤a.1.length+b.1.length:=by
  have:=y9N (isL (a.1++b.1));rw [(y2e _).length_eq,yLa] at this;exact this
 have hev:(-1::dd (isL (a.1++b.1))).Pairwise (· < ·):=List.Pairwise.cons (fun x hx=>by have:=hu0 x hx;omega) (y6c _);obtain⟨k1,k2,k3⟩:=ycu ha hb h4 (ev:= -1::dd (isL (a.1++b.1))) n h2;obtain⟨g1,g2,g3,g4,t,g5⟩:=yeM a b hev (ye a.2.2.1 b.2.2.1) n;have hP:=yhs a b (-1::dd (isL (a.1++b.1))) (ye a.2.2.1 b.2.2.1) n h2;have hn:n≤(prN a b (-1::dd (isL (a.1++b.1))) (ye a.2.2.1 b.2.2.1) n).1.length:=by
  cases n with
  | zero=>omega
  | succ m=>
   have:=h2 m (by omega);have e:prN a b (-1::dd (isL (a.1++b.1))) (ye a.2.2.1 b.2.2.1) (m+1)=prS a b (-1::dd (isL (a.1++b.1))) m (prN a b (-1::dd (isL (a.1++b.1))) (ye a.2.2.1 b.2.2.1) m):=rfl;rw [e];unfold prS;obtain⟨new,_,_,_,u,j4⟩:=yaW a b (m:Int) ((prN a b (-1::dd (isL (a.1++b.1))) (ye a.2.2.1 b.2.2.1) m).1.getD m (0,0)) _ ((prN a b (-1::dd (isL (a.1++b.1))) (ye a.2.2.1 b.2.2.1) m).1,(prN a b (-1::dd (isL (a.1++b.1))) (ye a.2.2.1 b.2.2.1) m).2.2) hev;dsimp only at j4 ⊢;rw [j4,yLa];omega
 have k4:=k1.len;refine⟨_,_,h5,h6,?_,fun hE=>?_,?_,g3,fun P hi hs=>yhu (fun q hq=>hi q.1 q.2 (y2F.1 hq).1 (y2F.1 hq).2) (fun p e q hp he=>hs p e q hp (yMo.1 he)) n h2⟩
 ·generalize prN a b (-1::dd (isL (a.1++b.1))) (ye a.2.2.1 b.2.2.1) n=S at *;have hlt:∀{m:Nat} {p:Int×Int},S.1[m]? =some p→m<n:=fun h=>by
   have:=(yGs.1 h).1;omega
  exact
   {
    al:=rfl,
    st:=rfl,
    nd:=k1.nd,
    ing:=k1.ing,
    ini:=fun x=>by
     dsimp only;constructor
     ·intro hx;have hm:=ydG hx;have hk:x.toNat<(ye a.2.2.1 b.2.2.1).length:=by omega
      have hg:=yGm hk;exact⟨x.toNat,(ye a.2.2.1 b.2.2.1)[x.toNat],by omega,by rw [g5,yhr hk,yGe hk],y2F.1 hg⟩
     ·rintro ⟨m,p,rfl,hp,hq⟩;have hc:=y2F.2 hq;have e1:=yeL k1.nd hp;rw [g5,y7Z hc] at e1;have:=List.idxOf_lt_length_of_mem hc;unfold numsL;exact yMp.2 ⟨m,List.mem_range.2 (by omega),rfl⟩,
    il:=fun p q hp hq=>by
     rw [g5];exact yMl _ (y2F.2 ⟨hp,hq⟩),
    m:=fun x=>by
     dsimp only;rw [hP.m x];constructor
     ·rintro ⟨m,p,h1,_,h3⟩;exact⟨m,p,h1,h3⟩
     ·rintro ⟨m,p,h1,h3⟩;exact⟨m,p,h1,hlt h3.1,h3⟩,
    e:=fun x=>by
     dsimp only;rw [hP.e x];constructor
     ·rintro ⟨m,p,q,j1,j2,j3,j4,j5,j6,j7⟩;exact⟨m,_,p,q,j6,j7,j2,ybV j3,yMo.1 j4,j5⟩
     ·rintro ⟨m,k,p,q,j1,j2,j3,j4,j5,j6⟩;exact⟨m,p,q,hlt j3,j3,List.mem_of_getElem? j4,yMo.2 j5,j6,j1,by rw [yeL k1.nd j4];exact j2⟩,
    q:=fun p hp e he q hq=>by
     obtain⟨m,hm,e1⟩:=List.mem_iff_getElem.1 hp;exact hP.q m p (by omega) (by rw [yGe hm,e1]) e (yMo.2 he) q hq }
 ·generalize prN a b (-1::dd (isL (a.1++b.1))) (ye a.2.2.1 b.2.2.1) n=S at *;have hc:(ye a.2.2.1 b.2.2.1).length≤S.1.length:=by rw [g5,yLa];omega
  refine⟨y6c _,hu0,by dsimp only;omega,by dsimp only;omega,yhv _,fun x hx=>?_,g1,fun x hx=>?_,g3,fun x hx=>?_,by dsimp only;omega,by dsimp only;rw [yaV];omega,by dsimp only;omega,hE⟩
  ·have:=ydG hx;dsimp only;omega
  ·have:=g2 x hx;dsimp only;omega
  ·obtain ⟨j1,j2,j3,j4,j5⟩:=g4 x hx;refine⟨j1,by dsimp only;omega,j4,j5,?_⟩;rcases yMo.1 j3 with h|h
   ·exact .inl h
   ·exact .inr h
 ·dsimp only;have m1:n≤a.2.1.toNat*b.2.1.toNat:=by omega
  rw [yLc] at k3;exact Nat.le_trans k3 (Nat.mul_le_mul_right _ m1)
theorem yhw{i n:Nat}(h:i<n):rng (i:Int) n=some ():=by
 unfold rng;rw [iP (by simp;omega)]
theorem yhx{n:Nat}{f:Int→Option (Int⊕(Unit⊕Unit))}(hn:n≤4294967296)(step:∀j,j<n→f (j:Int)=some (.inl (((j+1:Nat):Int))))(last:f (n:Int)=some (.inr (.inl ()))):iter f 0=some (.inl ()):=by
 obtain⟨o,ho,he⟩:=yb (f:=f) (fun j st=>st=(j:Int)) (fun o=>o= .inl ()) n 0 (by omega) (fun j st hj e1=>by
   subst e1;exact .inl ⟨_,step j hj,rfl⟩)
  (fun st e1=>by
   subst e1;exact⟨_,last,rfl⟩) (by omega) 0 rfl
 rw [ho,he]
theorem yeN{xs:LI}(h:xs.length≤4294967296):yF xs xs=some true:=by
 rw [yF,iN (by simp),yhx h (fun j hj=>by
  unfold y1X;rw [iP (ct_lt hj),ya hj,yOb,yOb,iN (by simp),nxt (by omega)]) (by
  unfold y1X;rw [iN ct_ge])]
 rfl
theorem yjX :y5Y=some true:=by kernel_rfl
inductive Rc3 (es:List E3) (S:LI):Int→Prop
 | ini {s:Int}:s∈S→Rc3 es S s
 | edge {x:E3}:x∈es→Rc3 es S x.1→Rc3 es S x.2.2
def flg(B:List Bool)(s:Int):Bool:=B.getD s.toNat false
def passF(es:List E3)(B:List Bool):List Bool:=es.foldl (fun B x=>if flg B x.1=true then B.set x.2.2.toNat true else B) B
theorem y8O{B:List Bool}{s t:Int}(hs:0≤s)(ht:0≤t)(h:t.toNat<B.length):flg (B.set t.toNat true) s=if s=t then true else flg B s:=by
 unfold flg;rw [yGd,yGd,List.getElem?_set];by_cases e:s=t
 ·subst e;rw [iP rfl,iP h,iP rfl];rfl
 ·rw [iN (by omega),iN e]
theorem y9j(es:List E3):∀B:List Bool,(passF es B).length=B.length:=by
 unfold passF
 induction es with
 | nil=>intro B;rfl
 | cons x es ih=>
  intro B;rw [List.foldl_cons,ih];split
  ·rw [List.length_set]
  ·rfl
section
variable{n:Nat}
theorem ycx{es0:List E3}{S:LI}(es:List E3)(hsub:∀x∈es,x∈es0)(hr:∀x∈es,0≤x.1∧x.1<(n:Int)∧0≤x.2.2∧x.2.2<(n:Int)):∀B:List Bool,B.length=n→(∀s,0≤s→flg B s=true→Rc3 es0 S s)→
  (∀s,0≤s→flg (passF es B) s=true→Rc3 es0 S s)∧(∀s,0≤s→flg B s=true→flg (passF es B) s=true)∧(passF es B=B→∀x∈es,flg B x.1=true→flg B x.2.2=true):=by
 induction es with
 | nil=>intro B _ h;exact⟨h,fun _ _ h=>h,fun _ x hx=>by cases hx⟩
 | cons x es ih=>
  intro B hB h;have hx:=hr x (.head _);have e:passF (x::es) B=passF es (if flg B x.1=true then B.set x.2.2.toNat true else B):=rfl;have hB2:(if flg B x.1=true then B.set x.2.2.toNat true else B).length=n:=by
   split
   ·rw [List.length_set];exact hB
   ·exact hB
  have hup:∀s,0≤s→flg B s=true→flg (if flg B x.1=true then B.set x.2.2.toNat true else B) s=true:=fun s hs h1=>by
   split
   ·rw [y8O hs hx.2.2.1 (by omega)];split
    ·rfl
    ·exact h1
   ·exact h1
  obtain⟨h1,h2,h3⟩:=ih (fun y hy=>hsub y (.tail _ hy)) (fun y hy=>hr y (.tail _ hy)) _ hB2 (fun s hs hf=>by
   split at hf
   ·rename_i hf1;rw [y8O hs hx.2.2.1 (by omega)] at hf;split at hf
    ·rename_i e;rw [e];exact .edge (hsub x (.head _)) (h _ hx.1 hf1)
    ·exact h s hs hf
   ·exact h s hs hf)
  refine⟨fun s hs hf=>h1 s hs (e▸hf),fun s hs hf=>by rw [e];exact h2 s hs (hup s hs hf),fun he y hy hf=>?_⟩;have hback:∀s,0≤s→flg (if flg B x.1=true then B.set x.2.2.toNat true else B) s=true→flg B s=true:=fun s hs h4=>by
   rw [←he,e];exact h2 s hs h4
  have hBB:(if flg B x.1=true then B.set x.2.2.toNat true else B)=B:=by
   split
   ·rename_i hf1;have h5:flg B x.2.2=true:=hback _ hx.2.2.1 (by rw [iP hf1,y8O hx.2.2.1 hx.2.2.1 (by omega),iP rfl]);unfold flg at h5;rw [yGd,yGe (by omega),Option.getD_some] at h5;exact List.ext_getElem (by simp) fun i i1 i2=>by
     rw [List.getElem_set];split
     ·rename_i e2;subst e2;exact h5.symm
     ·rfl
   ·rfl
  rcases yMo.1 hy with rfl|hy
  ·exact hback _ hx.2.2.1 (by rw [iP hf,y8O hx.2.2.1 hx.2.2.1 (by omega),iP rfl])
  ·rw [hBB] at h3;exact h3 (by rw [e,hBB] at he;exact he) y hy hf
end
theorem yeO :∀{B B':List Bool},B.length=B'.length→(∀i:Nat,B[i]? =some true→B'[i]? =some true)→B.count true≤B'.count true∧(B.count true=B'.count true→B=B')
 | [],[],_,_=>⟨yNr _,fun _=>rfl⟩
 | [],_::_,h,_=>by simp at h
 | _::_,[],h,_=>by simp at h
 | b::B,c::C,h,hi=>by
  obtain⟨h1,h2⟩:=yeO (B:=B) (B':=C) (by simpa using h) fun i hb=>by simpa using hi (i+1) (by simpa using hb)
  have h0:=hi 0;cases b <;> cases c <;> simp at h0 ⊢
  ·exact ⟨h1,h2⟩
  ·exact ⟨by omega,fun e=>by omega⟩
  ·exact ⟨h1,h2⟩
def passN(es:List E3)(B:List Bool):Nat→List Bool
 | 0=>B
 | k+1=>passF es (passN es B k)
theorem ycy{B:List Bool}{i:Nat}:B[i]? =some true↔flg B (i:Int)=true:=by
 unfold flg;rw [yTn,yGd];cases B[i]? with
 | none=>simp
 | some b=>cases b <;> simp
theorem ycz{es:List E3}{S:LI}{n:Nat}(hr:∀x∈es,0≤x.1∧x.1<(n:Int)∧0≤x.2.2∧x.2.2<(n:Int)){B:List Bool}(hB:B.length=n)(hs:∀s,0≤s→flg B s=true→Rc3 es S s):∀k,
  (passN es B k).length=n∧(∀s,0≤s→flg (passN es B k) s=true→Rc3 es S s)∧(∀s,0≤s→flg B s=true→flg (passN es B k) s=true)∧(passF es (passN es B k)=passN es B k∨k≤(passN es B k).count true)
 | 0=>⟨hB,hs,fun _ _ h=>h,.inr (yZl _)⟩
 | k+1=>by
  obtain⟨h1,h2,h3,h4⟩:=ycz hr hB hs k;obtain⟨g1,g2,g3⟩:=ycx (es0:=es) (S:=S) es (fun _ h=>h) hr _ h1 h2;have hl:=y9j es (passN es B k);refine⟨by rw [passN,hl,h1],g1,fun s h0 h=>g2 s h0 (h3 s h0 h),?_⟩;by_cases hf:passF es (passN es B k)=passN es B k
  ·left;show passF es (passF es (passN es B k))=passF es (passN es B k);rw [hf,hf]
  ·right;rcases h4 with h4|h4
   ·exact absurd h4 hf
   ·obtain ⟨c1,c2⟩:=yeO (B:=passN es B k) (B':=passF es (passN es B k)) hl.symm fun i hi=>ycy.2 (g2 _ (by omega) (ycy.1 hi));have:(passN es B k).count true≠(passF es (passN es B k)).count true:=fun e=>hf (c2 e).symm;show k+1≤(passF es (passN es B k)).count true;omega
theorem yiL{es:List E3}{S:LI}{n:Nat}(hr:∀x∈es,0≤x.1∧x.1<(n:Int)∧0≤x.2.2∧x.2.2<(n:Int)){B:List Bool}(hB:B.length=n)(hs:∀s,0≤s→(flg B s=true↔s∈S))(hS:∀s∈S,0≤s):(passN es B n).length=n∧∀s,0≤s→(flg (passN es B n) s=true↔Rc3 es S s):=by
 obtain⟨h1,h2,h3,h4⟩:=ycz (S:=S) hr hB (fun s h0 h=> .ini ((hs s h0).1 h)) n;obtain⟨g1,g2,g3⟩:=ycx (es0:=es) (S:=S) es (fun _ h=>h) hr _ h1 h2;have hfix:passF es (passN es B n)=passN es B n:=by
  rcases h4 with h4|h4
  ·exact h4
  ·obtain ⟨c1,c2⟩:=yeO (B:=passN es B n) (B':=passF es (passN es B n)) (y9j es _).symm fun i hi=>ycy.2 (g2 _ (by omega) (ycy.1 hi));have c3:(passF es (passN es B n)).count true≤(passF es (passN es B n)).length:=List.count_le_length;rw [y9j,h1] at c3;exact(c2 (by omega)).symm
 refine⟨h1,fun s h0=>⟨h2 s h0,fun h=>?_⟩⟩;clear h0
 induction h with
 | ini hm=>exact h3 _ (hS _ hm) ((hs _ (hS _ hm)).2 hm)
 | edge hx _ ih=>exact g3 hfix _ hx ih
theorem ydH{β γ:Type}{xs:List β}(f:Int×γ→Option ((Int×γ)⊕γ))(g:γ→β→γ)(I:γ→Prop)(hx:xs.length≤4294967296)(hI:∀o,I o→∀x∈xs,I (g o x))
  (step:∀j (hj:j<xs.length) (o:γ),I o→f ((j:Int),o)=some (.inl (((j+1:Nat):Int),g o xs[j]))) (last:∀o:γ,f ((xs.length:Int),o)=some (.inr o)) {out:γ} (h0:I out):iter f (0,out)=some (xs.foldl g out):=by
 obtain⟨o,ho,he⟩:=yb (f:=f) (fun j (st:Int×γ)=>st=((j:Int),(xs.take j).foldl g out)∧I ((xs.take j).foldl g out)) (fun o=>o=xs.foldl g out) xs.length 0 (by omega) (fun j st hj ⟨e1,e2⟩=>by
   subst e1;have hs:(xs.take (j+1)).foldl g out=g ((xs.take j).foldl g out) xs[j]:=by rw [yTs hj,List.foldl_append];rfl
   exact .inl ⟨_,step j hj _ e2,by rw [hs],by rw [hs];exact hI _ e2 _ (yGm hj)⟩)
  (fun st ⟨e1,_⟩=>by
   subst e1;exact⟨_,last _,by rw [List.take_length]⟩) (by omega) (0,out) ⟨rfl,h0⟩
 rw [ho,he]
def setF(S:LI)(B:List Bool):List Bool:=S.foldl (fun B s=>B.set s.toNat true) B
theorem y9Q{xs:List α}{s:Int}{v:α}(h:0≤s∧s<(xs.length:Int)):upd xs s v=some (xs.set s.toNat v):=by unfold upd;rw [iP h]
theorem y6H{xs:List Bool}{s:Int}(h:0≤s∧s<(xs.length:Int)):idx xs s=some (flg xs s):=by
 unfold idx flg;rw [iP h.1,yGd,yGe (by omega)];rfl
theorem yhy{S:LI}{n:Nat}(hS:∀s∈S,0≤s∧s<(n:Int))(hl:S.length≤4294967296){B:List Bool}(hB:B.length=n):iter (y1T S) (0,B)=some (setF S B):=by
 unfold setF;refine ydH (y1T S) _ (fun B=>B.length=n) hl (fun o h x _=>by rw [List.length_set];exact h) (fun j hj o ho=>?_) (fun o=>?_) hB
 ·have:=hS _ (yGm hj);unfold y1T;simp only [ct_lt hj,if_true,ya hj,yOb];rw [y6H (by omega),yOb,y9Q (by omega),yOb,nxt (by omega)]
 ·unfold y1T;simp
def selE(ev:LI)(es:List E3):List E3:=es.filter fun x=>ev.isEmpty||hasB ev x.2.1
theorem yiM(es:List E3):selE [] es=es:=by unfold selE;simp
theorem yhz{n:Nat}{ev:LI}(hev:ev.length≤1000000)(hr:∀x∈a.2.2.2.2,0≤x.1∧x.1<(n:Int)∧0≤x.2.2∧x.2.2<(n:Int))(hl:a.2.2.2.2.length≤4294967296){B:List Bool}(hB:B.length=n):iter (y1R a ev) (0,B)=some (passF (selE ev a.2.2.2.2) B):=by
 unfold passF selE;rw [List.foldl_filter];refine ydH (y1R a ev) _ (fun B=>B.length=n) hl (fun o h x _=>by
  split
  ·split
   ·rw [List.length_set];exact h
   ·exact h
  ·exact h) (fun j hj o ho=>?_) (fun o=>?_) hB
 ·have hx:=hr _ (yGm hj);have hc:(if ((ev.length:Int)==0)=true then some true else(yl ev a.2.2.2.2[j].2.1).bind fun r=>some r)=some (ev.isEmpty||hasB ev a.2.2.2.2[j].2.1):=by
   rw [y5M (by omega),yOb];cases ev with
   | nil=>rfl
   | cons x l=>
    have:((x::l).length:Int)≠0:=by rw [yLc];omega
    rw [iN (by simpa using this)];rfl
  unfold y1R;simp only [ct_lt hj,if_true,ya hj,yOb];rw [y6H (by omega),yOb,hc,yOb];cases hf:flg o a.2.2.2.2[j].1 with
  | true=>
   simp only [if_true,yOb];split
   ·rw [y6H (by omega),yOb,y9Q (by omega),yOb,y1b];simp only [nxt (show j<4611686018427387904 by omega)]
   ·rw [y1b];simp only [nxt (show j<4611686018427387904 by omega)]
  | false=>
   simp only [Bool.false_eq_true,if_false,yOb,ite_self];rw [y1b];simp only [nxt (show j<4611686018427387904 by omega)]
 ·unfold y1R;simp
theorem yhA{n:Nat}{ev:LI}(hev:ev.length≤1000000)(hn:a.2.1=(n:Int))(hn1:n≤4096)(hr:∀x∈a.2.2.2.2,0≤x.1∧x.1<(n:Int)∧0≤x.2.2∧x.2.2<(n:Int))(hl:a.2.2.2.2.length≤4294967296){B:List Bool}(hB:B.length=n):iter (y1S a ev) (0,B)=some (passN (selE ev a.2.2.2.2) B n):=by
 have hlen:∀k,(passN (selE ev a.2.2.2.2) B k).length=n:=fun k=>by
  induction k with
  | zero=>exact hB
  | succ k ih=>unfold passN;rw [y9j,ih]
 obtain⟨o,ho,he⟩:=yb (f:=y1S a ev) (fun j st=>st=((j:Int),passN (selE ev a.2.2.2.2) B j)) (fun o=>o=passN (selE ev a.2.2.2.2) B n) n 0 (by omega) (fun j st hj e1=>by
   subst e1;refine .inl ⟨_,?_,rfl⟩;unfold y1S;simp only [hn,ct_lt hj,if_true];rw [yhz hev hr hl (hlen j),yOb,nxt (by omega)];rfl)
  (fun st e1=>by
   subst e1;refine⟨_,?_,rfl⟩;unfold y1S;simp [hn]) (by omega) (0,B) rfl
 rw [ho,he]
def staL(n:Nat)(q:Nat→Bool):LI:=((List.range n).filter q).map fun i:Nat=>(i:Int)
theorem yaX(n:Nat)(q:Nat→Bool):staL (n+1) q=staL n q++if q n=true then [(n:Int)] else []:=by
 unfold staL;rw [List.range_succ,List.filter_append,List.map_append];congr 1;rw [List.filter_cons];split <;> rfl
theorem y7e(n:Nat)(q:Nat→Bool):(staL n q).length≤n:=by
 unfold staL;rw [yLm];exact Nat.le_trans (List.length_filter_le _ _) (by simp)
theorem yhB{B:List Bool}(hB:B.length≤4096):iter (y1Q B) (0,([]:LI))=some (staL B.length fun i=>flg B (i:Int)):=by
 obtain⟨o,ho,he⟩:=yb (f:=y1Q B) (fun j st=>st=((j:Int),staL j fun i=>flg B (i:Int))) (fun o=>o=staL B.length fun i=>flg B (i:Int)) B.length 0 (by omega) (fun j st hj e1=>by
   subst e1;refine .inl ⟨_,?_,rfl⟩;have hl:=y7e j fun i=>flg B (i:Int);unfold y1Q;simp only [ct_lt hj,if_true];rw [y6H (by omega),yOb,yaX];split
   ·rw [yv (by simp;omega),yOb,y1P];simp only [nxt (show j<4611686018427387904 by omega)]
   ·rw [y1P,List.append_nil];simp only [nxt (show j<4611686018427387904 by omega)])
  (fun st e1=>by
   subst e1;refine⟨_,?_,rfl⟩;unfold y1Q;simp) (by omega) (0,[]) rfl
 rw [ho,he]
theorem ydI{n:Nat}:∀(S:LI),(∀s∈S,0≤s∧s<(n:Int))→∀B:List Bool,B.length=n→(setF S B).length=n∧∀s,0≤s→(flg (setF S B) s=true↔s∈S∨flg B s=true)
 | [],_,B,hB=>⟨hB,fun s _=>by simp [setF]⟩
 | x::S,hS,B,hB=>by
  have hx:=hS x (.head _);obtain⟨h1,h2⟩:=ydI S (fun s hs=>hS s (.tail _ hs)) (B.set x.toNat true) (by rw [List.length_set];exact hB);refine⟨h1,fun s h0=>?_⟩;show flg (setF S (B.set x.toNat true)) s=true↔_;rw [h2 s h0,y8O h0 hx.1 (by omega),yMo];by_cases e:s=x
  ·subst e;simp
  ·rw [iN e];constructor
   ·rintro (h|h)
    ·exact .inl (.inr h)
    ·exact .inr h
   ·rintro ((h|h)|h)
    ·exact absurd h e
    ·exact .inl h
    ·exact .inr h
theorem yhC(ha:NdOk a){S ev:LI}(hev:ev.length≤1000000)(hS:∀s∈S,0≤s∧s<a.2.1)(hl:S.length≤4294967296):∃q:Nat→Bool,yX a S ev=some (staL a.2.1.toNat q)∧∀i:Nat,i<a.2.1.toNat→(q i=true↔Rc3 (selE ev a.2.2.2.2) S (i:Int)):=by
 obtain⟨n,hn⟩:∃n:Nat,a.2.1=(n:Int):=⟨a.2.1.toNat,by have:=ha.n0;omega⟩;have hn1:=ha.n1;have hle:=ha.le;rw [hn] at hS;have hr:∀x∈a.2.2.2.2,0≤x.1∧x.1<(n:Int)∧0≤x.2.2∧x.2.2<(n:Int):=fun x hx=>by
  have:=ha.esr x hx;omega
 have h0:(List.replicate n false).length=n:=List.length_replicate ..;obtain⟨h1,h2⟩:=ydI S hS _ h0;obtain⟨g1,g2⟩:=yiL (es:=selE ev a.2.2.2.2) (S:=S) (fun x hx=>hr x (List.mem_filter.1 hx).1) h1 (fun s hs=>by
  rw [h2 s hs];have:flg (List.replicate n false) s=false:=by
   unfold flg;rw [yGd,List.getElem?_replicate];split <;> rfl
  simp [this]) fun s hs=>(hS s hs).1
 refine⟨fun i=>flg (passN (selE ev a.2.2.2.2) (setF S (List.replicate n false)) n) (i:Int),?_,fun i _=>g2 _ (by omega)⟩;have hm:mkL a.2.1 false=some (List.replicate n false):=by unfold mkL;rw [hn,iP (by omega)];rfl
 have h3:=yhB (B:=passN (selE ev a.2.2.2.2) (setF S (List.replicate n false)) n) (by omega);rw [g1] at h3;rw [yX,hm,yOb,yhy hS hl h0,yOb,yhA hev hn (by omega) hr (by omega) h1,yOb,h3,yOb,hn,yTn]
theorem ydJ(ha:NdOk a){S:LI}(hS:∀s∈S,0≤s∧s<a.2.1)(hl:S.length≤4294967296):∃q:Nat→Bool,yX a S []=some (staL a.2.1.toNat q)∧∀i:Nat,i<a.2.1.toNat→(q i=true↔Rc3 a.2.2.2.2 S (i:Int)):=by
 have:=yhC ha (ev:=[]) (by simp) hS hl;rwa [yiM] at this
theorem yjY{xs:LI}{p:Int→Option Bool}{g:Int→Bool}(hl:xs.length≤1000000)(hp:∀x∈xs,p x=some (g x)):y1U xs p=some (xs.any g):=by
 obtain⟨o,h1,h2⟩:=yb (f:=y3G xs p) (fun i s=>s=(i:Int)∧xs.any g=(xs.drop i).any g) (fun o=>(o= .inl ()∧xs.any g=false)∨∃i:Nat,o= .inr (i:Int)∧xs.any g=true) xs.length 0 (by omega) (fun i s hi ⟨e1,e2⟩=>by
  subst e1;rw [yDc hi,List.any_cons] at e2;rw [y3G,iP (ct_lt hi),ya hi,yOb,hp _ (yGm hi),yOb];cases hg:g xs[i] with
  | true=>
   rw [hg] at e2;exact .inr ⟨_,by rw [iP rfl],.inr ⟨i,rfl,e2⟩⟩
  | false=>
   rw [hg] at e2;exact .inl ⟨_,by rw [iN (by simp),nxt (by omega)],rfl,e2⟩) (fun s ⟨e1,e2⟩=>by
  subst e1;rw [List.drop_length] at e2;exact⟨_,by rw [y3G,iN ct_ge],.inl ⟨rfl,e2⟩⟩) (yZl _) 0 ⟨rfl,rfl⟩
 rw [y1U,y5K,h1,yOb];rcases h2 with ⟨rfl,e⟩|⟨i,rfl,e⟩
 ·rw [e];rfl
 ·rw [e];show some (decide ((i:Int)≥0))=some true;simp
theorem y7G{n:Nat}{q:Nat→Bool}{x:Int}:x∈staL n q↔ ∃i:Nat,x=i∧i<n∧q i=true:=by
 unfold staL;simp only [yMp,List.mem_filter,List.mem_range];constructor
 ·rintro ⟨i,⟨h1,h2⟩,rfl⟩;exact⟨i,rfl,h1,h2⟩
 ·rintro ⟨i,rfl,h1,h2⟩;exact⟨i,⟨h1,h2⟩,rfl⟩
noncomputable def goodB(a:NdT)(s:Int):Bool:=@decide (∃t∈a.2.2.2.1,Rc3 a.2.2.2.2 [s] t) (Classical.propDecidable _)
theorem yiN(ha:NdOk a):∃q:Nat→Bool,(∀i:Nat,i<a.2.1.toNat→(q i=true↔Rc3 a.2.2.2.2 a.2.2.1 (i:Int)))∧y2b a=some ((staL a.2.1.toNat q).filter fun s=>!goodB a s):=by
 have hn1:=ha.n1;have hlm:=ha.lm;obtain⟨q,h1,h2⟩:=ydJ ha (S:=a.2.2.1) ha.inr (by have:=ha.li;omega);refine⟨q,h2,?_⟩;have hlen:=y7e a.2.1.toNat q;have hg:∀s:Int,0≤s→s<a.2.1→∃l,yX a [s] []=some l∧y1U l (y2U a)=some (goodB a s):=fun s hs0 hs1=>by
  obtain⟨r,k1,k2⟩:=ydJ ha (S:=[s]) (fun x hx=>by rw [yMs.1 hx];exact⟨hs0,hs1⟩) (by simp);refine⟨_,k1,?_⟩;have hl2:=y7e a.2.1.toNat r;rw [yjY (g:=hasB a.2.2.2.1) (by omega) (fun x _=>by rw [y2U,y5M (by omega)];rfl)];congr 1;rw [Bool.eq_iff_iff,List.any_eq_true];unfold goodB;rw [@decide_eq_true_iff _ (Classical.propDecidable _)];constructor
  ·rintro ⟨t,ht,hm⟩;obtain⟨i,rfl,hi,hr⟩:=y7G.1 ht;exact⟨_,yd.1 hm,(k2 i hi).1 hr⟩
  ·rintro ⟨t,hm,hr⟩;have:=ha.mkr t hm;refine⟨t,y7G.2 ⟨t.toNat,by omega,by omega,(k2 _ (by omega)).2 ?_⟩,yd.2 hm⟩;rwa [show ((t.toNat:Nat):Int)=t by omega]
 have hf:∀(xs out:LI),xs.foldl (fun out x=>if(!goodB a x)=true then out++[x] else out) out=out++xs.filter fun s=>!goodB a s:=by
  intro xs
  induction xs with
  | nil=>intro out;simp
  | cons x xs ih=>
   intro out;rw [List.foldl_cons,ih];cases h:!goodB a x <;> simp [h]
 have hloop:iter (y2v a (staL a.2.1.toNat q)) (0,([]:LI))=some ((staL a.2.1.toNat q).foldl (fun out x=>if(!goodB a x)=true then out++[x] else out) []):=by
  obtain⟨o,ho,he⟩:=yb (f:=y2v a (staL a.2.1.toNat q)) (fun j st=>st=((j:Int),((staL a.2.1.toNat q).take j).foldl (fun out x=>if(!goodB a x)=true then out++[x] else out) [])) (fun o=>o=(staL a.2.1.toNat q).foldl (fun out x=>if(!goodB a x)=true then out++[x] else out) []) (staL a.2.1.toNat q).length 0 (by omega) (fun j st hj e1=>by
    subst e1;refine .inl ⟨_,?_,rfl⟩;obtain⟨i,hi,hin,_⟩:=y7G.1 (yGm hj);obtain⟨l,m1,m2⟩:=hg (staL a.2.1.toNat q)[j] (by omega) (by omega);have hb:(((staL a.2.1.toNat q).take j).foldl (fun out x=>if(!goodB a x)=true then out++[x] else out) []).length≤j:=by
     rw [hf,List.nil_append];exact Nat.le_trans (List.length_filter_le _ _) (by rw [yLt];omega)
    rw [yTs hj,List.foldl_append];unfold y2v;simp only [ct_lt hj,if_true,ya hj,yOb,m1,m2,List.foldl_cons,List.foldl_nil];split
    ·rw [yv (by rw [List.length_singleton];omega),yOb,y2u];simp only [nxt (show j<4611686018427387904 by omega)]
    ·rw [y2u];simp only [nxt (show j<4611686018427387904 by omega)])
   (fun st e1=>by
    subst e1;refine⟨(staL a.2.1.toNat q).foldl (fun out x=>if(!goodB a x)=true then out++[x] else out) [],?_,rfl⟩;rw [List.take_length];unfold y2v;simp) (by omega) (0,[]) rfl
  rw [ho,he]
 rw [y2b,h1,yOb,hloop,yOb,hf,List.nil_append]
def frm(bk:Bool)(x:E3):Int:=if bk=true then x.2.2 else x.1
def tow(bk:Bool)(x:E3):Int:=if bk=true then x.1 else x.2.2
def nxF(bk:Bool)(N:List LI)(x:E3):List LI:=N.set (frm bk x).toNat (N.getD (frm bk x).toNat []++[tow bk x])
theorem yhD(ha:NdOk a)(bk:Bool){n:Nat}(hn:a.2.1=(n:Int)):iter (y2P a bk) (0,List.replicate n ([]:LI))=some (a.2.2.2.2.foldl (nxF bk) (List.replicate n [])):=by
 have hle:=ha.le;obtain⟨o,ho,he⟩:=yb (f:=y2P a bk) (fun j st=>st=((j:Int),(a.2.2.2.2.take j).foldl (nxF bk) (List.replicate n []))∧st.2.length=n∧∀i:Nat,(st.2.getD i []).length≤j) (fun o=>o=a.2.2.2.2.foldl (nxF bk) (List.replicate n [])) a.2.2.2.2.length 0 (by omega) (fun j st hj ⟨e1,e2,e3⟩=>by
   obtain⟨g1,g2,g3,g4,_⟩:=ha.esr _ (yGm hj);have hf:0≤frm bk a.2.2.2.2[j]∧frm bk a.2.2.2.2[j]<(n:Int):=by
    unfold frm;split <;> omega
   have hs:(a.2.2.2.2.take (j+1)).foldl (nxF bk) (List.replicate n [])=nxF bk ((a.2.2.2.2.take j).foldl (nxF bk) (List.replicate n [])) a.2.2.2.2[j]:=by rw [yTs hj,List.foldl_append];rfl
   obtain⟨s1,N⟩:=st;obtain⟨e0,e1'⟩:=Prod.mk.inj e1;dsimp only at e2 e3;rw [←e1'] at hs;subst e0;have hj1:y2O ((j:Int),N) (frm bk a.2.2.2.2[j]) (tow bk a.2.2.2.2[j])=some (.inl (((j+1:Nat):Int),nxF bk N a.2.2.2.2[j])):=by
    have hidx:idx N (frm bk a.2.2.2.2[j])=some (N.getD (frm bk a.2.2.2.2[j]).toNat []):=by
     unfold idx;rw [iP hf.1,yGd,yGe (by omega)];rfl
    have hb:=e3 (frm bk a.2.2.2.2[j]).toNat;rw [y2O];simp only;rw [hidx,yOb,yv (by rw [List.length_singleton];omega),yOb,yOb,y9Q (by omega),yOb,nxt (by omega)];rfl
   refine .inl ⟨(((j+1:Nat):Int),nxF bk N a.2.2.2.2[j]),?_,by rw [hs],by unfold nxF;rw [List.length_set];exact e2,fun i=>?_⟩
   ·unfold y2P;simp only [ct_lt hj,if_true,ya hj,yOb];rw [←hj1];unfold frm tow;cases bk <;> rfl
   ·have h1:=e3 i;have h2:=e3 (frm bk a.2.2.2.2[j]).toNat;unfold nxF;dsimp only;rw [yGd,List.getElem?_set];split
    ·split
     ·rw [Option.getD_some,yLa,List.length_singleton];omega
     ·rw [Option.getD_none,List.length_nil];omega
    ·rw [←yGd];omega)
  (fun st ⟨e1,_,_⟩=>by
   subst e1;refine⟨a.2.2.2.2.foldl (nxF bk) (List.replicate n []),?_,rfl⟩;rw [List.take_length];unfold y2P;simp) (by omega) (0,List.replicate n []) ⟨rfl,List.length_replicate ..,fun i=>by
    rw [yGd,List.getElem?_replicate];split <;> simp⟩
 rw [ho,he]
theorem yd4(bk:Bool){n:Nat}:∀(es:List E3),(∀x∈es,0≤frm bk x∧frm bk x<(n:Int))→∀N:List LI,N.length=n→
  (es.foldl (nxF bk) N).length=n∧∀(i:Nat) (t:Int),t∈(es.foldl (nxF bk) N).getD i []↔t∈N.getD i []∨∃x∈es,frm bk x=(i:Int)∧tow bk x=t
 | [],_,N,hN=>⟨hN,fun i t=>by simp⟩
 | x::es,hr,N,hN=>by
  have hx:=hr x (.head _);obtain⟨h1,h2⟩:=yd4 bk es (fun y hy=>hr y (.tail _ hy)) (nxF bk N x) (by unfold nxF;rw [List.length_set];exact hN);refine⟨h1,fun i t=>?_⟩;rw [List.foldl_cons,h2];have h3:t∈(nxF bk N x).getD i []↔t∈N.getD i []∨(frm bk x=(i:Int)∧tow bk x=t):=by
   unfold nxF;rw [yGd,List.getElem?_set];by_cases e:(frm bk x).toNat=i
   ·rw [iP e,iP (by omega),Option.getD_some,e,yMa,yMs];constructor
    ·rintro (h|h)
     ·exact .inl h
     ·exact .inr ⟨by omega,h.symm⟩
    ·rintro (h|⟨_,h⟩)
     ·exact .inl h
     ·exact .inr h.symm
   ·rw [iN e,←yGd];constructor
    ·exact .inl
    ·rintro (h|⟨h,_⟩)
     ·exact h
     ·omega
  rw [h3];constructor
  ·rintro ((h|h)|⟨y,hy,h⟩)
   ·exact .inl h
   ·exact .inr ⟨x,.head _,h⟩
   ·exact .inr ⟨y,.tail _ hy,h⟩
  ·rintro (h|⟨y,hy,h⟩)
   ·exact .inl (.inl h)
   ·rcases yMo.1 hy with rfl|hy
    ·exact .inl (.inr h)
    ·exact .inr ⟨y,hy,h⟩
inductive RcL (lead:Int→LI) (S:LI):Int→Prop
 | ini {s:Int}:s∈S→RcL lead S s
 | step {s t:Int}:RcL lead S s→t∈lead s→RcL lead S t
def potS(lead:Int→LI)(B:List Bool):Nat→Nat
 | 0=>0
 | k+1=>potS lead B k+if flg B (k:Int)=true then 0 else(lead (k:Int)).length
theorem yeP{lead:Int→LI}{B:List Bool}{x:Nat}(hx:x<B.length)(hf:flg B (x:Int)=false):∀k:Nat,potS lead (B.set x true) k+(if x<k then(lead (x:Int)).length else 0)=potS lead B k
 | 0=>rfl
 | k+1=>by
  have ih:=yeP (lead:=lead) hx hf k;have e:=y8O (B:=B) (s:=(k:Int)) (t:=(x:Int)) (by omega) (by omega) (by omega);rw [yTn] at e;show potS lead (B.set x true) k+(if flg (B.set x true) (k:Int)=true then 0 else(lead (k:Int)).length)+(if x<k+1 then(lead (x:Int)).length else 0)=potS lead B k+if flg B (k:Int)=true then 0 else(lead (k:Int)).length
  by_cases h1:k=x
  ·subst h1;rw [iN (Nat.lt_irrefl _)] at ih;rw [e,iP rfl,iP rfl,iP (Nat.lt_succ_self _),hf,iN (by simp)];omega
  ·rw [iN (by omega)] at e;rw [e];by_cases h2:x<k
   ·rw [iP h2] at ih;rw [iP (show x<k+1 by omega)];omega
   ·rw [iN h2] at ih;rw [iN (show ¬x<k+1 by omega)];omega
theorem yfS{lead:Int→LI}{B:List Bool}{M:Nat}:∀k:Nat,(∀i:Nat,i<k→(lead (i:Int)).length≤M)→potS lead B k≤k*M
 | 0,_=>by simp [potS]
 | k+1,h=>by
  have ih:=yfS (B:=B) k fun i hi=>h i (by omega);have:=h k (by omega);rw [Nat.add_mul,Nat.one_mul];unfold potS;split <;> omega
structure SrI (lead:Int→LI) (S:LI) (n:Nat) (B:List Bool) (todo:LI):Prop where
 len:B.length=n
 rng:∀x∈todo,0≤x∧x<(n:Int)
 rc:∀x∈todo,RcL lead S x
 fl:∀s,0≤s→flg B s=true→RcL lead S s
 nx:∀s,0≤s→flg B s=true→∀t∈lead s,flg B t=true∨t∈todo
 st:∀s∈S,flg B s=true∨s∈todo
theorem ybr{σ ο:Type}{f:σ→Option (σ⊕ο)}(mk:List Bool→LI→σ)(out:List Bool→ο){lead:Int→LI}{S:LI}{n M:Nat}(hn:n≤4096)(hM:M≤65536)(hSl:S.length≤300000000)(hS:∀s∈S,0≤s∧s<(n:Int))
  (hl:∀s,0≤s→s<(n:Int)→(lead s).length≤M∧∀t∈lead s,0≤t∧t<(n:Int))
  (s1:∀B todo x,B.length=n→0≤x→x<(n:Int)→todo.length≤600000000→flg B x=true→f (mk B (todo++[x]))=some (.inl (mk B todo)))
  (s2:∀B todo x,B.length=n→0≤x→x<(n:Int)→todo.length+(lead x).length≤600000000→flg B x=false→f (mk B (todo++[x]))=some (.inl (mk (B.set x.toNat true) (todo++lead x))))
  (s3:∀B,f (mk B [])=some (.inr (out B))):
  ∃B,iter f (mk (List.replicate n false) S)=some (out B)∧B.length=n∧∀s,0≤s→(flg B s=true↔RcL lead S s):=by
 have hf0:∀s,flg (List.replicate n false) s=false:=fun s=>by
  unfold flg;rw [yGd,List.getElem?_replicate];split <;> rfl
 have hp0:potS lead (List.replicate n false) n≤4096*65536:=Nat.le_trans (yfS (M:=M) n fun i hi=>(hl _ (by omega) (by omega)).1) (Nat.mul_le_mul hn hM);obtain⟨o,h1,B,rfl,h2,h3⟩:=yb (f:=f) (fun i s=>∃B todo,s=mk B todo∧SrI lead S n B todo∧i+todo.length+potS lead B n≤600000000) (fun o=>∃B,o=out B∧B.length=n∧∀s,0≤s→(flg B s=true↔RcL lead S s)) 600000001 0 (by omega) (fun i s _ ⟨B,todo,e1,hI,hm⟩=>by
   subst e1;rcases List.eq_nil_or_concat todo with rfl|⟨td,x,rfl⟩
   ·refine .inr ⟨_,s3 B,B,rfl,hI.len,fun s hs=>⟨hI.fl s hs,fun h=>?_⟩⟩;clear hs
    induction h with
    | ini h=>exact(hI.st _ h).resolve_right (by simp)
    | step hr h ih=>
     have h0:∀{s:Int},RcL lead S s→0≤s∧s<(n:Int):=fun h=>by
      clear ih
      induction h with
      | ini h=>exact hS _ h
      | step _ h ih=>exact(hl _ ih.1 ih.2).2 _ h
     exact(hI.nx _ (h0 hr).1 ih _ h).resolve_right (by simp)
   ·rw [List.concat_eq_append] at hI hm ⊢;have hx:=hI.rng x (by simp);rw [yLa,List.length_singleton] at hm;left;cases hf:flg B x with
    | true=>
     refine⟨_,s1 B td x hI.len hx.1 hx.2 (by omega) hf,B,td,rfl,⟨hI.len,fun y hy=>hI.rng y (by simp [hy]),fun y hy=>hI.rc y (by simp [hy]),hI.fl,fun s hs hb t ht=>?_,fun s hs=>?_⟩,by omega⟩
     ·rcases hI.nx s hs hb t ht with h|h
      ·exact .inl h
      ·rcases yMa.1 h with h|h
       ·exact .inr h
       ·rw [yMs.1 h];exact .inl hf
     ·rcases hI.st s hs with h|h
      ·exact .inl h
      ·rcases yMa.1 h with h|h
       ·exact .inr h
       ·rw [yMs.1 h];exact .inl hf
    | false=>
     obtain⟨k,rfl⟩:∃k:Nat,x=(k:Int):=⟨x.toNat,by omega⟩;have hk:k<B.length:=by have:=hI.len;omega
     have hp:=yeP (lead:=lead) hk hf n;rw [iP (by omega)] at hp;have hrx:=hI.rc _ (yMr td (yMs.2 rfl));have hfs:∀s,0≤s→flg (B.set k true) s=if s=(k:Int) then true else flg B s:=fun s hs=>by
      have e:=y8O (B:=B) (t:=(k:Int)) hs (by omega) (by omega);rwa [yTn] at e
     have hms:i+1+(td++lead k).length+potS lead (B.set k true) n≤600000000:=by rw [yLa];omega
     refine⟨_,s2 B td k hI.len hx.1 hx.2 (by rw [yLa] at hms;omega) hf,B.set k true,td++lead k,rfl,⟨by rw [List.length_set];exact hI.len,fun y hy=>?_,fun y hy=>?_,fun s hs h=>?_,fun s hs hb t ht=>?_,fun s hs=>?_⟩,hms⟩
     ·rcases yMa.1 hy with hy|hy
      ·exact hI.rng y (by simp [hy])
      ·exact (hl _ hx.1 hx.2).2 y hy
     ·rcases yMa.1 hy with hy|hy
      ·exact hI.rc y (by simp [hy])
      ·exact .step hrx hy
     ·rw [hfs s hs] at h;split at h
      ·rename_i e;rw [e];exact hrx
      ·exact hI.fl s hs h
     ·rw [hfs s hs] at hb;have key:∀{t:Int},0≤t→flg B t=true∨t∈td++[(k:Int)]→flg (B.set k true) t=true∨t∈td++lead k:=fun {t} h0 h=>by
       rw [hfs t h0];rcases h with h|h
       ·left;split
        ·rfl
        ·exact h
       ·rcases yMa.1 h with h|h
        ·exact .inr (yMl _ h)
        ·rw [yMs.1 h,iP rfl];exact .inl rfl
      split at hb
      ·rename_i e;rw [e] at ht;exact .inr (yMr _ ht)
      ·rcases hI.nx s hs hb t ht with h|h
       ·by_cases h0:0≤t
        ·exact key h0 (.inl h)
        ·exfalso;have hs2:s<(n:Int):=by
          rcases Int.lt_or_le s n with h|h
          ·exact h
          ·exfalso;unfold flg at hb;rw [yGd,yGn (by have:=hI.len;omega)] at hb;simp at hb
         have:=(hl s hs hs2).2 t ht;omega
       ·exact key (hI.rng t h).1 (.inr h)
     ·have h0:=hS s hs;rw [hfs s h0.1];rcases hI.st s hs with h|h
      ·left;split
       ·rfl
       ·exact h
      ·rcases yMa.1 h with h|h
       ·exact .inr (yMl _ h)
       ·rw [yMs.1 h,iP rfl];exact .inl rfl)
  (fun s ⟨B,todo,_,_,hm⟩=>by omega) (by omega) _ ⟨_,S,rfl,⟨List.length_replicate ..,hS,fun x hx=> .ini hx,fun s _ h=>by rw [hf0 s] at h;simp at h,fun s _ h=>by rw [hf0 s] at h;simp at h,fun s hs=> .inr hs⟩,by omega⟩
 exact⟨B,h1,h2,h3⟩
theorem yb7{x:α}(h:td.length≤4294967296):idx (td++[x]) (W (((td++[x]).length:Int)-1))=some x:=by
 have e:(((td++[x]).length:Int)-1)=(td.length:Int):=by rw [yLa,List.length_singleton];omega
 rw [e,W_nat (by omega),ya (by simp)];simp
theorem yb8{x:α}(h:td.length≤4294967296):slc (td++[x]) 0 (W (((td++[x]).length:Int)-1))=some td:=by
 have e:(((td++[x]).length:Int)-1)=(td.length:Int):=by rw [yLa,List.length_singleton];omega
 have:=y9O (xs:=td++[x]) (i:=0) (j:=td.length) (by omega) (by simp);rw [e,W_nat (by omega)];rw [show (0:Int)=((0:Nat):Int) from rfl,this];simp
theorem yb9{x:α}:decide (((td++[x]).length:Int)>0)=true:=by simp
def rowsN(bk:Bool)(n:Nat)(es:List E3):List LI:=es.foldl (nxF bk) (List.replicate n [])
def ledN(bk:Bool)(n:Nat)(es:List E3)(s:Int):LI:=(rowsN bk n es).getD s.toNat []
theorem ycA(bk:Bool):∀(es:List E3) (N:List LI) (i:Nat),((es.foldl (nxF bk) N).getD i []).length≤(N.getD i []).length+es.length
 | [],N,i=>yNr _
 | x::es,N,i=>by
  have h:=ycA bk es (nxF bk N x) i;rw [List.foldl_cons,yLc];have h2:((nxF bk N x).getD i []).length≤(N.getD i []).length+1:=by
   unfold nxF;rw [yGd,List.getElem?_set];split
   ·rename_i e;split
    ·rw [Option.getD_some,yLa,e];simp
    ·rw [Option.getD_none];simp
   ·rw [yGd];omega
  omega
theorem y8P(ha:NdOk a){bk:Bool}{s t:Int}(hs:0≤s):t∈ledN bk a.2.1.toNat a.2.2.2.2 s↔ ∃x∈a.2.2.2.2,frm bk x=s∧tow bk x=t:=by
 have h0:=ha.n0;obtain⟨_,h2⟩:=yd4 bk (n:=a.2.1.toNat) a.2.2.2.2 (fun x hx=>by
  have:=ha.esr x hx;unfold frm;split <;> omega) (List.replicate a.2.1.toNat []) (List.length_replicate ..)
 unfold ledN rowsN;rw [h2];have:t∉(List.replicate a.2.1.toNat ([]:LI)).getD s.toNat []:=by
  rw [yGd,List.getElem?_replicate];split <;> simp
 simp only [this,false_or];rw [show ((s.toNat:Nat):Int)=s by omega]
theorem ydK(ha:NdOk a){S:LI}(hS:∀s∈S,0≤s∧s<a.2.1)(hl:S.length≤1000000)(bk:Bool):
  ∃B,y3W a S bk=some B∧B.length=a.2.1.toNat∧∀s,0≤s→(flg B s=true↔RcL (ledN bk a.2.1.toNat a.2.2.2.2) S s):=by
 have h0:=ha.n0;have h1:=ha.n1;have hle:=ha.le;obtain⟨n,hn⟩:∃n:Nat,a.2.1=(n:Int):=⟨a.2.1.toNat,by omega⟩;have hnn:a.2.1.toNat=n:=by omega
 have hl1:=yhD ha bk hn;have hrl:=(yd4 bk (n:=n) a.2.2.2.2 (fun x hx=>by
  have:=ha.esr x hx;unfold frm;split <;> omega) (List.replicate n []) (List.length_replicate ..)).1
 have hled:∀s,0≤s→s<(n:Int)→idx (rowsN bk n a.2.2.2.2) s=some (ledN bk n a.2.2.2.2 s):=fun s hs hs2=>by
  unfold idx ledN;rw [iP hs,yGd,yGe (by unfold rowsN;omega)];rfl
 have hml:=fun s t=>y8P ha (bk:=bk) (s:=s) (t:=t);rw [hnn] at hml;rw [hnn];obtain⟨B,k1,k2,k3⟩:=ybr (f:=y1t (rowsN bk n a.2.2.2.2)) (fun B todo=>(todo,B)) (fun B=>B) (lead:=ledN bk n a.2.2.2.2) (S:=S) (n:=n) (M:=65536) (by omega) (yNr _) (by omega) (fun s hs=>by have:=hS s hs;omega) (fun s hs hs2=>⟨by
   have:=ycA bk a.2.2.2.2 (List.replicate n []) s.toNat;have e:((List.replicate n ([]:LI)).getD s.toNat []).length=0:=by
    rw [yGd,List.getElem?_replicate];split <;> simp
   unfold ledN rowsN;omega,fun t ht=>by
   obtain⟨x,hx,_,rfl⟩:=(hml s t hs).1 ht;have:=ha.esr x hx;unfold tow;split <;> omega⟩)
  (fun B td x hB hx0 hx1 htd hf=>by
   unfold y1t;simp only [yb9,if_true];rw [yb7 (by omega),yOb,yb8 (by omega),yOb,y6H (by omega),yOb,hf];simp)
  (fun B td x hB hx0 hx1 htd hf=>by
   unfold y1t;simp only [yb9,if_true];rw [yb7 (by omega),yOb,yb8 (by omega),yOb,y6H (by omega),yOb,hf];simp only [Bool.not_false,if_true,yOb];rw [y9Q (by omega),yOb,hled x hx0 hx1,yOb,yv (by omega),yOb])
  (fun B=>by
   unfold y1t;simp)
 refine⟨B,?_,k2,k3⟩;have hm:mkL a.2.1 ([]:LI)=some (List.replicate n []):=by unfold mkL;rw [hn,iP (by omega)];rfl
 have hm2:mkL a.2.1 false=some (List.replicate n false):=by unfold mkL;rw [hn,iP (by omega)];rfl
 rw [y3W,hm,yOb,hl1,yOb,hm2,yOb,y6h (by omega),yOb];show(iter (y1t (rowsN bk n a.2.2.2.2)) (S,List.replicate n false)).bind _=_;rw [k1];rfl
theorem yjZ(ha:NdOk a){S:LI}(hS:∀s∈S,0≤s){t:Int}:RcL (ledN false a.2.1.toNat a.2.2.2.2) S t↔Rc3 a.2.2.2.2 S t:=by
 constructor
 ·intro h
  suffices g:0≤t∧Rc3 a.2.2.2.2 S t from g.2
  induction h with
  | ini h=>exact⟨hS _ h,.ini h⟩
  | step _ h ih=>
   obtain⟨x,hx,h1,h2⟩:=(y8P ha ih.1).1 h;have:=ha.esr x hx;simp only [frm,tow,Bool.false_eq_true,if_false] at h1 h2;subst h2;exact⟨this.2.2.1,.edge hx (h1▸ih.2)⟩
 ·intro h
  induction h with
  | ini h=>exact .ini h
  | edge hx _ ih=>exact .step ih ((y8P ha (ha.esr _ hx).1).2 ⟨_,hx,rfl,rfl⟩)
theorem yk0(ha:NdOk a){S:LI}(hS:∀s∈S,0≤s){s:Int}:RcL (ledN true a.2.1.toNat a.2.2.2.2) S s↔ ∃t∈S,Star (ltsN a).nxt1 s t:=by
 constructor
 ·intro h
  suffices g:0≤s∧∃t∈S,Star (ltsN a).nxt1 s t from g.2
  induction h with
  | ini h=>exact⟨hS _ h,_,h,.refl _⟩
  | step _ h ih=>
   obtain⟨x,hx,h1,h2⟩:=(y8P ha ih.1).1 h;have:=ha.esr x hx;simp only [frm,tow,if_true] at h1 h2;subst h2;obtain⟨t,ht,g⟩:=ih.2;rw [←h1] at g;exact⟨this.1,t,ht,Star.head ⟨_,hx⟩ g⟩
 ·rintro ⟨t,ht,h⟩;have key:∀{s u:Int},Star (ltsN a).nxt1 s u→RcL (ledN true a.2.1.toNat a.2.2.2.2) S u→RcL (ledN true a.2.1.toNat a.2.2.2.2) S s:=fun {s u} h=>by
   induction h with
   | refl=>exact id
   | tail _ g ih=>
    intro hr;obtain⟨e,g⟩:=g;exact ih (.step hr ((y8P ha (ha.esr _ g).2.2.1).2 ⟨_,g,rfl,rfl⟩))
  exact key h (.ini ht)
theorem ygs(ha:NdOk a){q:Nat→Bool}(hq:∀i:Nat,i<a.2.1.toNat→(q i=true↔Rc3 a.2.2.2.2 a.2.2.1 (i:Int))):y1k a=some ((staL a.2.1.toNat q).filter fun s=>!goodB a s):=by
 have h0:=ha.n0;have h1:=ha.n1;have hli:=ha.li;have hlm:=ha.lm;obtain⟨B,e1,l1,f1⟩:=ydK ha ha.inr hli false;obtain⟨C,e2,l2,f2⟩:=ydK ha ha.mkr hlm true;obtain⟨n,hn⟩:∃n:Nat,a.2.1=(n:Int):=⟨a.2.1.toNat,by omega⟩;have hnn:a.2.1.toNat=n:=by omega
 have hb:∀i:Nat,i<n→flg B (i:Int)=q i∧flg C (i:Int)=goodB a (i:Int):=fun i hi=>by
  constructor
  ·rw [Bool.eq_iff_iff,f1 _ (by omega),yjZ ha (fun s hs=>(ha.inr s hs).1),hq i (by omega)]
  ·rw [Bool.eq_iff_iff,f2 _ (by omega),yk0 ha (fun s hs=>(ha.mkr s hs).1)];unfold goodB;rw [@decide_eq_true_iff _ (Classical.propDecidable _)];constructor
   ·rintro ⟨t,ht,h⟩;refine⟨t,ht,?_⟩;clear ht
    induction h with
    | refl=>exact .ini (yMs.2 rfl)
    | tail _ g ih=>obtain⟨e,g⟩:=g;exact .edge (x:=(_,e,_)) g ih
   ·rintro ⟨t,ht,h⟩;refine⟨t,ht,?_⟩;clear ht
    induction h with
    | ini h=>rw [yMs.1 h];exact .refl _
    | edge hx _ ih=>exact ih.tail ⟨_,hx⟩
 have hf:∀j:Nat,(staL (j+1) q).filter (fun s=>!goodB a s)=(staL j q).filter (fun s=>!goodB a s)++if(q j && !goodB a (j:Int))=true then [(j:Int)] else []:=fun j=>by
  rw [yaX,List.filter_append];congr 1;cases q j <;> cases h:goodB a (j:Int) <;> simp [h]
 have hlen:∀j:Nat,((staL j q).filter fun s=>!goodB a s).length≤j:=fun j=>Nat.le_trans (List.length_filter_le _ _) (y7e j q);rw [hnn] at l1 l2;have hloop:iter (y2p a B C) (0,([]:LI))=some ((staL n q).filter fun s=>!goodB a s):=by
  obtain⟨o,ho,he⟩:=yb (f:=y2p a B C) (fun j st=>st=((j:Int),(staL j q).filter fun s=>!goodB a s)) (fun o=>o=(staL n q).filter fun s=>!goodB a s) n 0 (by omega) (fun j st hj e0=>by
    subst e0;refine .inl ⟨_,?_,rfl⟩;obtain⟨b1,b2⟩:=hb j hj;have hj2:=hlen j;unfold y2p;simp only [hn,ct_lt hj,if_true];rw [y6H (by omega),yOb,y6H (by omega),b1,b2,hf];cases hq2:q j <;> cases hg:goodB a (j:Int) <;> simp only [hq2,hg,Bool.false_eq_true,if_false,if_true,yOb,Bool.not_true,Bool.not_false,Bool.and_self,Bool.and_true,Bool.and_false,List.append_nil]
    all_goals first
     | (rw [y2o,nxt (by omega)])
     | (rw [yv (by rw [List.length_singleton];omega),yOb,y2o,nxt (by omega)]))
   (fun st e0=>by
    subst e0;refine⟨_,?_,rfl⟩;unfold y2p;simp [hn]) (by omega) (0,[]) rfl
  rw [ho,he]
 rw [y1k,e1,yOb,e2,yOb,hloop,yOb,hnn]
end
section
section
variable{κ:Type}[BEq κ][LawfulBEq κ]
def numS(st:List κ×LI)(k:κ):List κ×LI:=if k∈st.1 then(st.1,st.2++[(st.1.idxOf k:Int)]) else(st.1++[k],st.2++[(st.1.length:Int)])
def numF(keys:List κ):List κ×LI:=keys.foldl numS ([],[])
theorem ydL(keys:List κ)(k:κ):numF (keys++[k])=numS (numF keys) k:=by unfold numF;rw [List.foldl_append];rfl
structure NumI (keys D:List κ) (out:LI):Prop where
 len:out.length=keys.length
 nd:D.Nodup
 dl:D.length≤keys.length
 at':∀(i:Nat) (k:κ),keys[i]? =some k→k∈D∧out[i]? =some (D.idxOf k:Int)
 all:∀y:Int,0≤y→y<(D.length:Int)→∃j:Nat,out[j]? =some y
 fst:y2z out
 lt:∀(i:Nat) (x:Int),out[i]? =some x→0≤x∧x<(D.length:Int)
theorem yau{out:LI}{x:Int}(h:y2z out)(h0:0≤x)(h1:∀y:Int,0≤y→y<x→∃j:Nat,out[j]? =some y)(h2:(∃j:Nat,out[j]? =some x)∨∀(j:Nat) y,out[j]? =some y→y<x):y2z (out++[x]):=by
 have hb:∀{j:Nat} {y:Int},out[j]? =some y→j<out.length:=fun h=>(yGs.1 h).1;intro i z hz;by_cases hi:i<out.length
 ·have e:∀j:Nat,j≤i→(out++[x])[j]? =out[j]? :=fun j hj=>yAl (by omega);rw [e i (yNr _)] at hz;obtain⟨k1,k2,k3⟩:=h i z hz;refine⟨k1,fun y hy hlt=>?_,?_⟩
  ·obtain ⟨j,hj,g⟩:=k2 y hy hlt;exact⟨j,hj,by rw [e j (by omega)];exact g⟩
  ·rcases k3 with ⟨j,hj,g⟩|k3
   ·exact .inl ⟨j,hj,by rw [e j (by omega)];exact g⟩
   ·exact .inr fun j y hj g=>k3 j y hj (by rw [←e j (by omega)];exact g)
 ·have hi2:i=out.length:=by
   have:=(yGs.1 hz).1;rw [yLa,List.length_singleton] at this;omega
  subst hi2;rw [yAr (yNr _),Nat.sub_self] at hz;have hz:x=z:=by simpa using hz
  subst hz;have e:∀j:Nat,j<out.length→(out++[x])[j]? =out[j]? :=fun j hj=>yAl hj;refine⟨h0,fun y hy hlt=>?_,?_⟩
  ·obtain ⟨j,g⟩:=h1 y hy hlt;exact⟨j,hb g,by rw [e j (hb g)];exact g⟩
  ·rcases h2 with ⟨j,g⟩|h2
   ·exact .inl ⟨j,hb g,by rw [e j (hb g)];exact g⟩
   ·exact .inr fun j y hj g=>h2 j y (by rw [←e j hj];exact g)
theorem yk1{keys:List κ}{st:List κ×LI}(h:NumI keys st.1 st.2)(k:κ):NumI (keys++[k]) (numS st k).1 (numS st k).2:=by
 obtain⟨D,out⟩:=st;dsimp only at h;have hl:=h.len;have snoc:∀{α:Type} {l:List α} {x y:α} {i:Nat},(l++[x])[i]? =some y→(i<l.length∧l[i]? =some y)∨(i=l.length∧x=y):=fun {α l x y i} g=>by
  by_cases hi:i<l.length
  ·rw [yAl hi] at g;exact .inl ⟨hi,g⟩
  ·have:=(yGs.1 g).1;rw [yLa,List.length_singleton] at this;have hi:i=l.length:=by omega
   subst hi;rw [yAr (yNr _),Nat.sub_self] at g;exact .inr ⟨rfl,by simpa using g⟩
 unfold numS;dsimp only;split
 ·rename_i hk;have hkl:=List.idxOf_lt_length_of_mem hk;refine⟨by simp [hl],h.nd,by simp;have:=h.dl;omega,fun i k' hi=>?_,fun y h0 h1=>?_,?_,fun i x hx=>?_⟩
  ·rcases snoc hi with ⟨hlt,g⟩|⟨rfl,rfl⟩
   ·obtain ⟨g1,g2⟩:=h.at' i k' g;exact⟨g1,by rw [yAl (by omega)];exact g2⟩
   ·exact ⟨hk,by rw [yAr (by omega),hl,Nat.sub_self];rfl⟩
  ·obtain ⟨j,g⟩:=h.all y h0 h1;exact⟨j,by rw [yAl (yGs.1 g).1];exact g⟩
  ·exact yau h.fst (by omega) (fun y h0 h1=>h.all y h0 (by omega)) (.inl (h.all _ (by omega) (by omega)))
  ·rcases snoc hx with ⟨_,g⟩|⟨_,rfl⟩
   ·exact h.lt i x g
   ·dsimp only;omega
 ·rename_i hk;refine⟨by simp [hl],?_,by simp;have:=h.dl;omega,fun i k' hi=>?_,fun y h0 h1=>?_,?_,fun i x hx=>?_⟩
  ·unfold List.Nodup;rw [List.pairwise_append];exact⟨h.nd,List.pairwise_singleton _ _,fun x hx y hy e=>hk (by rw [←yMs.1 hy,←e];exact hx)⟩
  ·rcases snoc hi with ⟨hlt,g⟩|⟨rfl,rfl⟩
   ·obtain ⟨g1,g2⟩:=h.at' i k' g;exact⟨yMl _ g1,by rw [yAl (by omega),List.idxOf_append,iP g1];exact g2⟩
   ·exact ⟨yMr _ (yMs.2 rfl),by rw [yAr (by omega),hl,Nat.sub_self,List.idxOf_append,iN hk];simp⟩
  ·rw [yLa,List.length_singleton] at h1;by_cases hy:y<(D.length:Int)
   ·obtain ⟨j,g⟩:=h.all y h0 hy;exact⟨j,by rw [yAl (yGs.1 g).1];exact g⟩
   ·refine ⟨out.length,?_⟩;rw [yAr (yNr _),Nat.sub_self];have:y=(D.length:Int):=by omega
    rw [this];rfl
  ·exact yau h.fst (by omega) h.all (.inr fun j y g=>(h.lt j y g).2)
  ·rw [yLa,List.length_singleton];rcases snoc hx with ⟨_,g⟩|⟨_,rfl⟩
   ·have:=h.lt i x g;omega
   ·omega
theorem y9R(keys:List κ):NumI keys (numF keys).1 (numF keys).2:=by
 have key:∀n,n≤keys.length→NumI (keys.take n) (numF (keys.take n)).1 (numF (keys.take n)).2:=by
  intro n
  induction n with
  | zero=>intro _;exact⟨rfl,.nil,yNr _,fun i k h=>by simp at h,fun y h0 h1=>by simp [numF] at h1;omega,fun i x h=>by simp [numF] at h,fun i x h=>by simp [numF] at h⟩
  | succ n ih=>
   intro hn;rw [yTs (by omega),ydL];exact yk1 (ih (by omega)) _
 have:=key keys.length (yNr _);rwa [List.take_length] at this
def numK(keys:List κ):LI:=(numF keys).2
theorem ybW(keys:List κ):(numK keys).length=keys.length:=(y9R keys).len
theorem ycB(keys:List κ):y2z (numK keys):=(y9R keys).fst
theorem yfT(keys:List κ){i j:Nat}{k k':κ}(hi:keys[i]? =some k)(hj:keys[j]? =some k'):(numK keys)[i]? =(numK keys)[j]? ↔k=k':=by
 obtain⟨h1,h2⟩:=(y9R keys).at' i k hi;obtain⟨h3,h4⟩:=(y9R keys).at' j k' hj;unfold numK;rw [h2,h4];constructor
 ·intro e;have e:((numF keys).1.idxOf k:Int)=((numF keys).1.idxOf k':Int):=by simpa using e
  have e:(numF keys).1.idxOf k=(numF keys).1.idxOf k':=by omega
  have g1:=List.getElem_idxOf (List.idxOf_lt_length_of_mem h1);have g2:=List.getElem_idxOf (List.idxOf_lt_length_of_mem h3);rw [←g1,←g2];congr 1
 ·rintro rfl;rfl
end
theorem y2z.lt{c:LI}(h:y2z c):∀(i:Nat) (x:Int),c[i]? =some x→0≤x∧x≤(i:Int):=by
 have key:∀n i:Nat,i<n→∀x,c[i]? =some x→x≤(i:Int):=by
  intro n
  induction n with
  | zero=>intro i hi;omega
  | succ n ih=>
   intro i hi x hx;obtain⟨h0,h1,_⟩:=h i x hx;rcases Int.lt_or_le (i:Int) x with hlt|hle
   ·obtain ⟨j,hj,g⟩:=h1 (x-1) (by omega) (by omega);have:=ih j (by omega) (x-1) g;omega
   ·exact hle
 exact fun i x hx=>⟨(h i x hx).1,key (i+1) i (by omega) x hx⟩
def cF(c:LI)(s:Int):Int:=c.getD s.toNat 0
def Vn(n:Nat)(s:Int):Prop:=0≤s∧s<(n:Int)
theorem cF_at{c:LI}{i:Nat}(h:i<c.length):c[i]? =some (cF c (i:Int)):=by
 unfold cF;rw [yTn,yGd,yGe h];rfl
def refR(L:Lts Int)(f:Int→Int)(s t:Int):Prop:=f s=f t∧∀e,L.lab e→∀x,(∃u,L.wk e s u∧f u=x)↔ ∃u,L.wk e t u∧f u=x
structure RfI (L:Lts Int) (n:Nat) (c:LI):Prop where
 len:c.length=n
 fst:y2z c
 mks:∀s t,Vn n s→Vn n t→cF c s=cF c t→L.mks s→L.mks t
 cr:Lts.Crs L (Vn n) (cF c)
structure RfN (L:Lts Int) (n:Nat) (c d:LI):Prop where
 len:d.length=n
 fst:y2z d
 eq:∀s t,Vn n s→Vn n t→(cF d s=cF d t↔refR L (cF c) s t)
section
variable{L:Lts Int}{n:Nat}{c d:LI}
theorem RfI.next(h:RfI L n c)(hn:RfN L n c d)(hV:L.In (Vn n)):RfI L n d where
 len:=hn.len
 fst:=hn.fst
 mks s t hs ht e hm:=h.mks s t hs ht ((hn.eq s t hs ht).1 e).1 hm
 cr:=fun P hP s t hs ht hst=>by
  rw [hn.eq s t hs ht];refine⟨h.cr P hP s t hs ht hst,fun e he x=>⟨?_,?_⟩⟩
  ·rintro ⟨u,hu,rfl⟩;obtain⟨v,hv,huv⟩:=hP.w s t hs ht hst e he u hu;exact⟨v,hv,(h.cr P hP u v (hV.wk hs hu) (hV.wk ht hv) huv).symm⟩
  ·rintro ⟨u,hu,rfl⟩;obtain⟨v,hv,huv⟩:=hP.w t s ht hs (hP.sy s t hs ht hst) e he u hu;exact⟨v,hv,(h.cr P hP u v (hV.wk ht hu) (hV.wk hs hv) huv).symm⟩
theorem RfI.stb(h:RfI L n c)(hn:RfN L n c c):Lts.Stb L (Vn n) fun s t=>cF c s=cF c t where
 sy s t _ _ e:=e.symm
 m:=h.mks
 w s t hs ht e0 e he s' hw:=by
  obtain⟨u,h1,h2⟩:=(((hn.eq s t hs ht).1 e0).2 e he (cF c s')).1 ⟨s',hw,rfl⟩;exact⟨u,h1,h2.symm⟩
def eqs(n:Nat)(c:LI):Nat:=((List.range (n*n)).filter fun k=>cF c ((k/n:Nat):Int)==cF c ((k % n:Nat):Int)).length
theorem ydM{α:Type}{p q:α→Bool}:∀{l:List α},(∀x∈l,p x=true→q x=true)→(∃x∈l,q x=true∧p x=false)→(l.filter p).length<(l.filter q).length
 | [],_,h=>by obtain⟨x,hx,_⟩:=h;cases hx
 | y::l,h,hx=>by
  have hle:(l.filter p).length≤(l.filter q).length:=by
   have:=List.countP_mono_left (l:=l) (p:=p) (q:=q) fun x hx=>h x (.tail _ hx);rwa [List.countP_eq_length_filter,List.countP_eq_length_filter] at this
  rw [List.filter_cons,List.filter_cons];obtain⟨x,hx,hq,hp⟩:=hx;rcases yMo.1 hx with rfl|hx
  ·rw [hq,hp];simp;omega
  ·have ih:=ydM (l:=l) (fun x hx=>h x (.tail _ hx)) ⟨x,hx,hq,hp⟩;have hy:=h y (.head _);cases h1:p y with
   | true=>rw [hy h1];simp;exact ih
   | false=>
    cases q y with
    | true=>simp;omega
    | false=>simp;exact ih
theorem ykD(n:Nat)(c:LI):eqs n c≤n*n:=by
 unfold eqs;exact Nat.le_trans (List.length_filter_le _ _) (by simp)
theorem RfN.lt(hc:c.length=n)(hf:y2z c)(h:RfN L n c d)(hne:d≠c):eqs n d<eqs n c:=by
 have hdiv:∀k,k<n*n→k/n<n∧k % n<n:=fun k hk=>by
  have h0:0<n:=by
   rcases Nat.eq_zero_or_pos n with e|e
   ·subst e;simp at hk
   ·exact e
  exact⟨Nat.div_lt_of_lt_mul hk,Nat.mod_lt _ h0⟩
 have hex:∃i j:Nat,i<n∧j<n∧cF c (i:Int)=cF c (j:Int)∧cF d (i:Int)≠cF d (j:Int):=by
  refine Classical.byContradiction fun hno=>hne ?_;refine y2z.unique h.fst hf (by rw [h.len,hc]) fun i j x y hi hj u v hu hv=>?_;have hi2:=(yGs.1 hi).1;have hj2:=(yGs.1 hj).1;have hl:=h.len;rw [cF_at hi2] at hi;rw [cF_at hj2] at hj;rw [cF_at (by omega)] at hu hv;cases hi;cases hj;cases hu;cases hv;constructor
  ·intro e;exact((h.eq _ _ ⟨by omega,by omega⟩ ⟨by omega,by omega⟩).1 e).1
  ·intro e;exact Classical.byContradiction fun hd=>hno ⟨i,j,by omega,by omega,e,hd⟩
 unfold eqs;refine ydM (fun k hk hd=>?_) ?_
 ·obtain ⟨h1,h2⟩:=hdiv k (List.mem_range.1 hk);simp only [beq_iff_eq] at hd ⊢;exact((h.eq _ _ ⟨Int.natCast_nonneg _,by omega⟩ ⟨Int.natCast_nonneg _,by omega⟩).1 hd).1
 ·obtain ⟨i,j,hi,hj,h1,h2⟩:=hex;have e1:(i*n+j)/n=i:=by rw [Nat.mul_comm,Nat.mul_add_div (by omega),Nat.div_eq_of_lt hj];rfl
  have e2:(i*n+j) % n=j:=by rw [Nat.mul_comm,Nat.mul_add_mod,Nat.mod_eq_of_lt hj]
  have hlt:i*n+j<n*n:=Nat.lt_of_lt_of_le (show i*n+j<i*n+n by omega) (by rw [←Nat.succ_mul];exact Nat.mul_le_mul_right n hi);refine⟨i*n+j,List.mem_range.2 hlt,?_,?_⟩
  ·rw [e1,e2];simpa using h1
  ·rw [e1,e2];simpa using h2
structure RfOk (L:Lts Int) (n:Nat) (c:LI):Prop extends RfI L n c where
 st:Lts.Stb L (Vn n) fun s t=>cF c s=cF c t
end
def topL(c:LI):Int:=c.foldl (fun m x=>max m (x+1)) 0
theorem yba :∀(c:LI) (m:Int),m≤c.foldl (fun m x=>max m (x+1)) m∧(∀x∈c,x<c.foldl (fun m x=>max m (x+1)) m)∧(c.foldl (fun m x=>max m (x+1)) m=m∨∃x∈c,c.foldl (fun m x=>max m (x+1)) m=x+1)
 | [],m=>⟨Int.le_refl _,fun x hx=>(by cases hx),.inl rfl⟩
 | y::c,m=>by
  obtain⟨h1,h2,h3⟩:=yba c (max m (y+1));rw [List.foldl_cons];refine⟨by omega,fun x hx=>?_,?_⟩
  ·rcases yMo.1 hx with rfl|hx
   ·omega
   ·exact h2 x hx
  ·rcases h3 with h3|⟨x,hx,h3⟩
   ·by_cases h:m≤y+1
    ·exact .inr ⟨y,.head _,by rw [h3];omega⟩
    ·left;rw [h3];omega
   ·exact .inr ⟨x,.tail _ hx,h3⟩
theorem yk2{c:LI}{x:Int}(h:x∈c):x<topL c:=(yba c 0).2.1 x h
theorem yk3(c:LI):0≤topL c:=(yba c 0).1
theorem yhE{c:LI}(h:0<topL c):topL c-1∈c:=by
 rcases(yba c 0).2.2 with h1|⟨x,hx,h1⟩
 ·unfold topL at h;omega
 ·have:topL c-1=x:=by unfold topL;omega
  rw [this];exact hx
theorem y2z.top_le{c:LI}(h:y2z c):topL c≤(c.length:Int):=by
 by_cases h0:0<topL c
 ·obtain ⟨i,hi,e1⟩:=List.mem_iff_getElem.1 (yhE h0);have:=h.lt i (topL c-1) (by rw [yGe hi,e1]);omega
 ·omega
theorem y9S{c:LI}{s:Int}(h0:0≤s)(h1:s<(c.length:Int)):cF c s∈c:=by
 have:=cF_at (c:=c) (i:=s.toNat) (by omega);rw [show ((s.toNat:Nat):Int)=s by omega] at this;exact List.mem_of_getElem? this
def ObsE(L:Lts Int)(n:Nat)(s t:Int):Prop:=∃P,Lts.Stb L (Vn n) P∧P s t
section
variable{L:Lts Int}{n:Nat}
theorem yk4(L:Lts Int)(n:Nat):Lts.Stb L (Vn n) (ObsE L n) where
 sy s t hs ht:=fun⟨P,hP,h⟩=>⟨P,hP,hP.sy s t hs ht h⟩
 m s t hs ht:=fun⟨_,hP,h⟩=>hP.m s t hs ht h
 w s t hs ht:=fun⟨P,hP,h⟩ e he s' hw=>by
  obtain⟨t',h1,h2⟩:=hP.w s t hs ht h e he s' hw;exact⟨t',h1,P,hP,h2⟩
theorem yiO(s:Int):ObsE L n s s:=⟨fun s t=>s=t,⟨fun _ _ _ _ e=>e.symm,fun _ _ _ _ e h=>e▸h,fun _ _ _ _ e _ _ s' h=>⟨s',e▸h,rfl⟩⟩,rfl⟩
theorem yeQ{s t:Int}(hs:Vn n s)(ht:Vn n t)(h:ObsE L n s t):ObsE L n t s:=(yk4 L n).sy s t hs ht h
structure LcI (L:Lts Int) (n j:Nat) (o:LI) (k:Int):Prop where
 len:o.length=j
 fst:y2z o
 rng:∀(i:Nat) (x:Int),o[i]? =some x→0≤x∧x<k
 all:∀y:Int,0≤y→y<k→∃i:Nat,o[i]? =some y
 eq:∀(i i':Nat) (x x':Int),o[i]? =some x→o[i']? =some x'→(x=x'↔ObsE L n (i:Int) (i':Int))
 kn:0≤k
theorem yal{α:Type}{l:List α}{x y:α}{i:Nat}(g:(l++[x])[i]? =some y):(i<l.length∧l[i]? =some y)∨(i=l.length∧x=y):=by
 by_cases hi:i<l.length
 ·rw [yAl hi] at g;exact .inl ⟨hi,g⟩
 ·have:=(yGs.1 g).1;rw [yLa,List.length_singleton] at this;have hi:i=l.length:=by omega
  subst hi;rw [yAr (yNr _),Nat.sub_self] at g;exact .inr ⟨rfl,by simpa using g⟩
theorem LcI.snoc{j:Nat}{o:LI}{k k' x:Int}(h:LcI L n j o k)(hj:j<n)(hk:k≤k')(hx:0≤x∧x<k')(hf:y2z (o++[x]))(ha:∀y:Int,k≤y→y<k'→y=x)(he:∀(i:Nat) (z:Int),o[i]? =some z→(z=x↔ObsE L n (i:Int) (j:Int))):LcI L n (j+1) (o++[x]) k' where
 len:=by rw [yLa,h.len];rfl
 fst:=hf
 rng i z hz:=by
  rcases yal hz with ⟨_,g⟩|⟨_,rfl⟩
  ·have:=h.rng i z g;omega
  ·exact hx
 all y h0 h1:=by
  by_cases hy:y<k
  ·obtain ⟨i,g⟩:=h.all y h0 hy;exact⟨i,by rw [yAl (yGs.1 g).1];exact g⟩
  ·refine ⟨o.length,?_⟩;rw [yAr (yNr _),Nat.sub_self,ha y (by omega) h1];rfl
 eq i i' y y' hy hy':=by
  have hl:=h.len;rcases yal hy with ⟨h1,g1⟩|⟨h1,g1⟩ <;> rcases yal hy' with ⟨h2,g2⟩|⟨h2,g2⟩
  ·exact h.eq i i' y y' g1 g2
  ·subst g2;rw [he i y g1,h2,hl]
  ·subst g1;rw [h1,hl,eq_comm,he i' y' g2];exact⟨yeQ ⟨by omega,by omega⟩ ⟨by omega,by omega⟩,yeQ ⟨by omega,by omega⟩ ⟨by omega,by omega⟩⟩
  ·subst g1;subst g2;rw [h1,h2];exact⟨fun _=>yiO _,fun _=>rfl⟩
 kn:=Int.le_trans h.kn hk
end
end
section
open Go Go.RowKit
structure AbsOk (a x:NdT) (c:LI):Prop where
 cl:RfOk (ltsN a) a.2.1.toNat c
 st:x.2.1=topL c
 ab:Lts.Abs (ltsN a) (cF c) (ltsN x)
theorem NdOk.vn{a:NdT}(ha:NdOk a):(ltsN a).In (Vn a.2.1.toNat):=by
 have h:=ha.inn;have h0:=ha.n0;have e:(fun s=>0≤s∧s<a.2.1)=Vn a.2.1.toNat:=by
  funext s;unfold Vn;rw [show ((a.2.1.toNat:Nat):Int)=a.2.1 by omega]
 rwa [e] at h
theorem AbsOk.bis{a x:NdT}{c:LI}(h:AbsOk a x c)(ha:NdOk a):Lts.WBis (ltsN a) (ltsN x) fun s y=>Vn a.2.1.toNat s∧y=cF c s:=h.ab.bis ha.vn h.cl.st
theorem AbsOk.le{a x:NdT}{c:LI}(h:AbsOk a x c)(ha:NdOk a):x.2.1≤a.2.1:=by
 have:=h.cl.fst.top_le;have:=h.cl.len;have:=ha.n0;rw [h.st];omega
theorem yfU{a:NdT}(ha:NdOk a)(s e:Int):y2H a s e=some (tgtL a.2.2.2.2 s e):=by
 obtain⟨p,b,h1,h2,h3,h4⟩:=yhl (t:=(s,e,-1)) (by have:=ha.le;omega) ha.es;have hle:=ha.le;rw [y2H,h1,yOb,y9O h2 (yNr _),yOb,List.take_length,ydx ha.es (fun x hx=>(ha.esr x hx).2.2.1) h3 h4];have hdl:(a.2.2.2.2.drop p).length≤65536:=by rw [List.length_drop];omega
 generalize a.2.2.2.2.drop p=l at hdl;obtain⟨o,ho,he⟩:=yb (f:=y3d s e l) (fun j (st:Int×LI)=>∃out,st=((j:Int),out)∧out.length≤j∧out++((l.drop j).takeWhile fun x=>x.1==s&&x.2.1==e).map (·.2.2)=(l.takeWhile fun x=>x.1==s&&x.2.1==e).map (·.2.2))
  (fun o=>o=(l.takeWhile fun x=>x.1==s&&x.2.1==e).map (·.2.2)) l.length 0 (by omega) (fun j st hj ⟨out,e1,g1,g2⟩=>by
   subst e1;rw [yaT hj] at g2;unfold y3d;simp only [ct_lt hj,if_true,ya hj,yOb];cases hx:(l[j].1==s&&l[j].2.1==e) with
   | false=>
    refine .inr ⟨out,?_,?_⟩
    ·rw [iP];simp only [bne,Bool.or_eq_true,Bool.not_eq_true'];rw [Bool.and_eq_false_iff] at hx;exact hx
    ·rw [iN (by simp [hx]),List.map_nil,List.append_nil] at g2;exact g2
   | true=>
    rw [yAe] at hx;refine .inl ⟨(((j+1:Nat):Int),out++[l[j].2.2]),?_,_,rfl,by simp;omega,?_⟩
    ·rw [iN (by simp [bne,hx.1,hx.2]),yv (by simp;omega),yOb,nxt (by omega)]
    ·rw [iP (by simp [hx.1,hx.2])] at g2;rw [←g2];simp)
  (fun st ⟨out,e1,g1,g2⟩=>by
   subst e1;rw [List.drop_length] at g2;refine⟨out,?_,by simpa using g2⟩;unfold y3d;simp) (by omega) (0,[]) ⟨[],rfl,yZl _,rfl⟩
 rw [ho,he];rfl
noncomputable def setL(n:Nat)(p:Int→Prop):LI:=staL n fun i=>@decide (p (i:Int)) (Classical.propDecidable _)
theorem y7f{n:Nat}{p:Int→Prop}{x:Int}:x∈setL n p↔Vn n x∧p x:=by
 unfold setL Vn;rw [y7G];constructor
 ·rintro ⟨i,rfl,h1,h2⟩;exact⟨⟨by omega,by omega⟩,(@decide_eq_true_iff _ (Classical.propDecidable _)).1 h2⟩
 ·rintro ⟨⟨h1,h2⟩,h3⟩;refine⟨x.toNat,by omega,by omega,(@decide_eq_true_iff _ (Classical.propDecidable _)).2 ?_⟩;rwa [show ((x.toNat:Nat):Int)=x by omega]
theorem ybX(n:Nat)(p:Int→Prop):(setL n p).length≤n:=y7e _ _
theorem yiP(n:Nat)(q:Nat→Bool):(staL n q).Pairwise (· < ·):=by
 unfold staL;rw [List.pairwise_map];refine List.Pairwise.filter _ ?_;exact List.Pairwise.imp (fun {a b} h=>by omega) List.pairwise_lt_range
theorem yeR(n:Nat)(p:Int→Prop):(setL n p).Pairwise (· < ·):=yiP _ _
theorem yeS{n:Nat}{q:Nat→Bool}{p:Int→Prop}(h:∀i:Nat,i<n→(q i=true↔p (i:Int))):staL n q=setL n p:=by
 unfold setL staL;congr 1;refine List.filter_congr fun i hi=>?_;rw [Bool.eq_iff_iff,h i (List.mem_range.1 hi),@decide_eq_true_iff _ (Classical.propDecidable _)]
theorem ybY{n:Nat}{p p':Int→Prop}(h:∀s,Vn n s→(p s↔p' s)):setL n p=setL n p':=by
 unfold setL;refine yeS fun i hi=>?_;rw [@decide_eq_true_iff _ (Classical.propDecidable _)];exact h _ ⟨by omega,by omega⟩
theorem yhF{B:List Bool}(hB:B.length≤4096):iter (y1i B) (0,([]:LI))=some (staL B.length fun i=>flg B (i:Int)):=by
 obtain⟨o,ho,he⟩:=yb (f:=y1i B) (fun j st=>st=((j:Int),staL j fun i=>flg B (i:Int))) (fun o=>o=staL B.length fun i=>flg B (i:Int)) B.length 0 (by omega) (fun j st hj e1=>by
   subst e1;refine .inl ⟨_,?_,rfl⟩;have hl:=y7e j fun i=>flg B (i:Int);unfold y1i;simp only [ct_lt hj,if_true];rw [y6H (by omega),yOb,yaX];split
   ·rw [yv (by simp;omega),yOb,y1h];simp only [nxt (show j<4611686018427387904 by omega)]
   ·rw [y1h,List.append_nil];simp only [nxt (show j<4611686018427387904 by omega)])
  (fun st e1=>by
   subst e1;refine⟨_,?_,rfl⟩;unfold y1i;simp) (by omega) (0,[]) rfl
 rw [ho,he]
theorem yam{a:NdT}(ha:NdOk a){S:LI}(hS:∀s∈S,0≤s∧s<a.2.1)(hl:S.length≤300000000):yT a S=some (setL a.2.1.toNat fun t=>∃s∈S,(ltsN a).tau s t):=by
 have h0:=ha.n0;have h1:=ha.n1;have hle:=ha.le;obtain⟨n,hn⟩:∃n:Nat,a.2.1=(n:Int):=⟨a.2.1.toNat,by omega⟩;have hnn:a.2.1.toNat=n:=by omega
 have hc:∀x,yA a x=some (tgtL a.2.2.2.2 x (-1)):=fun x=>by
  rw [yA,yfU ha];rfl
 obtain⟨B,k1,k2,k3⟩:=ybr (f:=yL (yA a)) (fun B todo=>(todo,B)) (fun B=>B) (lead:=fun s=>tgtL a.2.2.2.2 s (-1)) (S:=S) (n:=n) (M:=65536) (by omega) (yNr _) hl (fun s hs=>by have:=hS s hs;omega) (fun s hs hs2=>⟨Nat.le_trans (y8L _ _ _) hle,fun t ht=>by
   have:=ha.esr _ (y5N.1 ht);dsimp only at this;omega⟩)
  (fun B td x hB hx0 hx1 htd hf=>by
   unfold yL;simp only [yb9,if_true];rw [yb7 (by omega),yOb,yb8 (by omega),yOb,y6H (by omega),yOb,hf];simp)
  (fun B td x hB hx0 hx1 htd hf=>by
   unfold yL;simp only [yb9,if_true];rw [yb7 (by omega),yOb,yb8 (by omega),yOb,y6H (by omega),yOb,hf];simp only [Bool.not_false,if_true,yOb];rw [y9Q (by omega),yOb,hc,yOb,yv (by omega),yOb])
  (fun B=>by
   unfold yL;simp)
 have hm2:mkL a.2.1 false=some (List.replicate n false):=by unfold mkL;rw [hn,iP (by omega)];rfl
 have hr:∀t,RcL (fun s=>tgtL a.2.2.2.2 s (-1)) S t↔ ∃s∈S,(ltsN a).tau s t:=fun t=>by
  constructor
  ·intro h
   induction h with
   | ini h=>exact⟨_,h,.refl _⟩
   | step _ h ih=>
    obtain⟨s,hs,g⟩:=ih;exact⟨s,hs,g.tail (y5N.1 h)⟩
  ·rintro ⟨s,hs,h⟩
   induction h with
   | refl=>exact .ini hs
   | tail _ g ih=>exact .step ih (y5N.2 g)
 have hl2:=yhF (B:=B) (by omega);rw [k2] at hl2;rw [yT,y4X,hm2,yOb,y6h (by omega),yOb];show((iter (yL (yA a)) (S,List.replicate n false)).bind _).bind _=_;rw [k1,yOb,hl2,hnn];show some _=some _;rw [yeS (p:=fun t=>∃s∈S,(ltsN a).tau s t) fun i hi=>(k3 _ (by omega)).trans (hr _)]
noncomputable def wkL(a:NdT)(e s:Int):LI:=setL a.2.1.toNat fun t=>(ltsN a).wk e s t
theorem yiQ{es:List E3}{e:Int}:∀{l:LI},l.Pairwise (· < ·)→(l.flatMap fun s=>tgtL es s e).length≤es.length:=by
 intro l hl;have key:∀(l:LI),l.Pairwise (· < ·)→(l.flatMap fun s=>tgtL es s e).length≤(es.filter fun x=>l.contains x.1).length:=by
  intro l
  induction l with
  | nil=>intro _;simp
  | cons x l ih=>
   intro h;have hp:=yPc.1 h;have h1:=ih hp.2;rw [List.flatMap_cons,yLa];have h2:(tgtL es x e).length≤(es.filter fun y=>y.1==x).length:=by
    unfold tgtL;rw [yLm];have:=List.countP_mono_left (l:=es) (p:=fun y=>y.1==x&&y.2.1==e) (q:=fun y=>y.1==x) fun y _ hy=>by
     rw [yAe] at hy;exact hy.1
    rwa [List.countP_eq_length_filter,List.countP_eq_length_filter] at this
   have h3:(es.filter fun y=>y.1==x).length+(es.filter fun y=>l.contains y.1).length=(es.filter fun y=>(x::l).contains y.1).length:=by
    clear ih h1 h2
    induction es with
    | nil=>rfl
    | cons y es ih2=>
     rw [List.filter_cons,List.filter_cons,List.filter_cons];by_cases e1:y.1=x
     ·have:y.1∉l:=fun hm=>by have:=hp.1 _ hm;omega
      simp [e1,e1▸this];simp at ih2;omega
     ·simp [e1];simp at ih2;split <;> (try simp) <;> omega
   omega
 exact Nat.le_trans (key l hl) (List.length_filter_le _ _)
theorem yk5{a:NdT}(ha:NdOk a){S:LI}(hS:∀s∈S,0≤s∧s<a.2.1)(hl:S.length≤300000000){e:Int}(he:e≠ -1):y4e a S e=some (setL a.2.1.toNat fun t=>∃s∈S,(ltsN a).wk e s t):=by
 have h0:=ha.n0;have h1:=ha.n1;have hle:=ha.le;have hsl:=ybX a.2.1.toNat fun t=>∃s∈S,(ltsN a).tau s t;have hfs:=yiQ (es:=a.2.2.2.2) (e:=e) (yeR a.2.1.toNat fun t=>∃s∈S,(ltsN a).tau s t);have hloop:iter (y3e a e (setL a.2.1.toNat fun t=>∃s∈S,(ltsN a).tau s t)) (0,([]:LI))=some ([]++(setL a.2.1.toNat fun t=>∃s∈S,(ltsN a).tau s t).flatMap fun s=>tgtL a.2.2.2.2 s e):=
  yaU _ _ _ (by omega) (by have:([]:LI).length=0:=rfl;omega) (fun j hj o ho=>by
   unfold y3e;simp only [ct_lt hj,if_true,ya hj,yOb];rw [yfU ha,yOb,yv (by omega),yOb,nxt (by omega)]) (fun o=>by
   unfold y3e;simp)
 rw [y4e,yam ha hS hl,yOb,hloop,yOb,List.nil_append,yam ha (fun s hs=>by
  obtain⟨u,_,h⟩:=List.mem_flatMap.1 hs;have:=ha.esr _ (y5N.1 h);dsimp only at this;omega) (by omega),yOb]
 congr 1;refine ybY fun t ht=>?_;constructor
 ·rintro ⟨u,hu,hp⟩;obtain⟨v,hv,hm⟩:=List.mem_flatMap.1 hu;obtain⟨_,s,hs,hq⟩:=y7f.1 hv;exact⟨s,hs,.inr ⟨he,v,u,hq,y5N.1 hm,hp⟩⟩
 ·rintro ⟨s,hs,⟨h,_⟩|⟨_,v,u,hq,hm,hp⟩⟩
  ·exact absurd h he
  ·have hv:=ha.esr _ hm;dsimp only at hv;exact⟨u,List.mem_flatMap.2 ⟨v,y7f.2 ⟨⟨hv.1,by omega⟩,s,hs,hq⟩,y5N.2 hm⟩,hp⟩
theorem ybs{a:NdT}(ha:NdOk a){s:Int}(hs:0≤s∧s<a.2.1):y1x a [s]=some (wkL a (-1) s,0):=by
 rw [y1x,y6O ha,yOb,iN (by simp),y9P (by simp) (fun x hx=>by rw [yMs.1 hx];exact hs) (by simp),yOb,iN (by simp),yam ha (fun x hx=>by rw [yMs.1 hx];exact hs) (by simp),yOb];congr 2;refine ybY fun t _=>?_;unfold Lts.wk;simp
theorem yiR{a:NdT}(ha:NdOk a){s e:Int}(hs:0≤s∧s<a.2.1)(he:e∈a.1):y4f a [s] e=some (wkL a e s,0):=by
 have h0:=ha.alr e he;have hla:=ha.la;rw [y4f,ybs ha hs,yOb,iN (by simp),y4a (by omega) ha.al,yOb,iN (by rw [yd.2 he];simp),yk5 ha (fun x hx=>by rw [yMs.1 hx];exact hs) (by simp) (by omega),yOb];congr 2;refine ybY fun t _=>?_;simp
end
section
def sigB(l:LI):List UInt8:=(l.flatMap fun x=>dig2 x.toNat++[32])++[59,32]
theorem ydN{u:Nat}(hu:u<100):∃d r,dig2 u=d::r∧d≠59:=by
 have h:∀v:_root_.Fin 100,(match dig2 v.val with | []=>false|d::_=>d != 59)=true:=by decide +kernel
 have h1:=h ⟨u,hu⟩;dsimp only at h1;cases hd:dig2 u with
 | nil=>rw [hd] at h1;simp at h1
 | cons d r=>rw [hd] at h1;exact⟨d,r,rfl,by simpa using h1⟩
theorem ydO{u:Nat}(hu:u<100):(58:UInt8)∉dig2 u:=by
 have h:∀v:_root_.Fin 100,(58:UInt8)∉dig2 v.val:=by decide +kernel
 exact h ⟨u,hu⟩
def Hund(l:LI):Prop:=∀x∈l,0≤x∧x<100
theorem yeT :∀{l l':LI} {r r':List UInt8},Hund l→Hund l'→sigB l++r=sigB l'++r'→l=l'∧r=r'
 | [],[],r,r',_,_,h=>⟨rfl,by simpa [sigB] using h⟩
 | [],y::l',r,r',_,h2,h=>by
  obtain⟨d,u,e,hd⟩:=ydN (u:=y.toNat) (by have:=h2 y (.head _);omega);simp only [sigB,List.flatMap_nil,List.nil_append,List.flatMap_cons,e,List.cons_append] at h;exact absurd (List.cons.inj h).1.symm hd
 | x::l,[],r,r',h1,_,h=>by
  obtain⟨d,u,e,hd⟩:=ydN (u:=x.toNat) (by have:=h1 x (.head _);omega);simp only [sigB,List.flatMap_nil,List.nil_append,List.flatMap_cons,e,List.cons_append] at h;exact absurd (List.cons.inj h).1 hd
 | x::l,y::l',r,r',h1,h2,h=>by
  have hx:=h1 x (.head _);have hy:=h2 y (.head _);have e:∀(z:Int) (l:LI) (r:List UInt8),sigB (z::l)++r=dig2 z.toNat++32::(sigB l++r):=fun z l r=>by simp [sigB]
  rw [e,e] at h;obtain⟨e1,e2⟩:=yai (yb4 (by omega)) (yb4 (by omega)) h;have e3:=ybM (u:=x.toNat) (v:=y.toNat) (by omega) (by omega) e1;obtain⟨e4,e5⟩:=yeT (fun z hz=>h1 z (.tail _ hz)) (fun z hz=>h2 z (.tail _ hz)) e2;exact⟨by rw [show x=y by omega,e4],e5⟩
theorem yeU :∀{s s':List LI},(∀l∈s,Hund l)→(∀l∈s',Hund l)→s.length=s'.length→s.flatMap sigB=s'.flatMap sigB→s=s'
 | [],[],_,_,_,_=>rfl
 | [],_::_,_,_,h,_=>by simp at h
 | _::_,[],_,_,h,_=>by simp at h
 | l::s,l'::s',h1,h2,hl,h=>by
  rw [List.flatMap_cons,List.flatMap_cons] at h;obtain⟨e1,e2⟩:=yeT (h1 l (.head _)) (h2 l' (.head _)) h;rw [e1,yeU (fun z hz=>h1 z (.tail _ hz)) (fun z hz=>h2 z (.tail _ hz)) (by simpa using hl) e2]
def keyS(c:Int)(s:List LI):List UInt8:=dig2 c.toNat++58::32::s.flatMap sigB
theorem yiS{c c':Int}{s s':List LI}(hc:0≤c∧c<100)(hc':0≤c'∧c'<100)(h1:∀l∈s,Hund l)(h2:∀l∈s',Hund l)(hl:s.length=s'.length)(h:keyS c s=keyS c' s'):c=c'∧s=s':=by
 obtain⟨e1,e2⟩:=yai (ydO (by omega)) (ydO (by omega)) h;have e3:=ybM (u:=c.toNat) (v:=c'.toNat) (by omega) (by omega) e1;exact⟨by omega,yeU h1 h2 hl (List.cons.inj e2).2⟩
end
section
open Go Go.RowKit
noncomputable section
theorem bbeq(a b:ByteArray):(a==b)=decide (a=b):=by
 have:(a==b)=(a.data==b.data):=rfl;rw [this];cases a;cases b;simp [Bool.beq_eq_decide_eq]
instance :LawfulBEq ByteArray where
 eq_of_beq {a b} h:=by
  rw [bbeq] at h;exact of_decide_eq_true h
 rfl {a}:=by rw [bbeq];simp
section
variable{κ:Type}[BEq κ][LawfulBEq κ]
def numG :Nat→List κ→List (κ×Int)
 | _,[]=> []
 | k,p::l=>(p,(k:Int))::numG (k+1) l
omit [BEq κ] [LawfulBEq κ] in
theorem ybZ :∀(k:Nat) (l:List κ),(numG k l).length=l.length
 | _,[]=>rfl
 | k,p::l=>by rw [numG,yLc,ybZ,yLc]
omit [BEq κ] [LawfulBEq κ] in
theorem yeV :∀(k:Nat) (l:List κ),(numG k l).map (·.1)=l
 | _,[]=>rfl
 | k,p::l=>by rw [numG,List.map_cons,yeV]
theorem yeW :∀(k:Nat) (l:List κ) (p:κ),kget (numG k l) p=if p∈l then some (((k+l.idxOf p:Nat):Int)) else none
 | _,[],p=>by simp [numG,kget]
 | k,q::l,p=>by
  have ih:=yeW (k+1) l p;unfold kget at ih ⊢;rw [numG,List.find?_cons];by_cases h:p=q
  ·subst h;simp
  ·have h':(p==q)=false:=by simpa using h
   simp only [h'];rw [ih];have h2:¬q=p:=fun e=>h e.symm;by_cases hm:p∈l
   ·rw [iP hm,iP (by simp [hm]),List.idxOf_cons];have h3:(q==p)=false:=by simpa using h2
    rw [h3];simp;omega
   ·rw [iN hm,iN (by simp [hm,h])]
omit [BEq κ] [LawfulBEq κ] in
theorem ydP :∀(k:Nat) (l:List κ) (p:κ),numG k (l++[p])=numG k l++[(p,((k+l.length:Nat):Int))]
 | k,[],p=>by simp [numG]
 | k,q::l,p=>by
  rw [List.cons_append,numG,ydP (k+1) l p,numG,List.cons_append,yLc];congr 4;omega
theorem yiT{l:List κ}{p:κ}(h:p∉l):kput (numG 0 l) p (l.length:Int)=numG 0 (l++[p]):=by
 unfold kput;rw [iN (by rw [yeV,ybQ h,ybZ];omega),ydP];simp
end
theorem ybt{keys:List ByteArray}(hl:keys.length≤1000000):y3a keys=some (numK keys):=by
 obtain⟨o,ho,he⟩:=yb (f:=y3C keys) (fun j st=>st=((j:Int),(numF (keys.take j)).2,numG 0 (numF (keys.take j)).1)) (fun o=>o=numK keys) keys.length 0 (by omega) (fun j st hj e1=>by
   subst e1;refine .inl ⟨_,?_,rfl⟩;have hI:=y9R (keys.take j);have h1:=hI.len;rw [yLt,Nat.min_eq_left (by omega)] at h1;rw [yTs hj,ydL];generalize numF (keys.take j)=S at h1 hI ⊢;unfold y3C numS;simp only [ct_lt hj,if_true,ya hj,yOb];rw [yeW];by_cases hm:keys[j]∈S.1
   ·rw [iP hm,iP hm];simp only [Option.isSome_some,Bool.not_true,Bool.false_eq_true,if_false,Option.getD_some];rw [y1K,yv (by simp;omega),yOb,nxt (by omega)];simp
   ·rw [iN hm,iN hm];simp only [Option.isSome_none,Bool.not_false,if_true];rw [y1K,yv (by simp;omega),yOb,nxt (by omega)];simp only [ybZ];rw [yiT hm])
  (fun st e1=>by
   subst e1;refine⟨_,?_,rfl⟩;unfold y3C;simp only [ct_ge,List.take_length];rfl) (by omega) (0,[],[]) rfl
 rw [y3a,ho,he];rfl
def by8(l:List UInt8):ByteArray:=⟨l.toArray⟩
theorem yfV(a b:List UInt8):by8 a++by8 b=by8 (a++b):=by
 unfold by8;apply ByteArray.ext;simp
theorem y8Q(a:List UInt8):(by8 a).size=a.length:=by simp [by8,ByteArray.size]
theorem yfW{a b:List UInt8}(h:by8 a=by8 b):a=b:=by
 have:=congrArg (fun x:ByteArray=>x.data.toList) h;simpa [by8] using this
theorem yeX{a b:List UInt8}(h:a.length+b.length≤1000000):yy (by8 a) (by8 b)=some (by8 (a++b)):=by
 rw [yy,iP (by rw [y8Q,y8Q];exact h),yfV]
theorem saddS{a b:List UInt8}(h:a.length+b.length≤1000000):sadd (by8 a) (by8 b)=some (by8 (a++b)):=by
 rw [sadd,iP (by rw [y8Q,y8Q];exact h),yfV]
theorem itoaS{x:Int}(h:0≤x∧x<100):y5e x=some (by8 (dig2 x.toNat)):=by
 rw [y5e,iP h];rfl
def clsS(c set:LI):LI:=dd (isL (set.map (cF c)))
theorem y7g{c set:LI}{x:Int}:x∈clsS c set↔ ∃s∈set,cF c s=x:=by
 unfold clsS;rw [y6d,yMp]
theorem yan(c set:LI):(clsS c set).length≤set.length:=by
 unfold clsS;have:=y9N (isL (set.map (cF c)));rw [(y2e _).length_eq,yLm] at this;exact this
theorem idxF{c:LI}{s:Int}(h:0≤s∧s<(c.length:Int)):idx c s=some (cF c s):=by
 unfold idx;rw [iP h.1];have:=cF_at (c:=c) (i:=s.toNat) (by omega);rw [this,show((s.toNat:Nat):Int)=s by omega]
theorem ybb :∀l:LI,(l.flatMap fun x=>dig2 x.toNat++[32]).length≤l.length*3
 | []=>by simp
 | x::l=>by
  have:=ybb l;have:=y8C x.toNat;simp only [List.flatMap_cons,yLa,yLc,List.length_nil];omega
theorem yiU(l:LI):(sigB l).length≤l.length*3+2:=by
 have:=ybb l;unfold sigB;rw [yLa];simp only [yLc,List.length_nil];omega
theorem yeY{b:List UInt8}{c set:LI}(hs:∀s∈set,0≤s∧s<(c.length:Int))(hc:Hund c)(hl:b.length+set.length*3+2≤1000000):y4h (by8 b) c set=some (by8 (b++sigB (clsS c set))):=by
 have h1:iter (y3f c set) (0,([]:LI))=some ([]++set.map (cF c)):=y5F _ _ _ (by rw [List.length_nil];omega) (fun j hj o=>by
   unfold y3f;simp only [ct_lt hj,if_true,ya hj,yOb];rw [idxF (hs _ (yGm hj)),yOb]) (fun o=>by
   unfold y3f;simp)
 have hcl:=yan c set;have hcm:∀x∈clsS c set,0≤x∧x<100:=fun x hx=>by
  obtain⟨s,h2,rfl⟩:=y7g.1 hx;have:=hs s h2;exact hc _ (y9S this.1 this.2)
 have h2:iter (yU (clsS c set)) (by8 b,0)=some (by8 (b++(clsS c set).flatMap fun x=>dig2 x.toNat++[32])):=by
  generalize clsS c set=l at hcl hcm ⊢;obtain⟨o,ho,he⟩:=yb (f:=yU l) (fun j st=>st=(by8 (b++(l.take j).flatMap fun x=>dig2 x.toNat++[32]),(j:Int))) (fun o=>o=by8 (b++l.flatMap fun x=>dig2 x.toNat++[32])) l.length 0 (by omega) (fun j st hj e1=>by
    subst e1;refine .inl ⟨_,?_,rfl⟩;have h3:=ybb (l.take j);rw [yLt,Nat.min_eq_left (by omega)] at h3;have h4:=y8C l[j].toNat;unfold yU;simp only [ct_lt hj,if_true,ya hj,yOb];rw [itoaS (hcm _ (yGm hj)),yOb,show(⟨#[32]⟩:ByteArray)=by8 [32] from rfl,saddS (by simp;omega),yOb,yeX (by simp at h3 ⊢;omega),yOb,nxt (by omega),yTs hj,List.flatMap_append,yAa];simp)
   (fun st e1=>by
    subst e1;refine⟨_,?_,rfl⟩;rw [List.take_length];unfold yU;simp) (by omega) (by8 b,0) (by simp)
  rw [ho,he]
 have h3:=ybb (clsS c set);rw [y4h,h1,yOb,List.nil_append,y8N (by rw [yLm];omega),yOb,y9w (by rw [(y2e _).length_eq,yLm];omega),yOb];show(iter (yU (clsS c set)) (by8 b,0)).bind _=_;rw [h2,yOb,show(⟨#[59,32]⟩:ByteArray)=by8 [59,32] from rfl,yeX (by simp at h3 ⊢;omega),yOb,yAa];rfl
section
variable{α:Type}
def mixL(n:Nat)(F G:Nat→α)(i:Nat):List α:=(List.range n).map fun k=>if k<i then F k else G k
theorem y9T(n:Nat)(F G:Nat→α)(i:Nat):(mixL n F G i).length=n:=by simp [mixL]
theorem ycC{n:Nat}{F G:Nat→α}{i k:Nat}(h:k<n):(mixL n F G i)[k]? =some (if k<i then F k else G k):=by
 unfold mixL;rw [List.getElem?_map,List.getElem?_range h];rfl
theorem yfX{n:Nat}{F G:Nat→α}{i:Nat}:(mixL n F G i).set i (F i)=mixL n F G (i+1):=by
 apply List.ext_getElem?;intro k;rw [List.getElem?_set,y9T];by_cases hk:k<n
 ·rw [ycC hk,ycC hk];by_cases e:i=k
  ·subst e;simp [hk]
  ·rw [iN e];by_cases h:k<i
   ·rw [iP h,iP (by omega)]
   ·rw [iN h,iN (by omega)]
 ·rw [yGn (by rw [y9T];omega),yGn (by rw [y9T];omega)];split
  ·rename_i e;subst e;simp [hk]
  ·rfl
theorem yeZ(n:Nat)(F G:Nat→α):mixL n F G 0=(List.range n).map G:=by simp [mixL]
theorem yfY(n:Nat)(F G:Nat→α):mixL n F G n=(List.range n).map F:=by
 unfold mixL;refine List.map_congr_left fun k hk=>?_;rw [iP (List.mem_range.1 hk)]
theorem idx_get?{xs:List α}{i:Nat}{x:α}(h:xs[i]? =some x):idx xs (i:Int)=some x:=by
 unfold idx;rw [iP (by omega),yTn,h]
theorem ybc{xs:List α}{i:Nat}{v:α}(h:i<xs.length):upd xs (i:Int) v=some (xs.set i v):=by
 have:=y9Q (xs:=xs) (s:=(i:Int)) (v:=v) (by omega);rwa [yTn] at this
theorem yiV{T:List α}{i:Nat}{x:α}(h:i<T.length):idx (T.set i x) (i:Int)=some x:=idx_get? (by rw [List.getElem?_set,iP rfl,iP h])
end
def rowA(a:NdT)(i:Nat):List LI:=((-1:Int)::a.1).map fun e=>wkL a e (i:Int)
def tru8(b:Bool):List UInt8:=if b then [116,114,117,101] else [102,97,108,115,101]
theorem fmtB(b:Bool):y6e b=some (by8 (tru8 b)):=by
 cases b <;> rfl
def mksB(a:NdT)(s:Int):Bool:=@decide ((ltsN a).mks s) (Classical.propDecidable _)
section
variable{a:NdT}(ha:NdOk a){n:Nat}(hn:a.2.1=(n:Int))(hal:a.1.length≤32)
include ha hn hal
theorem yhG{i:Nat}(hi:i<n)(s2:List ByteArray×List (List LI)){T:List (List LI)}(hT:T.length=n):iter (y2K a ((i:Int),s2)) (0,T.set i [wkL a (-1) i])=some (T.set i (rowA a i)):=by
 obtain⟨o,ho,he⟩:=yb (f:=y2K a ((i:Int),s2)) (fun j st=>st=((j:Int),T.set i (((-1:Int)::a.1.take j).map fun e=>wkL a e (i:Int)))) (fun o=>o=T.set i (rowA a i)) a.1.length 0 (by omega) (fun j st hj e1=>by
   subst e1;refine .inl ⟨_,?_,rfl⟩;unfold y2K;simp only [ct_lt hj,if_true,ya hj,yOb];rw [yiR ha (by omega) (yGm hj),yOb,yiV (by omega),yOb,yv (by simp;omega),yOb,yOb,ybc (by rw [List.length_set];omega),yOb,nxt (by omega),List.set_set,yTs hj];rw [List.map_cons,List.map_cons,List.map_append];rfl)
  (fun st e1=>by
   subst e1;refine⟨_,?_,rfl⟩;rw [List.take_length];unfold y2K;simp;rfl) (by omega) (0,T.set i [wkL a (-1) i]) (by simp)
 rw [ho,he]
theorem yhH(h99:n≤99):iter (y2L a) (0,([]:List ByteArray),List.replicate n ([]:List LI))=some ((List.range n).map (fun i:Nat=>by8 (tru8 (mksB a (i:Int)))),(List.range n).map (rowA a)):=by
 have hlm:a.2.2.2.1.length≤1000000:=ha.lm;obtain⟨o,ho,he⟩:=yb (f:=y2L a) (fun j st=>st=((j:Int),(List.range j).map (fun i:Nat=>by8 (tru8 (mksB a (i:Int)))),mixL n (rowA a) (fun _=> []) j)) (fun o=>o=((List.range n).map (fun i:Nat=>by8 (tru8 (mksB a (i:Int)))),(List.range n).map (rowA a))) n 0 (by omega) (fun j st hj e1=>by
   subst e1;refine .inl ⟨_,?_,rfl⟩;have hml:=y9T n (rowA a) (fun _=> []) j;have hwl:=ybX a.2.1.toNat fun t=>(ltsN a).wk (-1) (j:Int) t;have hwl:(wkL a (-1) (j:Int)).length≤n:=by unfold wkL;omega
   have hmg:=y6M (fun a b=>a&&b) (wkL a (-1) (j:Int)) a.2.2.2.1 (yeR _ _) ha.mks;have hmk:decide (((mg (fun a b=>a&&b) (wkL a (-1) (j:Int)) a.2.2.2.1).length:Int)>0)=mksB a (j:Int):=by
    rw [Bool.eq_iff_iff];unfold mksB;rw [@decide_eq_true_iff _ (Classical.propDecidable _),decide_eq_true_iff];constructor
    ·intro h;obtain⟨x,hx⟩:=List.exists_mem_of_length_pos (l:=mg (fun a b=>a&&b) (wkL a (-1) (j:Int)) a.2.2.2.1) (by omega);have hx:=(hmg.2 x).1 hx;rw [yAe,yd,yd] at hx;rcases(y7f.1 hx.2.1).2 with ⟨_,h⟩|⟨h,_⟩
     ·exact ⟨x,h,hx.2.2⟩
     ·exact absurd rfl h
    ·rintro ⟨m,h1,h2⟩;have h3:=ha.mkr m h2;have:m∈mg (fun a b=>a&&b) (wkL a (-1) (j:Int)) a.2.2.2.1:=(hmg.2 m).2 ⟨.inr h2,by
      rw [yAe,yd,yd];exact⟨y7f.2 ⟨⟨h3.1,by omega⟩,.inl ⟨rfl,h1⟩⟩,h2⟩⟩
     have:=List.length_pos_of_mem this;omega
   have hint:y4Y (wkL a (-1) (j:Int)) a.2.2.2.1=some (mg (fun a b=>a&&b) (wkL a (-1) (j:Int)) a.2.2.2.1):=by
    rw [y4Y,ybN (kp:=fun a b=>a&&b) (f:=y5I) (fun _ _=>rfl) (by omega) hlm];rfl
   unfold y2L;simp only [hn,ct_lt hj,if_true];rw [ybs ha (by omega),yOb,idx_get? (ycC hj),iN (Nat.lt_irrefl _),yOb,yv (by simp),yOb,yOb,ybc (by omega),yOb,List.nil_append,yhG ha hn hal hj _ hml,yOb,hint,yOb,hmk,fmtB,yOb,yv (by simp;omega),yOb,nxt (by omega),yfX,List.range_succ,List.map_append];rfl)
  (fun st e1=>by
   subst e1;refine⟨_,?_,rfl⟩;rw [yfY];unfold y2L;simp [hn]) (by omega) (0,[],List.replicate n []) (by rw [yeZ];simp [List.map_const'])
 rw [ho,he]
def keyA(a:NdT)(c:LI)(i:Nat):List UInt8:=keyS (cF c (i:Int)) ((rowA a i).map (clsS c))
omit ha hn hal in
theorem yiW{c:LI}(hc:Hund c){set:LI}(hs:∀s∈set,0≤s∧s<(c.length:Int)):Hund (clsS c set):=fun x hx=>by
 obtain⟨s,h2,rfl⟩:=y7g.1 hx;have:=hs s h2;exact hc _ (y9S this.1 this.2)
omit ha hal in
theorem yhI{c:LI}(hcl:c.length=n){i:Nat}:∀set∈rowA a i,(∀s∈set,0≤s∧s<(c.length:Int))∧set.length≤n:=fun set hset=>by
 obtain⟨e,_,rfl⟩:=yMp.1 hset;refine⟨fun s hs=>?_,?_⟩
 ·have:=(y7f.1 hs).1;unfold Vn at this;omega
 ·have:=ybX a.2.1.toNat fun t=>(ltsN a).wk e (i:Int) t;unfold wkL;omega
omit ha hn in
theorem yk6(i:Nat):(rowA a i).length≤33:=by
 unfold rowA;rw [yLm,yLc];omega
omit ha hn hal in
theorem yf0{k:Nat}:∀(l:List LI),(∀x∈l,x.length≤k)→(l.flatMap sigB).length≤l.length*(k*3+2)
 | [],_=>by simp
 | x::l,h=>by
  have h1:=yf0 l fun y hy=>h y (.tail _ hy);have h2:=yiU x;have h3:=h x (.head _);rw [List.flatMap_cons,yLa,yLc,Nat.add_mul,Nat.one_mul];omega
omit ha in
theorem yhJ(h99:n≤99){c:LI}(hc:Hund c)(hcl:c.length=n)(keys:List ByteArray){i:Nat}{b:List UInt8}(hb:b.length≤4):iter (y2I (c,keys) (rowA a i)) (0,by8 b)=some (by8 (b++((rowA a i).map (clsS c)).flatMap sigB)):=by
 have hr:=yhI hn hcl (i:=i);have hl:=yk6 hal i;generalize rowA a i=l at hr hl ⊢;obtain⟨o,ho,he⟩:=yb (f:=y2I (c,keys) l) (fun j st=>st=((j:Int),by8 (b++((l.take j).map (clsS c)).flatMap sigB))) (fun o=>o=by8 (b++(l.map (clsS c)).flatMap sigB)) l.length 0 (by omega) (fun j st hj e1=>by
   subst e1;refine .inl ⟨_,?_,rfl⟩;have hh:=hr _ (yGm hj);have h3:=yf0 (k:=99) ((l.take j).map (clsS c)) fun x hx=>by
    obtain⟨s,hs,rfl⟩:=yMp.1 hx;have:=(hr s (List.mem_of_mem_take hs)).2;have:=yan c s;omega
   rw [yLm,yLt,Nat.min_eq_left (by omega)] at h3;unfold y2I;simp only [ct_lt hj,if_true,ya hj,yOb];rw [yeY hh.1 hc (by rw [yLa];omega),yOb,nxt (by omega),yTs hj,List.map_append,List.flatMap_append,yAa];simp)
  (fun st e1=>by
   subst e1;refine⟨_,?_,rfl⟩;rw [List.take_length];unfold y2I;simp) (by omega) (0,by8 b) (by simp)
 rw [ho,he]
omit ha in
theorem yhK(h99:n≤99){c:LI}(hc:Hund c)(hcl:c.length=n)(k0:List ByteArray){keys:List ByteArray}(hk:keys.length=n):iter (y2J a (k0,(List.range n).map (rowA a)) (c,keys)) (0,keys)=some ((List.range n).map fun i=>by8 (keyA a c i)):=by
 have hG:keys=(List.range n).map fun i=>keys.getD i ⟨#[]⟩:=by
  apply List.ext_getElem?;intro k;by_cases h:k<n
  ·rw [List.getElem?_map,List.getElem?_range h,yGe (by omega)];simp [yGd,yGe (show k<keys.length by omega)]
  ·rw [yGn (by omega),yGn (by simp;omega)]
 obtain⟨o,ho,he⟩:=yb (f:=y2J a (k0,(List.range n).map (rowA a)) (c,keys)) (fun j st=>st=((j:Int),mixL n (fun i=>by8 (keyA a c i)) (fun i=>keys.getD i ⟨#[]⟩) j)) (fun o=>o=(List.range n).map fun i=>by8 (keyA a c i)) n 0 (by omega) (fun j st hj e1=>by
   subst e1;refine .inl ⟨_,?_,rfl⟩;have hx:=hc _ (y9S (c:=c) (s:=(j:Int)) (by omega) (by omega));have hd:=y8C (cF c (j:Int)).toNat;have hne:(by8 (keyA a c j)).size≠0:=by
    rw [y8Q];unfold keyA keyS;rw [yLa,yLc,yLc];omega
   unfold y2J;simp only [hn,ct_lt hj,if_true];rw [idxF (by omega),yOb,itoaS hx,yOb,show(⟨#[58,32]⟩:ByteArray)=by8 [58,32] from rfl,saddS (by simp;omega),yOb,show(⟨#[]⟩:ByteArray)=by8 [] from rfl,yeX (by simp;omega),yOb,idx_get? (show ((List.range n).map (rowA a))[j]? =some (rowA a j) by rw [List.getElem?_map,List.getElem?_range hj];rfl),yOb,List.nil_append,yhJ hn hal h99 hc hcl keys (by simp;omega),yOb];have e2:dig2 (cF c (j:Int)).toNat++[58,32]++((rowA a j).map (clsS c)).flatMap sigB=keyA a c j:=by
    unfold keyA keyS;rw [yAa];rfl
   rw [e2,y3K,iP hne,yOb,idx_get? (ycC hj),yOb,ybc (by rw [y9T];exact hj),yOb,nxt (by omega),yfX (F:=fun i=>by8 (keyA a c i))])
  (fun st e1=>by
   subst e1;refine⟨_,?_,rfl⟩;rw [yfY];unfold y2J;simp [hn]) (by omega) (0,keys) (by rw [yeZ,←hG];rfl)
 rw [ho,he]
def nextC(a:NdT)(n:Nat)(c:LI):LI:=numK ((List.range n).map fun i=>by8 (keyA a c i))
omit hal in
theorem yiX(h99:n≤99){c:LI}(hc:Hund c)(hcl:c.length=n):RfN (ltsN a) n c (nextC a n c) where
 len:=by unfold nextC;rw [ybW];simp
 fst:=ycB _
 eq:=by
  have hlen:(nextC a n c).length=n:=by unfold nextC;rw [ybW];simp
  have key:∀i j:Nat,i<n→j<n→(cF (nextC a n c) (i:Int)=cF (nextC a n c) (j:Int)↔refR (ltsN a) (cF c) (i:Int) (j:Int)):=fun i j hi hj=>by
   have h1:=cF_at (c:=nextC a n c) (i:=i) (by omega);have h2:=cF_at (c:=nextC a n c) (i:=j) (by omega);have hk:∀k:Nat,k<n→((List.range n).map fun i=>by8 (keyA a c i))[k]? =some (by8 (keyA a c k)):=fun k hk=>by rw [List.getElem?_map,List.getElem?_range hk];rfl
   have h3:=yfT _ (hk i hi) (hk j hj);have e1:cF (nextC a n c) (i:Int)=cF (nextC a n c) (j:Int)↔by8 (keyA a c i)=by8 (keyA a c j):=by
    rw [←h3];unfold nextC at h1 h2 ⊢;rw [h1,h2];simp
   have hci:=hc _ (y9S (c:=c) (s:=(i:Int)) (by omega) (by omega));have hcj:=hc _ (y9S (c:=c) (s:=(j:Int)) (by omega) (by omega));have hin:=fun k=>yhI hn hcl (i:=k);have hH:∀k,∀l∈(rowA a k).map (clsS c),Hund l:=fun k l hl=>by
    obtain⟨s,hs,rfl⟩:=yMp.1 hl;exact yiW hc (hin k s hs).1
   have e2:by8 (keyA a c i)=by8 (keyA a c j)↔cF c (i:Int)=cF c (j:Int)∧(rowA a i).map (clsS c)=(rowA a j).map (clsS c):=by
    constructor
    ·intro h;exact yiS hci hcj (hH i) (hH j) (by simp [rowA]) (yfW h)
    ·rintro ⟨h1,h2⟩;unfold keyA;rw [h1,h2]
   rw [e1,e2];unfold refR;refine and_congr Iff.rfl ?_;have hV:∀k:Nat,k<n→Vn n (k:Int):=fun k hk=>⟨by omega,by omega⟩;have hVn:=ha.vn;rw [show a.2.1.toNat=n by omega] at hVn;have hm:∀(k:Nat),k<n→∀e x,x∈clsS c (wkL a e (k:Int))↔ ∃u,(ltsN a).wk e (k:Int) u∧cF c u=x:=fun k hk e x=>by
    rw [y7g];constructor
    ·rintro ⟨s,hs,h⟩;exact⟨s,(y7f.1 hs).2,h⟩
    ·rintro ⟨u,hu,h⟩;refine⟨u,y7f.2 ⟨?_,hu⟩,h⟩;rw [show a.2.1.toNat=n by omega];exact hVn.wk (hV k hk) hu
   unfold rowA;rw [List.map_map,List.map_map];constructor
   ·intro h e he x;have hmem:e∈(-1:Int)::a.1:=by
     rcases he with he|he
     ·rw [he];exact .head _
     ·exact .tail _ he
    have:=List.map_inj_left.1 h e hmem;simp only [Function.comp_apply] at this;rw [←hm i hi,←hm j hj,this]
   ·intro h;refine List.map_congr_left fun e he=>?_;simp only [Function.comp_apply];refine incE (y6c _) (y6c _) fun x=>?_;have hlab:(ltsN a).lab e:=by
     rcases yMo.1 he with he|he
     ·exact .inl he
     ·exact .inr he
    have:=h e hlab x;rw [←hm i hi,←hm j hj] at this;exact this
  intro s t hs ht;have:=key s.toNat t.toNat (by have:=hs.1;have:=hs.2;omega) (by have:=ht.1;have:=ht.2;omega);rwa [show ((s.toNat:Nat):Int)=s by have:=hs.1;omega,show((t.toNat:Nat):Int)=t by have:=ht.1;omega] at this
omit ha hn hal in
theorem yiY :RfI (ltsN a) n (numK ((List.range n).map fun i:Nat=>by8 (tru8 (mksB a (i:Int))))):=by
 have hlen:(numK ((List.range n).map fun i:Nat=>by8 (tru8 (mksB a (i:Int))))).length=n:=by rw [ybW];simp
 have key:∀s t,Vn n s→Vn n t→(cF (numK ((List.range n).map fun i:Nat=>by8 (tru8 (mksB a (i:Int))))) s=cF (numK ((List.range n).map fun i:Nat=>by8 (tru8 (mksB a (i:Int))))) t↔((ltsN a).mks s↔(ltsN a).mks t)):=fun s t hs ht=>by
  obtain⟨i,rfl⟩:∃i:Nat,s=(i:Int):=⟨s.toNat,by have:=hs.1;omega⟩;obtain⟨j,rfl⟩:∃j:Nat,t=(j:Int):=⟨t.toNat,by have:=ht.1;omega⟩;have hi:i<n:=by have:=hs.2;omega
  have hj:j<n:=by have:=ht.2;omega
  have hk:∀k:Nat,k<n→((List.range n).map fun i:Nat=>by8 (tru8 (mksB a (i:Int))))[k]? =some (by8 (tru8 (mksB a (k:Int)))):=fun k hk=>by rw [List.getElem?_map,List.getElem?_range hk];rfl
  have h3:=yfT _ (hk i hi) (hk j hj);rw [cF_at (by omega),cF_at (by omega)] at h3;have e1:by8 (tru8 (mksB a (i:Int)))=by8 (tru8 (mksB a (j:Int)))↔mksB a (i:Int)=mksB a (j:Int):=by
   constructor
   ·intro h;have:=yfW h;revert this;cases mksB a (i:Int) <;> cases mksB a (j:Int) <;> simp [tru8]
   ·intro h;rw [h]
  rw [e1] at h3;have e2:∀s,mksB a s=true↔(ltsN a).mks s:=fun s=>by unfold mksB;rw [@decide_eq_true_iff _ (Classical.propDecidable _)]
  rw [←e2,←e2,←Bool.eq_iff_iff,←h3];simp
 exact⟨hlen,ycB _,fun s t hs ht e hm=>((key s t hs ht).1 e).1 hm,fun P hP s t hs ht h=>(key s t hs ht).2 ⟨hP.m s t hs ht h,hP.m t s ht hs (hP.sy s t hs ht h)⟩⟩
end
theorem ykE{xs ys:LI}(hx:xs.length≤4294967296):yF xs ys=some (decide (xs=ys)):=by
 rw [yF];by_cases hl:xs.length=ys.length
 ·rw [iN (by simp [hl])];obtain⟨o,ho,he⟩:=yb (f:=y1X xs ys) (fun j st=>st=(j:Int)∧xs.take j=ys.take j) (fun o=>(o= .inl ()∧xs=ys)∨(o= .inr ()∧xs≠ys)) xs.length 0 (by omega) (fun j st hj ⟨e1,e2⟩=>by
    subst e1;unfold y1X;rw [iP (ct_lt hj),ya hj,yOb,ya (show j<ys.length by omega),yOb];by_cases h:xs[j]=ys[j]
    ·left;refine⟨_,by rw [iN (by simp [h]),nxt (by omega)],rfl,?_⟩;rw [yTs hj,yTs (show j<ys.length by omega),e2,h]
    ·right;exact⟨_,by rw [iP (by simp [h])],.inr ⟨rfl,fun e=>h (by subst e;rfl)⟩⟩)
   (fun st ⟨e1,e2⟩=>by
    subst e1;refine⟨_,by unfold y1X;rw [iN ct_ge],.inl ⟨rfl,?_⟩⟩;rw [List.take_length,hl,List.take_length] at e2;exact e2) (by omega) 0 ⟨rfl,rfl⟩
  rw [ho,yOb];rcases he with ⟨rfl,e⟩|⟨rfl,e⟩
  ·simp [e]
  ·simp [e]
 ·rw [iP (by simp;omega)];have:xs≠ys:=fun e=>hl (by rw [e]);simp [this]
theorem yhL{a:NdT}(ha:NdOk a)(h99:a.2.1≤99)(hal:a.1.length≤32):∃c,y5a a=some c∧RfOk (ltsN a) a.2.1.toNat c:=by
 have h0:=ha.n0;obtain⟨n,hn⟩:∃n:Nat,a.2.1=(n:Int):=⟨a.2.1.toNat,by omega⟩;have hnn:a.2.1.toNat=n:=by omega
 rw [hnn];have hV:=ha.vn;rw [hnn] at hV;have hHund:∀{c:LI},RfI (ltsN a) n c→Hund c:=fun {c} h x hx=>by
  obtain⟨i,hi,e⟩:=List.mem_iff_getElem.1 hx;have:=h.fst.lt i x (by rw [yGe hi,e]);have:=h.len;omega
 have hm:mkL a.2.1 ([]:List LI)=some (List.replicate n []):=by unfold mkL;rw [hn,iP (by omega)];rfl
 have hf:=yiY (a:=a) (n:=n);rw [y5a,hm,yOb,yhH ha hn hal (by omega),yOb];dsimp only;rw [ybt (by simp;omega),yOb];obtain⟨o,ho,he⟩:=yb (f:=y5t a ((List.range n).map (fun i:Nat=>by8 (tru8 (mksB a (i:Int)))),(List.range n).map (rowA a))) (fun j st=>RfI (ltsN a) n st.1∧st.2.length=n∧j+eqs n st.1≤n*n) (fun o=>RfOk (ltsN a) n o) (n*n+1) 0 (by
   have:n*n≤99*99:=Nat.mul_le_mul (by omega) (by omega);omega) (fun j st hj ⟨g1,g2,g3⟩=>by
   obtain⟨c,keys⟩:=st;dsimp only at g1 g2 g3;have hcl:=g1.len;have hR:=yiX ha hn (by omega) (hHund g1) hcl;unfold y5t;dsimp only;rw [yhK hn hal (by omega) (hHund g1) hcl _ g2,yOb,ybt (by simp;omega),yOb];show(∃s',(yF (nextC a n c) c).bind _=_∧_)∨∃o,(yF (nextC a n c) c).bind _=_∧_;rw [ykE (by have:=hR.len;omega),yOb];by_cases e:nextC a n c=c
   ·right;refine⟨c,by rw [decide_eq_true e];rfl,{ g1 with st:=g1.stb (by rw [e] at hR;exact hR) }⟩
   ·left;refine⟨(nextC a n c,(List.range n).map fun i=>by8 (keyA a c i)),by rw [decide_eq_false e];rfl,g1.next hR hV,by simp,?_⟩;have:=RfN.lt hcl g1.fst hR e;dsimp only;omega)
  (fun st ⟨_,_,g3⟩=>by omega) (by omega) (numK ((List.range n).map fun i:Nat=>by8 (tru8 (mksB a (i:Int)))),(List.range n).map fun i:Nat=>by8 (tru8 (mksB a (i:Int)))) ⟨hf,by simp,by have:=ykD n (numK ((List.range n).map fun i:Nat=>by8 (tru8 (mksB a (i:Int)))));dsimp only;omega⟩
 exact⟨o,by rw [ho];rfl,he⟩
theorem yc0{x y:E3}(h1:¬ltE3 x y)(h2:¬ltE3 y x):x=y:=by
 unfold ltE3 at *;exact Prod.ext (by omega) (Prod.ext (by omega) (by omega))
theorem ltfC{f:E3→E3→Option Int}(hf:∀x y,∃z,f x y=some z∧(z<0↔ltE3 x y)){x y:E3}:ltf f x y=true↔ltE3 x y:=by
 obtain⟨z,h1,h2⟩:=hf x y;unfold ltf;rw [h1];simpa using h2
theorem yhM{f:E3→E3→Option Int}(hf:∀x y,∃z,f x y=some z∧(z<0↔ltE3 x y))(xs:List E3):cmpB f xs=true:=yfM ltE3 (fun x _ y _=>hf x y) (fun x _ y _ h=>by unfold ltE3 at *;omega) (fun x _ y _ h1 h2=>yc0 h1 h2) (fun x _ y _ z _ h1 h2=>by unfold ltE3 at *;omega)
theorem yfZ{f:E3→E3→Option Int}(hf:∀x y,∃z,f x y=some z∧(z<0↔ltE3 x y))(xs:List E3):(srtL (ltf f) xs).Pairwise fun a b=>¬ltE3 b a:=
 (yb2 (ybI (yhM hf xs)) xs fun _ h=>h).imp fun h=>by rw [←ltfC hf];simp [h]
theorem yf1{f:E3→E3→Option Int}(hf:∀x y,∃z,f x y=some z∧(z<0↔ltE3 x y)){xs:List E3}(hl:xs.length≤4294967296):yG f xs=some (srtL (ltf f) xs):=by
 unfold yG srtF;rw [iP ⟨hl,yhM hf xs⟩]
theorem cmpN(x y:E3):∃z,yc x y=some z∧(z<0↔ltE3 x y):=by
 obtain⟨z,h1,h2,_⟩:=yaj x y;exact⟨z,h1,h2⟩
theorem of_l1{c set:LI}(hs:∀s∈set,0≤s∧s<(c.length:Int))(hl:set.length≤1000000):iter (y1q set c) (0,([]:LI))=some (set.map (cF c)):=by
 have:=y5F (xs:=set) (y1q set c) (cF c) [] (by rw [List.length_nil];omega) (fun j hj o=>by
  unfold y1q;simp only [ct_lt hj,if_true,ya hj,yOb];rw [idxF (hs _ (yGm hj)),yOb]) (fun o=>by
  unfold y1q;simp)
 rwa [List.nil_append] at this
theorem of_eq{c set:LI}(hs:∀s∈set,0≤s∧s<(c.length:Int))(hl:set.length≤1000000):yw c set=some (clsS c set):=by
 rw [yw,of_l1 hs hl,yOb,y8N (by rw [yLm];omega),yOb,y9w (by rw [(y2e _).length_eq,yLm];omega)];rfl
theorem yhN(c:LI)(x:Int):topL (c++[x])=max (topL c) (x+1):=by unfold topL;rw [List.foldl_append];rfl
def clsE(c:LI)(y:E3):E3:=(cF c y.1,y.2.1,cF c y.2.2)
def qualE(y:E3):Bool:=(y.2.1 != (-1))||(y.1 != y.2.2)
def oneS(out:List E3)(z:E3):List E3:=if qualE z=true∧z∉out then out++[z] else out
def oneF(l:List E3):List E3:=l.foldl oneS []
theorem ydQ(l:List E3)(z:E3):oneF (l++[z])=oneS (oneF l) z:=by unfold oneF;rw [List.foldl_append];rfl
theorem y9U(l:List E3):(oneF l).Nodup∧(∀z,z∈oneF l↔z∈l∧qualE z=true)∧(oneF l).length≤l.length:=by
 have key:∀n,n≤l.length→(oneF (l.take n)).Nodup∧(∀z,z∈oneF (l.take n)↔z∈l.take n∧qualE z=true)∧(oneF (l.take n)).length≤n:=by
  intro n
  induction n with
  | zero=>intro _;exact⟨.nil,fun z=>by simp [oneF],yNr _⟩
  | succ n ih=>
   intro hn;obtain⟨h1,h2,h3⟩:=ih (by omega);rw [yTs (by omega),ydQ];unfold oneS;split
   ·rename_i h;refine⟨?_,fun z=>?_,by simp;omega⟩
    ·unfold List.Nodup;rw [List.pairwise_append];exact⟨h1,List.pairwise_singleton _ _,fun x hx y hy e=>h.2 (by rw [←yMs.1 hy,←e];exact hx)⟩
    ·rw [yMa,yMa,h2,yMs];constructor
     ·rintro (⟨g1,g2⟩|rfl)
      ·exact ⟨.inl g1,g2⟩
      ·exact ⟨.inr rfl,h.1⟩
     ·rintro ⟨g1|g1,g2⟩
      ·exact .inl ⟨g1,g2⟩
      ·exact .inr g1
   ·rename_i h;refine⟨h1,fun z=>?_,by omega⟩;rw [yMa,h2,yMs];constructor
    ·rintro ⟨g1,g2⟩;exact⟨.inl g1,g2⟩
    ·rintro ⟨g1|rfl,g2⟩
     ·exact ⟨g1,g2⟩
     ·exact Classical.byContradiction fun hne=>h ⟨g2,fun hm=>hne ((h2 _).1 hm)⟩
 have:=key l.length (yNr _);rwa [List.take_length] at this
theorem yf2 :∀(l:List E3) (z:E3),kget (l.map fun z=>(z,true)) z=if z∈l then some true else none
 | [],z=>by simp [kget]
 | x::l,z=>by
  have ih:=yf2 l z;unfold kget at ih ⊢;rw [List.map_cons,List.find?_cons];by_cases h:z=x
  ·subst h;simp
  ·have h':(z==x)=false:=by simpa using h
   simp only [h'];rw [ih];simp [h]
theorem yiZ{l:List E3}{z:E3}(h:z∉l):kput (l.map fun z=>(z,true)) z true=(l++[z]).map fun z=>(z,true):=by
 unfold kput;rw [iN (by rw [List.map_map,show((fun p:E3×Bool=>p.1)∘fun z=>(z,true))=id from rfl,List.map_id,ybQ h,yLm];omega),List.map_append];rfl
section
variable{a:NdT}{n:Nat}{c:LI}(ha:NdOk a)(hn:a.2.1=(n:Int))(hcl:c.length=n)(hHu:Hund c)
include ha hn hcl
include hHu in
theorem ykF :iter (y1L (c,0)) (0,0)=some (topL c):=by
 have hn1:=ha.n1;obtain⟨o,ho,he⟩:=yb (f:=y1L (c,0)) (fun j st=>st=((j:Int),topL (c.take j))) (fun o=>o=topL c) c.length 0 (by omega) (fun j st hj e1=>by
   subst e1;refine .inl ⟨_,?_,rfl⟩;have hx:=hHu _ (yGm hj);unfold y1L;simp only [ct_lt hj,if_true,ya hj,yOb];rw [nxt (by omega),W_of (by omega) (by omega),yTs hj,yhN];congr 3;split <;> omega)
  (fun st e1=>by
   subst e1;refine⟨_,?_,rfl⟩;rw [List.take_length];unfold y1L;simp) (by omega) (0,0) rfl
 rw [ho,he]
theorem ykG :iter (y1a a (c,0)) (0,([]:List (E3×Bool)),([]:List E3))=some (oneF (a.2.2.2.2.map (clsE c))):=by
 have hle:=ha.le;obtain⟨o,ho,he⟩:=yb (f:=y1a a (c,0)) (fun j st=>st=((j:Int),(oneF ((a.2.2.2.2.take j).map (clsE c))).map (fun z=>(z,true)),oneF ((a.2.2.2.2.take j).map (clsE c)))) (fun o=>o=oneF (a.2.2.2.2.map (clsE c))) a.2.2.2.2.length 0 (by omega) (fun j st hj e1=>by
   subst e1;refine .inl ⟨_,?_,rfl⟩;have hx:=ha.esr _ (yGm hj);have h3:=(y9U ((a.2.2.2.2.take j).map (clsE c))).2.2;rw [yLm,yLt,Nat.min_eq_left (by omega)] at h3;rw [yTs hj,List.map_append,List.map_singleton,ydQ];generalize oneF ((a.2.2.2.2.take j).map (clsE c))=S at h3 ⊢;unfold y1a;simp only [ct_lt hj,if_true,ya hj,yOb];rw [idxF (by omega),yOb,idxF (by omega),yOb];have hz:(cF c a.2.2.2.2[j].1,a.2.2.2.2[j].2.1,cF c a.2.2.2.2[j].2.2)=clsE c a.2.2.2.2[j]:=rfl;have hk:((a.2.2.2.2[j].2.1 != (-1))||(cF c a.2.2.2.2[j].1 != cF c a.2.2.2.2[j].2.2))=qualE (clsE c a.2.2.2.2[j]):=rfl;rw [hz,hk];generalize clsE c a.2.2.2.2[j]=z;rw [yf2];unfold oneS;by_cases hm:z∈S
   ·rw [iP hm,iN (by simp),iN (by simp [hm])];rw [yZ];simp only [nxt (show j<4611686018427387904 by omega)]
   ·rw [iN hm];cases hb:qualE z with
    | false=>
     rw [iN (by simp),iN (by simp)];rw [yZ];simp only [nxt (show j<4611686018427387904 by omega)]
    | true=>
     rw [iP (by simp),iP ⟨rfl,hm⟩,yv (by simp;omega),yOb,yiZ hm];rw [yZ];simp only [nxt (show j<4611686018427387904 by omega)])
  (fun st e1=>by
   subst e1;refine⟨_,?_,rfl⟩;rw [List.take_length];unfold y1a;simp) (by omega) (0,[],[]) rfl
 rw [ho,he]
end
def absE(a:NdT)(c:LI):List E3:=srtL (ltf yc) (oneF (a.2.2.2.2.map (clsE c)))
theorem yf3{a:NdT}{c:LI}{z:E3}:z∈absE a c↔ ∃y∈a.2.2.2.2,clsE c y=z∧qualE z=true:=by
 unfold absE;rw [(y3t _ _).mem_iff,(y9U _).2.1,yMp];constructor
 ·rintro ⟨⟨y,h1,h2⟩,h3⟩;exact⟨y,h1,h2,h3⟩
 ·rintro ⟨y,h1,h2,h3⟩;exact⟨⟨y,h1,h2⟩,h3⟩
theorem yk7(a:NdT)(c:LI):(absE a c).Pairwise ltE3:=by
 have h1:=yfZ cmpN (oneF (a.2.2.2.2.map (clsE c)));have h2:(absE a c).Nodup:=(y3t _ _).nodup_iff.2 (y9U _).1;exact(h1.and h2).imp fun {x y} h=>Classical.byContradiction fun hn=>h.2 (yc0 hn h.1)
def absN(a:NdT)(c:LI):NdT:=(a.1,topL c,clsS c a.2.2.1,clsS c a.2.2.2.1,absE a c)
theorem RfI.hund{L:Lts Int}{n:Nat}{c:LI}(h:RfI L n c)(h99:n≤99):Hund c:=fun x hx=>by
 obtain⟨i,hi,e⟩:=List.mem_iff_getElem.1 hx;have:=h.fst.lt i x (by rw [yGe hi,e]);have:=h.len;omega
theorem yk8{a:NdT}(ha:NdOk a)(h99:a.2.1≤99){c:LI}(hc:RfOk (ltsN a) a.2.1.toNat c):NdOk (absN a c)∧AbsOk a (absN a c) c:=by
 have h0:=ha.n0;have hcl:=hc.len;have hH:=hc.toRfI.hund (by omega);have ht:=hc.fst.top_le;have hin:∀s,0≤s∧s<a.2.1→0≤cF c s∧cF c s<topL c:=fun s hs=>by
  have hm:=y9S (c:=c) hs.1 (by omega);exact⟨(hH _ hm).1,yk2 hm⟩
 refine⟨⟨ha.al,ha.alr,yk3 c,by show topL c≤4096;omega,y6c _,fun x hx=>?_,y6c _,fun x hx=>?_,yk7 a c,fun z hz=>?_,ha.la,Nat.le_trans (yan _ _) ha.li,Nat.le_trans (yan _ _) ha.lm,?_⟩,⟨hc,rfl,⟨fun x=>?_,fun x=>?_,fun e=>Iff.rfl,fun e x y=>?_⟩⟩⟩
 ·obtain ⟨s,hs,rfl⟩:=y7g.1 hx;exact hin s (ha.inr s hs)
 ·obtain ⟨s,hs,rfl⟩:=y7g.1 hx;exact hin s (ha.mkr s hs)
 ·obtain ⟨y,hy,rfl,hk⟩:=yf3.1 hz;have:=ha.esr y hy;have g1:=hin y.1 (by omega);have g2:=hin y.2.2 (by omega);exact⟨g1.1,g1.2,g2.1,g2.2,this.2.2.2.2⟩
 ·show (absE a c).length≤65536;unfold absE;rw [(y3t _ _).length_eq];have:=(y9U (a.2.2.2.2.map (clsE c))).2.2;rw [yLm] at this;have:=ha.le;omega
 ·exact y7g
 ·exact y7g
 ·show (x,e,y)∈absE a c↔_;rw [yf3];constructor
  ·rintro ⟨⟨s,e',t⟩,hy,h1,h2⟩;unfold clsE at h1;obtain⟨rfl,h3⟩:=Prod.mk.inj h1;obtain⟨rfl,rfl⟩:=Prod.mk.inj h3;refine⟨s,t,hy,rfl,rfl,?_⟩;simpa [qualE] using h2
  ·rintro ⟨s,t,hst,rfl,rfl,h⟩;exact⟨(s,e,t),hst,rfl,by simpa [qualE] using h⟩
theorem yfh{a:NdT}(ha:NdOk a)(h99:a.2.1≤99)(hal:a.1.length≤32):∃c,y1Y a=some (c,0)∧yW a=some (absN a c,0)∧NdOk (absN a c)∧AbsOk a (absN a c) c:=by
 have h0:=ha.n0;obtain⟨c,h1,hc⟩:=yhL ha h99 hal;have hcl:=hc.len;have hH:=hc.toRfI.hund (by omega);obtain⟨h2,h3⟩:=yk8 ha h99 hc;have hk:y1Y a=some (c,0):=by rw [y1Y,y6O ha,yOb,iN (by simp),h1,yOb]
 have hla:=ha.la;have hn:a.2.1=(a.2.1.toNat:Int):=by omega
 refine⟨c,hk,?_,h2,h3⟩;have hle:=ha.le;have hol:=(y9U (a.2.2.2.2.map (clsE c))).2.2;rw [yLm] at hol;rw [yW,hk,yOb,iN (by simp),y6h (by omega),yOb];dsimp only;rw [of_eq (fun s hs=>by have:=ha.inr s hs;omega) ha.li,yOb,of_eq (fun s hs=>by have:=ha.mkr s hs;omega) ha.lm,yOb,ykF ha hn hcl hH,yOb];show(iter (y1a a (c,0)) (0,([]:List (E3×Bool)),([]:List E3))).bind _=_;rw [ykG ha hn hcl,yOb,absC,yf1 cmpN (by omega),yOb];rfl
theorem yj0{α:Type}{o r:List α}{u v:α}:(o++u::r).set o.length v=o++v::r:=by
 rw [List.set_append_right _ _ (yNr _),Nat.sub_self];rfl
def cst(a:AutT)(x e:Int):Option Int:=if hasB a.1 e=true then st1 a x e else some x
def tup :List AutT→LI→Int→Option LI
 | [],[],_=>some []
 | a::l,x::t,e=>(cst a x e).bind fun y=>(tup l t e).map (y :: ·)
 | _,_,_=>none
theorem yd5{e:Int}:∀{l1 l2:List AutT} {t1 t2:LI},l1.length=t1.length→tup (l1++l2) (t1++t2) e=(tup l1 t1 e).bind fun u=>(tup l2 t2 e).map (u ++ ·)
 | [],l2,[],t2,_=>by
  show tup l2 t2 e=(some []).bind _;rw [yOb];cases tup l2 t2 e <;> rfl
 | a::l1,l2,x::t1,t2,h=>by
  have ih:=yd5 (e:=e) (l1:=l1) (l2:=l2) (t1:=t1) (t2:=t2) (by simpa using h);show(cst a x e).bind (fun y=>(tup (l1++l2) (t1++t2) e).map (y :: ·))=((cst a x e).bind fun y=>(tup l1 t1 e).map (y :: ·)).bind _;rw [ih];cases cst a x e with
  | none=>rfl
  | some y=>
   rw [yOb,yOb];cases tup l1 t1 e with
   | none=>rfl
   | some u=>
    rw [yOb];show _=(some (y::u)).bind _;rw [yOb];cases tup l2 t2 e <;> rfl
 | [],_,_::_,_,h=>by simp at h
 | _::_,_,[],_,h=>by simp at h
theorem ybd{e:Int}:∀{l:List AutT} {t u:LI},tup l t e=some u→t.length=l.length∧u.length=l.length
 | [],[],u,h=>by cases h;exact⟨rfl,rfl⟩
 | a::l,x::t,u,h=>by
  unfold tup at h;cases h1:cst a x e with
  | none=>rw [h1] at h;cases h
  | some y=>
   rw [h1,yOb] at h;cases h2:tup l t e with
   | none=>rw [h2] at h;cases h
   | some v=>
    rw [h2] at h;have h:some (y::v)=some u:=h;cases h;obtain⟨h3,h4⟩:=ybd h2;exact⟨by rw [yLc,yLc,h3],by rw [yLc,yLc,h4]⟩
 | [],_::_,_,h=>by cases h
 | _::_,[],_,h=>by cases h
def tupM :List AutT→LI→Bool
 | [],[]=>true
 | a::l,x::t=>hasB a.2.2.1 x&&tupM l t
 | _,_=>false
theorem yc1 :∀{l1 l2:List AutT} {t1 t2:LI},l1.length=t1.length→tupM (l1++l2) (t1++t2)=(tupM l1 t1&&tupM l2 t2)
 | [],_,[],_,_=>by simp [tupM]
 | a::l1,l2,x::t1,t2,h=>by
  have ih:=yc1 (l1:=l1) (l2:=l2) (t1:=t1) (t2:=t2) (by simpa using h);show(hasB a.2.2.1 x&&tupM (l1++l2) (t1++t2))=((hasB a.2.2.1 x&&tupM l1 t1)&&tupM l2 t2);rw [ih,Bool.and_assoc]
 | [],_,_::_,_,h=>by simp at h
 | _::_,_,[],_,h=>by simp at h
def Rgt(a:AutT):Prop:=∃n:Nat,Right a n
theorem yj1{l:List AutT}(hl:l.length≤1000)(hr:∀a∈l,Rgt a){ev:LI}{os:List (List ((Int×Int)×Int))}(ho:os.length=l.length)(hk:∀i (h:i<l.length) (h':i<os.length),∀q:Int×Int,kget os[i] q=st1 l[i] q.1 q.2){t:LI}(ht:t.length=l.length)(e:Int):
  y4C (l,ev,os) t e=some (match tup l t e with
   | some u=>(u,true)
   | none=>([],false)):=by
 have hsplit:∀i (h:i<l.length),l.take (i+1)=l.take i++[l[i]]∧t.take (i+1)=t.take i++[t[i]'(by omega)]:=fun i h=>⟨by rw [yTs h],by rw [yTs (show i<t.length by omega)]⟩;have hstep:∀i (h:i<l.length),tup (l.take (i+1)) (t.take (i+1)) e=(tup (l.take i) (t.take i) e).bind fun u=>(cst l[i] (t[i]'(by omega)) e).map fun y=>u++[y]:=fun i h=>by
  obtain⟨h1,h2⟩:=hsplit i h;rw [h1,h2,yd5 (by rw [yLt,yLt];omega)];congr 1;funext u;show((cst l[i] (t[i]'(by omega)) e).bind fun y=>(tup [] [] e).map (y :: ·)).map _=_;cases cst l[i] (t[i]'(by omega)) e <;> rfl
 have hnone:∀i,i≤l.length→tup (l.take i) (t.take i) e=none→tup l t e=none:=fun i h h2=>by
  have:=yd5 (e:=e) (l1:=l.take i) (l2:=l.drop i) (t1:=t.take i) (t2:=t.drop i) (by rw [yLt,yLt];omega);rw [List.take_append_drop,List.take_append_drop,h2] at this;exact this
 obtain⟨o,h1,h2⟩:=yb (f:=y3E (l,ev,os) t e) (fun i s=>s.1=(i:Int)∧∃u,tup (l.take i) (t.take i) e=some u∧s.2=u++t.drop i) (fun o=>(∃u,o= .inl u∧tup l t e=some u)∨(o= .inr ()∧tup l t e=none)) l.length 0 (by omega) (fun i s hi ⟨e1,u,e2,e3⟩=>by
   obtain⟨k,out⟩:=s;dsimp only at e1 e3;subst e1;obtain⟨n,hrn⟩:=hr _ (yGm hi);have ha:l[i].1.length<4294967296:=by have:=hrn.l1;omega
   have hul:=(ybd e2).2;rw [yLt,Nat.min_eq_left (by omega)] at hul;have hit:i<t.length:=by omega
   have hdrop:t.drop i=t[i]::t.drop (i+1):=yDc hit;have hs:=hstep i hi;rw [e2,yOb] at hs;have hj:∀v:LI,y1O ((i:Int),out) v=some (.inl (((i+1:Nat):Int),v)):=fun v=>by
    rw [y1O];dsimp only;rw [nxt (by omega)]
   rw [y3E];dsimp only;rw [iP (ct_lt hi),ya hi,yOb,y4a ha hrn.ali,yOb];unfold cst at hs;cases hb:hasB l[i].1 e with
   | false=>
    rw [hb,iN (by simp)] at hs;rw [iP (by simp),hj];refine .inl ⟨_,rfl,rfl,u++[t[i]],hs,?_⟩;dsimp only;rw [e3,hdrop,yAa];rfl
   | true=>
    rw [hb,iP rfl] at hs;rw [iN (by simp),ya (by omega),yOb,ya hit,yOb,hk i hi (by omega)];dsimp only;cases hg:st1 l[i] t[i] e with
    | none=>
     rw [hg] at hs;rw [iP (by simp)];exact .inr ⟨_,rfl,.inr ⟨rfl,hnone (i+1) (by omega) hs⟩⟩
    | some v=>
     rw [hg] at hs;have hol:out.length=l.length:=by rw [e3,yLa,List.length_drop];omega
     rw [iN (by simp),ya (by omega),yOb,ybc (by omega),yOb,hj];refine .inl ⟨_,rfl,rfl,u++[v],hs,?_⟩;dsimp only;have:=yj0 (o:=u) (r:=t.drop (i+1)) (u:=t[i]) (v:=v);rw [hul,←hdrop,←e3] at this;rw [Option.getD_some,this,yAa];rfl) (fun s ⟨e1,u,e2,e3⟩=>by
   obtain⟨k,out⟩:=s;dsimp only at e1 e3;subst e1;rw [List.take_length,←ht,List.take_length] at e2;rw [←ht,List.drop_length,List.append_nil] at e3;subst e3;refine⟨.inl out,?_,.inl ⟨out,rfl,e2⟩⟩;rw [y3E];dsimp only;rw [iN ct_ge]) (yZl _) (0,t) ⟨rfl,[],rfl,rfl⟩
 rw [y4C,y6h (by omega),yOb,h1,yOb];rcases h2 with ⟨u,rfl,h3⟩|⟨rfl,h3⟩ <;> rw [h3]
theorem yj2{l:List AutT}(hl:l.length≤1000)(hr:∀a∈l,Rgt a){ev:LI}{os:List (List ((Int×Int)×Int))}{t:LI}(ht:t.length=l.length):y3L (l,ev,os) t=some (tupM l t):=by
 have hM:∀i (h:i<l.length),tupM (l.take (i+1)) (t.take (i+1))=(tupM (l.take i) (t.take i)&&hasB l[i].2.2.1 (t[i]'(by omega))):=fun i h=>by
  rw [yTs h,yTs (show i<t.length by omega),yc1 (by rw [yLt,yLt];omega)];show(_&&(hasB _ _&&true))=_;rw [Bool.and_true]
 have hF:∀i,i≤l.length→tupM (l.take i) (t.take i)=false→tupM l t=false:=fun i h h2=>by
  have:=yc1 (l1:=l.take i) (l2:=l.drop i) (t1:=t.take i) (t2:=t.drop i) (by rw [yLt,yLt];omega);rw [List.take_append_drop,List.take_append_drop,h2] at this;exact this
 obtain⟨o,h1,h2⟩:=yb (f:=y2Y (l,ev,os) t) (fun i s=>s=(i:Int)∧tupM (l.take i) (t.take i)=true) (fun o=>(o= .inl ()∧tupM l t=true)∨(o= .inr ()∧tupM l t=false)) l.length 0 (by omega) (fun i s hi ⟨e1,e2⟩=>by
   subst e1;obtain⟨n,hrn⟩:=hr _ (yGm hi);have ha:l[i].2.2.1.length<4294967296:=by have:=hrn.l2;omega
   have hs:=hM i hi;rw [e2,Bool.true_and] at hs;rw [y2Y];dsimp only;rw [iP (ct_lt hi),ya hi,yOb,ya (show i<t.length by omega),yOb,y4a ha hrn.msi,yOb];cases hb:hasB l[i].2.2.1 (t[i]'(by omega)) with
   | false=>rw [iP (by simp)];exact .inr ⟨_,rfl,.inr ⟨rfl,hF (i+1) (by omega) (by rw [hs,hb])⟩⟩
   | true=>rw [iN (by simp),nxt (by omega)];exact .inl ⟨_,rfl,rfl,by rw [hs,hb]⟩) (fun s ⟨e1,e2⟩=>by
   subst e1;rw [List.take_length,←ht,List.take_length] at e2;refine⟨.inl (),?_,.inl ⟨rfl,e2⟩⟩;rw [y2Y];dsimp only;rw [iN ct_ge]) (yZl _) 0 ⟨rfl,rfl⟩
 rw [y3L,h1,yOb];rcases h2 with ⟨rfl,h3⟩|⟨rfl,h3⟩ <;> rw [h3]
def liveB(l:List AutT):Bool:=l.all fun a=>a.2.1 != 0
theorem yj3{l:List AutT}(hl:l.length≤1000){ev:LI}{os:List (List ((Int×Int)×Int))}:y3D (l,ev,os)=some (if liveB l=true then(List.replicate l.length 0,true) else([],false)):=by
 obtain⟨o,h1,h2⟩:=yb (f:=y2C (l,ev,os)) (fun i s=>s=(i:Int)∧liveB (l.take i)=true) (fun o=>(o= .inl ()∧liveB l=true)∨(o= .inr ()∧liveB l=false)) l.length 0 (by omega) (fun i s hi ⟨e1,e2⟩=>by
   subst e1;rw [y2C];dsimp only;rw [iP (ct_lt hi),ya hi,yOb];by_cases h:l[i].2.1=0
   ·right;refine⟨_,by rw [iP (by simp [h])],.inr ⟨rfl,?_⟩⟩;unfold liveB;rw [List.all_eq_false];exact⟨_,yGm hi,by simp [h]⟩
   ·left;refine⟨_,by rw [iN (by simp [h]),nxt (by omega)],rfl,?_⟩;unfold liveB at e2 ⊢;rw [yTs hi,List.all_append,e2];simp [h]) (fun s ⟨e1,e2⟩=>by
   subst e1;rw [List.take_length] at e2;refine⟨.inl (),?_,.inl ⟨rfl,e2⟩⟩;rw [y2C];dsimp only;rw [iN ct_ge]) (yZl _) 0 ⟨rfl,rfl⟩
 have hmk:mkL (l.length:Int) (0:Int)=some (List.replicate l.length 0):=by unfold mkL;rw [iP ⟨by omega,by omega⟩,yTn]
 rw [y3D,h1,yOb];rcases h2 with ⟨rfl,h3⟩|⟨rfl,h3⟩
 ·dsimp only;rw [hmk,yOb,h3,iP rfl]
 ·rw [h3,iN (by simp)]
theorem yhO{l:List AutT}(hl:l.length≤1000)(h:∀a∈l,Rgt a):∃ev,y4y l=some ev∧Alp ev∧∀e,e∈ev↔ ∃a∈l,e∈a.1:=by
 obtain⟨o,h1,h2⟩:=yb (f:=y5o l) (fun i s=>s.1=(i:Int)∧Alp s.2∧∀e,e∈s.2↔ ∃a∈l.take i,e∈a.1) (fun o=>Alp o∧∀e,e∈o↔ ∃a∈l,e∈a.1) l.length 0 (by omega) (fun i s hi ⟨e1,g1,g2⟩=>by
   obtain⟨k,out⟩:=s;dsimp only at e1 g1 g2;subst e1;obtain⟨n,hrn⟩:=h _ (yGm hi);have hal:Alp l[i].1:=⟨hrn.ali,hrn.alr⟩;have l1:=g1.len;have l2:=hal.len;have hmg:=y6M (fun a b=>a||b) out l[i].1 g1.1 hal.1;left;refine⟨(((i+1:Nat):Int),mg (fun a b=>a||b) out l[i].1),?_,rfl,⟨hmg.1,fun x hx=>?_⟩,fun e=>?_⟩
   ·rw [y5o];dsimp only;rw [iP (ct_lt hi),ya hi,yOb,ydv (by omega) (by omega),yOb,nxt (by omega)]
   ·rcases ((hmg.2 x).1 hx).1 with h|h
    ·exact g1.2 x h
    ·exact hal.2 x h
   ·dsimp only;rw [hmg.2,yTs hi];constructor
    ·rintro ⟨h|h,_⟩
     ·obtain ⟨a,ha,hae⟩:=(g2 e).1 h;exact⟨a,yMl _ ha,hae⟩
     ·exact ⟨_,yMr _ (yMs.2 rfl),h⟩
    ·rintro ⟨a,ha,hae⟩;rcases yMa.1 ha with ha|ha
     ·have:=(g2 e).2 ⟨a,ha,hae⟩;exact⟨.inl this,by rw [yd.2 this];rfl⟩
     ·rw [yMs.1 ha] at hae;exact⟨.inr hae,by rw [yd.2 hae];simp⟩)
  (fun s ⟨e1,g1,g2⟩=>by
   obtain⟨k,out⟩:=s;dsimp only at e1 g1 g2;subst e1;rw [List.take_length] at g2;refine⟨out,?_,g1,g2⟩;rw [y5o];dsimp only;rw [iN ct_ge]) (yZl _) (0,[]) ⟨rfl,⟨yPn,fun x hx=>(by cases hx)⟩,fun e=>by simp⟩
 exact⟨o,by rw [y4y,h1];rfl,h2⟩
theorem yj4{l:List AutT}(hl:l.length≤1000)(h:∀a∈l,Rgt a):∃ev os,y6L l=some (l,ev,os)∧y4y l=some ev∧Alp ev∧(∀e,e∈ev↔ ∃a∈l,e∈a.1)∧os.length=l.length∧∀i (h:i<l.length) (h':i<os.length),∀q:Int×Int,kget os[i] q=st1 l[i] q.1 q.2:=by
 obtain⟨ev,he,hev,hm⟩:=yhO hl h;obtain⟨o,h1,h2,h3⟩:=yb (f:=y5Q l) (fun i s=>i≤l.length∧s.1=(i:Int)∧s.2.length=i∧∀k (h:k<l.length) (h':k<s.2.length),∀q:Int×Int,kget s.2[k] q=st1 l[k] q.1 q.2) (fun o=>o.length=l.length∧∀k (h:k<l.length) (h':k<o.length),∀q:Int×Int,kget o[k] q=st1 l[k] q.1 q.2) l.length 0 (by omega) (fun i s hi ⟨_,e1,g1,g2⟩=>by
   obtain⟨k,out⟩:=s;dsimp only at e1 g1 g2;subst e1;obtain⟨n,hrn⟩:=h _ (yGm hi);obtain⟨o,e,g3⟩:=yhi hrn;refine .inl ⟨(((i+1:Nat):Int),out++[o]),?_,by omega,rfl,by simp [g1],fun k hk hk' q=>?_⟩
   ·rw [y5Q];dsimp only;rw [iP (ct_lt hi),ya hi,yOb,e,yOb,y5S (by simp;omega),yOb,nxt (by omega)]
   ·dsimp only;by_cases hki:k<out.length
    ·rw [yGl hki];exact g2 k hk hki q
    ·have hk2:k=i:=by simp at hk';omega
     subst hk2;rw [List.getElem_append_right (by omega)];simp only [g1,Nat.sub_self,List.getElem_cons_zero];exact g3 q) (fun s ⟨_,e1,g1,g2⟩=>by
   obtain⟨k,out⟩:=s;dsimp only at e1 g1 g2;subst e1;refine⟨out,?_,g1,g2⟩;rw [y5Q];dsimp only;rw [iN ct_ge]) (yZl _) (0,[]) ⟨yZl _,rfl,rfl,fun k hk hk'=>(by simp at hk')⟩
 exact⟨ev,o,by rw [y6L,he,yOb,h1];rfl,he,hev,hm,h2,h3⟩
theorem yd6{l:List AutT}(hl:l.length≤12)(h:∀a∈l,Rgt a):y4L l=some 0:=by
 obtain⟨o,h1,rfl⟩:=yb (f:=y5B l) (fun i s=>s=(i:Int)) (fun o=>o= .inl ()) l.length 0 (by omega) (fun i s hi e1=>by
   subst e1;obtain⟨n,hr⟩:=h _ (yGm hi);refine .inl ⟨((i+1:Nat):Int),?_,rfl⟩;rw [y5B,iP (ct_lt hi),ya hi,yOb,hr.check,yOb,iN (by simp),nxt (by omega)]) (fun s e1=>by
   subst e1;exact⟨_,by rw [y5B,iN ct_ge],rfl⟩) (yZl _) 0 rfl
 rw [y4L,iN (by simp;omega),h1];rfl
structure RchP (l:List AutT) (P:LI→Prop) (M:Nat):Prop where
 st:∀t e u,P t→tup l t e=some u→P u
 i0:P (List.replicate l.length 0)
 hu:∀t,P t→t.length=l.length∧Hund t
 bd:∀T:List LI,T.Nodup→(∀t∈T,P t)→T.length≤M
 m:M≤4000
structure GI (l:List AutT) (P:LI→Prop) (ev:LI) (i j:Nat) (kn:Kno) (T:List LI) (E:List (Int×Int×Int)):Prop where
 nd:T.Nodup
 inP:∀t∈T,P t
 kn:∀t,P t→kget kn (keyK t)=if t∈T then some (T.idxOf t:Int) else none
 er:∀x∈E,0≤x.1∧x.1≤(i:Int)∧x.2.1∈ev
 es:∀x∈E,x.1=(i:Int)→x.2.1∈ev.take j
 so:E.Pairwise fun x y=>x.1<y.1∨(x.1=y.1∧x.2.1<y.2.1)
 el:E.length≤ev.length*i+j
 fnd:Fnd (tup l) ev i j T E
section
variable{l:List AutT}{P:LI→Prop}{M:Nat}{ev:LI}{i j:Nat}{kn:Kno}{T:List LI}{E:List (Int×Int×Int)}
theorem GI.skip(h:GI l P ev i j kn T E){t:LI}{e:Int}(ht:T[i]? =some t)(he:ev[j]? =some e)(hs:tup l t e=none):GI l P ev i (j+1) kn T E:=
 ⟨h.nd,h.inP,h.kn,h.er,fun x hx e=>(List.take_subset_take_left ev (Nat.le_succ j)) (h.es x hx e),h.so,by have:=h.el;omega,h.fnd.skip ht he hs⟩
theorem GI.next(h:GI l P ev i ev.length kn T E):GI l P ev (i+1) 0 kn T E:=
 ⟨h.nd,h.inP,h.kn,fun x hx=>by have:=h.er x hx;exact⟨this.1,by omega,this.2.2⟩,fun x hx e=>by have:=h.er x hx;omega,h.so,by have:=h.el;rw [Nat.mul_add,Nat.mul_one];omega,h.fnd.next (yNr _)⟩
theorem GI.push(h:GI l P ev i j kn T E)(he:Inc ev)(hj:j<ev.length)(q:Int):(∀x∈E++[((i:Int),ev[j],q)],0≤x.1∧x.1≤(i:Int)∧x.2.1∈ev)∧(∀x∈E++[((i:Int),ev[j],q)],x.1=(i:Int)→x.2.1∈ev.take (j+1))∧((E++[((i:Int),ev[j],q)]).Pairwise fun x y=>x.1<y.1∨(x.1=y.1∧x.2.1<y.2.1))∧(E++[((i:Int),ev[j],q)]).length≤ev.length*i+(j+1):=by
 refine⟨fun x hx=>?_,fun x hx e=>?_,?_,by have:=h.el;rw [yLa,List.length_singleton];omega⟩
 ·rcases yMa.1 hx with hx|hx
  ·exact h.er x hx
  ·rw [yMs.1 hx];exact⟨by dsimp only;omega,by dsimp only;omega,yGm _⟩
 ·rcases yMa.1 hx with hx|hx
  ·exact (List.take_subset_take_left ev (Nat.le_succ j)) (h.es x hx e)
  ·rw [yMs.1 hx,yTs hj];exact yMr _ (yMs.2 rfl)
 ·rw [List.pairwise_append];refine⟨h.so,List.pairwise_singleton _ _,fun a ha b hb=>?_⟩;rw [yMs.1 hb];have h2:=h.er a ha;by_cases e:a.1=(i:Int)
  ·exact .inr ⟨e,yjH he hj _ (h.es a ha e)⟩
  ·exact .inl (by dsimp only;omega)
theorem yk9{T:List LI}{q:LI}(h:q∈T):T[T.idxOf q]? =some q:=by
 have:=List.idxOf_lt_length_of_mem h;rw [yGe this,List.getElem_idxOf]
theorem key_P(hP:RchP l P M)(hl:l.length≤1000){t:LI}(ht:P t):y4d t=some (keyK t):=by
 obtain⟨h1,h2⟩:=hP.hu t ht;have hc:(t.all fun x=>decide (0≤x∧x<100))=true:=by
  rw [yAt];intro x hx;exact decide_eq_true (h2 x hx)
 rw [y4d,iP ⟨hc,by omega⟩];rfl
theorem GI.new(h:GI l P ev i j kn T E)(hP:RchP l P M)(he:Inc ev)(hi:i<T.length)(hj:j<ev.length){t r:LI}(ht:T[i]? =some t)(hs:tup l t ev[j]=some r)(hr:P r)(hn:r∉T):GI l P ev i (j+1) (kput kn (keyK r) (T.length:Int)) (T++[r]) (E++[((i:Int),ev[j],(T.length:Int))]):=by
 obtain⟨p1,p2,p3,p4⟩:=h.push he hj (T.length:Int);refine⟨?_,fun s hs=>?_,fun s hs=>?_,p1,p2,p3,p4,h.fnd.new hi ht (yGe hj) hs⟩
 ·unfold List.Nodup;rw [List.pairwise_append];exact⟨h.nd,List.pairwise_singleton _ _,fun x hx y hy e=>hn (by rw [←yMs.1 hy,←e];exact hx)⟩
 ·rcases yMa.1 hs with hs|hs
  ·exact h.inP s hs
  ·rw [yMs.1 hs];exact hr
 ·rw [y6b];by_cases e:keyK s=keyK r
  ·have e2:=yez (hP.hu s hs).2 (hP.hu r hr).2 e;subst e2;rw [iP rfl,iP (by simp),List.idxOf_append,iN hn];simp
  ·rw [iN e,h.kn s hs];have hne:s≠r:=fun e2=>e (by rw [e2]);by_cases hm:s∈T
   ·rw [iP hm,iP (by simp [hm]),List.idxOf_append,iP hm]
   ·rw [iN hm,iN (by simp [hm,hne])]
theorem GI.edge(h:GI l P ev i j kn T E)(he:Inc ev)(hj:j<ev.length){t r:LI}(ht:T[i]? =some t)(hs:tup l t ev[j]=some r)(hr:r∈T):GI l P ev i (j+1) kn T (E++[((i:Int),ev[j],(T.idxOf r:Int))]):=by
 obtain⟨p1,p2,p3,p4⟩:=h.push he hj (T.idxOf r:Int);exact⟨h.nd,h.inP,h.kn,p1,p2,p3,p4,h.fnd.edge ht (yGe hj) hs (yk9 hr)⟩
end
section
variable{l:List AutT}{P:LI→Prop}{M:Nat}(hP:RchP l P M)(hl:l.length≤12)(hr:∀a∈l,Rgt a){ev:LI}(hev:Alp ev){os:List (List ((Int×Int)×Int))}(ho:os.length=l.length)(hk:∀i (h:i<l.length) (h':i<os.length),∀q:Int×Int,kget os[i] q=st1 l[i] q.1 q.2)
include hP hl hr hev ho hk
theorem yj5{i:Nat}{kn:Kno}{T:List LI}{E:List (Int×Int×Int)}(z:Kno×List LI×LI×List (Int×Int×Int))(hS:GI l P ev i 0 kn T E)(hi:i<T.length):
  ∃kn' X E',iter (y2i (l,ev,os) ((i:Int),z)) (0,kn,T,E)=some (.inl (kn',T++X,E'))∧GI l P ev (i+1) 0 kn' (T++X) E':=by
 have hal:=hev.len;have hM:=hP.m;obtain⟨o,h1,kn',X,E',rfl,h3⟩:=yb (f:=y2i (l,ev,os) ((i:Int),z)) (fun j s=>s.1=(j:Int)∧∃X,s.2.2.1=T++X∧GI l P ev i j s.2.1 s.2.2.1 s.2.2.2) (fun o=>∃kn' X E',o= .inl (kn',T++X,E')∧GI l P ev (i+1) 0 kn' (T++X) E') ev.length 0 (by omega) (fun j s hj ⟨e1,X,e2,hS⟩=>by
   obtain⟨k,kn,T',E⟩:=s;dsimp only at e1 e2 hS;subst e1;have hTl:=hP.bd T' hS.nd hS.inP;have hi2:i<T'.length:=by rw [e2,yLa];omega
   have hj2:∀a b c,y2g ((j:Int),kn,T',E) a b c=some (.inl (((j+1:Nat):Int),a,b,c)):=fun a b c=>by
    rw [y2g];dsimp only;rw [nxt (by omega)]
   have hEl:E.length≤200000:=by
    have h1:=hS.el;have h2:ev.length*i≤32*4000:=Nat.mul_le_mul hal (by omega);omega
   have hj3:∀x b n c,y2h ((i:Int),z) ((j:Int),kn,T',E) x b n c=some (.inl (((j+1:Nat):Int),c,b,E++[((i:Int),x,n)])):=fun x b n c=>by
    rw [y2h];dsimp only;rw [yv (by simp;omega),yOb,hj2]
   have htP:=hS.inP _ (yGm hi2);have hst:=yj1 (l:=l) (by omega) hr (ev:=ev) ho hk (hP.hu _ htP).1 ev[j];have htg:T'[i]? =some T'[i]:=yGe hi2;left;rw [y2i];dsimp only;rw [iP (ct_lt hj),ya hj,yOb,ya hi2,yOb,hst,yOb];cases hu:tup l T'[i] ev[j] with
   | none=>
    dsimp only;rw [iP (by simp),hj2];exact⟨_,rfl,rfl,X,e2,hS.skip htg (yGe hj) hu⟩
   | some r=>
    dsimp only;have hrP:=hP.st _ _ _ htP hu;rw [iN (by simp),key_P hP (by omega) hrP,yOb,hS.kn r hrP];by_cases hm:r∈T'
    ·rw [iP hm,iN (by simp),hj3];exact⟨_,rfl,rfl,X,e2,hS.edge hev.1 hj htg hu hm⟩
    ·rw [iN hm,iP (by simp),iN (by simp;omega),yOb,yv (by simp;omega),yOb,hj3];exact⟨_,rfl,rfl,X++[r],by dsimp only;rw [e2,yAa],hS.new hP hev.1 hi2 hj htg hu hrP hm⟩)
  (fun s ⟨e1,X,e2,hS⟩=>by
   obtain⟨k,kn,T',E⟩:=s;dsimp only at e1 e2 hS;subst e1;refine⟨.inl (kn,T',E),?_,kn,X,E,by rw [e2],by rw [←e2];exact hS.next⟩;rw [y2i];dsimp only;rw [iN ct_ge]) (yZl _) (0,kn,T,E) ⟨rfl,[],by simp,hS⟩
 exact⟨kn',X,E',h1,h3⟩
end
structure PrG (l:List AutT) (p:AutT) (T:List LI) (n:Nat):Prop where
 right:Right p n
 tl:T.length=n
 ev:∀e,e∈p.1↔ ∃a∈l,e∈a.1
 disc:Disc (tup l) p.1 T p.2.2.2
 t0:n≠0→T[0]? =some (List.replicate l.length 0)
 live:n≠0↔liveB l=true
 mk':∀(k:Nat) (t:LI),T[k]? =some t→((k:Int)∈p.2.2.1↔tupM l t=true)
 el:p.2.2.2.length≤p.1.length*n
theorem yka{l:List AutT}{P:LI→Prop}{M:Nat}(hP:RchP l P M)(hl:l.length≤12)(hr:∀a∈l,Rgt a):∃p T n,y1j l=some (p,T,0)∧PrG l p T n∧n≤M:=by
 obtain⟨ev,os,h1,_,hev,hem,ho,hk⟩:=yj4 (l:=l) (by omega) hr;have hal:=hev.len;have hM:=hP.m;rw [y1j,yd6 hl hr,yOb,iN (by simp),h1,yOb,yj3 (by omega),yOb];cases hlv:liveB l with
 | false=>
  rw [show (if false=true then(List.replicate l.length (0:Int),true) else(([]:LI),false))=(([]:LI),false) from rfl,iP (by simp)];exact⟨(ev,0,[],[]),[],0,rfl,⟨⟨rfl,by omega,hev.1,hev.2,yPn,fun x hx=>(by cases hx),fun x hx=>(by cases hx),yPn,by dsimp only;omega,by simp,by simp⟩,rfl,hem,⟨yPn,yPn,fun x hx=>(by cases hx),fun a t e r ha=>(by simp at ha),fun k h0 h1=>(by simp at h1),fun n hn=>(by simp at hn),fun n hn=>(by simp at hn),hev.2⟩,fun h=>absurd rfl h,by simp [hlv],fun k t h=>(by simp at h),by simp⟩,yZl _⟩
 | true=>
  rw [iP rfl];dsimp only;have ht0:=hP.i0;rw [iN (by simp),key_P hP (by omega) ht0,yOb];generalize ht0e:List.replicate l.length (0:Int)=t0 at ht0 ⊢;have hS0:GI l P ev 0 0 (kput ([]:Kno) (keyK t0) 0) [t0] []:=by
   refine⟨by simp,fun t ht=>?_,fun t ht=>?_,fun x hx=>(by cases hx),fun x hx=>(by cases hx),yPn,by simp,Fnd.start (by simp)⟩
   ·rw [yMs.1 ht];exact ht0
   ·rw [y6b];by_cases e:keyK t=keyK t0
    ·have e2:=yez (hP.hu t ht).2 (hP.hu t0 ht0).2 e;subst e2;simp
    ·have hne:t≠t0:=fun e2=>e (by rw [e2]);rw [iN e,iN (by simp [hne])];rfl
  obtain⟨o,h2,T,Mk,E,rfl,kn,hS,hi1,hi2,hT0,hmk⟩:=yb (f:=y3M (l,ev,os)) (fun i s=>s.1=(i:Int)∧i≤s.2.2.1.length∧GI l P ev i 0 s.2.1 s.2.2.1 s.2.2.2.2∧Inc s.2.2.2.1∧(∀x∈s.2.2.2.1,0≤x∧x<(i:Int))∧s.2.2.1[0]? =some t0∧∀(a:Nat) (t:LI),a<i→s.2.2.1[a]? =some t→((a:Int)∈s.2.2.2.1↔tupM l t=true)) (fun o=>∃T Mk E,o= .inl (T,Mk,E)∧∃kn,GI l P ev T.length 0 kn T E∧Inc Mk∧(∀x∈Mk,0≤x∧x<(T.length:Int))∧T[0]? =some t0∧∀(a:Nat) (t:LI),T[a]? =some t→((a:Int)∈Mk↔tupM l t=true)) 4001 0 (by omega) (fun i s _ ⟨e1,hle,hS,hi1,hi2,ht,hmk⟩=>by
    obtain⟨k,kn,T,Mk,E⟩:=s;dsimp only at e1 hle hS hi1 hi2 ht hmk;subst e1;have hTl:=hP.bd T hS.nd hS.inP;by_cases hi:i<T.length
    ·left;obtain⟨kn',X,E',g1,g2⟩:=yj5 hP hl hr hev ho hk (kn,T,Mk,E) hS hi;have hb:=yj2 (l:=l) (by omega) hr (ev:=ev) (os:=os) (hP.hu _ (hS.inP _ (yGm hi))).1;have hj:∀M',y2j (l,ev,os) ((i:Int),kn,T,Mk,E) M'=some (.inl (((i+1:Nat):Int),kn',T++X,M',E')):=fun M'=>by
      rw [y2j];dsimp only;rw [g1,yOb];dsimp only;rw [nxt (by omega)]
     have h0:(T++X)[0]? =some t0:=by rw [yAl (by omega)];exact ht
     have hold:∀(a:Nat) (t:LI),a<i→(T++X)[a]? =some t→((a:Int)∈Mk↔tupM l t=true):=fun a t ha h=>hmk a t ha (by rw [yAl (by omega)] at h;exact h);have hat:∀t,(T++X)[i]? =some t→t=T[i]:=fun t h=>by
      rw [yAl hi,yGe hi] at h;cases h;rfl
     have hno:∀a:Nat,i≤a→(a:Int)∉Mk:=fun a ha hm=>by have:=hi2 _ hm;omega
     rw [y3M];dsimp only;rw [iP (ct_lt hi),ya hi,yOb,hb,yOb];cases hbb:tupM l T[i] with
     | false=>
      rw [iN (by simp),hj];refine⟨_,rfl,rfl,by dsimp only;rw [yLa];omega,g2,hi1,fun x hx=>by have:=hi2 x hx;omega,h0,fun a t ha h=>?_⟩;by_cases e:a=i
      ·subst e;rw [hat t h,hbb];exact⟨fun hm=>absurd hm (hno a (yNr _)),fun h=>(by cases h)⟩
      ·exact hold a t (by omega) h
     | true=>
      have hMl:=y5Z (n:=i) (lo:=0) hi1 hi2 (Int.le_refl _);rw [iP rfl,yv (by simp;omega),yOb,hj];refine⟨_,rfl,rfl,by dsimp only;rw [yLa];omega,g2,?_,fun x hx=>?_,h0,fun a t ha h=>?_⟩
      ·dsimp only;unfold Inc at hi1 ⊢;rw [List.pairwise_append];exact⟨hi1,List.pairwise_singleton _ _,fun a ha b hb=>by rw [yMs.1 hb];exact(hi2 a ha).2⟩
      ·dsimp only at hx;rcases yMa.1 hx with hx|hx
       ·have:=hi2 x hx;omega
       ·rw [yMs.1 hx];omega
      ·dsimp only;rw [yMa,yMs];by_cases e:a=i
       ·subst e;rw [hat t h,hbb];exact⟨fun _=>rfl,fun _=> .inr rfl⟩
       ·rw [←hold a t (by omega) h];exact⟨fun hm=>hm.resolve_right (by omega),.inl⟩
    ·right;obtain rfl:i=T.length:=by omega
     refine⟨.inl (T,Mk,E),?_,T,Mk,E,rfl,kn,hS,hi1,hi2,ht,fun a t h=>hmk a t (yGs.1 h).1 h⟩;rw [y3M];dsimp only;rw [iN ct_ge]) (fun s ⟨e1,hle,hS,_⟩=>by
    have hTl:=hP.bd _ hS.nd hS.inP;omega) (yZl _) (0,kput ([]:Kno) (keyK t0) 0,[t0],[],[]) ⟨rfl,by simp,hS0,yPn,fun x hx=>(by cases hx),rfl,fun a t ha=>absurd ha (Nat.not_lt_zero _)⟩
  have hTl:=hP.bd T hS.nd hS.inP;have hpos:0<T.length:=(yGs.1 hT0).1;have hEl:E.length≤200000:=by
   have h1:=hS.el;have h2:ev.length*T.length≤32*4000:=Nat.mul_le_mul hal (by omega);omega
  have hD:Disc (tup l) ev T E:=hS.fnd.disc hS.nd hS.so (fun x hx=>(hS.er x hx).2.2) hev.2;have hMl:=y5Z (n:=T.length) (lo:=0) hi1 hi2 (Int.le_refl _);refine⟨(ev,(T.length:Int),Mk,E),T,T.length,by rw [h2];rfl,⟨⟨rfl,by omega,hev.1,hev.2,hi1,hi2,fun x hx=>?_,hS.so,by dsimp only;omega,by dsimp only;omega,by dsimp only;omega⟩,rfl,hem,hD,fun _=>ht0e▸hT0,⟨fun _=>hlv,fun _=>by omega⟩,hmk,by have:=hS.el;dsimp only;omega⟩,hTl⟩;obtain⟨a,q,t,r,g1,g2,g3,g4,g5,_⟩:=hD.sn x hx;have:=(yGs.1 g3).1;have:=(yGs.1 g4).1;exact⟨by omega,by omega,by omega,by omega,g5⟩
theorem yao{a:NdT}{S:LI}{t:Int}:Rc3 a.2.2.2.2 S t↔ ∃s∈S,Star (ltsN a).nxt1 s t:=by
 constructor
 ·intro h
  induction h with
  | ini h=>exact⟨_,h,.refl _⟩
  | edge hx _ ih=>
   obtain⟨s,hs,h⟩:=ih;exact⟨s,hs,h.tail ⟨_,hx⟩⟩
 ·rintro ⟨s,hs,h⟩
  induction h with
  | refl=>exact .ini hs
  | tail _ g ih=>
   obtain⟨e,g⟩:=g;exact .edge (x:=(_,e,_)) g ih
theorem ydR{a:NdT}{s:Int}:goodB a s=true↔ ∃t,Star (ltsN a).nxt1 s t∧(ltsN a).fin t:=by
 unfold goodB;rw [@decide_eq_true_iff _ (Classical.propDecidable _)];constructor
 ·rintro ⟨t,h1,h2⟩;obtain⟨u,hu,h3⟩:=yao.1 h2;rw [yMs.1 hu] at h3;exact⟨t,h3,h1⟩
 ·rintro ⟨t,h1,h2⟩;exact⟨t,h2,yao.2 ⟨s,yMs.2 rfl,h1⟩⟩
theorem ykH{a:NdT}(ha:NdOk a){q:Nat→Bool}(hq:∀i:Nat,i<a.2.1.toNat→(q i=true↔Rc3 a.2.2.2.2 a.2.2.1 (i:Int))):((staL a.2.1.toNat q).filter fun s=>!goodB a s)= []↔(ltsN a).NB:=by
 rw [List.filter_eq_nil_iff];have hin:∀s,(ltsN a).rch s→0≤s∧s<a.2.1:=fun s ⟨i,hi,hp⟩=>by
  induction hp with
  | refl=>exact ha.inn.i i hi
  | tail _ g _=>obtain⟨e,g⟩:=g;exact(ha.inn.s _ _ _ g).2
 constructor
 ·intro h s hs;obtain⟨h0,h1⟩:=hin s hs;have hm:s∈staL a.2.1.toNat q:=y7G.2 ⟨s.toNat,by omega,by omega,(hq _ (by omega)).2 (by
   rw [show ((s.toNat:Nat):Int)=s by omega];obtain⟨i,hi,hp⟩:=hs;exact yao.2 ⟨i,hi,hp⟩)⟩
  have:=h s hm;simp only [Bool.not_eq_true',Bool.not_eq_false] at this;exact ydR.1 (by simpa using this)
 ·intro h s hs;obtain⟨i,rfl,hi,hqi⟩:=y7G.1 hs;obtain⟨u,hu,hp⟩:=yao.1 ((hq i hi).1 hqi);have:=ydR.2 (h (i:Int) ⟨u,hu,hp⟩);simp [this]
def fromN(a:AutT):NdT:=(a.1,a.2.1,if a.2.1>0 then [0] else [],a.2.2.1,a.2.2.2)
theorem yc2{a:AutT}{n:Nat}(hr:Right a n)(hl:a.2.2.2.length≤65536):NdOk (fromN a):=by
 have hn:=hr.nn;have hnl:=hr.nl;have hini:∀x∈(fromN a).2.2.1,x=0∧0<a.2.1:=fun x hx=>by
  unfold fromN at hx;dsimp only at hx;split at hx
  ·exact ⟨yMs.1 hx,by assumption⟩
  ·cases hx
 refine⟨hr.ali,hr.alr,by show 0≤a.2.1;omega,by show a.2.1≤4096;omega,?_,fun x hx=>?_,hr.msi,fun x hx=>?_,hr.so.imp fun h=>?_,fun x hx=>?_,hr.l1,?_,hr.l2,hl⟩
 ·unfold fromN;dsimp only;split <;> simp
 ·have:=hini x hx;show 0≤x∧x<a.2.1;omega
 ·have:=hr.msr x hx;show 0≤x∧x<a.2.1;omega
 ·unfold ltE3;omega
 ·have:=hr.es x hx;show 0≤x.1∧x.1<a.2.1∧0≤x.2.2∧x.2.2<a.2.1∧(x.2.1= -1∨x.2.1∈a.1);exact⟨this.1,by omega,this.2.2.1,by omega,.inr this.2.2.2.2⟩
 ·unfold fromN;dsimp only;split <;> simp
def ltsA(a:AutT):Lts Int:=ltsN (fromN a)
theorem y7H{a:AutT}{s:Int}:(ltsA a).ini s↔s=0∧0<a.2.1:=by
 show s∈(if a.2.1>0 then [0] else [])↔_;split
 ·simp_all
 ·simp_all
theorem yc3{a:AutT}{n:Nat}(hr:Right a n):(ltsA a).Det:=⟨fun e s t h=>(hr.es _ h).2.2.2.2,fun h=>by have:=hr.alr _ h;omega⟩
theorem yc4 :∀{l:List AutT} {t:LI},(∀a∈l,Rgt a)→(Lts.tIni (l.map ltsA) t↔liveB l=true∧t=List.replicate l.length 0)
 | [],[],_=>⟨fun _=>⟨rfl,rfl⟩,fun _=>trivial⟩
 | [],_::_,_=>⟨fun h=>h.elim,fun h=>by cases h.2⟩
 | _::_,[],_=>⟨fun h=>h.elim,fun h=>by cases h.2⟩
 | a::l,x::t,hr=>by
  have ih:=yc4 (l:=l) (t:=t) fun b hb=>hr b (.tail _ hb);obtain⟨n,hn⟩:=hr a (.head _);have hnn:=hn.nn;show(ltsA a).ini x∧Lts.tIni (l.map ltsA) t↔_;rw [y7H,ih];unfold liveB;rw [List.all_cons,yLc,List.replicate_succ,yAe];constructor
  ·rintro ⟨⟨rfl,h1⟩,h2,rfl⟩;exact⟨⟨by simp;omega,h2⟩,rfl⟩
  ·rintro ⟨⟨h1,h2⟩,h3⟩;obtain⟨rfl,rfl⟩:=List.cons.inj h3;refine⟨⟨rfl,?_⟩,h2,rfl⟩;simp at h1;omega
theorem yg0 :∀{l:List AutT} {t:LI},Lts.tMk (l.map ltsA) t↔tupM l t=true
 | [],[]=>⟨fun _=>rfl,fun _=>trivial⟩
 | [],_::_=>⟨fun h=>h.elim,fun h=>by cases h⟩
 | _::_,[]=>⟨fun h=>h.elim,fun h=>by cases h⟩
 | a::l,x::t=>by
  have ih:=yg0 (l:=l) (t:=t);show(x∈a.2.2.1)∧Lts.tMk (l.map ltsA) t↔(hasB a.2.2.1 x&&tupM l t)=true;rw [ih,yAe,yd]
theorem yd7{e:Int}:∀{l:List AutT} {t u:LI},(∀a∈l,Rgt a)→(Lts.tSt e (l.map ltsA) t u↔tup l t e=some u)
 | [],[],[],_=>⟨fun _=>rfl,fun _=>trivial⟩
 | [],[],_::_,_=>⟨fun h=>h.elim,fun h=>by cases h⟩
 | [],_::_,_,_=>⟨fun h=>h.elim,fun h=>by cases h⟩
 | _::_,[],_,_=>⟨fun h=>h.elim,fun h=>by cases h⟩
 | a::l,x::t,[],_=>by
  refine⟨fun h=>h.elim,fun h=>?_⟩;have:=(ybd h).2;simp at this
 | a::l,x::t,y::u,hr=>by
  have ih:=yd7 (e:=e) (l:=l) (t:=t) (u:=u) fun b hb=>hr b (.tail _ hb);obtain⟨n,hn⟩:=hr a (.head _);show((e∈a.1∧(x,e,y)∈a.2.2.2)∨(¬e∈a.1∧y=x))∧Lts.tSt e (l.map ltsA) t u↔((cst a x e).bind fun y=>(tup l t e).map (y :: ·))=some (y::u);have hc:((e∈a.1∧(x,e,y)∈a.2.2.2)∨(¬e∈a.1∧y=x))↔cst a x e=some y:=by
   unfold cst;by_cases h:e∈a.1
   ·rw [iP (yd.2 h),ybO hn];simp [h]
   ·rw [iN (by rw [yd];exact h)];simp [h,eq_comm]
  rw [hc,ih];cases h1:cst a x e with
  | none=>simp
  | some z=>
   rw [yOb];cases h2:tup l t e with
   | none=>simp
   | some v=>simp
theorem PrG.lab{l:List AutT}{p:AutT}{T:List LI}{n:Nat}(h:PrG l p T n)(hr:∀a∈l,Rgt a):Lts.Lab (ltsA p) (Lts.TL (l.map ltsA)) fun i t=>0≤i∧T[i.toNat]? =some t:=by
 have hpn:=h.right.nn;have htl:=h.tl;have hevl:∀e,(∃b∈l.map ltsA,b.ev e)↔ ∃a∈l,e∈a.1:=fun e=>by
  constructor
  ·rintro ⟨b,hb,g⟩;obtain⟨a,ha,rfl⟩:=yMp.1 hb;exact⟨a,ha,g⟩
  ·rintro ⟨a,ha,g⟩;exact⟨_,yMp.2 ⟨a,ha,rfl⟩,g⟩
 exact
  {
   i1:=fun s hs=>by
    obtain⟨rfl,h0⟩:=y7H.1 hs;have hn0:n≠0:=by omega
    exact⟨_,(yc4 hr).2 ⟨h.live.1 hn0,rfl⟩,by omega,h.t0 hn0⟩,
   i2:=fun t ht=>by
    obtain⟨h1,rfl⟩:=(yc4 hr).1 ht;have hn0:=h.live.2 h1;exact⟨0,y7H.2 ⟨rfl,by omega⟩,by omega,h.t0 hn0⟩,
   s1:=fun e s t s' ⟨h0,ht⟩ hst=>by
    obtain⟨a,q,t',r,g1,g2,g3,g4,g5,g6⟩:=h.disc.sn _ hst;dsimp only at g1 g2 g5 g6;subst g1;subst g2;rw [yTn,g3] at ht;cases ht;exact⟨r,⟨(hevl e).2 ((h.ev e).1 g5),(yd7 hr).2 g6⟩,by omega,by rw [yTn];exact g4⟩,
   s2:=fun e s t u ⟨h0,ht⟩ ⟨h1,h2⟩=>by
    obtain⟨q,g1,g2⟩:=h.disc.ed s.toNat t e u ht ((h.ev e).2 ((hevl e).1 h1)) ((yd7 hr).1 h2);rw [show ((s.toNat:Nat):Int)=s by omega] at g1;exact⟨(q:Int),g1,by omega,by rw [yTn];exact g2⟩,
   m:=fun s t ⟨h0,ht⟩=>by
    have:=h.mk' s.toNat t ht;rw [show ((s.toNat:Nat):Int)=s by omega] at this;exact this.trans yg0.symm,
   ev:=fun e=>(h.ev e).trans (hevl e).symm }
theorem PrG.nb{l:List AutT}{p:AutT}{T:List LI}{n:Nat}(h:PrG l p T n)(hr:∀a∈l,Rgt a):(ltsA p).NB↔(Lts.TL (l.map ltsA)).NB:=(h.lab hr).same.nb
theorem ybu{c:NdT}(hc:NdOk c):∃l:LI,y6Z c=some (l,0)∧y1k c=some l∧y2b c=some l∧l.length≤4294967296∧(l= []↔(ltsN c).NB):=by
 obtain⟨q,h1,h2⟩:=yiN hc;have h3:=ygs hc h1;have:=hc.n1;refine⟨_,?_,h3,h2,?_,ykH hc h1⟩
 ·rw [y6Z,y6O hc,yOb,iN (by simp),h3,yOb]
 ·exact Nat.le_trans (List.length_filter_le _ _) (Nat.le_trans (y7e _ _) (by omega))
theorem ygt{a b:NdT}(ha:NdOk a)(hb:NdOk b){N u:Nat}(h1:a.2.1.toNat*b.2.1.toNat≤N)(h2:∀c:NdT,c.1=dd (isL (a.1++b.1))→c.1.length≤u)(h3:N≤4096)(h4:a.1.length+b.1.length≤64)(h5:N*((u+1)*N)≤65536):
  ∃(c:NdT) (ps:List (Int×Int)),y4n a b=some (c,ps)∧yz a b=some (c,ps,0)∧CmpOk a b c ps∧NdOk c:=by
 obtain⟨c,ps,k1,k2,k3,k4,k5,_,_⟩:=ygr ha hb (by omega) h4;have:=h2 c k3.al;exact⟨c,ps,k1,k2,k3,k4 (Nat.le_trans k5 (Nat.le_trans (Nat.mul_le_mul h1 (Nat.mul_le_mul (by omega) h1)) h5))⟩
theorem yap{p:AutT}{tg:LI}:∀(k:Nat) (s:Int),y1u (edsOf p) tg k s→∃t∈tg,Star (ltsA p).nxt1 s t
 | 0,s,h=>⟨s,h,.refl _⟩
 | k+1,s,⟨x,hx,e,h⟩=>by
  obtain⟨y,hy,rfl⟩:=yMp.1 hx;obtain⟨t,ht,g⟩:=yap k _ h;have e:y.1=s:=e;subst e;exact⟨t,ht,g.head ⟨y.2.1,hy⟩⟩
theorem ycD{p:AutT}{tg:LI}{s t:Int}(ht:t∈tg)(h:Star (ltsA p).nxt1 s t):∃k,y1u (edsOf p) tg k s:=by
 suffices g:∀{s u:Int},Star (ltsA p).nxt1 s u→∀k,y1u (edsOf p) tg k u→∃k,y1u (edsOf p) tg k s from g h 0 ht
 intro s u h
 induction h with
 | refl=>exact fun k hk=>⟨k,hk⟩
 | tail _ g ih=>
  intro k hk;obtain⟨e,g⟩:=g;exact ih (k+1) ⟨toEd (_,e,_),yMp.2 ⟨_,g,rfl⟩,rfl,hk⟩
theorem yfi{l:List AutT}{p:AutT}{T:List LI}{n:Nat}(hs:y1j l=some (p,T,0))(hR:Right p n):∃w b,y1D l=some (w,b,0)∧w.length≤4096∧(b=true↔(ltsA p).NB):=by
 have hn:=hR.nl;have hnn:=hR.nn;have hbk:=yky hR hR.msr;rw [y1D,hs,yOb,iN (by simp)];dsimp only;rw [sprd hR hR.l2 hR.msr,yOb,ygh (by rw [hbk];omega),hbk,yOb];have hneg:∀s:Int,s∈negL (y2V n (edsOf p) p.2.2.1) n↔(0≤s∧s<(n:Int))∧¬ ∃t,Star (ltsA p).nxt1 s t∧(ltsA p).fin t:=fun s=>by
  have hd:=fun(i:Nat) (hi:i<n)=>ydW (es:=edsOf p) (tg:=p.2.2.1) (n:=n) (by omega) hR.ein hR.msr i hi;unfold negL;rw [yMp];constructor
  ·rintro ⟨i,hi,rfl⟩;obtain⟨h1,h2⟩:=List.mem_filter.1 hi;have h1:=List.mem_range.1 h1;have h2:=of_decide_eq_true h2;refine⟨⟨by omega,by omega⟩,?_⟩;rintro⟨t,g,hm⟩;obtain⟨k,hk⟩:=ycD (p:=p) hm g;rcases hd i h1 with ⟨_,h3⟩|⟨m,h3,_⟩
   ·exact h3 k hk
   ·omega
  ·rintro ⟨⟨h0,h1⟩,hno⟩;refine⟨s.toNat,List.mem_filter.2 ⟨List.mem_range.2 (by omega),?_⟩,by omega⟩;rcases hd s.toNat (by omega) with ⟨h3,_⟩|⟨m,h3,h4,_⟩
   ·rw [h3];rfl
   ·rw [show ((s.toNat:Nat):Int)=s by omega] at h4;obtain⟨t,ht,g⟩:=yap m s h4;exact absurd ⟨t,g,ht⟩ hno
 by_cases h0:n=0
 ·subst h0;refine⟨[],true,?_,by simp,fun _=>fun s ⟨i,hi,_⟩=>?_,fun _=>rfl⟩
  ·rw [y5D,iP (by simp;omega),yOb];rfl
  ·have:=(y7H.1 hi).2;omega
 ·obtain ⟨r,h1,hS⟩:=yjJ hR (x:=0) (Int.le_refl _) (by omega) (yiu n _) (yjK n fun i=>decide ((y2V n (edsOf p) p.2.2.1).getD i 0<0)) (by have:=yet (y2V n (edsOf p) p.2.2.1) n;unfold negL at this;omega);have h1:y4H p 0 (negL (y2V n (edsOf p) p.2.2.1) n) (allL n)=some r:=h1;have hS:PathSays (edsOf p) (negL (y2V n (edsOf p) p.2.2.1) n) 0 r:=hS;rw [yiv hR (by omega) h1,yOb];refine⟨_,_,rfl,?_,?_⟩
  ·dsimp only;cases hb:r.2.1 with
   | false=>rw [(hS.no hb).1];simp
   | true=>
    obtain⟨g1,g2⟩:=hS.yes hb;have hd:=ybn (es:=edsOf p) (tg:=negL (y2V n (edsOf p) p.2.2.1) n) (n:=n) (by omega) hR.ein (fun s hs=>((hneg s).1 hs).1) 0 (by omega);have:y9K (edsOf p) (negL (y2V n (edsOf p) p.2.2.1) n) ((0:Nat):Int) (r.1.length:Int):= .inr ⟨_,rfl,g1,g2⟩;have:=this.unique hd.1;omega
  ·dsimp only;rw [Bool.not_eq_true'];constructor
   ·intro hb s hs;obtain⟨i,hi,hp⟩:=hs;obtain⟨rfl,_⟩:=y7H.1 hi;refine Classical.byContradiction fun hno=>?_;have hin:0≤s∧s<(n:Int):=by
     cases hp with
     | refl=>omega
     | tail _ g=>obtain⟨e,g⟩:=g;have:=hR.es _ g;dsimp only at this;omega
    obtain⟨k,hk⟩:=ycD (p:=p) ((hneg s).2 ⟨hin,hno⟩) hp;exact(hS.no hb).2 k hk
   ·intro hN;cases hb:r.2.1 with
    | false=>rfl
    | true=>
     obtain⟨t,ht,g⟩:=yap _ _ (hS.yes hb).1;exact absurd (hN t ⟨0,y7H.2 ⟨rfl,by omega⟩,g⟩) ((hneg t).1 ht).2
theorem yhP{xs:List E3}(h:xs.length≤4294967296):y4q xs=some xs:=by
 rw [y4q,yv (by simpa using h)];rfl
theorem y9V{a:AutT}{n:Nat}(hr:Right a n):y1s a=some (fromN a,0):=by
 have h1:=hr.l1;have h2:=hr.l2;have h3:=hr.l3;rw [y1s,hr.check,yOb,iN (by simp),y6h (by omega),yOb,y6h (by omega),yOb,yhP (by omega),yOb];unfold fromN;by_cases h:a.2.1>0
 ·rw [iP (decide_eq_true h),y1y,iP h]
 ·rw [iN (by simpa using h),y1y,iN h]
structure SmL (l:List AutT):Prop where
 len:l.length≤4
 right:∀a∈l,∃n:Nat,n≤3∧Right a n∧∀e∈a.1,e<5
theorem SmL.rgt{l:List AutT}(h:SmL l):∀a∈l,Rgt a:=fun a ha=>by
 obtain⟨n,_,hr,_⟩:=h.right a ha;exact⟨n,hr⟩
theorem yhQ{B:Nat}{e:Int}:∀{l:List AutT} {t u:LI},(∀a∈l,∃n:Nat,n≤B∧Right a n)→(∀x∈t,0≤x∧x<(B:Int))→tup l t e=some u→∀x∈u,0≤x∧x<(B:Int)
 | [],[],u,_,_,h=>by cases h;intro x hx;cases hx
 | [],_::_,_,_,_,h=>by cases h
 | _::_,[],_,_,_,h=>by cases h
 | a::l,x::t,u,hr,ht,h=>by
  unfold tup at h;cases h1:cst a x e with
  | none=>rw [h1] at h;cases h
  | some y=>
   rw [h1,yOb] at h;cases h2:tup l t e with
   | none=>rw [h2] at h;cases h
   | some v=>
    rw [h2] at h;have h:some (y::v)=some u:=h;cases h;have ih:=yhQ (fun b hb=>hr b (.tail _ hb)) (fun z hz=>ht z (.tail _ hz)) h2;intro z hz;rcases yMo.1 hz with rfl|hz
    ·obtain ⟨n,hn,hrn⟩:=hr a (.head _);unfold cst at h1;split at h1
     ·have:=yd0 hrn h1;omega
     ·cases h1;exact ht _ (.head _)
    ·exact ih z hz
theorem ykb{l:List AutT}{B:Nat}(hr:∀a∈l,∃n:Nat,n≤B∧Right a n)(h1:1≤B)(h2:B≤99)(h3:B ^ l.length≤4000):RchP l (fun t=>t.length=l.length∧∀x∈t,0≤x∧x<(B:Int)) (B ^ l.length) where
 st t e u ht h:=⟨(ybd h).2,yhQ hr ht.2 h⟩
 i0:=⟨by simp,fun x hx=>by
  have:=(List.mem_replicate.1 hx).2;omega⟩
 hu t ht:=⟨ht.1,fun x hx=>by have:=ht.2 x hx;omega⟩
 bd T hn hT:=by
  have h:=y6a (B ^ l.length) (T.map (y6G B)) ?_ ?_
  ·rwa [yLm] at h
  ·rw [List.Nodup,List.pairwise_map];refine List.Pairwise.imp_of_mem (fun {a b} ha hb hab e=>hab ?_) hn;exact yco ((hT a ha).1.trans (hT b hb).1.symm) (hT a ha).2 (hT b hb).2 e
  ·intro x hx;obtain⟨t,ht,rfl⟩:=yMp.1 hx;rw [←(hT t ht).1];exact ydu (hT t ht).2
 m:=h3
theorem SmL.prod{l:List AutT}(h:SmL l):∃p T n,y1j l=some (p,T,0)∧PrG l p T n∧n≤81:=by
 have hlen:=h.len;have hp:3 ^ l.length≤3 ^ 4:=Nat.pow_le_pow_right (by omega) hlen;obtain⟨p,T,n,h1,h2,h3⟩:=yka (ykb (B:=3) (fun a ha=>by
  obtain⟨n,hn,hr,_⟩:=h.right a ha;exact⟨n,hn,hr⟩) (by omega) (by omega) (by omega)) (by omega) h.rgt
 exact⟨p,T,n,h1,h2,by omega⟩
theorem inc5{xs:LI}(hi:Inc xs)(h:∀x∈xs,0≤x∧x<5):xs.length≤5:=by
 have:=y5Z (n:=5) (lo:=0) hi h (Int.le_refl _);omega
theorem SmL.nb{l:List AutT}(h:SmL l):∃w b s,y1D l=some (w,b,0)∧w.length≤4096∧(b=true↔(Lts.TL (l.map ltsA)).NB)∧∃p T,y1j l=some (p,T,0)∧y1s p=some (fromN p,0)∧y2b (fromN p)=some s∧(s= []↔(Lts.TL (l.map ltsA)).NB):=by
 obtain⟨p,T,n,h1,hG,hn⟩:=h.prod;have hR:=hG.right;have hnb:=hG.nb h.rgt;obtain⟨w,b,k1,k2,k3⟩:=yfi h1 hR;have hal:p.1.length≤5:=inc5 hR.ali fun e he=>by
  obtain⟨a,ha,hae⟩:=(hG.ev e).1 he;obtain⟨_,_,_,h5⟩:=h.right a ha;exact⟨(hR.alr e he).1,h5 e hae⟩
 have hel:p.2.2.2.length≤65536:=by
  have h3:=hG.el;have h4:p.1.length*n≤5*81:=Nat.mul_le_mul hal hn;omega
 obtain⟨s,_,_,j3,_,j5⟩:=ybu (yc2 hR hel);exact⟨w,b,s,k1,k2,k3.trans hnb,p,T,h1,y9V hR,j3,j5.trans hnb⟩
theorem SmL.sub{l q:List AutT}(h:SmL l)(hq:q.length≤4)(hm:∀a∈q,a∈l):SmL q:=⟨hq,fun a ha=>h.right a (hm a ha)⟩
def pick(l:List AutT)(is:LI):List AutT:=is.filterMap fun i=>l[i.toNat]?
theorem yj6(s:LI):((s.length:Int)==0)=decide (s= []):=by
 cases s with
 | nil=>rfl
 | cons x l=>
  have:((x::l).length:Int)≠0:=by rw [yLc];omega
  rw [beq_eq_false_iff_ne.2 this,decide_eq_false (by simp)]
def hdl(S:AutT):Int→LI→Int×Nat
 | s,[]=>(s,0)
 | s,e::l=>if hasB S.1 e=true then(match st1 S s e with
   | none=>(s,0)
   | some u=>((hdl S u l).1,(hdl S u l).2+1)) else((hdl S s l).1,(hdl S s l).2+1)
structure SR (st:Int→Int→Option Int) (al:LI) (n i j:Nat) (T:LI) (kn:List (Int×Int)) (E:List (Int×Int×Int)):Prop where
 f:Fnd st al i j T E
 k1:∀s v,kget kn s=some v→∃q:Nat,v=(q:Int)∧T[q]? =some s
 k2:∀s∈T,(kget kn s).isSome=true
 nd:T.Nodup
 tr:∀s∈T,0≤s∧s<(n:Int)
 so:E.Pairwise fun x y=>x.1<y.1∨(x.1=y.1∧x.2.1<y.2.1)
 ei:∀x∈E,x.1<(i:Int)∨(x.1=(i:Int)∧∃b,∃hb:b<al.length,b<j∧al[b]=x.2.1)
 ea:∀x∈E,x.2.1∈al
 el:E.length≤32*i+j
namespace SR
variable{st:Int→Int→Option Int}{al:List Int}{n i j:Nat}{T:List Int}{kn:List (Int×Int)}{E:List (Int×Int×Int)}
theorem len(h:SR st al n i j T kn E):T.length≤n:=by
 have:=y6a n (T.map Int.toNat) (by
  unfold List.Nodup;rw [List.pairwise_map];refine h.nd.imp_of_mem fun {a b} ha hb hab=>?_;have h1:=h.tr a ha;have h2:=h.tr b hb;omega) (fun x hx=>by
  obtain⟨y,hy,rfl⟩:=List.mem_map.1 hx;have:=h.tr y hy;omega)
 simpa using this
theorem skip(h:SR st al n i j T kn E){s e:Int}(ht:T[i]? =some s)(he:al[j]? =some e)(hs:st s e=none):SR st al n i (j+1) T kn E:=
 ⟨h.f.skip ht he hs,h.k1,h.k2,h.nd,h.tr,h.so,fun x hx=>by
  rcases h.ei x hx with h1|⟨h1,b,hb,h2,h3⟩
  ·exact .inl h1
  ·exact .inr ⟨h1,b,hb,by omega,h3⟩,h.ea,by have:=h.el;omega⟩
theorem next(h:SR st al n i j T kn E)(hj:al.length≤j)(hj2:j≤32):SR st al n (i+1) 0 T kn E:=
 ⟨h.f.next hj,h.k1,h.k2,h.nd,h.tr,h.so,fun x hx=>by
  rcases h.ei x hx with h1|⟨h1,_⟩
  ·exact .inl (by omega)
  ·exact .inl (by omega),h.ea,by have:=h.el;omega⟩
theorem pw(h:SR st al n i j T kn E)(ia:Inc al)(hj:j<al.length)(v:Int):(E++[((i:Int),al[j],v)]).Pairwise fun x y=>x.1<y.1∨(x.1=y.1∧x.2.1<y.2.1):=by
 rw [List.pairwise_append];refine⟨h.so,List.pairwise_singleton _ _,fun x hx y hy=>?_⟩;rw [yMs.1 hy];rcases h.ei x hx with h1|⟨h1,b,hb,h2,h3⟩
 ·exact .inl h1
 ·refine .inr ⟨h1,?_⟩;rw [←h3];exact List.pairwise_iff_getElem.1 ia b j hb hj h2
theorem ei'(h:SR st al n i j T kn E)(hj:j<al.length)(v:Int):∀x∈E++[((i:Int),al[j],v)],x.1<(i:Int)∨(x.1=(i:Int)∧∃b,∃hb:b<al.length,b<j+1∧al[b]=x.2.1):=fun x hx=>by
 rcases yMa.1 hx with hx|hx
 ·rcases h.ei x hx with h1|⟨h1,b,hb,h2,h3⟩
  ·exact .inl h1
  ·exact .inr ⟨h1,b,hb,by omega,h3⟩
 ·rw [yMs.1 hx];exact .inr ⟨rfl,j,hj,by omega,rfl⟩
theorem ea'(h:SR st al n i j T kn E)(hj:j<al.length)(v:Int):∀x∈E++[((i:Int),al[j],v)],x.2.1∈al:=fun x hx=>by
 rcases yMa.1 hx with hx|hx
 ·exact h.ea x hx
 ·rw [yMs.1 hx];exact yGm hj
theorem edge(h:SR st al n i j T kn E)(ia:Inc al)(hj:j<al.length){s v:Int}{q:Nat}(ht:T[i]? =some s)(hs:st s al[j]=some v)(hq:T[q]? =some v):SR st al n i (j+1) T kn (E++[((i:Int),al[j],(q:Int))]):=
 ⟨h.f.edge ht (yGe hj) hs hq,h.k1,h.k2,h.nd,h.tr,h.pw ia hj _,h.ei' hj _,h.ea' hj _,by have:=h.el;simp;omega⟩
theorem new(h:SR st al n i j T kn E)(ia:Inc al)(hj:j<al.length){s v:Int}(ht:T[i]? =some s)(hs:st s al[j]=some v)(hk:kget kn v=none)(v0:0≤v)(v1:v<(n:Int)):SR st al n i (j+1) (T++[v]) (kput kn v (T.length:Int)) (E++[((i:Int),al[j],(T.length:Int))]):=by
 have hi:=(List.getElem?_eq_some_iff.1 ht).1;refine⟨h.f.new hi ht (yGe hj) hs,fun s' w hw=>?_,fun s' hs'=>?_,?_,fun s' hs'=>?_,h.pw ia hj _,h.ei' hj _,h.ea' hj _,by have:=h.el;simp;omega⟩
 ·rw [y6b] at hw;split at hw
  ·rename_i e;subst e;cases hw;exact⟨T.length,rfl,by rw [List.getElem?_append_right (Nat.le_refl _)];simp⟩
  ·obtain ⟨q,h1,h2⟩:=h.k1 s' w hw;exact⟨q,h1,by rw [List.getElem?_append_left (List.getElem?_eq_some_iff.1 h2).1,h2]⟩
 ·rw [y6b];split
  ·rfl
  ·rename_i e;rcases yMa.1 hs' with hs'|hs'
   ·exact h.k2 s' hs'
   ·exact absurd (yMs.1 hs') e
 ·unfold List.Nodup;rw [List.pairwise_append];refine⟨h.nd,List.pairwise_singleton _ _,fun a ha b hb e=>?_⟩;rw [yMs.1 hb] at e;subst e;have:=h.k2 a ha;rw [hk] at this;cases this
 ·rcases yMa.1 hs' with hs'|hs'
  ·exact h.tr s' hs'
  ·rw [yMs.1 hs'];exact⟨v0,v1⟩
end SR
structure CanOf (st:Int→Int→Option Int) (al ms:List Int) (r:AutT) (X:List Int):Prop where
 right:Right r X.length
 ale:r.1=al
 x0:0<X.length→X[0]? =some 0
 disc:Disc st al X r.2.2.2
 mkd:∀(i:Nat) (s:Int),X[i]? =some s→((i:Int)∈r.2.2.1↔s∈ms)
end
end
end Go.Proofs.YtfdeiphkmjdifaaGreatDoor
