/- SimulationRuns returns true for all arguments, and leaves its arguments as they were. The condition: three tables of Go's library (math/bits, internal/strconv) hold what their source text lays, and the card ties this to the text. -/
import Derived.IntWalk
import Derived.Deep.Slices
import Derived.ChangeSame
import Derived.ProofKit
import Derived.Test.YtecmobjeeonmaaaGreatDoorRows
import Derived.Test.YtecmobjeeonmaaaGreatDoorTie
import Derived.Test.YtecmobjeeonmaaaGreatDoorCards
import Derived.Test.YtecmobjeeonmaaaGreatDoorProg
import Derived.Lay
import Derived.LaidMore
import Derived.LaidHandle
import Derived.SevenTiedAt
import Derived.Stop.Joined
import Derived.Test.YtecmobjeeonmaaaGreatDoorQr6
set_option maxRecDepth 100000
namespace Go.Proofs.YtecmobjeeonmaaaGreatDoor
open Go Go.RowKit
def stK(a:AutT)(g:List Bool)(s e:Int):Option Int:=(st1 a s e).filter fun t=>g.getD t.toNat false
theorem ycw{a:AutT}{n:Nat}(hr:Right a n){g:List Bool}{s e t:Int}:stK a g s e=some t↔(s,e,t)∈a.2.2.2∧g.getD t.toNat false=true:=by
 unfold stK;rw [Option.filter_eq_some_iff,y7d hr]
theorem yhr{a:AutT}{n:Nat}(hr:Right a n)(hE32:a.1.length≤32){g:List Bool}{i s:Nat}{X:List Int}{kn:List (Int×Int)}{E:List (Int×Int×Int)}(hS:SR (stK a g) a.1 n i 0 X kn E)(hi:X[i]? =some (s:Int))(M:List Int){os:List (Int×Int×Int)}(hos:os=a.2.2.2.filter fun x=>x.1==(s:Int)&&g.getD x.2.2.toNat false):
  ∃kn' X' E',iter (yM ((i:Int),X,kn,M,E) os) (0,X,kn,E)=some (X',kn',E')∧SR (stK a g) a.1 n (i+1) 0 X' kn' E'∧∃U,X'=X++U:=by
 have hnl:=hr.nl;have hl3:=hr.l3;have hil:i<X.length:=(List.getElem?_eq_some_iff.1 hi).1;have hmem:∀x∈os,x∈a.2.2.2∧x.1=(s:Int)∧g.getD x.2.2.toNat false=true:=fun x hx=>by
  rw [hos] at hx;have:=List.mem_filter.1 hx;rw [Bool.and_eq_true] at this;exact⟨this.1,by simpa using this.2.1,this.2.2⟩
 have hso:os.Pairwise fun x y=>x.2.1<y.2.1:=by
  have h:=hr.so.filter (fun x=>x.1==(s:Int)&&g.getD x.2.2.toNat false);rw [←hos] at h;refine h.imp_of_mem fun {x y} hx hy hxy=>?_;have:=(hmem x hx).2.1;have:=(hmem y hy).2.1;omega
 have hol:os.length≤1000000:=by rw [hos];exact Nat.le_trans (List.length_filter_le _ _) hl3
 have hin:∀{e t:Int},stK a g (s:Int) e=some t→((s:Int),e,t)∈os:=fun {e t} h=>by
  rw [hos];have:=(ycw hr).1 h;exact List.mem_filter.2 ⟨this.1,by simp only [beq_self_eq_true,Bool.true_and];exact this.2⟩
 obtain⟨o,h1,j,hS',hU,hj,hlast⟩:=yd (f:=yM ((i:Int),X,kn,M,E) os)
  (fun k s'=>s'.1=(k:Int)∧k≤os.length∧∃j,SR (stK a g) a.1 n i j s'.2.1 s'.2.2.1 s'.2.2.2∧(∃U,s'.2.1=X++U)∧j≤a.1.length∧
   (∀c (hc:c<a.1.length),c<j→∀k' (hk:k'<os.length),k≤k'→os[k'].2.1≠a.1[c])∧∀k' (hk:k'<os.length),k'<k→∀c (hc:c<a.1.length),j≤c→os[k'].2.1≠a.1[c])
  (fun o=>∃j,SR (stK a g) a.1 n i j o.1 o.2.1 o.2.2∧(∃U,o.1=X++U)∧j≤a.1.length∧∀k' (hk:k'<os.length),∀c (hc:c<a.1.length),j≤c→os[k'].2.1≠a.1[c])
  os.length 0 (by omega) (fun k s' hk ⟨e1,_,j,hS',⟨U,hU⟩,hj,hlo,hhi⟩=>by
   obtain⟨c',X1,kn',E1⟩:=s';dsimp only at e1 hS' hU;subst e1;have hx:=hmem _ (List.getElem_mem hk);have hxe:=hr.es _ hx.1;obtain⟨t,ht⟩:∃t:Nat,os[k].2.2=(t:Int):=⟨os[k].2.2.toNat,by omega⟩;have htn:t<n:=by omega
   obtain⟨b,hb,hbe⟩:=List.getElem_of_mem hxe.2.2.2.2;have hjb:j≤b:=Nat.le_of_not_lt fun hlt=>hlo b hb hlt k hk (Nat.le_refl _) hbe.symm;have hiX:X1[i]? =some (s:Int):=by rw [hU,List.getElem?_append_left hil];exact hi
   have hstx:stK a g (s:Int) a.1[b]=some (t:Int):=by
    rw [ycw hr,hbe,←ht];refine⟨?_,hx.2.2⟩;rw [←hx.2.1];exact hx.1
   have hSb:=hS'.skips hiX b hjb (by omega) fun c hc h1 h2=>by
    cases hst:stK a g (s:Int) a.1[c] with
    | none=>rfl
    | some v=>
     exfalso;obtain⟨k',hk',e'⟩:=List.getElem_of_mem (hin hst);have ev:os[k'].2.1=a.1[c]:=by rw [e']
     have hcb:a.1[c]<a.1[b]:=List.pairwise_iff_getElem.1 hr.ali c b hc hb h2;by_cases h3:k'<k
     ·exact hhi k' hk' h3 c hc h1 ev
     ·by_cases h4:k'=k
      ·subst h4;omega
      ·have:=List.pairwise_iff_getElem.1 hso k k' hk hk' (by omega);omega
   have hpos:∀(X2:List Int) (E2:List (Int×Int×Int)) (kn2:List (Int×Int)),SR (stK a g) a.1 n i (b+1) X2 kn2 E2→(∃U,X2=X++U)→
     (∃j,SR (stK a g) a.1 n i j X2 kn2 E2∧(∃U,X2=X++U)∧j≤a.1.length∧
   (∀c (hc:c<a.1.length),c<j→∀k' (hk:k'<os.length),k+1≤k'→os[k'].2.1≠a.1[c])∧∀k' (hk:k'<os.length),k'<k+1→∀c (hc:c<a.1.length),j≤c→os[k'].2.1≠a.1[c]):=fun X2 E2 kn2 g1 g3=>by
    refine⟨b+1,g1,g3,hb,fun c hc h1 k' hk' h2 e=>?_,fun k' hk' h2 c hc h1 e=>?_⟩
    ·have h5:=List.pairwise_iff_getElem.1 hso k k' hk hk' (by omega);by_cases h6:c=b
     ·subst h6;omega
     ·have:=List.pairwise_iff_getElem.1 hr.ali c b hc hb (by omega);omega
    ·have h5:=List.pairwise_iff_getElem.1 hr.ali b c hb hc (by omega);by_cases h6:k'=k
     ·subst h6;omega
     ·have:=List.pairwise_iff_getElem.1 hso k' k hk' hk (by omega);omega
   have hXl:=hSb.len;have hEl:=hSb.el;have hil2:i<n:=by have:=(List.getElem?_eq_some_iff.1 hiX).1;omega
   have hj2:∀(X2:List Int) (v:Int) (kn2:List (Int×Int)),yL ((i:Int),X,kn,M,E) os[k] ((k:Int),X1,kn',E1) X2 v kn2=some (.inl (((k+1:Nat):Int),X2,kn2,E1++[((i:Int),os[k].2.1,v)])):=fun X2 v kn2=>by
    rw [yL];dsimp only;rw [yj (by simp;omega),yOb,nxt (by omega)]
   left;rw [yM];dsimp only;rw [if_pos (ct_lt hk),ya hk,yOb,ht];cases hkg:kget kn' (t:Int) with
   | none=>
    rw [if_pos (by simp),yj (by simp;omega),yOb,hj2];refine⟨_,rfl,rfl,hk,?_⟩;dsimp only;rw [←hbe];exact hpos _ _ _ (hSb.new hr.ali hb hiX hstx hkg (by omega) (by omega)) ⟨U++[(t:Int)],by rw [hU,List.append_assoc]⟩
   | some v=>
    obtain⟨q,hv,hq⟩:=hSb.k1 _ _ hkg;subst hv;rw [if_neg (by simp),hj2];refine⟨_,rfl,rfl,hk,?_⟩;dsimp only;rw [←hbe,Option.getD_some];exact hpos _ _ _ (hSb.edge hr.ali hb hiX hstx hq) ⟨U,hU⟩) (fun s' ⟨e1,_,j,hS',hU,hj,hlo,hhi⟩=>by
   obtain⟨c',X1,kn',E1⟩:=s';dsimp only at e1 hS' hU;subst e1;refine⟨(X1,kn',E1),?_,j,hS',hU,hj,fun k' hk' c hc hjc=>hhi k' hk' hk' c hc hjc⟩;rw [yM];dsimp only;rw [if_neg ct_ge]) (Nat.zero_le _) (0,X,kn,E) ⟨rfl,Nat.zero_le _,0,hS,⟨[],(List.append_nil _).symm⟩,Nat.zero_le _,fun c hc h=>absurd h (Nat.not_lt_zero _),fun k' hk' h=>absurd h (Nat.not_lt_zero _)⟩
 obtain⟨X',kn',E'⟩:=o;obtain⟨U,hU⟩:=hU;dsimp only at hS' hU;have hiX:X'[i]? =some (s:Int):=by rw [hU,List.getElem?_append_left hil];exact hi
 have hSe:=hS'.skips hiX a.1.length hj (Nat.le_refl _) fun c hc h1 _=>by
  cases hst:stK a g (s:Int) a.1[c] with
  | none=>rfl
  | some v=>
   exfalso;obtain⟨k',hk',e'⟩:=List.getElem_of_mem (hin hst);exact hlast k' hk' c hc h1 (by rw [e'])
 exact⟨kn',X',E',h1,hSe.next (Nat.le_refl _) hE32,U,hU⟩
theorem yfD{a:AutT}{n:Nat}(hr:Right a n){g:List Bool}(hg:g.length=n)(p:AutT×List Int×List (Int×List Int)×List Bool)(hp1:p.1=a)(hp2:p.2.2.2=g):
  ∃R:List EdgL,iter (yP p) (0,List.replicate n [])=some R∧R.length=n∧∀s:Nat,s<n→R[s]? =some (a.2.2.2.filter fun x=>x.1==(s:Int)&&g.getD x.2.2.toNat false):=by
 subst hp1 hp2;have hl3:=hr.l3;have hnl:=hr.nl;obtain⟨R,h1,h2,h3⟩:=yd (f:=yP p) (fun i s=>s.1=(i:Int)∧i≤p.1.2.2.2.length∧s.2.length=n∧∀t:Nat,t<n→s.2[t]? =some ((p.1.2.2.2.take i).filter fun x=>x.1==(t:Int)&&p.2.2.2.getD x.2.2.toNat false))
  (fun R=>R.length=n∧∀t:Nat,t<n→R[t]? =some (p.1.2.2.2.filter fun x=>x.1==(t:Int)&&p.2.2.2.getD x.2.2.toNat false)) p.1.2.2.2.length 0 (by omega) (fun i s hi ⟨e1,_,hl,hR⟩=>by
   obtain⟨c,R⟩:=s;dsimp only at e1 hl hR;subst e1;have hx:=hr.es _ (List.getElem_mem hi);obtain⟨q,hq⟩:∃q:Nat,(p.1.2.2.2[i]).1=(q:Int):=⟨(p.1.2.2.2[i]).1.toNat,by omega⟩;obtain⟨t,ht⟩:∃t:Nat,(p.1.2.2.2[i]).2.2=(t:Int):=⟨(p.1.2.2.2[i]).2.2.toNat,by omega⟩;have hqn:q<n:=by omega
   have htn:t<p.2.2.2.length:=by omega
   have hql:q<R.length:=by omega
   have hRq:R[q]=(p.1.2.2.2.take i).filter fun x=>x.1==(q:Int)&&p.2.2.2.getD x.2.2.toNat false:=by
    have:=hR q hqn;rw [yGe hql] at this;exact Option.some.inj this
   have hgt:p.2.2.2.getD (p.1.2.2.2[i]).2.2.toNat false=p.2.2.2[t]:=by
    rw [ht,Int.toNat_natCast,List.getD_eq_getElem?_getD,yGe htn,Option.getD_some]
   have htake:p.1.2.2.2.take (i+1)=p.1.2.2.2.take i++[p.1.2.2.2[i]]:=by rw [List.take_add_one,yGe hi];rfl
   left;rw [yP];dsimp only;rw [if_pos (ct_lt hi),ya hi,yOb,ht,ya htn,yOb];cases hgb:p.2.2.2[t] with
   | true=>
    have hlen:R[q].length≤1000000:=by rw [hRq];exact Nat.le_trans (List.length_filter_le _ _) (Nat.le_trans (List.length_take_le _ _) (by omega))
    rw [if_pos rfl,hq,ya hql,yOb,yj (by simp;omega),yOb,yOb,y9k hql,yOb,yO];dsimp only;rw [nxt (by omega)];refine⟨_,rfl,rfl,hi,by dsimp only;rw [List.length_set];exact hl,fun s' hs'=>?_⟩;dsimp only;rw [List.getElem?_set,htake,List.filter_append];by_cases e:q=s'
    ·subst e;rw [if_pos rfl,if_pos hql,hRq,List.filter_cons_of_pos (by rw [hq,hgt,hgb];simp)];rfl
    ·rw [if_neg e,List.filter_cons_of_neg (by rw [hq];simp;omega),List.filter_nil,List.append_nil];exact hR s' hs'
   | false=>
    rw [if_neg (by simp),yO];dsimp only;rw [nxt (by omega)];refine⟨_,rfl,rfl,hi,hl,fun s' hs'=>?_⟩;dsimp only;rw [htake,List.filter_append,List.filter_cons_of_neg (by rw [hgt,hgb];simp),List.filter_nil,List.append_nil];exact hR s' hs') (fun s ⟨e1,_,hl,hR⟩=>by
   obtain⟨c,R⟩:=s;dsimp only at e1 hl hR;subst e1;refine⟨R,?_,hl,fun t ht=>by have:=hR t ht;rwa [List.take_length] at this⟩;rw [yP];dsimp only;rw [if_neg ct_ge]) (Nat.zero_le _) (0,List.replicate n []) ⟨rfl,Nat.zero_le _,by simp,fun t ht=>by simp [List.getElem?_replicate,ht]⟩
 exact⟨R,h1,h2,h3⟩
theorem yhs{a:AutT}{n:Nat}(hr:Right a n){g:List Bool}(hg:g.length=n)(p:AutT×List Int×List (Int×List Int)×List Bool)(hp1:p.1=a)(hp2:p.2.2.2=g):
  ∃r X,y2r p=some (r,X)∧CanOf (stK a g) a.1 a.2.2.1 r X∧X.length≤n∧∀s∈X,0≤s∧s<(n:Int)∧g.getD s.toNat false=true:=by
 subst hp1 hp2;have hnn:=hr.nn;have hnl:=hr.nl;have hl1:=hr.l1;have hal:p.1.1.length≤32:=Alp.len ⟨hr.ali,hr.alr⟩;have hcl:y2p p.1.1=some p.1.1:=y9W (by omega);have hemp:∃r X,some ((p.1.1,(0:Int),([]:List Int),([]:List (Int×Int×Int))),([]:List Int))=some (r,X)∧CanOf (stK p.1 p.2.2.2) p.1.1 p.1.2.2.1 r X∧X.length≤n∧∀s∈X,0≤s∧s<(n:Int)∧p.2.2.2.getD s.toNat false=true:=
  ⟨_,[],rfl,⟨⟨rfl,by simp,hr.ali,hr.alr,List.Pairwise.nil,fun x hx=>(by cases hx),fun x hx=>(by cases hx),List.Pairwise.nil,hl1,by simp,by simp⟩,rfl,fun h=>absurd h (by simp),(Fnd.start (by simp)).disc List.nodup_nil List.Pairwise.nil (fun x hx=>(by cases hx)) hr.alr,fun i s hi=>by simp at hi⟩,by simp,fun s hs=>by cases hs⟩
 rw [y2r,hcl,yOb,hnn];by_cases h0:n=0
 ·subst h0;rw [if_pos (by simp),yOb,if_pos rfl];exact hemp
 have hg0:0<p.2.2.2.length:=by omega
 rw [if_neg (by simp;omega),show idx p.2.2.2 0=some p.2.2.2[0] from ya hg0,yOb,yOb];cases hb:p.2.2.2[0] with
 | false=>
  rw [if_pos (show (!false)=true from rfl)];exact hemp
 | true=>
 obtain⟨R,f1,f2,f3⟩:=yfD hr hg p rfl rfl;have hS0:SR (stK p.1 p.2.2.2) p.1.1 n 0 0 [0] (kput [] 0 0) []:=by
  refine⟨Fnd.start (by simp),fun s v hv=>?_,fun s hs=>?_,by simp,fun s hs=>?_,List.Pairwise.nil,fun x hx=>(by cases hx),fun x hx=>(by cases hx),by simp⟩
  ·rw [y6f] at hv;split at hv
   ·rename_i e;subst e;cases hv;exact⟨0,rfl,rfl⟩
   ·cases hv
  ·rw [List.mem_singleton.1 hs,y6f,if_pos rfl];rfl
  ·rw [List.mem_singleton.1 hs];omega
 obtain⟨o,g1,kn,g2,g3,g4,g5,g6⟩:=yd (f:=yN p R) (fun i s=>s.1=(i:Int)∧i≤s.2.1.length∧SR (stK p.1 p.2.2.2) p.1.1 n i 0 s.2.1 s.2.2.1 s.2.2.2.2∧Inc s.2.2.2.1∧(∀x∈s.2.2.2.1,0≤x∧x<(i:Int))∧s.2.1[0]? =some 0∧∀(c:Nat) (x:Int),c<i→s.2.1[c]? =some x→((c:Int)∈s.2.2.2.1↔x∈p.1.2.2.1))
  (fun o=>∃kn,SR (stK p.1 p.2.2.2) p.1.1 n o.1.length 0 o.1 kn o.2.2∧Inc o.2.1∧(∀x∈o.2.1,0≤x∧x<(o.1.length:Int))∧o.1[0]? =some 0∧∀(c:Nat) (x:Int),o.1[c]? =some x→((c:Int)∈o.2.1↔x∈p.1.2.2.1)) n 0 (by omega) (fun i s hi ⟨e1,hle,hS,m1,m2,x0,mk⟩=>by
   obtain⟨k,X,kn,M,E⟩:=s;dsimp only at e1 hle hS m1 m2 x0 mk;subst e1;have hXl:=hS.len;have hMl:=y5U (n:=i) (lo:=0) m1 m2 (Int.le_refl _);by_cases hiq:i<X.length
   ·left;have hq:=hS.tr _ (List.getElem_mem hiq);obtain⟨s,hs⟩:∃s:Nat,X[i]=(s:Int):=⟨X[i].toNat,by omega⟩;have hsn:s<n:=by omega
    have hsR:s<R.length:=by omega
    have hRs:R[s]=p.1.2.2.2.filter fun x=>x.1==(s:Int)&&p.2.2.2.getD x.2.2.toNat false:=by
     have:=f3 s hsn;rw [yGe hsR] at this;exact Option.some.inj this
    obtain⟨kn',X',E',w1,w2,U,hU⟩:=yhr hr hal hS (by rw [yGe hiq,hs]) M hRs;have hpre:∀c,c<X.length→X'[c]? =X[c]? :=fun c hc=>by rw [hU,List.getElem?_append_left hc]
    have hXX:X.length≤X'.length:=by rw [hU];simp
    have hiX':i<X'.length:=by omega
    have hXi:X'[i]=(s:Int):=by
     have:=hpre i hiq;rw [yGe hiq,yGe hiX',hs] at this;exact Option.some.inj this
    have hml:p.1.2.2.1.length<4611686018427387904:=by have:=hr.l2;omega
    have hj1:∀M':List Int,Inc M'→(∀x∈M',0≤x∧x<((i+1:Nat):Int))→(∀x:Int,x≠(i:Int)→(x∈M'↔x∈M))→((i:Int)∈M'↔(s:Int)∈p.1.2.2.1)→
      ∃s',yK ((i:Int),X,kn,M,E) X' kn' M' E'=some (.inl s')∧s'.1=((i+1:Nat):Int)∧i+1≤s'.2.1.length∧SR (stK p.1 p.2.2.2) p.1.1 n (i+1) 0 s'.2.1 s'.2.2.1 s'.2.2.2.2∧Inc s'.2.2.2.1∧(∀x∈s'.2.2.2.1,0≤x∧x<((i+1:Nat):Int))∧s'.2.1[0]? =some 0∧∀(c:Nat) (x:Int),c<i+1→s'.2.1[c]? =some x→((c:Int)∈s'.2.2.2.1↔x∈p.1.2.2.1):=fun M' q1 q2 q3 q4=>by
     rw [yK];dsimp only;rw [nxt (by omega)];refine⟨_,rfl,rfl,by dsimp only;omega,w2,q1,q2,?_,fun c x hc hx=>?_⟩
     ·dsimp only;rw [hpre 0 (by omega)];exact x0
     ·dsimp only at hx ⊢;rw [hpre c (by omega)] at hx;by_cases e:c=i
      ·subst e;rw [yGe hiq,hs] at hx;cases hx;exact q4
      ·rw [q3 _ (by omega)];exact mk c x (by omega) hx
    rw [yN];dsimp only;rw [if_pos (ct_lt hiq),ya hiq,yOb,hs,ya hsR,yOb,w1,yOb];dsimp only;rw [ya hiX',yOb,hXi,y3D hml,yOb];cases hm:hasB p.1.2.2.1 (s:Int) with
    | true=>
     rw [if_pos rfl,yj (by simp;omega),yOb];refine hj1 _ ?_ (fun x hx=>?_) (fun x hx=>?_) ⟨fun _=>yc.1 hm,fun _=>List.mem_append_right _ (List.mem_singleton.2 rfl)⟩
     ·unfold Inc at m1 ⊢;rw [List.pairwise_append];exact⟨m1,List.pairwise_singleton _ _,fun c hc b hb=>by rw [List.mem_singleton.1 hb];exact(m2 c hc).2⟩
     ·rcases List.mem_append.1 hx with hx|hx
      ·have:=m2 x hx;omega
      ·rw [List.mem_singleton.1 hx];omega
     ·rw [List.mem_append,List.mem_singleton];exact⟨fun h=>h.resolve_right hx,.inl⟩
    | false=>
     rw [if_neg (by simp)];refine hj1 M m1 (fun x hx=>by have:=m2 x hx;omega) (fun x _=>Iff.rfl) ⟨fun hx=>by have:=m2 _ hx;omega,fun hx=>?_⟩;rw [yc.2 hx] at hm;cases hm
   ·right;obtain rfl:i=X.length:=by omega
    refine⟨(X,M,E),?_,kn,hS,m1,m2,x0,fun c x hx=>mk c x (List.getElem?_eq_some_iff.1 hx).1 hx⟩;rw [yN];dsimp only;rw [if_neg ct_ge]) (fun s ⟨e1,hle,hS,m1,m2,x0,mk⟩=>by
   obtain⟨k,X,kn,M,E⟩:=s;dsimp only at e1 hle hS m1 m2 x0 mk;subst e1;have hXl:=hS.len;have hnq:n=X.length:=by omega
   refine⟨(X,M,E),?_,kn,by dsimp only;rw [←hnq];exact hnq▸hS,m1,by dsimp only;rw [←hnq];exact m2,x0,fun c x hx=>mk c x (by have h8:c<X.length:=(List.getElem?_eq_some_iff.1 hx).1;omega) hx⟩;rw [yN];dsimp only;rw [if_neg (by simp;omega)]) (Nat.zero_le _) (0,[0],kput [] 0 0,[],[]) ⟨rfl,by simp,hS0,List.Pairwise.nil,fun x hx=>(by cases hx),rfl,fun c x hc=>absurd hc (Nat.not_lt_zero _)⟩
 obtain⟨X,M,E⟩:=o;dsimp only at g2 g3 g4 g5 g6;have hXl:=g2.len;have hEl:=g2.el;have hMl:=y5U (n:=X.length) (lo:=0) g3 g4 (Int.le_refl _);have hX0:0<X.length:=(List.getElem?_eq_some_iff.1 g5).1;refine⟨(p.1.1,(X.length:Int),M,E),X,?_,⟨⟨rfl,by omega,hr.ali,hr.alr,g3,g4,fun x hx=>?_,g2.so,hl1,by dsimp only;omega,by dsimp only;omega⟩,rfl,fun _=>g5,g2.f.disc g2.nd g2.so g2.ea hr.alr,g6⟩,hXl,fun s hs=>?_⟩
 ·rw [if_neg (by simp),y8X (by omega) (by omega),yOb,Int.toNat_natCast,f1,yOb,g1];rfl
 ·obtain ⟨c,b,s,r,q1,q2,q3,q4,q5⟩:=g2.f.sn x hx;have e3:=(List.getElem?_eq_some_iff.1 q3).1;have e4:=(List.getElem?_eq_some_iff.1 q4).1;exact⟨by omega,by omega,by omega,by omega,g2.ea x hx⟩
 ·refine ⟨(g2.tr s hs).1,(g2.tr s hs).2,?_⟩;obtain⟨k,hk,rfl⟩:=List.getElem_of_mem hs;by_cases hk0:k=0
  ·subst hk0;rw [yGe hX0] at g5;rw [Option.some.inj g5,Int.toNat_zero,List.getD_eq_getElem?_getD,yGe hg0,Option.getD_some,hb]
  ·obtain ⟨x,hx,e⟩:=g2.f.cov k (by omega) hk;obtain⟨c,b,s,r,q1,q2,q3,q4,q5⟩:=g2.f.sn x hx;obtain rfl:b=k:=by omega
   rw [yGe hk] at q4;rw [Option.some.inj q4];exact((ycw hr).1 q5).2
inductive LiveG (a:AutT) (g:List Bool):Nat→Prop
 | mk {s:Nat}:g[s]? =some true→(s:Int)∈a.2.2.1→LiveG a g s
 | st {s t:Nat} {e:Int}:g[s]? =some true→((s:Int),e,(t:Int))∈a.2.2.2→LiveG a g t→LiveG a g s
structure DQs (a:AutT) (g:List Bool) (n:Nat) (Q d:List Int):Prop where
 dl:d.length=n
 qn:Q.Nodup
 qd:∀(k:Nat) (x:Int),Q[k]? =some x→∃s:Nat,x=(s:Int)∧s<n∧∃v:Int,d[s]? =some v∧0≤v∧v≤(k:Int)
 lv:∀(s:Nat) (v:Int),d[s]? =some v→0≤v→LiveG a g s
theorem DQs.len{a:AutT}{g:List Bool}{n:Nat}{Q d:List Int}(h:DQs a g n Q d):Q.length≤n:=by
 have hr:∀x∈Q,0≤x∧x<(n:Int):=fun x hx=>by
  obtain⟨k,hk,rfl⟩:=List.getElem_of_mem hx;obtain⟨s,e,h1,_⟩:=h.qd k _ (yGe hk);omega
 have:=y8g n (Q.map Int.toNat) (by
  unfold List.Nodup;rw [List.pairwise_map];refine h.qn.imp_of_mem fun {a b} ha hb hab=>?_;have h1:=hr a ha;have h2:=hr b hb;omega) (fun x hx=>by
  obtain⟨y,hy,rfl⟩:=List.mem_map.1 hx;have:=hr y hy;omega)
 simpa using this
theorem DQs.add{a:AutT}{g:List Bool}{n:Nat}{Q d:List Int}(h:DQs a g n Q d){s:Nat}(hs:s<n){v0 v:Int}(hd:d[s]? =some v0)(hv0:v0<0)(v1:0≤v)(v2:v≤(Q.length:Int))(hl:LiveG a g s):DQs a g n (Q++[(s:Int)]) (d.set s v):=by
 have hsd:s<d.length:=by rw [h.dl];exact hs
 refine⟨by rw [List.length_set];exact h.dl,?_,fun k x hx=>?_,fun t w hw h0=>?_⟩
 ·unfold List.Nodup;rw [List.pairwise_append];refine⟨h.qn,List.pairwise_singleton _ _,fun x hx y hy e=>?_⟩;rw [List.mem_singleton.1 hy] at e;subst e;obtain⟨k,hk,e⟩:=List.getElem_of_mem hx;obtain⟨s',e1,_,w,e2,e3,_⟩:=h.qd k _ (yGe hk);obtain rfl:s'=s:=by omega
  rw [hd] at e2;cases e2;omega
 ·by_cases hk:k<Q.length
  ·rw [List.getElem?_append_left hk] at hx;obtain⟨s',e1,e2,w,e3,e4,e5⟩:=h.qd k x hx;refine⟨s',e1,e2,?_⟩;rw [List.getElem?_set];by_cases e:s=s'
   ·subst e;rw [hd] at e3;cases e3;omega
   ·rw [if_neg e];exact⟨w,e3,e4,e5⟩
  ·rw [List.getElem?_append_right (by omega)] at hx;have hk2:k-Q.length=0:=by
    have:=(List.getElem?_eq_some_iff.1 hx).1;simp at this;omega
   rw [hk2] at hx;cases hx;exact⟨s,rfl,hs,v,by rw [List.getElem?_set,if_pos rfl,if_pos hsd],v1,by omega⟩
 ·rw [List.getElem?_set] at hw;by_cases e:s=t
  ·subst e;exact hl
  ·rw [if_neg e] at hw;exact h.lv t w hw h0
def IncOk(a:AutT)(n:Nat)(m:List (Int×List Int)):Prop:=∀(t:Int),((kget m t).getD []).length≤a.2.2.2.length∧∀x∈(kget m t).getD [],0≤x∧x<(n:Int)∧∃e,(x,e,t)∈a.2.2.2
section
variable{a:AutT}{n:Nat}{g:List Bool}{u:List Int}{m:List (Int×List Int)}
theorem yfE(hr:Right a n)(hg:g.length=n):∃Q d,iter (y1a (a,u,m,g)) (0,[],List.replicate n (-1))=some (Q,d)∧DQs a g n Q d:=by
 have hl2:=hr.l2;have hnl:=hr.nl;obtain⟨o,h1,h2⟩:=yd (f:=y1a (a,u,m,g)) (fun i s=>s.1=(i:Int)∧i≤a.2.2.1.length∧DQs a g n s.2.1 s.2.2∧∀(t:Nat) (v:Int),s.2.2[t]? =some v→0≤v→∃k,k<i∧a.2.2.1[k]? =some (t:Int)) (fun o=>DQs a g n o.1 o.2) a.2.2.1.length 0 (by omega) (fun i s hi ⟨e1,_,hd,hm⟩=>by
   obtain⟨c,Q,d⟩:=s;dsimp only at e1 hd hm;subst e1;have hQl:=hd.len;have hx:=hr.msr _ (List.getElem_mem hi);obtain⟨t,ht⟩:∃t:Nat,a.2.2.1[i]=(t:Int):=⟨(a.2.2.1[i]).toNat,by omega⟩;have htg:t<g.length:=by omega
   have htd:t<d.length:=by rw [hd.dl];omega
   left;rw [y1a];dsimp only;rw [if_pos (ct_lt hi),ya hi,yOb,ht,ya htg,yOb];cases hgb:g[t] with
   | true=>
    have hgt:g[t]? =some true:=by rw [yGe htg,hgb]
    have hneg:d[t]<0:=by
     refine Int.not_le.1 fun h0=>?_;obtain⟨k,hk,e⟩:=hm t _ (yGe htd) h0;have hkl:k<a.2.2.1.length:=by omega
     rw [yGe hkl] at e;have:=List.pairwise_iff_getElem.1 hr.msi k i hkl hi hk;rw [Option.some.inj e,ht] at this;omega
    rw [if_pos rfl,ya htd,yOb,y9k htd,yOb,yj (by simp;omega),yOb,yZ];dsimp only;rw [nxt (by omega)];refine⟨_,rfl,rfl,hi,hd.add (by omega) (yGe htd) hneg (Int.le_refl _) (by omega) (.mk hgt (by rw [←ht];exact List.getElem_mem hi)),fun s' v hv h0=>?_⟩;dsimp only at hv;rw [List.getElem?_set] at hv;by_cases e:t=s'
    ·subst e;exact⟨i,by omega,by rw [yGe hi,ht]⟩
    ·rw [if_neg e] at hv;obtain⟨k,hk,e2⟩:=hm s' v hv h0;exact⟨k,by omega,e2⟩
   | false=>
    rw [if_neg (by simp),yZ];dsimp only;rw [nxt (by omega)];refine⟨_,rfl,rfl,hi,hd,fun s' v hv h0=>?_⟩;obtain⟨k,hk,e2⟩:=hm s' v hv h0;exact⟨k,by omega,e2⟩) (fun s ⟨e1,_,hd,hm⟩=>by
   obtain⟨c,Q,d⟩:=s;dsimp only at e1 hd;subst e1;refine⟨(Q,d),?_,hd⟩;rw [y1a];dsimp only;rw [if_neg ct_ge]) (Nat.zero_le _) (0,[],List.replicate n (-1)) ⟨rfl,Nat.zero_le _,⟨by simp,List.nodup_nil,fun k x hx=>by simp at hx,fun s v hv h0=>by
    rw [List.getElem?_replicate] at hv;split at hv
    ·cases hv;omega
    ·cases hv⟩,fun s v hv h0=>by
    dsimp only at hv;rw [List.getElem?_replicate] at hv;split at hv
    ·cases hv;omega
    ·cases hv⟩
 exact⟨o.1,o.2,h1,h2⟩
theorem yiu(hr:Right a n)(hg:g.length=n)(hm:IncOk a n m){i:Nat}{Q d:List Int}(hd:DQs a g n Q d)(hi:i<Q.length)(z:List Int×List Int):
  ∃Q' d',iter (yX (a,u,m,g) ((i:Int),z) Q[i]) (0,Q,d)=some (Q',d')∧DQs a g n Q' d'∧Q.length≤Q'.length:=by
 have hl3:=hr.l3;have hnl:=hr.nl;obtain⟨ml,mm⟩:=hm Q[i];obtain⟨q,hq,hqn,vq,hvq,hvq0,_⟩:=hd.qd i _ (yGe hi);have hlq:=hd.lv q vq hvq hvq0;obtain⟨o,h1,h2,h3⟩:=yd (f:=yX (a,u,m,g) ((i:Int),z) Q[i]) (fun k s=>s.1=(k:Int)∧k≤((kget m Q[i]).getD []).length∧DQs a g n s.2.1 s.2.2∧Q.length≤s.2.1.length) (fun o=>DQs a g n o.1 o.2∧Q.length≤o.1.length) ((kget m Q[i]).getD []).length 0 (by omega) (fun k s hk ⟨e1,_,hd1,hle⟩=>by
   obtain⟨c,Q1,d1⟩:=s;dsimp only at e1 hd1 hle;subst e1;have hQl:=hd1.len;obtain⟨x0,x1,e,hxe⟩:=mm _ (List.getElem_mem hk);obtain⟨t,ht⟩:∃t:Nat,((kget m Q[i]).getD [])[k]=(t:Int):=⟨(((kget m Q[i]).getD [])[k]).toNat,by omega⟩;rw [ht] at hxe x1;have htg:t<g.length:=by omega
   have htd:t<d1.length:=by rw [hd1.dl];omega
   have hi1:i<Q1.length:=by omega
   have hj1:∀Q2 d2,yW ((k:Int),Q1,d1) Q2 d2=some (.inl (((k+1:Nat):Int),Q2,d2)):=fun Q2 d2=>by
    rw [yW];dsimp only;rw [nxt (by omega)]
   left;rw [yX];dsimp only;rw [if_pos (ct_lt hk),ya hk,yOb,ht,ya htg,yOb,ya htd];cases hgb:g[t] with
   | true=>
    have hgt:g[t]? =some true:=by rw [yGe htg,hgb]
    rw [if_pos rfl,yOb,yOb];by_cases hneg:d1[t]<0
    ·obtain ⟨q1,e1,e2,v1,e3,e4,e5⟩:=hd1.qd i _ (yGe hi1);have hq1d:q1<d1.length:=by rw [hd1.dl];exact e2
     have hv1:d1[q1]=v1:=by
      rw [yGe hq1d] at e3;exact Option.some.inj e3
     rw [if_pos (by simpa using hneg),ya hi1,yOb,e1,ya hq1d,yOb,yOb,y9k htd,yOb,yj (by simp;omega),yOb,hj1];refine⟨_,rfl,rfl,hk,hd1.add (by omega) (yGe htd) hneg ?_ ?_ (.st (e:=e) hgt ?_ hlq),by dsimp only;simp;omega⟩
     ·rw [hv1,W_of (by omega) (by omega)];omega
     ·rw [hv1,W_of (by omega) (by omega)];omega
     ·rw [←hq];exact hxe
    ·rw [if_neg (by simpa using hneg),hj1];exact⟨_,rfl,rfl,hk,hd1,hle⟩
   | false=>
    rw [if_neg (by simp),yOb,if_neg (by simp),hj1];exact⟨_,rfl,rfl,hk,hd1,hle⟩) (fun s ⟨e1,_,hd1,hle⟩=>by
   obtain⟨c,Q1,d1⟩:=s;dsimp only at e1 hd1 hle;subst e1;refine⟨(Q1,d1),?_,hd1,hle⟩;rw [yX];dsimp only;rw [if_neg ct_ge]) (Nat.zero_le _) (0,Q,d) ⟨rfl,Nat.zero_le _,hd,Nat.le_refl _⟩
 exact⟨o.1,o.2,h1,h2,h3⟩
theorem yfj(hr:Right a n)(hg:g.length=n)(hm:IncOk a n m):∃d,y1r (a,u,m,g)=some d∧d.length=n∧∀(s:Nat) (v:Int),d[s]? =some v→0≤v→LiveG a g s:=by
 have hnn:=hr.nn;have hnl:=hr.nl;have hf:iter (y1b (List.replicate n 0)) (0,List.replicate n 0)=some (List.replicate n (-1)):=by
  obtain⟨o,g1,rfl⟩:=yd (f:=y1b (List.replicate n 0)) (fun i s=>i≤n∧s=((i:Int),List.replicate i (-1)++List.replicate (n-i) 0)) (fun o=>o=List.replicate n (-1)) n 0 (by omega) (fun i s hi ⟨_,e1⟩=>by
    subst e1;refine .inl ⟨(((i+1:Nat):Int),List.replicate (i+1) (-1)++List.replicate (n-(i+1)) 0),?_,hi,rfl⟩;rw [y1b];dsimp only;rw [if_pos (by simp;omega),ya (by simp;omega),yOb,y9k (by simp;omega),yOb,nxt (by omega)];rw [List.set_append_right _ _ (by simp),List.length_replicate,Nat.sub_self,show n-i=(n-(i+1))+1 by omega,List.replicate_succ,List.set_cons_zero,List.replicate_succ',List.append_assoc];rfl) (fun s ⟨_,e1⟩=>by
    subst e1;refine⟨_,?_,rfl⟩;rw [y1b];dsimp only;rw [if_neg (by simp),Nat.sub_self];simp) (Nat.zero_le _) (0,List.replicate n 0) ⟨Nat.zero_le _,by simp⟩
  exact g1
 obtain⟨Q,d,h1,h2⟩:=yfE (u:=u) (m:=m) hr hg;obtain⟨o,h3,h4,h5⟩:=yd (f:=yY (a,u,m,g)) (fun i s=>s.1=(i:Int)∧i≤s.2.1.length∧DQs a g n s.2.1 s.2.2) (fun o=>o.length=n∧∀(s:Nat) (v:Int),o[s]? =some v→0≤v→LiveG a g s) n 0 (by omega) (fun i s hi ⟨e1,hle,hd⟩=>by
   obtain⟨c,Q,d⟩:=s;dsimp only at e1 hd hle;subst e1;by_cases hiq:i<Q.length
   ·left;obtain⟨Q',d',w1,w2,w3⟩:=yiu (u:=u) hr hg hm hd hiq (Q,d);rw [yY];dsimp only;rw [if_pos (ct_lt hiq),ya hiq,yOb,w1,yOb,nxt (by omega)];exact⟨_,rfl,rfl,by dsimp only;omega,w2⟩
   ·right;obtain rfl:i=Q.length:=by omega
    refine⟨d,?_,hd.dl,hd.lv⟩;rw [yY];dsimp only;rw [if_neg ct_ge]) (fun s ⟨e1,hle,hd⟩=>by
   obtain⟨c,Q,d⟩:=s;dsimp only at e1 hd hle;subst e1;have:=hd.len;refine⟨d,?_,hd.dl,hd.lv⟩;rw [yY];dsimp only;rw [if_neg (by simp;omega)]) (Nat.zero_le _) (0,Q,d) ⟨rfl,Nat.zero_le _,h2⟩
 refine⟨o,?_,h4,h5⟩;rw [y1r];dsimp only;rw [hnn,y8X (by omega) (by omega),yOb,Int.toNat_natCast,hf,yOb,h1,yOb,h3];rfl
end
theorem ygt :∀{g g':List Bool},g'.length=g.length→(∀s:Nat,g'[s]? =some true→g[s]? =some true)→g'.count true≤g.count true
 | [],[],_,_=>Nat.le_refl _
 | [],_::_,h,_=>by simp at h
 | _::_,[],h,_=>by simp at h
 | x::g,y::g',h,hs=>by
  have ih:=ygt (g:=g) (g':=g') (by simpa using h) fun s hs'=>hs (s+1) (by simpa using hs');have h0:=hs 0;cases y with
  | true=>
   have:x=true:=by simpa using h0 rfl
   subst this;simp [ih]
  | false=>cases x <;> simp <;> omega
theorem ygu :∀{g g':List Bool},g'.length=g.length→(∀s:Nat,g'[s]? =some true→g[s]? =some true)→∀{s:Nat},g[s]? =some true→g'[s]? ≠some true→g'.count true<g.count true
 | [],[],_,_,s,h,_=>by simp at h
 | [],_::_,h,_,_,_,_=>by simp at h
 | _::_,[],h,_,_,_,_=>by simp at h
 | x::g,y::g',h,hs,0,h1,h2=>by
  have:=ygt (g:=g) (g':=g') (by simpa using h) fun s hs'=>hs (s+1) (by simpa using hs');have hx:x=true:=by simpa using h1
  subst hx;cases y with
  | true=>exact absurd rfl h2
  | false=>simp;omega
 | x::g,y::g',h,hs,s+1,h1,h2=>by
  have:=ygu (g:=g) (g':=g') (by simpa using h) (fun s hs'=>hs (s+1) (by simpa using hs')) (s:=s) (by simpa using h1) (by simpa using h2);have h0:=hs 0;cases y with
  | true=>
   have hx:x=true:=by simpa using h0 rfl
   subst hx;simp;omega
  | false=>cases x <;> simp <;> omega
theorem yfF{L:List (Int×Int×Int×Int)}(h:∀x∈L,0≤x.1∧x.1<4294967296)(hl:L.length≤4294967296):∃r,y2y L=some r:=by
 unfold y2y;by_cases h0:L= []
 ·subst h0;rw [dif_neg (by simp),if_pos rfl];exact⟨_,rfl⟩
 ·rw [dif_pos ⟨h,hl,List.length_pos_iff.2 h0⟩];exact⟨_,rfl⟩
def RemIn(g:List Bool)(L:List (Int×Int×Int×Int)):Prop:=∀x∈L,∃s:Nat,x.1=(s:Int)∧g[s]? =some true
theorem RemIn.app{g:List Bool}{L:List (Int×Int×Int×Int)}(h:RemIn g L){x:Int×Int×Int×Int}{s:Nat}(hx:x.1=(s:Int))(hg:g[s]? =some true):RemIn g (L++[x]):=fun y hy=>by
 rcases List.mem_append.1 hy with hy|hy
 ·exact h y hy
 ·rw [List.mem_singleton.1 hy];exact⟨s,hx,hg⟩
section
variable{a:AutT}{n:Nat}{g:List Bool}{u:List Int}{m:List (Int×List Int)}
theorem yiv(hr:Right a n)(hg:g.length=n)(hu:u.length<4611686018427387904)(k:Int):∃L,y3V (a,u,m,g) k=some L∧L.length≤a.2.2.2.length∧RemIn g L:=by
 have hl3:=hr.l3;have hnl:=hr.nl;obtain⟨o,h1,h2,h3⟩:=yd (f:=y2V (a,u,m,g) k) (fun i s=>s.1=(i:Int)∧i≤a.2.2.2.length∧s.2.length≤i∧RemIn g s.2) (fun o=>o.length≤a.2.2.2.length∧RemIn g o) a.2.2.2.length 0 (by omega) (fun i s hi ⟨e1,_,hL,hR⟩=>by
   obtain⟨c,L⟩:=s;dsimp only at e1 hL hR;subst e1;have hx:=hr.es _ (List.getElem_mem hi);obtain⟨q,hq⟩:∃q:Nat,(a.2.2.2[i]).1=(q:Int):=⟨(a.2.2.2[i]).1.toNat,by omega⟩;obtain⟨t,ht⟩:∃t:Nat,(a.2.2.2[i]).2.2=(t:Int):=⟨(a.2.2.2[i]).2.2.toNat,by omega⟩;have hqg:q<g.length:=by omega
   have htg:t<g.length:=by omega
   have hj1:∀L':List (Int×Int×Int×Int),L'.length≤i+1→RemIn g L'→∃s',y1g ((i:Int),L) L'=some (.inl s')∧s'.1=((i+1:Nat):Int)∧i+1≤a.2.2.2.length∧s'.2.length≤i+1∧RemIn g s'.2:=fun L' g1 g2=>by
    rw [y1g];dsimp only;rw [nxt (by omega)];exact⟨_,rfl,rfl,hi,g1,g2⟩
   have hj3:g[q]? =some true→∀b,∃s',y1Q k ((i:Int),L) a.2.2.2[i] b=some (.inl s')∧s'.1=((i+1:Nat):Int)∧i+1≤a.2.2.2.length∧s'.2.length≤i+1∧RemIn g s'.2:=fun hgq b=>by
    rw [y1Q];cases b with
    | true=>
     rw [if_pos rfl];exact hj1 _ (by dsimp only;omega) hR
    | false=>
     rw [if_neg (by simp)];dsimp only;rw [yj (by simp;omega),yOb];exact hj1 _ (by simp;omega) (hR.app hq hgq)
   left;rw [y2V];dsimp only;rw [if_pos (ct_lt hi),ya hi,yOb,hq,ya hqg,yOb];cases hgb:g[q] with
   | false=>
    rw [if_pos (show (!false)=true from rfl),yC,if_pos rfl];exact hj1 _ (by dsimp only;omega) hR
   | true=>
    have hgq:g[q]? =some true:=by rw [yGe hqg,hgb]
    rw [if_neg (by simp),ht,ya htg,yOb];cases g[t] with
    | true=>
     rw [if_pos rfl,yC,if_pos rfl];exact hj1 _ (by dsimp only;omega) hR
    | false=>
     rw [if_neg (by simp),y3D hu,yOb,yC];cases hasB u (a.2.2.2[i]).2.1 with
     | false=>
      rw [if_pos (show (!false)=true from rfl)];exact hj1 _ (by dsimp only;omega) hR
     | true=>
      rw [if_neg (by simp)];dsimp only;by_cases hL0:0<L.length
      ·rw [if_pos (by rw [decide_eq_true_eq];omega),show W ((L.length:Int)-1)=((L.length-1:Nat):Int) by rw [W_of (by omega) (by omega)];omega,ya (by omega),yOb];exact hj3 hgq _
      ·rw [if_neg (by rw [decide_eq_true_eq];omega)];exact hj3 hgq _) (fun s ⟨e1,_,hL,hR⟩=>by
   obtain⟨c,L⟩:=s;dsimp only at e1 hL hR;subst e1;refine⟨L,?_,hL,hR⟩;rw [y2V];dsimp only;rw [if_neg ct_ge]) (Nat.zero_le _) (0,[]) ⟨rfl,Nat.zero_le _,Nat.zero_le _,fun x hx=>by cases hx⟩
 exact⟨o,by rw [y3V,h1];rfl,h2,h3⟩
theorem yfG(hr:Right a n)(hg:g.length=n)(hm:IncOk a n m)(k:Int):∃L,y2W (a,u,m,g) k=some L∧L.length≤n∧RemIn g L∧(L= []→∀s:Nat,g[s]? =some true→LiveG a g s):=by
 have hnl:=hr.nl;obtain⟨d,d1,d2,d3⟩:=yfj (u:=u) hr hg hm;obtain⟨o,h1,h2,h3,h4⟩:=yd (f:=y2q (a,u,m,g) k d) (fun i s=>s.1=(i:Int)∧i≤n∧s.2.length≤i∧RemIn g s.2∧(s.2= []→∀t:Nat,t<i→g[t]? =some true→LiveG a g t)) (fun o=>o.length≤n∧RemIn g o∧(o= []→∀t:Nat,t<n→g[t]? =some true→LiveG a g t)) n 0 (by omega) (fun i s hi ⟨e1,_,hL,hR,hv⟩=>by
   obtain⟨c,L⟩:=s;dsimp only at e1 hL hR hv;subst e1;have hid:i<d.length:=by omega
   have hig:i<g.length:=by omega
   left;rw [y2q];dsimp only;rw [if_pos (by simp;omega),ya hid,yOb,ya hig,yOb];by_cases hb:g[i]=true∧d[i]<0
   ·rw [if_pos (by simp;exact hb),yj (by simp;omega),yOb,y1k];dsimp only;rw [nxt (by omega)];exact⟨_,rfl,rfl,hi,by simp;omega,hR.app rfl (by rw [yGe hig,hb.1]),fun h=>by simp at h⟩
   ·rw [if_neg (by simp;exact fun h=>Int.not_lt.1 fun h2=>hb ⟨h,h2⟩),y1k];dsimp only;rw [nxt (by omega)];refine⟨_,rfl,rfl,hi,by dsimp only;omega,hR,fun h t ht hgt=>?_⟩;by_cases e:t=i
    ·subst e;refine d3 t _ (yGe hid) (Int.not_lt.1 fun h2=>hb ⟨?_,h2⟩);rw [yGe hig] at hgt;exact Option.some.inj hgt
    ·exact hv h t (by omega) hgt) (fun s ⟨e1,_,hL,hR,hv⟩=>by
   obtain⟨c,L⟩:=s;dsimp only at e1 hL hR hv;subst e1;refine⟨L,?_,hL,hR,hv⟩;rw [y2q];dsimp only;rw [if_neg (by simp;omega)]) (Nat.zero_le _) (0,[]) ⟨rfl,Nat.zero_le _,Nat.zero_le _,fun x hx=>by(cases hx),fun _ t ht=>absurd ht (Nat.not_lt_zero _)⟩
 refine⟨o,by rw [y2W,d1,yOb,h1];rfl,h2,h3,fun h s hs=>h4 h s ?_ hs⟩;rw [←hg];exact(List.getElem?_eq_some_iff.1 hs).1
theorem yew(hr:Right a n)(hg:g.length=n)(hm:IncOk a n m)(hu:u.length<4611686018427387904)(k:Int):∃L,y3W (a,u,m,g) k true=some L∧L.length≤1000000∧RemIn g L∧(L= []→∀s:Nat,g[s]? =some true→LiveG a g s):=by
 have hl3:=hr.l3;have hnl:=hr.nl;obtain⟨L,h1,h2,h3⟩:=yiv (m:=m) hr hg hu k;obtain⟨L',w1,w2,w3,w4⟩:=yfG (u:=u) hr hg hm k;rw [y3W,h1,yOb];by_cases h0:0<L.length
 ·rw [if_pos (by rw [decide_eq_true (show (L.length:Int)>0 by omega)];rfl)];exact⟨L,rfl,by omega,h3,fun h=>by rw [h] at h0;simp at h0⟩
 ·rw [if_neg (by rw [decide_eq_false (show ¬(L.length:Int)>0 by omega)];simp),w1];exact⟨L',rfl,by omega,w3,w4⟩
theorem ygv(hr:Right a n){f:List Int}(hf:∀x∈f,0≤x∧x<(n:Int))(hfl:f.length≤1000000)(u:List Int):∃m g,y6q a f u=some (a,u,m,g)∧g.length=n∧IncOk a n m:=by
 have hnn:=hr.nn;have hnl:=hr.nl;have hl3:=hr.l3;have h1:iter (y4f (List.replicate n false)) (0,List.replicate n false)=some (List.replicate n true):=by
  obtain⟨o,g1,rfl⟩:=yd (f:=y4f (List.replicate n false)) (fun i s=>i≤n∧s=((i:Int),List.replicate i true++List.replicate (n-i) false)) (fun o=>o=List.replicate n true) n 0 (by omega) (fun i s hi ⟨_,e1⟩=>by
    subst e1;refine .inl ⟨(((i+1:Nat):Int),List.replicate (i+1) true++List.replicate (n-(i+1)) false),?_,hi,rfl⟩;rw [y4f];dsimp only;rw [if_pos (by simp;omega),ya (by simp;omega),yOb,y9k (by simp;omega),yOb,nxt (by omega)];rw [List.set_append_right _ _ (by simp),List.length_replicate,Nat.sub_self,show n-i=(n-(i+1))+1 by omega,List.replicate_succ,List.set_cons_zero,List.replicate_succ',List.append_assoc];rfl) (fun s ⟨_,e1⟩=>by
    subst e1;refine⟨_,?_,rfl⟩;rw [y4f];dsimp only;rw [if_neg (by simp),Nat.sub_self];simp) (Nat.zero_le _) (0,List.replicate n false) ⟨Nat.zero_le _,by simp⟩
  exact g1
 obtain⟨g,h2,h3⟩:=yd (f:=y5w f) (fun i s=>s.1=(i:Int)∧i≤f.length∧s.2.length=n) (fun o=>o.length=n) f.length 0 (by omega) (fun i s hi ⟨e1,_,hl⟩=>by
   obtain⟨c,g⟩:=s;dsimp only at e1 hl;subst e1;have hx:=hf _ (List.getElem_mem hi);obtain⟨t,ht⟩:∃t:Nat,f[i]=(t:Int):=⟨(f[i]).toNat,by omega⟩;have htg:t<g.length:=by omega
   left;rw [y5w];dsimp only;rw [if_pos (ct_lt hi),ya hi,yOb,ht,ya htg,yOb,y9k htg,yOb,nxt (by omega)];exact⟨_,rfl,rfl,hi,by dsimp only;rw [List.length_set];exact hl⟩) (fun s ⟨e1,_,hl⟩=>by
   obtain⟨c,g⟩:=s;dsimp only at e1 hl;subst e1;refine⟨g,?_,hl⟩;rw [y5w];dsimp only;rw [if_neg ct_ge]) (Nat.zero_le _) (0,List.replicate n true) ⟨rfl,Nat.zero_le _,by simp⟩
 obtain⟨m,h4,h5⟩:=yd (f:=y5v a) (fun i s=>s.1=(i:Int)∧i≤a.2.2.2.length∧∀t,((kget s.2 t).getD []).length≤i∧∀x∈(kget s.2 t).getD [],0≤x∧x<(n:Int)∧∃e,(x,e,t)∈a.2.2.2) (fun o=>IncOk a n o) a.2.2.2.length 0 (by omega) (fun i s hi ⟨e1,_,hm⟩=>by
   obtain⟨c,m⟩:=s;dsimp only at e1 hm;subst e1;have hx:=hr.es _ (List.getElem_mem hi);obtain⟨m1,m2⟩:=hm (a.2.2.2[i]).2.2;left;rw [y5v];dsimp only;rw [if_pos (ct_lt hi),ya hi,yOb,yj (by simp;omega),yOb,nxt (by omega)];refine⟨_,rfl,rfl,hi,fun t=>?_⟩;dsimp only;rw [y6f];by_cases e:t=(a.2.2.2[i]).2.2
   ·subst e;rw [if_pos rfl,Option.getD_some];refine⟨by simp;omega,fun x hx'=>?_⟩;rcases List.mem_append.1 hx' with hx'|hx'
    ·exact m2 x hx'
    ·rw [List.mem_singleton.1 hx'];exact⟨hx.1,hx.2.1,(a.2.2.2[i]).2.1,List.getElem_mem hi⟩
   ·rw [if_neg e];exact⟨by have:=(hm t).1;omega,(hm t).2⟩) (fun s ⟨e1,_,hm⟩=>by
   obtain⟨c,m⟩:=s;dsimp only at e1 hm;subst e1;refine⟨m,?_,hm⟩;rw [y5v];dsimp only;rw [if_neg ct_ge]) (Nat.zero_le _) (0,[]) ⟨rfl,Nat.zero_le _,fun t=>⟨by simp [kget],fun x hx=>by simp [kget] at hx⟩⟩
 refine⟨m,g,?_,h3,h5⟩;rw [y6q,hnn,y8X (by omega) (by omega),yOb,Int.toNat_natCast,h1,yOb,h2,yOb,h4];rfl
theorem yht(hn:n≤4096)(hg:g.length=n){L:List (Int×Int×Int×Int)}(hL:RemIn g L)(hl:L.length≤1000000):∃g',iter (y3M L) (0,g)=some g'∧g'.length=n∧(∀s:Nat,g'[s]? =some true→g[s]? =some true)∧∀(k s:Nat) (h:k<L.length),(L[k]).1=(s:Int)→g'[s]? ≠some true:=by
 obtain⟨o,h1,h2,h3,h4⟩:=yd (f:=y3M L) (fun i s=>s.1=(i:Int)∧i≤L.length∧s.2.length=n∧(∀t:Nat,s.2[t]? =some true→g[t]? =some true)∧∀(k t:Nat) (h:k<L.length),k<i→(L[k]).1=(t:Int)→s.2[t]? ≠some true) (fun o=>o.length=n∧(∀t:Nat,o[t]? =some true→g[t]? =some true)∧∀(k t:Nat) (h:k<L.length),(L[k]).1=(t:Int)→o[t]? ≠some true) L.length 0 (by omega) (fun i s hi ⟨e1,_,q1,q2,q3⟩=>by
   obtain⟨c,g1⟩:=s;dsimp only at e1 q1 q2 q3;subst e1;obtain⟨t,ht,hgt⟩:=hL _ (List.getElem_mem hi);have htl:t<g1.length:=by
    have:=(List.getElem?_eq_some_iff.1 hgt).1;omega
   left;rw [y3M];dsimp only;rw [if_pos (ct_lt hi),ya hi,yOb,ht,ya htl,yOb,y9k htl,yOb,nxt (by omega)];refine⟨_,rfl,rfl,hi,by dsimp only;rw [List.length_set];exact q1,fun s' hs'=>?_,fun k s' hk hki e=>?_⟩
   ·dsimp only at hs';rw [List.getElem?_set] at hs';by_cases e2:t=s'
    ·subst e2;rw [if_pos rfl,if_pos htl] at hs';cases hs'
    ·rw [if_neg e2] at hs';exact q2 s' hs'
   ·dsimp only;rw [List.getElem?_set];by_cases e2:t=s'
    ·subst e2;rw [if_pos rfl,if_pos htl];simp
    ·rw [if_neg e2];by_cases e3:k=i
     ·subst e3;omega
     ·exact q3 k s' hk (by omega) e) (fun s ⟨e1,_,q1,q2,q3⟩=>by
   obtain⟨c,g1⟩:=s;dsimp only at e1 q1 q2 q3;subst e1;refine⟨g1,?_,q1,q2,fun k t h e=>q3 k t h h e⟩;rw [y3M];dsimp only;rw [if_neg ct_ge]) (Nat.zero_le _) (0,g) ⟨rfl,Nat.zero_le _,hg,fun t h=>h,fun k t h hk=>absurd hk (Nat.not_lt_zero _)⟩
 exact⟨o,h1,h2,h3,h4⟩
end
section
variable{a:AutT}{n:Nat}{u f:List Int}
structure SynOk (a:AutT) (n:Nat) (g:List Bool) (r:AutT) (X:List Int):Prop where
 gl:g.length=n
 can:CanOf (stK a g) a.1 a.2.2.1 r X
 le:X.length≤n
 kept:∀s∈X,0≤s∧s<(n:Int)∧g.getD s.toNat false=true
 live:∀s:Nat,g[s]? =some true→LiveG a g s
theorem ygw(hr:Right a n)(hn:n≤40)(hf:∀x∈f,0≤x∧x<(n:Int))(hfl:f.length≤1000000)(hu:u.length<4611686018427387904):
  ∃z k g r X,y5Z a f u true=some (z,k,r,X)∧SynOk a n g r X:=by
 obtain⟨m,g0,s1,s2,s3⟩:=ygv hr hf hfl u;obtain⟨o1,h1,h2,h3⟩:=yd (f:=y5m f) (fun i s=>s.1=(i:Int)∧i≤f.length∧s.2.1.length≤i∧∀x∈s.2.1,0≤x.1∧x.1<(n:Int)) (fun o=>o.1.length≤f.length∧∀x∈o.1,0≤x.1∧x.1<(n:Int)) f.length 0 (by omega) (fun i s hi ⟨e1,_,q1,q2⟩=>by
   obtain⟨c,L,w⟩:=s;dsimp only at e1 q1 q2;subst e1;left;rw [y5m];dsimp only;rw [if_pos (ct_lt hi),ya hi,yOb,yj (by simp;omega),yOb,nxt (by omega)];refine⟨_,rfl,rfl,hi,by simp;omega,fun x hx=>?_⟩;dsimp only at hx;rcases List.mem_append.1 hx with hx|hx
   ·exact q2 x hx
   ·rw [List.mem_singleton.1 hx];exact hf _ (List.getElem_mem hi)) (fun s ⟨e1,_,q1,q2⟩=>by
   obtain⟨c,L,w⟩:=s;dsimp only at e1 q1 q2;subst e1;refine⟨(L,w),?_,q1,q2⟩;rw [y5m];dsimp only;rw [if_neg ct_ge]) (Nat.zero_le _) (0,[],0) ⟨rfl,Nat.zero_le _,Nat.zero_le _,fun x hx=>by cases hx⟩
 obtain⟨o2,h4,h5,h6,h7,h8⟩:=yd (f:=y5l true (a,u,m,g0)) (fun i s=>s.2.1.length≤1000000+i*1000000∧(∀x∈s.2.1,0≤x.1∧x.1<(n:Int))∧s.2.2.2.length=n∧i+s.2.2.2.count true≤n) (fun o=>o.1.length≤100000000∧(∀x∈o.1,0≤x.1∧x.1<(n:Int))∧o.2.2.length=n∧∀s:Nat,o.2.2[s]? =some true→LiveG a o.2.2 s) n 0 (by omega) (fun i s hi ⟨q1,q2,q3,q4⟩=>by
   obtain⟨c,L,w,g⟩:=s;dsimp only at q1 q2 q3 q4;obtain⟨R,r1,r2,r3,r4⟩:=yew (u:=u) hr q3 s3 hu c;rw [y5l];dsimp only;rw [r1,yOb];by_cases h0:R= []
   ·right;subst h0;rw [if_pos (by simp)];exact⟨_,rfl,by dsimp only;omega,q2,q3,r4 rfl⟩
   ·left;have hRl:0<R.length:=List.length_pos_iff.2 h0;obtain⟨g',w1,w2,w3,w4⟩:=yht (n:=n) (by omega) q3 r3 r2;rw [if_neg (by simp [h0]),w1,yOb,yj (by omega),yOb];obtain⟨t,ht,hgt⟩:=r3 _ (List.getElem_mem hRl);have hc:=ygu (by omega) w3 hgt (w4 0 t hRl ht);refine⟨_,rfl,by simp;omega,fun x hx=>?_,w2,by dsimp only;omega⟩;dsimp only at hx;rcases List.mem_append.1 hx with hx|hx
    ·exact q2 x hx
    ·obtain ⟨s',e,hs'⟩:=r3 x hx;have:=(List.getElem?_eq_some_iff.1 hs').1;omega) (fun s ⟨q1,q2,q3,q4⟩=>by
   obtain⟨c,L,w,g⟩:=s;dsimp only at q1 q2 q3 q4;obtain⟨R,r1,r2,r3,r4⟩:=yew (u:=u) hr q3 s3 hu c;rw [y5l];dsimp only;rw [r1,yOb];by_cases h0:R= []
   ·subst h0;rw [if_pos (by simp)];exact⟨_,rfl,by dsimp only;omega,q2,q3,r4 rfl⟩
   ·exfalso;have hRl:0<R.length:=List.length_pos_iff.2 h0;obtain⟨t,ht,hgt⟩:=r3 _ (List.getElem_mem hRl);have:0<g.count true:=List.count_pos_iff.2 (List.mem_of_getElem? hgt);omega) (Nat.zero_le _) (2,o1.1,o1.2,g0) ⟨by dsimp only;omega,h3,s2,by
    dsimp only;have:=List.count_le_length (a:=true) (l:=g0);omega⟩
 obtain⟨rem,hrem⟩:=yfF (fun x hx=>by have:=h6 x hx;omega) (by omega:o2.1.length≤4294967296);obtain⟨d,d1,d2,d3⟩:=yfj (u:=u) hr h7 s3;obtain⟨o3,h9⟩:∃o3,iter (y3L o2 d) (0,[],[])=some o3:=by
  obtain⟨o,w,_⟩:=yd (f:=y3L o2 d) (fun i s=>s.1=(i:Int)∧i≤n∧s.2.1.length≤i∧s.2.2.length≤i) (fun o=>True) n 0 (by omega) (fun i s hi ⟨e1,_,q1,q2⟩=>by
    obtain⟨c,A,B⟩:=s;dsimp only at e1 q1 q2;subst e1;have hid:i<d.length:=by omega
    have hig:i<o2.2.2.length:=by omega
    left;rw [y3L];dsimp only;rw [if_pos (by simp;omega),ya hid,yOb,ya hig,yOb];cases o2.2.2[i] with
    | true=>
     rw [if_pos rfl,yj (by simp;omega),yOb,yj (by simp;omega),yOb,y3K];dsimp only;rw [nxt (by omega)];exact⟨_,rfl,rfl,hi,by simp;omega,by simp;omega⟩
    | false=>
     rw [if_neg (by simp),y3K];dsimp only;rw [nxt (by omega)];exact⟨_,rfl,rfl,hi,by dsimp only;omega,by dsimp only;omega⟩) (fun s ⟨e1,_,q1,q2⟩=>by
    obtain⟨c,A,B⟩:=s;dsimp only at e1 q1 q2;subst e1;refine⟨(A,B),?_,trivial⟩;rw [y3L];dsimp only;rw [if_neg (by simp;omega)]) (Nat.zero_le _) (0,[],[]) ⟨rfl,Nat.zero_le _,Nat.zero_le _,Nat.zero_le _⟩
  exact⟨o,w⟩
 obtain⟨r,X,x1,x2,x3,x4⟩:=yhs hr h7 (a,u,m,o2.2.2) rfl rfl;refine⟨(o3.1,o3.2,rem),o2.2.1,o2.2.2,r,X,?_,h7,x2,x3,x4,h8⟩;rw [y5Z,s1,yOb,h1,yOb];dsimp only;rw [h4,yOb,hrem,yOb,d1,yOb,h9,yOb,x1];rfl
theorem yiV(hr:Right a n)(hn:n≤40)(hfi:Inc f)(hf:∀x∈f,0≤x∧x<(n:Int))(hui:Inc u)(hur:∀x∈u,0≤x∧x<32):
  ∃z k g r X,y3v a f u=some ((z,k,r,X),0)∧SynOk a n g r X:=by
 have hfl:=y5U (n:=n) (lo:=0) hfi hf (Int.le_refl _);have hul:=Alp.len ⟨hui,hur⟩;obtain⟨z,k,g,r,X,h1,h2⟩:=ygw hr hn hf (by omega) (u:=u) (by omega);refine⟨z,k,g,r,X,?_,h2⟩;have hc:y6p a f u=some 0:=by
  rw [y6p,yeJ hr.l1 hr.l2 hr.l3,hr.err,yOb,if_neg (by simp),hr.nn,yb4 (by omega),y7a hfi hf (fun q hq=>by cases hq),yOb,if_neg (by simp),yb4 (by omega),y7a hui hur (fun q hq=>by cases hq)];rfl
 rw [y3v,hc,yOb,if_neg (by simp),h1];rfl
theorem ydN(hr:Right a n)(s e:Int):y4e a s e=some ((st1 a s e).getD (-1)):=by
 have hl3:=hr.l3;obtain⟨o,h1,h2⟩:=yd (f:=y4q a s e) (fun i c=>c=(i:Int)∧i≤a.2.2.2.length∧∀k (h:k<a.2.2.2.length),k<i→¬((a.2.2.2[k]).1=s∧(a.2.2.2[k]).2.1=e)) (fun o=>match o with
  | .inl _=>st1 a s e=none
  | .inr t=>st1 a s e=some t) a.2.2.2.length 0 (by omega) (fun i c hi ⟨e1,_,hk⟩=>by
   subst e1;rw [y4q,if_pos (ct_lt hi),ya hi,yOb];by_cases hx:(a.2.2.2[i]).1=s∧(a.2.2.2[i]).2.1=e
   ·right;rw [if_pos (by simpa using hx.1),yOb,yOb,if_pos (by simpa using hx.2),yOb];refine⟨_,rfl,?_⟩;dsimp only;rw [y7d hr,←hx.1,←hx.2];exact List.getElem_mem hi
   ·left;refine⟨((i+1:Nat):Int),?_,rfl,hi,fun k h hki=>?_⟩
    ·by_cases h1:(a.2.2.2[i]).1=s
     ·rw [if_pos (by simpa using h1),yOb,yOb,if_neg (by simpa using fun h2=>hx ⟨h1,h2⟩),nxt (by omega)]
     ·rw [if_neg (by simpa using h1),yOb,if_neg (by simp),nxt (by omega)]
    ·by_cases e:k=i
     ·subst e;exact hx
     ·exact hk k h (by omega)) (fun c ⟨e1,_,hk⟩=>by
   subst e1;refine⟨.inl (),by rw [y4q,if_neg ct_ge],?_⟩;dsimp only;cases hst:st1 a s e with
   | none=>rfl
   | some t=>
    exfalso;obtain⟨k,h,e2⟩:=List.getElem_of_mem ((y7d hr).1 hst);exact hk k h h (by rw [e2];exact⟨rfl,rfl⟩)) (Nat.zero_le _) 0 ⟨rfl,Nat.zero_le _,fun k h hk=>absurd hk (Nat.not_lt_zero _)⟩
 rw [y4e,h1,yOb];cases o with
 | inl _=>dsimp only at h2 ⊢;rw [h2];rfl
 | inr t=>dsimp only at h2 ⊢;rw [h2];rfl
end
theorem LoopZ.few{P S p:AutT}{T:List (List Int)}{n n1 n2:Nat}(h:LoopZ P S p T n)(hP:P.2.1=(n1:Int))(hS:S.2.1=(n2:Int)):n≤n1*n2:=by
 rw [←h.tl];have hx:∀t∈T,∃x y:Nat,t= [(x:Int),(y:Int)]∧x<n1∧y<n2:=fun t ht=>by
  obtain⟨x,y,e,g1,g2,g3,g4⟩:=h.tt t ht;exact⟨x.toNat,y.toNat,by rw [e,Int.toNat_of_nonneg g1,Int.toNat_of_nonneg g3],by omega,by omega⟩
 have:=y8g (n1*n2) (T.map fun t=>match t with
  | [x,y]=>x.toNat*n2+y.toNat
  | _=>0) (by
  unfold List.Nodup;rw [List.pairwise_map];refine h.nd.imp_of_mem fun {s t} hs ht hst=>?_;obtain⟨x,y,rfl,g1,g2⟩:=hx s hs;obtain⟨x',y',rfl,g3,g4⟩:=hx t ht;dsimp only;rw [Int.toNat_natCast,Int.toNat_natCast,Int.toNat_natCast,Int.toNat_natCast];intro e;refine hst ?_;have e1:x=x':=by
   have a1:(x*n2+y)/n2=x:=by rw [Nat.mul_comm,Nat.mul_add_div (by omega),Nat.div_eq_of_lt g2,Nat.add_zero]
   have a2:(x'*n2+y')/n2=x':=by rw [Nat.mul_comm,Nat.mul_add_div (by omega),Nat.div_eq_of_lt g4,Nat.add_zero]
   rw [←a1,e,a2]
  subst e1;have:y=y':=by omega
  rw [this]) (fun v hv=>by
  obtain⟨t,ht,rfl⟩:=List.mem_map.1 hv;obtain⟨x,y,rfl,g1,g2⟩:=hx t ht;dsimp only;rw [Int.toNat_natCast,Int.toNat_natCast]
  calc x*n2+y<x*n2+n2:=by omega
   _=(x+1)*n2:=by rw [Nat.succ_mul]
   _≤n1*n2:=Nat.mul_le_mul_right _ g1)
 simpa using this
theorem yiw{q:ProbT}{n1 n:Nat}{A:AutT}{T:List (List Int)}{z:Int}(hP:Right q.1 n1)(hA:Right A n)(hu:q.2.2.length≤32)(hT:∀t∈T,∃x y,t= [x,y]){i:Nat}(hi:i<T.length){o:List Int}(ho:o.length≤1000000):
  ∃o',iter (y3d q (A,T,z) ((i:Int),o)) 0=some o'∧(o'=o∨o'=o++[(i:Int)]):=by
 obtain⟨x,y,hxy⟩:=hT _ (List.getElem_mem hi);obtain⟨o',h1,h2⟩:=yd (f:=y3d q (A,T,z) ((i:Int),o)) (fun j c=>c=(j:Int)∧j≤q.2.2.length) (fun o'=>o'=o∨o'=o++[(i:Int)]) q.2.2.length 0 (by omega) (fun j c hj ⟨e1,_⟩=>by
   subst e1;have hj1:∀b,(∃s',y2h ((i:Int),o) (j:Int) b=some (.inl s')∧s'=((j+1:Nat):Int)∧j+1≤q.2.2.length)∨∃o',y2h ((i:Int),o) (j:Int) b=some (.inr o')∧(o'=o∨o'=o++[(i:Int)]):=fun b=>by
    rw [y2h];cases b with
    | true=>
     right;rw [if_pos rfl];dsimp only;rw [yj (by simp;omega)];exact⟨_,rfl,.inr rfl⟩
    | false=>
     left;rw [if_neg (by simp),nxt (by omega)];exact⟨_,rfl,rfl,hj⟩
   rw [y3d];dsimp only;rw [if_pos (ct_lt hj),ya hj,yOb,ya hi,yOb,hxy,show idx [x,y] 0=some x from rfl,yOb,ydN hP,yOb];split
   ·rw [ydN hA,yOb];exact hj1 _
   ·exact hj1 _) (fun c ⟨e1,_⟩=>by
   subst e1;refine⟨o,?_,.inl rfl⟩;rw [y3d];dsimp only;rw [if_neg ct_ge]) (Nat.zero_le _) 0 ⟨rfl,Nat.zero_le _⟩
 exact⟨o',h1,h2⟩
theorem yix{q:ProbT}{n1 n:Nat}{A:AutT}{T:List (List Int)}{z:Int}(hP:Right q.1 n1)(hA:Right A n)(hu:q.2.2.length≤32)(hT:∀t∈T,∃x y,t= [x,y])(hl:T.length≤4000):
  ∃o,iter (y2i q (A,T,z)) (0,[])=some o∧Inc o∧∀x∈o,0≤x∧x<(T.length:Int):=by
 obtain⟨o,h1,h2,h3⟩:=yd (f:=y2i q (A,T,z)) (fun i s=>s.1=(i:Int)∧i≤T.length∧Inc s.2∧∀x∈s.2,0≤x∧x<(i:Int)) (fun o=>Inc o∧∀x∈o,0≤x∧x<(T.length:Int)) T.length 0 (by omega) (fun i s hi ⟨e1,_,q1,q2⟩=>by
   obtain⟨c,o⟩:=s;dsimp only at e1 q1 q2;subst e1;have hol:=y5U (n:=i) (lo:=0) q1 q2 (Int.le_refl _);obtain⟨o',w1,w2⟩:=yiw (z:=z) hP hA hu hT hi (o:=o) (by omega);left;rw [y2i];dsimp only;rw [if_pos (ct_lt hi),w1,yOb,nxt (by omega)];refine⟨_,rfl,rfl,hi,?_⟩;dsimp only;rcases w2 with rfl|rfl
   ·exact ⟨q1,fun x hx=>by have:=q2 x hx;omega⟩
   ·refine ⟨?_,fun x hx=>?_⟩
    ·unfold Inc at q1 ⊢;rw [List.pairwise_append];exact⟨q1,List.pairwise_singleton _ _,fun c hc b hb=>by rw [List.mem_singleton.1 hb];exact(q2 c hc).2⟩
    ·rcases List.mem_append.1 hx with hx|hx
     ·have:=q2 x hx;omega
     ·rw [List.mem_singleton.1 hx];omega) (fun s ⟨e1,_,q1,q2⟩=>by
   obtain⟨c,o⟩:=s;dsimp only at e1 q1 q2;subst e1;refine⟨o,?_,q1,q2⟩;rw [y2i];dsimp only;rw [if_neg ct_ge]) (Nat.zero_le _) (0,[]) ⟨rfl,Nat.zero_le _,List.Pairwise.nil,fun x hx=>by cases hx⟩
 exact⟨o,h1,h2,h3⟩
theorem yiy{q:ProbT}{m1 m2:Nat}(h:PbOk q m1 m2)(l1:m1≤5)(l2:m2≤5):∃A T n o z k g r X,yw [q.1,q.2.1]=some (A,T,0)∧iter (y2i q (A,T,0)) (0,[])=some o∧y3v A o q.2.2=some ((z,k,r,X),0)∧LoopZ q.1 q.2.1 A T n∧n≤25∧SynOk A n g r X∧PbOk (q.1,r,q.2.2) m1 X.length:=by
 obtain⟨t,A,T,k1,k2,n,_,hk,hs⟩:=h.open;have hL:=hk.loop;have hn:n≤25:=Nat.le_trans (hL.few h.rP.nn h.rS.nn) (Nat.mul_le_mul l1 l2);have hul:=Alp.len ⟨h.iu,h.ur⟩;obtain⟨o,o1,o2,o3⟩:=yix (z:=0) h.rP hL.right hul (fun t ht=>by
  obtain⟨x,y,e,_⟩:=hL.tt t ht;exact⟨x,y,e⟩) (by rw [hL.tl];exact hL.le)
 rw [hL.tl] at o3;obtain⟨z,k,g,r,X,s1,s2⟩:=yiV hL.right (by omega) o2 o3 h.iu h.ur;refine⟨A,T,n,o,z,k,g,r,X,hs,o1,s1,hL,hn,s2,h.rP,s2.can.right,h.l1,by have:=s2.le;omega,fun x hx=>?_,h.iu,h.ur⟩;dsimp only at hx;rw [s2.can.ale,hL.ev] at hx;exact hx.elim id (h.sub x)
theorem yfH{d:Des26}(hd:Des26In d)(keep:Bool):∃q n1 n2,y5x d keep=some q∧PbOk q n1 n2∧n1≤5∧n2≤25∧∀x∈q.1.1,0≤x∧x<5:=by
 obtain⟨q,n1,n2,h1,h2,h3,h4,h5⟩:=ygs hd;rw [y5x,h1,yOb];cases keep with
 | false=>
  rw [if_pos (show (!false)=true from rfl)];exact⟨q,n1,n2,rfl,h2,h3,by omega,h5⟩
 | true=>
  obtain⟨A,T,n,o,z,k,g,r,X,s1,s2,s3,s4,s5,s6,s7⟩:=yiy h2 h3 h4;rw [if_neg (by simp),s1,yOb];dsimp only;rw [s2,yOb,s3];exact⟨_,n1,X.length,rfl,s7,h3,by have:=s6.le;omega,h5⟩
theorem y9Y{xs:List Int}{n:Int}(hl:xs.length<4611686018427387904):y1O xs n=some (yA n none xs):=y8V hl
def insP(x:Ins):Int×Int:=(x.op,x.arg)
theorem y9Z{l ps:List (Int×Int)}{i o:Int}(h:l.length+ps.length≤4294967296):yr (l,i,o) ps=some (l++ps,i,o):=by
 have hi:iter (y1T ps) (l,0)=some (l++ps):=by
  have:=y4v (f:=y1T ps) (fun k=>(l++ps.take k,(k:Int))) ps.length (by omega) (o:=l++ps) (fun k hk=>by
   rw [y1T,if_pos (by simp;omega)];dsimp only;rw [ya hk,yOb,yj (by simp;omega),yOb,show(k:Int)+1=((k+1:Nat):Int) by omega,W_nat (by omega),List.take_succ_eq_append_getElem hk,List.append_assoc]) (by
   rw [y1T,if_neg (by simp)];simp)
  simpa using this
 rw [yr,hi];rfl
theorem ya9{l:List (Int×Int)}{i o k:Int}(h0:0≤i∧i≤1000000)(h1:0≤o∧o≤1000000)(h2:0≤k∧k≤1000000):yD (l,i,o) k=some (i+o+k):=by
 rw [yD];dsimp only;rw [W_of (x:=i+o) (by omega) (by omega),W_of (by omega) (by omega)]
theorem ydO{l:List (Int×Int)}{i o k:Int}(h0:0≤i∧i≤1000000)(h2:0≤k∧k≤1000000):y1S (l,i,o) k=some (i+k):=by
 rw [y1S];dsimp only;rw [W_of (by omega) (by omega)]
theorem ygx(moved:Nat)(e:Nat×Nat):(edgeI moved e).map insP= [(1,(e.1:Int)),(4,(moved:Int)),(10,(e.1:Int)),(9,(e.2:Int)),(9,(moved:Int))]:=rfl
theorem flat5{moved:Nat}{E:List (Nat×Nat)}:((E.flatMap (edgeI moved)).map insP).length=5*E.length:=by rw [List.length_map,y6S]
theorem yfI{l:List (Int×Int)}{M C moved:Nat}{E:List Ed}(hE:∀x∈E,0≤x.f∧x.f≤100000∧0≤x.t∧x.t≤100000)(hM:M≤100000)(hC:C≤100000)(hl:l.length+5*E.length≤4000000000):
  iter (y1s (moved:Int) (E.map edP)) (l,(M:Int),(C:Int),0)=some (l++((E.map fun x=>(M+C+x.f.toNat,M+C+x.t.toNat)).flatMap (edgeI moved)).map insP,(M:Int),(C:Int)):=by
 have:=y4v (f:=y1s (moved:Int) (E.map edP)) (fun k=>(l++(((E.take k).map fun x=>(M+C+x.f.toNat,M+C+x.t.toNat)).flatMap (edgeI moved)).map insP,(M:Int),(C:Int),(k:Int))) E.length (by omega) (o:=(l++((E.map fun x=>(M+C+x.f.toNat,M+C+x.t.toNat)).flatMap (edgeI moved)).map insP,(M:Int),(C:Int))) (fun k hk=>by
  have hx:=hE E[k] (List.getElem_mem hk);rw [y1s,if_pos (by simp;omega)];dsimp only;rw [ya (by simpa using hk),yOb,List.getElem_map];dsimp only [edP];rw [ya9 (by omega) (by omega) (by omega),yOb,ya9 (by omega) (by omega) (by omega),yOb,y9Z (by simp only [List.length_append,y6S,List.length_map,List.length_take,List.length_cons,List.length_nil];omega),yOb,
   show(k:Int)+1=((k+1:Nat):Int) by omega,W_nat (by omega),List.take_succ_eq_append_getElem hk,List.map_append,List.flatMap_append,List.map_append,List.append_assoc]
  have e1:((M+C+E[k].f.toNat:Nat):Int)=M+C+E[k].f:=by omega
  have e2:((M+C+E[k].t.toNat:Nat):Int)=M+C+E[k].t:=by omega
  rw [List.map_cons,List.map_nil,List.flatMap_cons,List.flatMap_nil,List.append_nil,ygx];dsimp only;rw [e1,e2]) (by
  rw [y1s,if_neg (by simp),List.take_length])
 simpa using this
theorem yhu{l:List (Int×Int)}{M C i moved alarm:Nat}{E:List Ed}(hE:∀x∈E,0≤x.f∧x.f≤100000∧0≤x.t∧x.t≤100000)(hM:M≤100000)(hC:C≤100000)(hl:l.length+5*E.length≤3000000000):
  y3n (l,(M:Int),(C:Int)) (i:Int) (moved:Int) (alarm:Int) (E.map edP)=
   some (l++(y7e i moved alarm (E.map fun x=>(M+C+x.f.toNat,M+C+x.t.toNat)) l.length).map insP,(M:Int),(C:Int)):=by
 have hX:∀X:List (Int×Int),X.length=5*E.length→
   (idx (l++[(2,(i:Int)),(12,0)]++[(1,(i:Int)),(10,(moved:Int))]++X++[(2,(moved:Int)),(9,(alarm:Int))]) (W (((l++[(2,(i:Int)),(12,0)]).length:Int)-1)))=some (12,0)∧
   upd (l++[(2,(i:Int)),(12,0)]++[(1,(i:Int)),(10,(moved:Int))]++X++[(2,(moved:Int)),(9,(alarm:Int))]) (W (((l++[(2,(i:Int)),(12,0)]).length:Int)-1)) (12,((l++[(2,(i:Int)),(12,0)]++[(1,(i:Int)),(10,(moved:Int))]++X++[(2,(moved:Int)),(9,(alarm:Int))]).length:Int))=
    some (l++([(2,(i:Int)),(12,((l.length+6+5*E.length:Nat):Int)),(1,(i:Int)),(10,(moved:Int))]++(X++[(2,(moved:Int)),(9,(alarm:Int))]))):=by
  intro X hX;have e0:W (((l++[(2,(i:Int)),(12,0)]).length:Int)-1)=((l.length+1:Nat):Int):=by
   rw [List.length_append,List.length_cons,List.length_cons,List.length_nil,show(((l.length+(0+1+1):Nat):Int)-1)=((l.length+1:Nat):Int) by omega,W_nat (by omega)]
  rw [e0];have e1:(l++[(2,(i:Int)),(12,0)]++[(1,(i:Int)),(10,(moved:Int))]++X++[(2,(moved:Int)),(9,(alarm:Int))])=l++((2,(i:Int))::(12,0)::([(1,(i:Int)),(10,(moved:Int))]++(X++[(2,(moved:Int)),(9,(alarm:Int))]))):=by simp
  rw [e1];constructor
  ·rw [ybB,List.getElem?_append_right (by omega),show l.length+1-l.length=1 by omega];rfl
  ·unfold upd;rw [if_pos ⟨by omega,by simp only [List.length_append,List.length_cons,List.length_nil];omega⟩,Int.toNat_natCast,List.set_append_right _ _ (by omega),show l.length+1-l.length=1 by omega];simp only [List.set_cons_succ,List.set_cons_zero,List.length_append,List.length_cons,List.length_nil,hX,List.cons_append,List.nil_append];congr 4;simp only [Prod.mk.injEq,true_and];omega
 have hflat:(((E.map fun x=>(M+C+x.f.toNat,M+C+x.t.toNat)).flatMap (edgeI moved)).map insP).length=5*E.length:=by rw [flat5,List.length_map]
 rw [y3n,y9Z (by simp;omega),yOb,y9Z (by simp;omega),yOb,yfI hE hM hC (by simp;omega),yOb,y9Z (by simp only [List.length_append,List.length_map,y6S,List.length_cons,List.length_nil];omega),yOb];dsimp only;obtain⟨g1,g2⟩:=hX _ hflat;rw [g1,yOb];dsimp only;rw [g2,yOb,y7e];simp only [List.map_append,List.map_cons,List.map_nil,insP,List.length_map]
theorem yex{l:List (Int×Int)}{M C:Nat}{ms:List Nat}(hms:∀x∈ms,x≤100000)(hM:M≤100000)(hC:C≤100000)(hl:l.length+ms.length≤3000000000):
  iter (y1e (ms.map fun k:Nat=>(k:Int))) (l,(M:Int),(C:Int),0)=
   some (l++(match ms with | []=> []|m::r=>(⟨1,((M+C+m:Nat):Int)⟩:Ins)::r.map (fun k:Nat=>(⟨5,((M+C+k:Nat):Int)⟩:Ins))).map insP,(M:Int),(C:Int)):=by
 have hL:∀k,(h:k<ms.length)→((match ms with | []=> []|m::r=>(⟨1,((M+C+m:Nat):Int)⟩:Ins)::r.map (fun k:Nat=>(⟨5,((M+C+k:Nat):Int)⟩:Ins))).map insP)[k]? =some (if k=0 then 1 else 5,((M+C+ms[k]:Nat):Int)):=by
  intro k h;cases ms with
  | nil=>simp at h
  | cons m r=>
   cases k with
   | zero=>rfl
   | succ k=>simp at h;simp [h,insP]
 have hlen:((match ms with | []=> []|m::r=>(⟨1,((M+C+m:Nat):Int)⟩:Ins)::r.map (fun k:Nat=>(⟨5,((M+C+k:Nat):Int)⟩:Ins))).map insP).length=ms.length:=by cases ms <;> simp
 generalize ((match ms with | []=> []|m::r=>(⟨1,((M+C+m:Nat):Int)⟩:Ins)::r.map (fun k:Nat=>(⟨5,((M+C+k:Nat):Int)⟩:Ins))).map insP)=L at hL hlen;have:=y4v (f:=y1e (ms.map fun k:Nat=>(k:Int))) (fun k=>(l++L.take k,(M:Int),(C:Int),(k:Int))) ms.length (by omega) (o:=(l++L,(M:Int),(C:Int))) (fun k hk=>by
  have hx:=hms ms[k] (List.getElem_mem hk);rw [y1e,if_pos (by simp;omega)];dsimp only;rw [ya (by simpa using hk),yOb,List.getElem_map];have hop:idx ([1,5]:List Int) (if 1<(k:Int) then 1 else(k:Int))=some (if k=0 then 1 else 5):=by
   by_cases h0:k=0
   ·subst h0;rfl
   ·have:(if 1<(k:Int) then 1 else(k:Int))=1:=by split <;> omega
    rw [this,if_neg h0];rfl
  rw [hop,yOb,ya9 (by omega) (by omega) (by omega),yOb,y9Z (by simp only [List.length_append,List.length_take,List.length_cons,List.length_nil];omega),yOb,
   show(k:Int)+1=((k+1:Nat):Int) by omega,W_nat (by omega),List.append_assoc]
  have hk':k<L.length:=by omega
  have e:=hL k hk;rw [yGe hk',Option.some.injEq] at e;rw [List.take_succ_eq_append_getElem hk',e];rfl) (by
  rw [y1e,if_neg (by simp),List.take_of_length_le (by omega)])
 simpa using this
theorem yfJ{l:List (Int×Int)}{M C o:Nat}{ms:List Nat}(hms:∀x∈ms,x≤100000)(hM:M≤100000)(hC:C≤100000)(hl:l.length+ms.length≤2000000000):
  y2P (l,(M:Int),(C:Int)) (o:Int) (ms.map fun k:Nat=>(k:Int))=some (l++(y3E o (ms.map fun k=>M+C+k)).map insP,(M:Int),(C:Int)):=by
 rw [y2P];cases ms with
 | nil=>
  rw [if_pos (by simp),y9Z (by simp;simp at hl;omega),yOb];rfl
 | cons m r=>
  rw [if_neg (by simp;omega),yex hms hM hC (show l.length+(m::r).length≤3000000000 by omega),yOb,y9Z (by simp at hl ⊢;omega),yOb];simp [y3E,insP,List.append_assoc]
theorem yfK{β:Type}(d:β)(m:List (Int×β))(k:Int)(v:β)(k':Int):(kget (kput m k v) k').getD d=if k=k' then v else(kget m k').getD d:=by
 rw [y6f];by_cases h:k=k'
 ·rw [if_pos h,if_pos h.symm];rfl
 ·rw [if_neg h,if_neg fun e=>h e.symm]
def y3s{β:Type}(f:Ed→β)(es:List Ed):List (Int×List β):=es.foldl (fun m x=>kput m x.e (((kget m x.e).getD [])++[f x])) []
theorem y9C{β:Type}(f:Ed→β)(k:Int):∀(es:List Ed) (m:List (Int×List β)),((kget (es.foldl (fun m x=>kput m x.e ((kget m x.e).getD []++[f x])) m) k).getD [])=((kget m k).getD [])++(es.filter fun x=>x.e==k).map f
 | [],m=>by simp
 | x::es,m=>by
  rw [List.foldl_cons,y9C f k es,yfK];by_cases h:x.e=k
  ·rw [if_pos h,List.filter_cons_of_pos (by simpa using h),h];simp
  ·rw [if_neg h,List.filter_cons_of_neg (by simpa using h)]
theorem ycO{β:Type}(f:Ed→β)(es:List Ed)(k:Int):(((kget (y3s f es) k).getD [])).length≤es.length:=by
 rw [y3s,y9C];simp only [kget,List.find?_nil,Option.map_none,Option.getD_none,List.nil_append,List.length_map];exact List.length_filter_le _ _
theorem ycb{β:Type}(f:Ed→β)(es:List Ed)(x:Ed):y3s f (es++[x])=kput (y3s f es) x.e (((kget (y3s f es) x.e).getD [])++[f x]):=by simp [y3s]
theorem yhv{a:Aut}(hl:a.es.length≤1000000):iter (y3y (autP a)) (0,([]:List (Int×List Int)),([]:List (Int×List (Int×Int×Int))))=some (y3s (fun x=>x.f) a.es,y3s edP a.es):=by
 have hlen:(autP a).2.2.2.length=a.es.length:=by simp [autP]
 have:=y4v (f:=y3y (autP a)) (fun k=>((k:Int),y3s (fun x=>x.f) (a.es.take k),y3s edP (a.es.take k))) a.es.length (by omega) (o:=(y3s (fun x=>x.f) a.es,y3s edP a.es)) (fun k hk=>by
  rw [y3y,if_pos (by rw [hlen];simp;omega)];dsimp only;have h1:=ycO edP (a.es.take k) a.es[k].e;have h2:=ycO (fun x=>x.f) (a.es.take k) a.es[k].e;rw [List.length_take] at h1 h2;rw [ya (by rw [hlen];exact hk),yOb,show(autP a).2.2.2[k]'(by rw [hlen];exact hk)=edP a.es[k] from by simp [autP]];dsimp only [edP];rw [yj (by simp only [List.length_cons,List.length_nil];omega),yOb,yj (by simp only [List.length_cons,List.length_nil];omega),yOb,
   show(k:Int)+1=((k+1:Nat):Int) by omega,W_nat (by omega),List.take_succ_eq_append_getElem hk,ycb,ycb]
  rfl) (by
  rw [y3y,if_neg (by rw [hlen];simp),List.take_length])
 simpa [y3s] using this
theorem ya0(moved alarm:Nat):∀(l:List (Nat×List (Nat×Nat))) (x:Nat×List (Nat×Nat)) (s:Nat),y1y moved alarm (l++[x]) s=y1y moved alarm l s++y7e x.1 moved alarm x.2 (s+(y1y moved alarm l s).length)
 | [],x,s=>by simp [y1y]
 | (i,es)::l,x,s=>by
  rw [List.cons_append,y1y,y1y,ya0 moved alarm l x,List.append_assoc,List.length_append,y6L];congr 3;omega
theorem yaH(l:List (Nat×List Nat))(x:Nat×List Nat):y1f (l++[x])=y1f l++y3E x.1 x.2:=by simp [y1f]
theorem yeL(o:Nat)(ms:List Nat):(y3E o ms).length≤ms.length+3:=by cases ms <;> simp [y3E]
structure GenIn (a:Aut) (ctrl:List Int) (n:Nat):Prop where
 hn:a.n=n
 n0:0<n
 n1:n≤64
 es:a.es.length≤256
 al:a.al.length≤32
 ct:ctrl.length≤32
 ed:∀x∈a.es,0≤x.f∧x.f<(n:Int)∧0≤x.t∧x.t<(n:Int)
def ya1(a:Aut)(ctrl:List Int):List (Nat×List (Nat×Nat)):=(evsOf a).map fun x=>(x.1,x.2.map fun e=>(a.al.length+(ctrl.length+1)+e.1,a.al.length+(ctrl.length+1)+e.2))
def y9m(a:Aut)(ctrl:List Int):List (Nat×List Nat):=(cmsOf a ctrl).map fun x=>(a.al.length+x.1,x.2.map fun y=>a.al.length+(ctrl.length+1)+y)
section
variable{a:Aut}{ctrl:List Int}{n:Nat}
theorem y8r :(ya1 a ctrl).length=a.al.length:=by simp [ya1,evsOf]
theorem y9D :(y9m a ctrl).length=ctrl.length:=by simp [y9m,cmsOf]
theorem ydP{k:Nat}(hk:k<a.al.length):(ya1 a ctrl)[k]'(by rw [y8r];exact hk)=(k,(a.es.filter fun x=>x.e==a.al[k]).map fun x=>(a.al.length+(ctrl.length+1)+x.f.toNat,a.al.length+(ctrl.length+1)+x.t.toNat)):=by
 simp [ya1,evsOf,List.getD_eq_getElem?_getD,hk,List.map_map,Function.comp_def]
theorem ydQ{k:Nat}(hk:k<ctrl.length):(y9m a ctrl)[k]'(by rw [y9D];exact hk)=(a.al.length+k,(a.es.filter fun x=>x.e==ctrl[k]).map fun x=>a.al.length+(ctrl.length+1)+x.f.toNat):=by
 simp [y9m,cmsOf,List.getD_eq_getElem?_getD,hk,List.map_map,Function.comp_def]
theorem ybS(k:Int):(a.es.filter fun x=>x.e==k).length≤a.es.length:=List.length_filter_le _ _
theorem ydj{moved alarm:Nat}(h:GenIn a ctrl n):∀k,k≤a.al.length→(y1y moved alarm ((ya1 a ctrl).take k) 0).length≤k*2000
 | 0,_=>by simp [y1y]
 | k+1,hk=>by
  have ih:=ydj (moved:=moved) (alarm:=alarm) h k (by omega);rw [List.take_succ_eq_append_getElem (by rw [y8r];omega),ya0,List.length_append,y6L,ydP (by omega)];have:=ybS (a:=a) a.al[k];have:=h.es;simp only [List.length_map];omega
theorem yfL(h:GenIn a ctrl n):iter (y3x (autP a) ctrl (y3s (fun x=>x.f) a.es,y3s edP a.es)) (0,([]:List (Int×Int)),(a.al.length:Int),((ctrl.length+1:Nat):Int))=
  some ((y1y (a.al.length+(ctrl.length+1)+n) (a.al.length+ctrl.length) (ya1 a ctrl) 0).map insP,(a.al.length:Int),((ctrl.length+1:Nat):Int)):=by
 have h1:=h.n1;have h2:=h.es;have h3:=h.al;have h4:=h.ct;have h5:=h.hn;refine y4v (f:=y3x (autP a) ctrl (y3s (fun x=>x.f) a.es,y3s edP a.es)) (fun k=>((k:Int),(y1y (a.al.length+(ctrl.length+1)+n) (a.al.length+ctrl.length) ((ya1 a ctrl).take k) 0).map insP,(a.al.length:Int),((ctrl.length+1:Nat):Int))) a.al.length (by omega) (fun k hk=>?_) ?_
 ·rw [y3x,if_pos (by simp [autP];omega)];dsimp only [autP];have hg:=ydj (moved:=a.al.length+(ctrl.length+1)+n) (alarm:=a.al.length+ctrl.length) h k (by omega);have hf:=ybS (a:=a) a.al[k];rw [ya hk,yOb,ya9 (by omega) (by omega) (by omega),yOb,ydO (by omega) (by omega),yOb,
   show(kget (y3s edP a.es) a.al[k]).getD []=(a.es.filter fun x=>x.e==a.al[k]).map edP from by rw [y3s,y9C];rfl,
   show(a.al.length:Int)+((ctrl.length+1:Nat):Int)+a.n=((a.al.length+(ctrl.length+1)+n:Nat):Int) by omega,
   show(a.al.length:Int)+(ctrl.length:Int)=((a.al.length+ctrl.length:Nat):Int) by omega,
   yhu (fun x hx=>by have:=h.ed x (List.mem_filter.1 hx).1;omega) (by omega) (by omega) (by rw [List.length_map];omega),yOb,
   show(k:Int)+1=((k+1:Nat):Int) by omega,W_nat (by omega),List.take_succ_eq_append_getElem (by rw [y8r];exact hk),ya0,List.map_append,ydP hk,Nat.zero_add,List.length_map]
 ·rw [y3x,if_neg (by simp [autP]),List.take_of_length_le (by rw [y8r];omega)]
set_option maxHeartbeats 1000000 in
theorem yey(h:GenIn a ctrl n){L:List (Int×Int)}(hL:L.length≤100000):iter (y3w ctrl (y3s (fun x=>x.f) a.es,y3s edP a.es)) (0,L,(a.al.length:Int),((ctrl.length+1:Nat):Int))=
  some (L++(y1f (y9m a ctrl)).map insP,(a.al.length:Int),((ctrl.length+1:Nat):Int)):=by
 have h1:=h.n1;have h2:=h.es;have h3:=h.al;have h4:=h.ct;have h5:=h.hn;have hcl:∀k,k≤ctrl.length→(y1f ((y9m a ctrl).take k)).length≤k*2000:=by
  intro k
  induction k with
  | zero=>intro _;simp [y1f]
  | succ k ih=>
   intro hk;have:=ih (by omega);rw [List.take_succ_eq_append_getElem (by rw [y9D];omega)];rw [yaH,List.length_append,ydQ (by omega)];have hf:=ybS (a:=a) ctrl[k];have:=yeL (a.al.length+k) ((a.es.filter fun x=>x.e==ctrl[k]).map fun x=>a.al.length+(ctrl.length+1)+x.f.toNat);rw [List.length_map] at this;dsimp only;omega
 have key:=y4v (f:=y3w ctrl (y3s (fun x=>x.f) a.es,y3s edP a.es)) (fun k=>((k:Int),L++(y1f ((y9m a ctrl).take k)).map insP,(a.al.length:Int),((ctrl.length+1:Nat):Int))) ctrl.length (by omega) (o:=(L++(y1f (y9m a ctrl)).map insP,(a.al.length:Int),((ctrl.length+1:Nat):Int))) (fun k hk=>by
  rw [y3w,if_pos (by simp;omega)];dsimp only;have hg:=hcl k (by omega);have hf:=ybS (a:=a) ctrl[k];have hms:(kget (y3s (fun x=>x.f) a.es) ctrl[k]).getD []=(((a.es.filter fun x=>x.e==ctrl[k]).map fun x=>x.f.toNat).map fun k:Nat=>(k:Int)):=by
   rw [y3s,y9C,List.map_map];simp only [kget,List.find?_nil,Option.map_none,Option.getD_none,List.nil_append];refine List.map_congr_left fun x hx=>?_;have:=h.ed x (List.mem_filter.1 hx).1;simp only [Function.comp_def];omega
  rw [ya hk,yOb,ydO (by omega) (by omega),yOb,hms,
   show(a.al.length:Int)+(k:Int)=((a.al.length+k:Nat):Int) by omega,
   yfJ (fun x hx=>by
    obtain⟨y,hy,rfl⟩:=List.mem_map.1 hx;have:=h.ed y (List.mem_filter.1 hy).1;omega) (by omega) (by omega) (by simp only [List.length_append,List.length_map];omega),yOb,
   show(k:Int)+1=((k+1:Nat):Int) by omega,W_nat (by omega),List.take_succ_eq_append_getElem (by rw [y9D];exact hk),List.append_assoc,←List.map_append]
  rw [yaH,ydQ hk,List.map_map];rfl) (by
  rw [y3w,if_neg (by simp),List.take_of_length_le (by rw [y9D];omega)])
 rw [List.take_zero] at key;simpa [y1f] using key
def codeP(a:Aut)(ctrl:List Int)(n:Nat):(Int×Int×Int×List Bool×List (Int×Int))×List Int×List Int×Int:=
 (((a.al.length:Int),((ctrl.length+1:Nat):Int),((n+1:Nat):Int),true::List.replicate n false,(genP a ctrl).map insP),a.al,ctrl,(n:Int))
set_option maxHeartbeats 1000000 in
theorem yeM(h:GenIn a ctrl n)(hms:a.ms.length≤1000000)(he:a.err=0)(hc:yA 32 none ctrl=0)(hs:y1c ctrl a.al=some true):yU (autP a) ctrl=some (codeP a ctrl n,0):=by
 have h0:=h.n0;have h1:=h.n1;have h2:=h.es;have h3:=h.al;have h4:=h.ct;have h5:=h.hn;have hg:=ydj (moved:=a.al.length+(ctrl.length+1)+n) (alarm:=a.al.length+ctrl.length) h a.al.length (Nat.le_refl _);rw [List.take_of_length_le (by rw [y8r];omega)] at hg;rw [yU,yb3 (by omega) (by omega) (by omega),yOb,he,if_neg (by simp),y9Y (by omega),yOb,hc,if_neg (by simp),
  show y1c ctrl (autP a).1=some true from hs,yOb,if_neg (by simp),if_neg (by simp [autP];omega),if_neg (by simp [autP];omega),yhv (by omega),yOb,
  show(autP a).1.length=a.al.length from rfl,show W ((ctrl.length:Int)+1)=((ctrl.length+1:Nat):Int) by rw [show (ctrl.length:Int)+1=((ctrl.length+1:Nat):Int) by omega,W_nat (by omega)],
  yfL h,yOb,yey h (by rw [List.length_map];omega),yOb,
  show W ((autP a).2.1+1)=((n+1:Nat):Int) by
   show W (a.n+1)=_;rw [show a.n+1=((n+1:Nat):Int) by omega,W_nat (by omega)],
  y8X (by omega) (by omega),yOb,Int.toNat_natCast]
 have hi:idx (List.replicate (n+1) false) 0=some false:=by rw [List.replicate_succ];rfl
 have hu:upd (List.replicate (n+1) false) 0 true=some (true::List.replicate n false):=by
  unfold upd;rw [if_pos (by simp),List.replicate_succ];rfl
 rw [hi,yOb,hu,yOb,show(autP a).1=a.al from rfl,y9W (by omega),yOb,y9W (by omega),yOb];have e2:(autP a).2.1=(n:Int):=h5;rw [e2];simp only [codeP,genP,genI,List.map_append,List.length_cons,List.length_replicate,h5,Int.toNat_natCast];rfl
end
def prgP(m c n:Nat)(start:List Bool)(L:List Ins):Int×Int×Int×List Bool×List (Int×Int):=((m:Int),(c:Int),(n:Int),start,L.map insP)
def stB(op:Int)(acc v:Bool):Bool:=if op=7 then acc else if op=8 then !acc else if op=9 then v||acc else v && !acc
theorem yfM{op:Int}(h1:7≤op)(h2:op≤10)(k:Int)(acc:Bool)(b:List Bool):y7m ⟨op,k⟩ acc b=b.set k.toNat (stB op acc (b.getD k.toNat false)):=by
 have hc:op=7∨op=8∨op=9∨op=10:=by omega
 rcases hc with rfl|rfl|rfl|rfl <;> rfl
theorem yez{op:Int}(h1:1≤op)(h2:op≤13):∃T e,y1i=some T∧T.length=13∧idx T (W (op-1))=some e∧
    ((op≤6∧e.2.2.2.1=none∧e.2.2.2.2=none∧∃f,e.2.2.1=some f∧∀acc v k,f acc v=some (yal ⟨op,k⟩ acc v))∨
     (7≤op∧op≤10∧e.2.2.1=none∧e.2.2.2.2=none∧∃f,e.2.2.2.1=some f∧∀acc v,f acc v=some (stB op acc v))∨
     (11≤op∧e.2.2.1=none∧e.2.2.2.1=none∧∃f,e.2.2.2.2=some f∧∀acc,f acc=some (if op=11 then true else if op=12 then acc else !acc))):=by
  have hc:op=1∨op=2∨op=3∨op=4∨op=5∨op=6∨op=7∨op=8∨op=9∨op=10∨op=11∨op=12∨op=13:=by omega
  rcases hc with rfl|rfl|rfl|rfl|rfl|rfl|rfl|rfl|rfl|rfl|rfl|rfl|rfl
  all_goals refine⟨_,_,rfl,rfl,rfl,?_⟩
  · exact .inl ⟨by decide,rfl,rfl,_,rfl,fun _ _ _=>rfl⟩
  · exact .inl ⟨by decide,rfl,rfl,_,rfl,fun _ _ _=>rfl⟩
  · exact .inl ⟨by decide,rfl,rfl,_,rfl,fun _ _ _=>rfl⟩
  · exact .inl ⟨by decide,rfl,rfl,_,rfl,fun _ _ _=>rfl⟩
  · exact .inl ⟨by decide,rfl,rfl,_,rfl,fun _ _ _=>rfl⟩
  · exact .inl ⟨by decide,rfl,rfl,_,rfl,fun _ _ _=>rfl⟩
  · exact .inr (.inl ⟨by decide,by decide,rfl,rfl,_,rfl,fun _ _=>rfl⟩)
  · exact .inr (.inl ⟨by decide,by decide,rfl,rfl,_,rfl,fun _ _=>rfl⟩)
  · exact .inr (.inl ⟨by decide,by decide,rfl,rfl,_,rfl,fun _ _=>rfl⟩)
  · exact .inr (.inl ⟨by decide,by decide,rfl,rfl,_,rfl,fun _ _=>rfl⟩)
  · exact .inr (.inr ⟨by decide,rfl,rfl,_,rfl,fun _=>rfl⟩)
  · exact .inr (.inr ⟨by decide,rfl,rfl,_,rfl,fun _=>rfl⟩)
  · exact .inr (.inr ⟨by decide,rfl,rfl,_,rfl,fun _=>rfl⟩)
structure PrgIn (m c n:Nat) (start:List Bool) (L:List Ins):Prop where
 hm:m≤256
 hc:c≤256
 hn:n≤256
 st:start.length=n
 len:L.length≤2048
 ok:∀(i:Nat) (x:Ins),L[i]? =some x→InsOk L.length (m+c+n) m i x
section
variable{m c n:Nat}{start:List Bool}{L:List Ins}
theorem yiz(h:PrgIn m c n start L):y4r (prgP m c n start L)=some 0:=by
 have h1:=h.hm;have h2:=h.hc;have h3:=h.hn;have h4:=h.st;have h5:=h.len;have hi:iter (y3o (prgP m c n start L)) 0=some (.inl ()):=by
  refine y4v (f:=y3o (prgP m c n start L)) (fun k=>(k:Int)) 3 (by omega) (fun k hk=>?_) ?_
  ·rw [y3o,if_pos (by simp;omega)];have hx:∃x:Nat,idx ([(prgP m c n start L).1,(prgP m c n start L).2.1,(prgP m c n start L).2.2.1]:List Int) (k:Int)=some (x:Int)∧x≤256:=by
    have:k=0∨k=1∨k=2:=by omega
    rcases this with rfl|rfl|rfl
    ·exact ⟨m,rfl,h1⟩
    ·exact ⟨c,rfl,h2⟩
    ·exact ⟨n,rfl,h3⟩
   obtain⟨x,hx,hle⟩:=hx;rw [hx,yOb,if_neg (by simp only [Bool.or_eq_true,decide_eq_true_eq];omega),show(k:Int)+1=((k+1:Nat):Int) by omega,W_nat (by omega)]
  ·rfl
 rw [y4r,hi,yOb];dsimp only;rw [if_neg (by simp [prgP,h4]),if_neg (by simp [prgP];omega)]
theorem yhw(h:PrgIn m c n start L):y4F (prgP m c n start L)=some ((m+c+n:Nat):Int):=by
 have h1:=h.hm;have h2:=h.hc;have h3:=h.hn;rw [y4F];dsimp only [prgP];rw [W_of (x:=(m:Int)+c) (by omega) (by omega),W_of (by omega) (by omega)];simp
theorem yiW(h:PrgIn m c n start L){i:Nat}(hi:i<L.length):y2s (prgP m c n start L) (i:Int)=some 0:=by
 have hk:=h.ok i L[i] (yGe hi);obtain⟨T,e,hT,hl,he,hcase⟩:=yez hk.op.1 hk.op.2;have hat:idx (prgP m c n start L).2.2.2.2 (i:Int)=some (insP L[i]):=by
  rw [ya (by simpa [prgP] using hi)];simp [prgP]
 have hop:=hk.op;rw [y2s,hat,yOb,hT,yOb,if_neg (by rw [hl];simp only [Bool.or_eq_true,decide_eq_true_eq];show ¬(L[i].op<1∨L[i].op>((13:Nat):Int));omega),
  show idx T (W ((insP L[i]).1-1))=some e from he,yOb]
 have hw:=yhw h;have hj:∀b:Bool,yy (prgP m c n start L) (insP L[i]) e b=if b then some 2 else if(e.2.2.2.1.isSome&&decide (L[i].arg<(m:Int))) then some 19 else some 0:=fun b=>rfl
 have hbit:e.2.2.2.2=none→L[i].op≤10→(e.2.2.2.1.isSome=true→7≤L[i].op)→(if e.2.2.2.2.isSome=true then(if ((decide ((insP L[i]).2≤(i:Int)))||(decide ((insP L[i]).2>((prgP m c n start L).2.2.2.2.length:Int))))=true then some 2 else some 0) else if decide ((insP L[i]).2<0)=true then yy (prgP m c n start L) (insP L[i]) e true else(y4F (prgP m c n start L)).bind fun r51=>yy (prgP m c n start L) (insP L[i]) e (decide ((insP L[i]).2≥r51)))=some 0:=by
  intro h1 h2 h3;have hb:=hk.bit h2;rw [if_neg (by rw [h1];simp),if_neg (show ¬decide ((insP L[i]).2<0)=true by rw [decide_eq_true_eq];show ¬L[i].arg<0;omega),hw,yOb,hj,if_neg (show ¬decide ((insP L[i]).2≥((m+c+n:Nat):Int))=true by rw [decide_eq_true_eq];show ¬L[i].arg≥_;omega)];rw [if_neg];rw [Bool.and_eq_true,decide_eq_true_eq];rintro⟨h4,h5⟩;have:=hk.store (h3 h4) h2;omega
 rcases hcase with ⟨h1,h2,h3,_⟩|⟨h1,h2,h3,h4,_⟩|⟨h1,h2,h3,f,h4,_⟩
 ·exact hbit h3 (by omega) (fun h=>by rw [h2] at h;cases h)
 ·exact hbit h4 h2 (fun _=>h1)
 ·have hb:=hk.jump h1;have hlen:(prgP m c n start L).2.2.2.2.length=L.length:=by simp [prgP]
  rw [if_pos (by rw [h4];rfl),if_neg];rw [hlen];simp only [Bool.or_eq_true,decide_eq_true_eq];show ¬(L[i].arg≤(i:Int)∨L[i].arg>(L.length:Int));omega
theorem ycP(h:PrgIn m c n start L):y4G (prgP m c n start L)=some 0:=by
 have h5:=h.len;have hlen:(prgP m c n start L).2.2.2.2.length=L.length:=by simp [prgP]
 have hi:iter (y3z (prgP m c n start L)) 0=some (.inl ()):=by
  refine y4v (f:=y3z (prgP m c n start L)) (fun k=>(k:Int)) L.length (by omega) (fun k hk=>?_) ?_
  ·rw [y3z,if_pos (by rw [hlen];simp;omega),yiW h hk,yOb,if_neg (by simp),show(k:Int)+1=((k+1:Nat):Int) by omega,W_nat (by omega)]
  ·rw [y3z,if_neg (by rw [hlen];simp)]
 rw [y4G,yiz h,yOb,if_neg (by simp),hi];rfl
theorem yhx(h:PrgIn m c n start L):y4H (prgP m c n start L)=some ((List.replicate c false,start),0):=by
 have h2:=h.hc;have h3:=h.hn;have h4:=h.st;rw [y4H,ycP h,yOb,if_neg (by simp)];dsimp only [prgP];rw [y8X (by omega) (by omega),yOb,yj (by simp;omega),yOb];simp
end
end Go.Proofs.YtecmobjeeonmaaaGreatDoor
namespace Go.Proofs.YtecmobjeeonmaaaGreatDoor
def y5E :Nat→List Int→List Int→List Int→List Int
 | 0,_,_,out=>out
 | _+1,[],[],out=>out
 | f+1,[],_::vs,out=>y5E f [] vs out
 | f+1,a::us,[],out=>y5E f us [] (out++[a])
 | f+1,a::us,b::vs,out=>if a<b then y5E f us (b::vs) (out++[a]) else if b<a then y5E f (a::us) vs out else y5E f us vs out
theorem y7q :∀(f:Nat) (us vs out:List Int),Inc us→Inc vs→us.length+vs.length≤f→y5E f us vs out=out++us.filter fun x=>!hasB vs x
 | 0,us,vs,out,_,_,h=>by
  have ha:us= []:=List.eq_nil_of_length_eq_zero (by omega);rw [ha,y5E];simp
 | f+1,[],[],out,_,_,_=>by rw [y5E];simp
 | f+1,[],b::vs,out,ha,hb,h=>by
  rw [y5E,y7q f [] vs out ha (List.pairwise_cons.1 hb).2 (by simp at h ⊢;omega)];simp
 | f+1,a::us,[],out,ha,hb,h=>by
  rw [y5E,y7q f us [] _ (List.pairwise_cons.1 ha).2 hb (by simp at h ⊢;omega),List.filter_cons_of_pos (by simp [hasB]),List.append_assoc];rfl
 | f+1,a::us,b::vs,out,ha,hb,h=>by
  obtain⟨ha1,ha2⟩:=List.pairwise_cons.1 ha;obtain⟨hb1,hb2⟩:=List.pairwise_cons.1 hb;rw [List.length_cons,List.length_cons] at h;rw [y5E];by_cases h1:a<b
  ·have hn:hasB (b::vs) a=false:=by
    rw [y9w];intro hm;rcases List.mem_cons.1 hm with h2|h2
    ·omega
    ·have:=hb1 a h2;omega
   rw [if_pos h1,y7q f us (b::vs) _ ha2 hb (by rw [List.length_cons];omega),List.filter_cons_of_pos (by rw [hn];rfl),List.append_assoc];rfl
  ·rw [if_neg h1];by_cases h2:b<a
   ·rw [if_pos h2,y7q f (a::us) vs out ha hb2 (by rw [List.length_cons];omega)];congr 1;apply List.filter_congr;intro x hx;have hx2:a≤x:=by
     rcases List.mem_cons.1 hx with h3|h3
     ·omega
     ·have:=ha1 x h3;omega
    congr 1;rw [Bool.eq_iff_iff,yc,yc,List.mem_cons];exact⟨.inr,fun h3=>h3.elim (fun h4=>by omega) id⟩
   ·have hab:a=b:=by omega
    subst hab;rw [if_neg h2,y7q f us vs out ha2 hb2 (by omega),List.filter_cons_of_neg (by rw [yc.2 (List.mem_cons_self ..)];simp)];congr 1;apply List.filter_congr;intro x hx;have hx2:=ha1 x hx;congr 1;rw [Bool.eq_iff_iff,yc,yc,List.mem_cons];exact⟨.inr,fun h3=>h3.elim (fun h4=>by omega) id⟩
def subB(us vs:List Int):Bool:=us.all (hasB vs)
theorem ygy{us vs:List Int}(ha:Inc us)(hb:Inc vs):(y5E (us.length+vs.length) us vs []= [])↔subB us vs=true:=by
 rw [y7q _ us vs [] ha hb (Nat.le_refl _),List.nil_append,List.filter_eq_nil_iff,subB,List.all_eq_true];exact⟨fun h x hx=>by simpa using h x hx,fun h x hx=>by rw [h x hx];simp⟩
end Go.Proofs.YtecmobjeeonmaaaGreatDoor
namespace Go.Proofs.YtecmobjeeonmaaaGreatDoor
open Go Go.RowKit
variable{us vs ctrl xs:List Int}{S:AutT}{im:List Int}{e:Int}{n2:Nat}{pr:List Int}{n1:Nat}
theorem yhy :∀(f:Nat) (us vs out:List Int),us.length+vs.length≤f→out.length+us.length≤4294967296→iterF (ye yx) (f+1) (out,us,vs)=some (y5E f us vs out):=by
 intro f
 induction f with
 | zero=>
  intro us vs out h _;have h1:us= []:=List.eq_nil_of_length_eq_zero (by omega);have h2:vs= []:=List.eq_nil_of_length_eq_zero (by omega);subst h1;subst h2;rfl
 | succ f ih=>
  intro us vs out h ho;rw [yb];cases us with
  | nil=>
   cases vs with
   | nil=>rfl
   | cons b vs=>
    have e:ye yx (out,[],b::vs)=some (.inl (out,[],vs)):=by
     rw [ye];dsimp only;rw [if_pos (by simp),if_neg (by simp),yt];dsimp only;rw [if_pos (by simp),if_pos (by simp),yl,if_neg (by simp),yh,if_pos rfl];dsimp only;rw [y2f,yOb,y5P,yOb];rfl
    rw [e];exact ih [] vs out (by simp at h ⊢;omega) ho
  | cons a us=>
   rw [List.length_cons] at h ho;have ho':app out ([a]:List Int)=some (out++[a]):=yj (by simp;omega);cases vs with
   | nil=>
    have e:ye yx (out,a::us,[])=some (.inl (out++[a],us,[])):=by
     rw [ye];dsimp only;rw [if_pos (by simp),if_pos (by simp),if_pos (by simp),yt];dsimp only;rw [if_neg (by simp),yl,if_pos rfl];dsimp only;rw [y2f,yOb,y5P,yOb,yh,if_neg (by simp),yn,show yx true false=some true from rfl,yOb,if_pos rfl];dsimp only;rw [ho',yOb]
    rw [e];exact ih us [] (out++[a]) (by simp at h ⊢;omega) (by simp;omega)
   | cons b vs=>
    rw [List.length_cons] at h;have e0:ye yx (out,a::us,b::vs)=yl yx (out,a::us,b::vs) (decide (a≤b)) (decide (b≤a)):=by
     rw [ye];dsimp only;rw [if_pos (by simp),if_pos (by simp),if_neg (by simp;omega),y2f,yOb,y2f,yOb,yt];dsimp only;rw [if_pos (by simp),if_neg (by simp;omega),y2f,yOb,y2f,yOb]
    rw [e0,y5E,yl];dsimp only;by_cases h1:a<b
    ·rw [if_pos (show decide (a≤b)=true by simp;omega),y2f,yOb,y5P,yOb,yh,if_neg (by simp;omega),yn,show decide (a≤b)=true by simp;omega,show decide (b≤a)=false by simp;omega,
      show yx true false=some true from rfl,yOb,if_pos rfl,if_pos h1]
     dsimp only;rw [ho',yOb];exact ih us (b::vs) (out++[a]) (by simp;omega) (by simp;omega)
    ·rw [if_neg h1];by_cases h2:b<a
     ·rw [if_neg (show ¬decide (a≤b)=true by simp;omega),yh,if_pos (show decide (b≤a)=true by simp;omega)];dsimp only;rw [y2f,yOb,y5P,yOb,yn,show decide (a≤b)=false by simp;omega,show decide (b≤a)=true by simp;omega,
       show yx false true=some false from rfl,yOb,if_neg (by simp),if_pos h2]
      exact ih (a::us) vs out (by simp;omega) (by simp;omega)
     ·rw [if_pos (show decide (a≤b)=true by simp;omega),y2f,yOb,y5P,yOb,yh,if_pos (show decide (b≤a)=true by simp;omega)];dsimp only;rw [y2f,yOb,y5P,yOb,yn,show decide (a≤b)=true by simp;omega,show decide (b≤a)=true by simp;omega,
       show yx true true=some false from rfl,yOb,if_neg (by simp),if_neg h2]
      exact ih us vs out (by omega) (by omega)
theorem yhz(hu:us.length≤4294967296)(hv:vs.length≤4294967296):y3S us vs=some (y5E (us.length+vs.length) us vs []):=by
 have h:iter (ye yx) (([]:List Int),us,vs)=some (y5E (us.length+vs.length) us vs []):=y4m (by omega) (yhy _ us vs [] (Nat.le_refl _) (by simpa using hu));rw [y3S,y3j,h];rfl
theorem ydR(hu:us.length≤4294967296)(hv:vs.length≤4294967296)(iu:Inc us)(iv:Inc vs):y1c us vs=some (subB us vs):=by
 rw [y1c,yhz hu hv,yOb];have h:=ygy iu iv;cases hb:subB us vs with
 | true=>rw [h.2 hb];rfl
 | false=>
  have hn:y5E (us.length+vs.length) us vs []≠ []:=fun e=>by rw [h.1 e] at hb;cases hb
  have:(y5E (us.length+vs.length) us vs []).length≠0:=fun e=>hn (List.eq_nil_of_length_eq_zero e);rw [show (((y5E (us.length+vs.length) us vs []).length:Int)==0)=false from by simpa using hn]
theorem yhA{al:List Int}(hu:us.length<4294967296)(ha:al.length<4294967296)(iu:Inc us)(ia:Inc al)(he:yA 32 none us=0)(hs:subB us al=true):y6A us al=some 0:=by
 rw [y6A,y9Y (by omega),he,yOb,if_neg (by simp),ydR (by omega) (by omega) iu ia,hs,yOb];rfl
theorem yhB{ys:List Bool}{k:Nat}(h:k<ys.length):(ys.take k++List.replicate (ys.length-k) false).set k ys[k]=ys.take (k+1)++List.replicate (ys.length-(k+1)) false:=by
 have hl:(ys.take k).length=k:=by simp;omega
 rw [List.set_append_right _ _ (by omega),hl,Nat.sub_self,show ys.length-k=(ys.length-(k+1))+1 by omega,List.replicate_succ,List.set_cons_zero,List.take_succ_eq_append_getElem h,List.append_assoc];rfl
theorem ygz{p:Int×Int×Int×List Bool×List (Int×Int)}{al ev:List Int}{n:Int}(ha:al.length<4294967296)(he:ev.length<4294967296)(ia:Inc al)(ie:Inc ev)(hs:yA 32 none ev=0)(hb:subB ev al=true):
  y6r (p,al,ctrl,n) ev=some (al.map (hasB ev),0):=by
 have hi:iter (y4i (p,al,ctrl,n) ev) (0,List.replicate al.length false)=some (al.map (hasB ev)):=by
  have hml:(al.map (hasB ev)).length=al.length:=List.length_map ..;have e0:((0:Int),List.replicate al.length false)=(fun k:Nat=>((k:Int),(al.map (hasB ev)).take k++List.replicate ((al.map (hasB ev)).length-k) false)) 0:=by simp
  refine Eq.trans (congrArg _ e0) (y4v (f:=y4i (p,al,ctrl,n) ev) (fun k:Nat=>((k:Int),(al.map (hasB ev)).take k++List.replicate ((al.map (hasB ev)).length-k) false)) al.length (by omega) (fun k hk=>?_) ?_)
  ·rw [y4i];dsimp only;have hk2:k<((al.map (hasB ev)).take k++List.replicate ((al.map (hasB ev)).length-k) false).length:=by simp;omega
   rw [if_pos (by simp;omega),ya hk,yOb,y7G he ie,yOb,ya hk2,yOb,upd,if_pos ⟨by omega,by omega⟩,yOb,Int.toNat_natCast,
    show(k:Int)+1=((k+1:Nat):Int) by omega,W_nat (by omega),show hasB ev al[k]=(al.map (hasB ev))[k]'(by rw [hml];exact hk) by simp,yhB (by rw [hml];exact hk)]
  ·rw [y4i];dsimp only;rw [if_neg (by simp),hml,Nat.sub_self,List.take_of_length_le (by omega),List.replicate_zero,List.append_nil]
 rw [y6r];dsimp only;rw [yhA he ha ie ia hs hb,yOb,if_neg (by simp),y8X (by omega) (by omega),yOb,Int.toNat_natCast,hi];rfl
theorem ygA{x y z:List Bool}(h:x.length+y.length+z.length≤100000):y5z [x,y,z]=some (x++y++z):=by
 have h1:iter (y2k [x,y,z]) (0,0)=some ((x.length+y.length+z.length:Nat):Int):=by
  refine y4m (n:=4) (by omega) ?_;have hn:∀(i:Nat) (k:Nat) (l:List Bool),[x,y,z][i]? =some l→k+l.length≤100000→i<3→y2k [x,y,z] ((i:Int),(k:Int))=some (.inl (((i+1:Nat):Int),((k+l.length:Nat):Int))):=fun i k l hl hk hi=>by
   rw [y2k];dsimp only;rw [if_pos (by simp;omega),ybB,hl,yOb,show(k:Int)+(l.length:Int)=((k+l.length:Nat):Int) by omega,W_nat (by omega),if_neg (by simp;omega),y5I];dsimp only;rw [show (i:Int)+1=((i+1:Nat):Int) by omega,W_nat (by omega)]
  rw [yb,show y2k [x,y,z] (0,0)=_ from hn 0 0 x rfl (by omega) (by omega)];dsimp only;rw [yb,hn (0+1) (0+x.length) y rfl (by omega) (by omega)];dsimp only;rw [yb,hn (0+1+1) (0+x.length+y.length) z rfl (by omega) (by omega)];dsimp only;rw [yb,y2k,if_neg (by simp)];show some ((0+x.length+y.length+z.length:Nat):Int)=_;rw [Nat.zero_add]
 have h2:iter (y2j [x,y,z]) (0,([]:List Bool))=some (x++y++z):=by
  refine y4m (n:=4) (by omega) ?_;have hn:∀(i:Nat) (k l:List Bool),[x,y,z][i]? =some l→k.length+l.length≤100000→i<3→y2j [x,y,z] ((i:Int),k)=some (.inl (((i+1:Nat):Int),k++l)):=fun i k l hl hk hi=>by
   rw [y2j];dsimp only;rw [if_pos (by simp;omega),ybB,hl,yOb,yj (by omega),yOb,show(i:Int)+1=((i+1:Nat):Int) by omega,W_nat (by omega)]
  rw [yb,show y2j [x,y,z] (0,[])=_ from hn 0 [] x rfl (by simp;omega) (by omega)];dsimp only;rw [yb,hn (0+1) ([]++x) y rfl (by simp;omega) (by omega)];dsimp only;rw [yb,hn (0+1+1) ([]++x++y) z rfl (by simp;omega) (by omega)];dsimp only;rw [yb,y2j,if_neg (by simp)];rfl
 rw [y5z,h1,yOb,y6b,if_pos ⟨rfl,by omega,by omega⟩,yOb,h2];rfl
theorem yhC{m c n:Nat}{start:List Bool}{L:List Ins}(h:PrgIn m c n start L){inp out mem:List Bool}(hi:inp.length=m)(ho:out.length=c)(hm:mem.length=n):
  y5L (prgP m c n start L) (out,mem) inp=some (inp++out++mem,0):=by
 have h1:=h.hm;have h2:=h.hc;have h3:=h.hn;rw [y5L,ycP h,yOb,if_neg (by simp),if_neg (by simp [prgP,hi,ho,hm]),ygA (by show inp.length+out.length+mem.length≤_;omega)];rfl
theorem ygB{m c n:Nat}{start:List Bool}{L:List Ins}(h:PrgIn m c n start L){T}(hT:y1i=some T){i:Nat}(hi:i<L.length){acc:Bool}{b:List Bool}(hx:xs.length≤i)(hb:b.length=m+c+n):
  y1W (prgP m c n start L) T (b,(i:Int),acc,xs)=some (.inl ((y5b L[i] i acc b).2.2,((y5b L[i] i acc b).1:Int),(y5b L[i] i acc b).2.1,xs++[(i:Int)])):=by
 have hlen:=h.len;have hk:=h.ok i L[i] (yGe hi);obtain⟨T',e,hT',hl,he,hcase⟩:=yez hk.op.1 hk.op.2;rw [hT] at hT';cases hT';have hop:=hk.op;have hat:idx (prgP m c n start L).2.2.2.2 (i:Int)=some (insP L[i]):=by
  rw [ya (by simpa [prgP] using hi)];simp [prgP]
 have hinc:W ((i:Int)+1)=((i+1:Nat):Int):=by rw [show (i:Int)+1=((i+1:Nat):Int) by omega,W_nat (by omega)]
 rw [y1W];dsimp only;rw [if_pos (by simp [prgP];omega),yj (by simp;omega),yOb,hat,yOb,show idx T (W ((insP L[i]).1-1))=some e from he,yOb,hinc];have hbit:L[i].op≤10→idx b (insP L[i]).2=some (b.getD L[i].arg.toNat false):=fun h10=>by
  have h1:=hk.bit h10;show idx b L[i].arg=_;rw [show L[i].arg=(L[i].arg.toNat:Int) by omega,ya (by omega),Int.toNat_natCast,List.getD_eq_getElem?_getD,yGe (by omega)];rfl
 rcases hcase with ⟨h1,h2,h3,f,hf,hf2⟩|⟨h1,h1',h2,h3,f,hf,hf2⟩|⟨h1,h2,h3,f,hf,hf2⟩
 ·rw [if_pos (by rw [hf];rfl),hbit (by omega),yOb,hf,yOb,hf2 _ _ L[i].arg,yOb];have e1:y7J L[i] i acc=i+1:=by rw [y7J,if_pos ⟨hop.1,by omega⟩]
  have e2:y7m L[i] acc b=b:=by
   rw [y7m,if_neg (by omega),if_neg (by omega),if_neg (by omega),if_neg (by omega)]
  simp only [y5b,e1,e2]
 ·have h10:=hk.bit h1';rw [if_neg (by rw [h2];simp),if_pos (by rw [hf];rfl),hbit h1',yOb,hf,yOb,hf2,yOb,yOb];have e1:y7J L[i] i acc=i+1:=by rw [y7J,if_pos ⟨hop.1,by omega⟩]
  have e2:∀v,yal L[i] acc v=acc:=fun v=>by
   rw [yal,if_neg (by omega),if_neg (by omega),if_neg (by omega),if_neg (by omega),if_neg (by omega),if_neg (by omega)]
  have e3:=yfM h1 h1' L[i].arg acc b;rw [show upd b (insP L[i]).2 (stB L[i].op acc (b.getD L[i].arg.toNat false))=some (y7m L[i] acc b) from by
   rw [show y7m L[i] acc b=_ from e3];exact if_pos ⟨h10.1,by show L[i].arg<_;omega⟩,yOb]
  simp only [y5b,e1,e2]
 ·have hj:=hk.jump h1;rw [if_neg (by rw [h2];simp),if_neg (by rw [h3];simp),hf,yOb,hf2,yOb];have e2:∀v,yal L[i] acc v=acc:=fun v=>by
   rw [yal,if_neg (by omega),if_neg (by omega),if_neg (by omega),if_neg (by omega),if_neg (by omega),if_neg (by omega)]
  have e3:y7m L[i] acc b=b:=by
   rw [y7m,if_neg (by omega),if_neg (by omega),if_neg (by omega),if_neg (by omega)]
  have e1:((y7J L[i] i acc:Nat):Int)=if(if L[i].op=11 then true else if L[i].op=12 then acc else !acc)=true then L[i].arg else((i+1:Nat):Int):=by
   rw [y7J,if_neg (by omega)];have ha:(L[i].arg.toNat:Int)=L[i].arg:=by omega
   by_cases h11:L[i].op=11
   ·rw [if_pos h11,if_pos h11,if_pos rfl,ha]
   ·rw [if_neg h11,if_neg h11];by_cases h12:L[i].op=12
    ·rw [if_pos h12,if_pos h12];cases acc
     ·rfl
     ·rw [if_pos rfl,if_pos rfl,ha]
    ·rw [if_neg h12,if_neg h12];cases acc
     ·show ((if false=true then i+1 else L[i].arg.toNat:Nat):Int)=_;rw [if_neg (by simp)];exact ha
     ·rfl
  simp only [y5b,e2,e3,e1];generalize (if L[i].op=11 then true else if L[i].op=12 then acc else !acc)=q;cases q <;> rfl
theorem PrgIn.fwd{m c n:Nat}{start:List Bool}{L:List Ins}(h:PrgIn m c n start L):Fwd L:=fun i x hx ho=>by
 have hk:=h.ok i x hx;have:=hk.op;exact(hk.jump (by omega)).1
theorem yeN(x:Ins)(acc:Bool)(b:List Bool):(y7m x acc b).length=b.length:=by
 unfold y7m;split
 ·simp
 ·split
  ·simp
  ·split
   ·simp
   ·split <;> simp
theorem yiA{m c n:Nat}{start:List Bool}{L:List Ins}(h:PrgIn m c n start L){T}(hT:y1i=some T):∀(f i:Nat) (acc:Bool) (xs:List Int) (b:List Bool),L.length≤i+f→xs.length≤i→b.length=m+c+n→
  (yq L i acc b).length=b.length∧∃ys,iterF (y1W (prgP m c n start L) T) (f+1) (b,(i:Int),acc,xs)=some (yq L i acc b,ys):=by
 intro f
 induction f with
 | zero=>
  intro i acc xs b h1 h2 h3;rw [yaN (by omega)];refine⟨rfl,xs,?_⟩;rw [yb,y1W];dsimp only;rw [if_neg (by simp [prgP];omega)]
 | succ f ih=>
  intro i acc xs b h1 h2 h3;by_cases hi:i<L.length
  ·have hx:L[i]? =some L[i]:=yGe hi;have hg:=yaM h.fwd hx acc b;have hl:(y5b L[i] i acc b).2.2.length=b.length:=yeN ..;obtain⟨e1,ys,e2⟩:=ih (y5b L[i] i acc b).1 (y5b L[i] i acc b).2.1 (xs++[(i:Int)]) (y5b L[i] i acc b).2.2 (by omega) (by simp;omega) (by omega);rw [y5V h.fwd hx,yb,ygB h hT hi h2 h3];exact⟨by omega,ys,e2⟩
  ·rw [yaN (by omega)];refine⟨rfl,xs,?_⟩;rw [yb,y1W];dsimp only;rw [if_neg (by simp [prgP];omega)]
theorem yhD :∃T,y1i=some T:=by
 obtain⟨T,_,h,_⟩:=yez (op:=1) (by omega) (by omega);exact⟨T,h⟩
theorem yhE{m c n:Nat}{start:List Bool}{L:List Ins}(h:PrgIn m c n start L){b:List Bool}(hb:b.length=m+c+n):(yq L 0 false b).length=b.length∧∃ys,y6c (prgP m c n start L) b=some (ys,yq L 0 false b):=by
 obtain⟨T,hT⟩:=yhD;obtain⟨h1,ys,h2⟩:=yiA h hT L.length 0 false [] b (by omega) (by simp) hb;have h5:=h.len;refine⟨h1,ys,?_⟩;rw [y6c,hT,yOb,show iter (y1W (prgP m c n start L) T) (b,0,false,([]:List Int))=_ from y4m (by omega) h2];rfl
theorem ygC{m c n:Nat}{start:List Bool}{L:List Ins}(h:PrgIn m c n start L){b:List Bool}(hb:b.length=m+c+n):y5M (prgP m c n start L) b=some ((b.drop m).take c,b.drop (m+c)):=by
 have h1:=h.hm;have h2:=h.hc;have h3:=h.hn;rw [y5M];dsimp only [prgP];rw [show (m:Int)+c=((m+c:Nat):Int) by omega,W_nat (by omega),slc3,if_pos ⟨by omega,by omega,by omega,by omega⟩,yOb,slc3,if_pos ⟨by omega,by omega,by omega,by omega⟩,yOb,
  Int.toNat_natCast,Int.toNat_natCast,Int.toNat_natCast,List.drop_take,List.take_of_length_le (Nat.le_refl _),show m+c-m=c by omega]
theorem yhF{m c n:Nat}{start:List Bool}{L:List Ins}(h:PrgIn m c n start L){inp out mem:List Bool}(hi:inp.length=m)(ho:out.length=c)(hm:mem.length=n):
  y5n (prgP m c n start L) (out,mem) inp=some ((((yq L 0 false (inp++out++mem)).drop m).take c,(yq L 0 false (inp++out++mem)).drop (m+c)),0):=by
 have hb:(inp++out++mem).length=m+c+n:=by simp;omega
 obtain⟨h1,ys,h2⟩:=yhE h hb;rw [y5n,yhC h hi ho hm,yOb,if_neg (by simp)];dsimp only;rw [h2,yOb];dsimp only;rw [ygC h (by omega)];rfl
section
variable{a:Aut}{ctrl:List Int}{n:Nat}
theorem yfk(h:GenIn a ctrl n)(ia:Inc a.al)(ic:Inc ctrl):PrgIn a.al.length (ctrl.length+1) (n+1) (true::List.replicate n false) (genP a ctrl):=by
 have h0:=h.n0;have h1:=h.n1;have h2:=h.es;have h3:=h.al;have h4:=h.ct;have h5:=h.hn;have h6:=yhn ia ic (a:=a);exact⟨by omega,by omega,by omega,by simp,by omega,yis h5 h.ed⟩
theorem yhG(h:GenIn a ctrl n)(ia:Inc a.al)(ic:Inc ctrl){ev:List Int}(ie:Inc ev)(hl:ev.length<4294967296)(he:yA 32 none ev=0)(hs:subB ev a.al=true){out mem:List Bool}(ho:out.length=ctrl.length+1)(hm:mem.length=n+1):
  y6i (codeP a ctrl n) (out,mem) ev=some ((((yq (genP a ctrl) 0 false (a.al.map (hasB ev)++out++mem)).drop a.al.length).take (ctrl.length+1),(yq (genP a ctrl) 0 false (a.al.map (hasB ev)++out++mem)).drop (a.al.length+(ctrl.length+1))),0):=by
 have h3:=h.al;rw [y6i,codeP,ygz (by omega) hl ia ie he hs,yOb,if_neg (by simp)];show(y5n (prgP a.al.length (ctrl.length+1) (n+1) (true::List.replicate n false) (genP a ctrl)) (out,mem) (a.al.map (hasB ev))).bind (fun r=>some r)=_;rw [yhF (yfk h ia ic) (by simp) ho hm];rfl
theorem ydk{out mem:List Bool}(ho:out.length=ctrl.length+1)(hm:mem.length=n+1):y5A (codeP a ctrl n) (out,mem)=some 0:=by
 rw [y5A,if_neg (by simp [codeP,ho,hm])]
theorem yfN(h:GenIn a ctrl n){out mem:List Bool}(ho:out.length=ctrl.length+1)(hm:mem.length=n+1):y6e (codeP a ctrl n) (out,mem)=some (out.getD ctrl.length false,0):=by
 rw [y6e,ydk ho hm,yOb,if_neg (by simp),show idx (out,mem).1 ((codeP a ctrl n).2.2.1.length:Int)=some (out[ctrl.length]'(by omega)) from ya (xs:=out) (i:=ctrl.length) (by omega),yOb,List.getD_eq_getElem?_getD,yGe (by omega)];rfl
theorem yfO(h:GenIn a ctrl n){out mem:List Bool}(ho:out.length=ctrl.length+1)(hm:mem.length=n+1){q:Int→Bool}(hq:∀k,k<ctrl.length→out.getD k false=q (ctrl.getD k 0)):
  y3Z (codeP a ctrl n) (out,mem)=some (ctrl.filter q,0):=by
 have h4:=h.ct;have hi:iter (y3O (codeP a ctrl n) (out,mem)) (0,([]:List Int))=some (ctrl.filter q):=by
  have e0:((0:Int),([]:List Int))=(fun k:Nat=>((k:Int),(ctrl.take k).filter q)) 0:=by simp
  refine Eq.trans (congrArg _ e0) (y4v (f:=y3O (codeP a ctrl n) (out,mem)) (fun k:Nat=>((k:Int),(ctrl.take k).filter q)) ctrl.length (by omega) (fun k hk=>?_) ?_)
  ·rw [y3O];dsimp only;have ht:(ctrl.take (k+1)).filter q=(ctrl.take k).filter q++(if q ctrl[k] then [ctrl[k]] else []):=by
    rw [List.take_succ_eq_append_getElem hk,List.filter_append];cases hc:q ctrl[k] <;> simp [hc]
   have hk3:out[k]'(by omega)=q ctrl[k]:=by
    have:=hq k hk;rwa [List.getD_eq_getElem?_getD,yGe (by omega),List.getD_eq_getElem?_getD,yGe hk] at this
   have hlen:((ctrl.take k).filter q).length≤32:=Nat.le_trans (List.length_filter_le ..) (by simp;omega);rw [if_pos (show decide ((k:Int)<((codeP a ctrl n).2.2.1.length:Int))=true from decide_eq_true (show (k:Int)<(ctrl.length:Int) by omega)),show idx (codeP a ctrl n).2.2.1 (k:Int)=some ctrl[k] from ya hk,yOb,ya (by omega),yOb,hk3,ht];cases hc:q ctrl[k] with
   | true=>
    rw [if_pos rfl,yj (by simp;omega),yOb,y3N,show(k:Int)+1=((k+1:Nat):Int) by omega,W_nat (by omega)];rfl
   | false=>
    rw [if_neg (by simp),y3N,show(k:Int)+1=((k+1:Nat):Int) by omega,W_nat (by omega),if_neg (by simp),List.append_nil]
  ·rw [y3O];dsimp only;rw [if_neg (show ¬decide ((ctrl.length:Int)<((codeP a ctrl n).2.2.1.length:Int))=true from by rw [decide_eq_true_eq];show ¬(ctrl.length:Int)<(ctrl.length:Int);omega),List.take_of_length_le (Nat.le_refl _)]
 rw [y3Z,ydk ho hm,yOb,if_neg (by simp),hi];rfl
theorem ygD(h:GenIn a ctrl n){out mem:List Bool}(ho:out.length=ctrl.length+1)(hm:mem.length=n+1){s:Nat}(hs:s<n)(hq:∀k,k<n→mem.getD k false=decide (k=s)):
  y6B (codeP a ctrl n) (out,mem)=some ((s:Int),0):=by
 have h1:=h.n1;have hl:(mem.take n).length=n:=by simp;omega
 have hi:iter (y4J (mem.take n)) (0,0,0)=some (1,(s:Int)):=by
  have e0:((0:Int),(0:Int),(0:Int))=(fun k:Nat=>((k:Int),(if s<k then 1 else 0:Int),(if s<k then(s:Int) else 0))) 0:=by simp
  refine Eq.trans (congrArg _ e0) (y4v (f:=y4J (mem.take n)) (fun k:Nat=>((k:Int),(if s<k then 1 else 0:Int),(if s<k then(s:Int) else 0))) n (by omega) (fun k hk=>?_) ?_)
  ·rw [y4J];dsimp only;have hk3:(mem.take n)[k]'(by omega)=decide (k=s):=by
    have:=hq k hk;rw [List.getElem_take];rwa [List.getD_eq_getElem?_getD,yGe (by omega)] at this
   rw [if_pos (by rw [hl];simp;omega),ya (by omega),yOb,hk3];by_cases hks:k=s
   ·subst hks;rw [if_pos (by simp),if_neg (by omega),if_neg (by omega),if_pos (by omega),if_pos (by omega),y4I,show(k:Int)+1=((k+1:Nat):Int) by omega,W_nat (by omega)];rfl
   ·rw [if_neg (by simpa using hks),y4I,show(k:Int)+1=((k+1:Nat):Int) by omega,W_nat (by omega)];by_cases hsk:s<k
    ·rw [if_pos hsk,if_pos hsk,if_pos (by omega),if_pos (by omega)]
    ·rw [if_neg hsk,if_neg hsk,if_neg (by omega),if_neg (by omega)]
  ·rw [y4J];dsimp only;rw [if_neg (by rw [hl];simp),if_pos hs,if_pos hs]
 rw [y6B,ydk ho hm,yOb,if_neg (by simp),show slc (out,mem).2 0 (codeP a ctrl n).2.2.2=some (mem.take n) from by
  show slc mem 0 (n:Int)=_;rw [slc,if_pos ⟨by omega,by omega,by omega⟩];simp,yOb,hi,yOb,if_neg (by simp)]
end
structure Shows (a:Aut) (ctrl:List Int) (n:Nat) (s:Nat) (al:Bool) (st:List Bool×List Bool):Prop where
 ho:st.1.length=ctrl.length+1
 hm:st.2.length=n+1
 hs:s<n
 hq:∀k,k<n→st.2.getD k false=decide (k=s)
 ha:st.1.getD ctrl.length false=al
theorem yhH(h:subB us vs=true):∀x∈us,x∈vs:=fun x hx=>yc.1 (List.all_eq_true.1 h x hx)
theorem ygE{a:Aut}{n:Nat}(h:GenIn a ctrl n)(ia:Inc a.al)(ic:Inc ctrl){ev:List Int}(ie:Inc ev)(hl:ev.length<4294967296)(he:yA 32 none ev=0)(hsub:subB ev a.al=true){st:List Bool×List Bool}{s:Nat}{al:Bool}(hv:Shows a ctrl n s al st):
  ∃st',y6i (codeP a ctrl n) st ev=some (st',0)∧Shows a ctrl n (ev.foldl (y6k a.es) (s,al)).1 (ev.foldl (y6k a.es) (s,al)).2 st'∧
   ∀k,k<ctrl.length→st'.1.getD k false=(stepF a.es (ev.foldl (y6k a.es) (s,al)).1 (ctrl.getD k 0)).isSome:=by
 have h1:=yhG h ia ic ie hl he hsub (out:=st.1) (mem:=st.2) hv.ho hv.hm;have v0:=yit (m:=a.al.length) (inp:=a.al.map (hasB ev)) (by simp) hv.ho hv.hm hv.hq hv.ha;obtain⟨v1,v2,v3⟩:=yhm h.hn h.ed ia ie (yhH hsub) hv.hs v0;refine⟨_,h1,⟨v1.out.1,v1.mem.1,v2,v1.mem.2,v1.out.2.1⟩,fun k hk=>?_⟩;rw [←v3 k hk];exact v1.out.2.2 k (by omega)
theorem Shows.start{a:Aut}{n:Nat}(h0:0<n):Shows a ctrl n 0 false (List.replicate (ctrl.length+1) false,true::List.replicate n false):=by
 refine⟨by simp,by simp,h0,fun k hk=>?_,?_⟩
 ·cases k with
  | zero=>rfl
  | succ k=>
   show(true::List.replicate n false).getD (k+1) false=_;rw [List.getD_cons_succ,List.getD_eq_getElem?_getD,List.getElem?_replicate];split <;> simp
 ·show (List.replicate (ctrl.length+1) false).getD ctrl.length false=_;rw [List.getD_eq_getElem?_getD,List.getElem?_replicate];split <;> rfl
theorem ygF{a:Aut}{n:Nat}(h:GenIn a ctrl n)(ia:Inc a.al)(ic:Inc ctrl):y4H (codeP a ctrl n).1=some ((List.replicate (ctrl.length+1) false,true::List.replicate n false),0):=yhx (yfk h ia ic)
theorem yiB :y6j=some true:=by kernel_rfl
theorem yiC{xs:List (Int×Int×Int)}{p:(Int×Int×Int)→Option Bool}{q:(Int×Int×Int)→Bool}(hl:xs.length≤1000000)(hp:∀x,p x=some (q x)):
  ∃k,y2g xs p=some k∧((k= -1∧xs.find? q=none)∨∃(i:Nat) (h:i<xs.length),k=(i:Int)∧xs.find? q=some xs[i]):=by
 obtain⟨o,h1,h2⟩:=yd (f:=y2l xs p) (fun i s=>s=(i:Int)∧i≤xs.length∧xs.find? q=(xs.drop i).find? q) (fun o=>(o= .inl ()∧xs.find? q=none)∨∃(i:Nat) (h:i<xs.length),o= .inr (i:Int)∧xs.find? q=some xs[i]) xs.length 0 (by omega) (fun i s hi ⟨e1,_,e2⟩=>by
  subst e1;rw [List.drop_eq_getElem_cons hi] at e2;cases hq:q xs[i] with
  | true=>
   right;refine⟨_,?_,.inr ⟨i,hi,rfl,by rw [e2,List.find?_cons_of_pos hq]⟩⟩;rw [y2l,if_pos (ct_lt hi),ya hi,yOb,hp,hq,yOb,if_pos rfl]
  | false=>
   left;refine⟨((i+1:Nat):Int),?_,rfl,by omega,by rw [e2,List.find?_cons_of_neg (by rw [hq];simp)]⟩;rw [y2l,if_pos (ct_lt hi),ya hi,yOb,hp,hq,yOb,if_neg (by simp),nxt (by omega)]) (fun s ⟨e1,_,e2⟩=>by
  subst e1;rw [List.drop_length] at e2;exact⟨_,by rw [y2l,if_neg ct_ge],.inl ⟨rfl,e2⟩⟩) (Nat.zero_le _) 0 ⟨rfl,Nat.zero_le _,rfl⟩
 rw [y2g,h1,yOb];rcases h2 with ⟨rfl,g⟩|⟨i,hi,rfl,g⟩
 ·exact ⟨_,rfl,.inl ⟨rfl,g⟩⟩
 ·exact ⟨_,rfl,.inr ⟨i,hi,rfl,g⟩⟩
theorem ycx{b:BenT}{n:Nat}(hP:Right b.1.1 n)(e:Int):y1N b e=some ((st1 b.1.1 b.2.2.1 e).getD (-1)):=by
 obtain⟨k,h1,h2⟩:=yiC (xs:=b.1.1.2.2.2) (p:=y2m (some b) e) (q:=fun x=>x.1==b.2.2.1&&x.2.1==e) hP.l3 (fun x=>by
  rw [y2m,yOb];by_cases hx:(x.1==b.2.2.1)=true
  ·rw [if_pos hx,y1t,hx,Bool.true_and]
  ·rw [if_neg hx,y1t];simp only [Bool.not_eq_true] at hx;rw [hx,Bool.false_and])
 rw [y1N,h1,yOb];unfold st1;rcases h2 with ⟨rfl,g⟩|⟨i,hi,rfl,g⟩
 ·rw [g,if_pos (by simp)];rfl
 ·rw [g,if_neg (by simp),yOb,ya hi,yOb];rfl
theorem ydl{b:BenT}{n:Nat}(hP:Right b.1.1 n)(e:Int):y2u b e=some ((st1 b.1.1 b.2.2.1 e).isSome,(b.1,b.2.1,(st1 b.1.1 b.2.2.1 e).getD b.2.2.1,b.2.2.2)):=by
 rw [y2u,ycx hP,yOb];cases hs:st1 b.1.1 b.2.2.1 e with
 | none=>
  rw [if_neg (by simp),y2z];rfl
 | some t=>
  have ht:=((hP.es _ ((y7d hP).1 hs)).2.2.1:(0:Int)≤t);rw [if_pos (by simpa using ht),y2z];simp [ht]
def trF(P:AutT)(c:Int):List Int→Int→Bool→List Int→Int×Bool×List Int
 | [],s,ok,out=>(s,ok,out)
 | e::l,s,ok,out=>match st1 P s e with
  | none=>trF P c l s ok out
  | some t=>trF P c l t (ok&&(st1 P t c).isSome) (out++[e])
theorem y8s{P:AutT}{n:Nat}(hP:Right P n)(s e:Int):decide ((st1 P s e).getD (-1)≥0)=(st1 P s e).isSome:=by
 cases hs:st1 P s e with
 | none=>rfl
 | some t=>
  have ht:=((hP.es _ ((y7d hP).1 hs)).2.2.1:(0:Int)≤t);simpa using ht
theorem ygG{b:BenT}{n:Nat}(hP:Right b.1.1 n){l:List Int}(hl:l.length≤1000000)(c:Int):
  y4s b l c=some ((trF b.1.1 c l b.2.2.1 (c != -1) []).2.2,(trF b.1.1 c l b.2.2.1 (c != -1) []).2.1,(b.1,b.2.1,(trF b.1.1 c l b.2.2.1 (c != -1) []).1,b.2.2.2)):=by
 obtain⟨o,h1,h2⟩:=yd (f:=y3p l c) (fun i s=>s.2.1=(i:Int)∧s.1.1=b.1∧s.1.2.1=b.2.1∧s.1.2.2.2=b.2.2.2∧s.2.2.2.length≤i∧trF b.1.1 c l b.2.2.1 (c != -1) []=trF b.1.1 c (l.drop i) s.1.2.2.1 s.2.2.1 s.2.2.2) (fun o=>o=((b.1,b.2.1,(trF b.1.1 c l b.2.2.1 (c != -1) []).1,b.2.2.2),(trF b.1.1 c l b.2.2.1 (c != -1) []).2)) l.length 0 (by omega) (fun i s hi ⟨e1,e2,e3,e4,e5,e6⟩=>by
  obtain⟨⟨b1,b2,b3,b4⟩,j,ok,out⟩:=s;dsimp only at e1 e2 e3 e4 e5 e6;subst e1 e2 e3 e4;left;rw [List.drop_eq_getElem_cons hi,trF] at e6;have ht:=ydl (b:=(b.1,b.2.1,b3,b.2.2.2)) hP l[i];dsimp only at ht;rw [y3p,if_pos (ct_lt hi),ya hi,yOb,ht,yOb];cases hs:st1 b.1.1 b3 l[i] with
  | none=>
   rw [hs] at e6;refine⟨((b.1,b.2.1,b3,b.2.2.2),((i+1:Nat):Int),ok,out),?_,rfl,rfl,rfl,rfl,Nat.le_succ_of_le e5,e6⟩;rw [if_neg (by simp),y1o,nxt (by omega)];rfl
  | some t=>
   rw [hs] at e6;refine⟨((b.1,b.2.1,t,b.2.2.2),((i+1:Nat):Int),(ok&&(st1 b.1.1 t c).isSome),out++[l[i]]),?_,rfl,rfl,rfl,rfl,by simp;omega,e6⟩;have hld:=ycx (b:=(b.1,b.2.1,t,b.2.2.2)) hP c;dsimp only at hld;rw [if_pos (by rfl),yj (by simp;omega),yOb,Option.getD_some];cases ok with
   | true=>rw [if_pos rfl,hld,yOb,yOb,y1o,y8s hP,nxt (by omega),Bool.true_and]
   | false=>rw [if_neg (by simp),yOb,y1o,nxt (by omega),Bool.false_and]) (fun s ⟨e1,e2,e3,e4,e5,e6⟩=>by
  obtain⟨⟨b1,b2,b3,b4⟩,j,ok,out⟩:=s;dsimp only at e1 e2 e3 e4 e5 e6;subst e1 e2 e3 e4;rw [List.drop_length,trF] at e6;exact⟨_,by rw [y3p,if_neg ct_ge],by rw [e6]⟩) (Nat.zero_le _) (b,0,(c != -1),[]) ⟨rfl,rfl,rfl,rfl,Nat.le_refl _,rfl⟩
 rw [y4s,h1,yOb,h2]
theorem yeA{r:PbT×Int×Int×Bool}{n:Nat}(hP:Right r.1.1 n){l:List Int}(hl:l.length≤1000000)(c:Int):
  y3f r l c=some ((trF r.1.1 c l r.2.1 (st1 r.1.1 r.2.1 c).isSome []).2.2,(trF r.1.1 c l r.2.1 (st1 r.1.1 r.2.1 c).isSome []).2.1,(r.1,(trF r.1.1 c l r.2.1 (st1 r.1.1 r.2.1 c).isSome []).1,r.2.2)):=by
 obtain⟨o,h1,h2⟩:=yd (f:=y3r r l c) (fun i s=>s.2.1=(i:Int)∧s.2.2.2.length≤i∧trF r.1.1 c l r.2.1 (st1 r.1.1 r.2.1 c).isSome []=trF r.1.1 c (l.drop i) s.1 s.2.2.1 s.2.2.2) (fun o=>o=trF r.1.1 c l r.2.1 (st1 r.1.1 r.2.1 c).isSome []) l.length 0 (by omega) (fun i s hi ⟨e1,e5,e6⟩=>by
  obtain⟨b3,j,ok,out⟩:=s;dsimp only at e1 e5 e6;subst e1;left;rw [List.drop_eq_getElem_cons hi,trF] at e6;rw [y3r,if_pos (ct_lt hi),ya hi,yOb,y6Q hP,yOb,y8s hP];cases hs:st1 r.1.1 b3 l[i] with
  | none=>
   rw [hs] at e6;refine⟨(b3,((i+1:Nat):Int),ok,out),?_,rfl,Nat.le_succ_of_le e5,e6⟩;rw [if_neg (by simp),yJ,nxt (by omega)]
  | some t=>
   rw [hs] at e6;refine⟨(t,((i+1:Nat):Int),(ok&&(st1 r.1.1 t c).isSome),out++[l[i]]),?_,rfl,by simp;omega,e6⟩;rw [if_pos (by rfl),yOb,yj (by simp;omega),yOb,Option.getD_some];cases ok with
   | true=>rw [if_pos rfl,y6Q hP,yOb,yJ,y8s hP,nxt (by omega),Bool.true_and]
   | false=>rw [if_neg (by simp),yJ,nxt (by omega),Bool.false_and]) (fun s ⟨e1,e5,e6⟩=>by
  obtain⟨b3,j,ok,out⟩:=s;dsimp only at e1 e5 e6;subst e1;rw [List.drop_length,trF] at e6;exact⟨_,by rw [y3r,if_neg ct_ge],by rw [e6]⟩) (Nat.zero_le _) (r.2.1,0,(st1 r.1.1 r.2.1 c).isSome,[]) ⟨rfl,Nat.le_refl _,rfl⟩
 rw [y3f,y6Q hP,yOb,y8s hP,h1,yOb,h2]
theorem has55(hl:xs.length≤1000000)(x:Int):y1l xs x=some (hasB xs x):=by
 obtain⟨o,h1,h2⟩:=yd (f:=y3C xs x) (fun i s=>s=(i:Int)∧∀j (h:j<xs.length),j<i→xs[j]≠x) (fun o=>(o= .inl ()∧x∉xs)∨(o= .inr ()∧x∈xs)) xs.length 0 (by omega) (fun i s hi ⟨e1,e2⟩=>by
  subst e1;by_cases he:xs[i]=x
  ·right;refine⟨_,?_,.inr ⟨rfl,he▸List.getElem_mem hi⟩⟩;rw [y3C,if_pos (ct_lt hi),ya hi,yOb,if_pos (by simpa using he)]
  ·left;refine⟨((i+1:Nat):Int),?_,rfl,fun j h hj=>?_⟩
   ·rw [y3C,if_pos (ct_lt hi),ya hi,yOb,if_neg (by simpa using he),nxt (by omega)]
   ·by_cases e:j=i
    ·subst e;exact he
    ·exact e2 j h (by omega)) (fun s ⟨e1,e2⟩=>by
  subst e1;refine⟨_,by rw [y3C,if_neg ct_ge],.inl ⟨rfl,fun hm=>?_⟩⟩;obtain⟨j,hj,e⟩:=List.mem_iff_getElem.1 hm;exact e2 j hj hj e) (Nat.zero_le _) 0 ⟨rfl,fun j h hj=>by omega⟩
 rw [y1l,h1,yOb];rcases h2 with ⟨rfl,g⟩|⟨rfl,g⟩
 ·have:hasB xs x=false:=by
   cases hb:hasB xs x with
   | false=>rfl
   | true=>exact absurd (yc.1 hb) g
  rw [this]
 ·rw [yc.2 g]
def hnS(S:AutT)(x:Int×Bool)(e:Int):Int×Bool:=match st1 S x.1 e with
 | none=>(x.1,true)
 | some t=>(t,x.2)
def imL(S:AutT)(im:List Int)(k:Nat):List Int:=((List.range k).map fun i:Nat=>(i:Int)).filter fun e=>hasB im e&&hasB S.1 e
theorem yhI{k:Nat}:imL S im (k+1)=imL S im k++(if (hasB im (k:Int)&&hasB S.1 (k:Int))=true then [(k:Int)] else []):=by
 unfold imL;rw [List.range_succ,List.map_append,List.filter_append];congr 1;rw [List.map_cons,List.map_nil,List.filter_cons,List.filter_nil]
theorem yaj{r:PbT×Int×Int×Bool}{n:Nat}(hS:Right r.1.2.1 n)(hl:im.length≤1000000):
  y1p r im=some (r.1,r.2.1,(imL r.1.2.1 im 32).foldl (hnS r.1.2.1) r.2.2):=by
 obtain⟨o,h1,h2⟩:=yd (f:=y2D r im) (fun i s=>s.2.2=(i:Int)∧(s.1,s.2.1)=(imL r.1.2.1 im i).foldl (hnS r.1.2.1) r.2.2) (fun o=>o=(imL r.1.2.1 im 32).foldl (hnS r.1.2.1) r.2.2) 32 0 (by omega) (fun i s hi ⟨e1,e2⟩=>by
  obtain⟨a,al,j⟩:=s;dsimp only at e1 e2;subst e1;left;have hlt:decide ((i:Int)<32)=true:=by simp;omega
  rw [y2D,if_pos hlt,has55 hl,yOb];have hsu:=yhI (S:=r.1.2.1) (im:=im) (k:=i);cases hb:hasB im (i:Int) with
  | false=>
   rw [hb] at hsu;refine⟨(a,al,((i+1:Nat):Int)),?_,rfl,?_⟩
   ·rw [if_pos (by simp),yOb,if_pos rfl,yp,nxt (by omega)]
   ·rw [hsu,if_neg (by simp),List.append_nil];exact e2
  | true=>
   rw [hb] at hsu;rw [if_neg (by simp),has55 hS.l1,yOb,yOb];cases hc:hasB r.1.2.1.1 (i:Int) with
   | false=>
    rw [hc] at hsu;refine⟨(a,al,((i+1:Nat):Int)),?_,rfl,?_⟩
    ·rw [if_pos (by simp),yp,nxt (by omega)]
    ·rw [hsu,if_neg (by simp),List.append_nil];exact e2
   | true=>
    rw [hc] at hsu;rw [if_neg (by simp),y6Q hS,yOb,y8s hS];rw [if_pos (by simp)] at hsu;cases hs:st1 r.1.2.1 a (i:Int) with
    | none=>
     refine⟨(a,true,((i+1:Nat):Int)),?_,rfl,?_⟩
     ·rw [if_neg (by simp),yp,nxt (by omega)]
     ·rw [hsu,List.foldl_append,←e2,List.foldl_cons,List.foldl_nil,hnS];dsimp only;rw [hs]
    | some t=>
     refine⟨(t,al,((i+1:Nat):Int)),?_,rfl,?_⟩
     ·rw [if_pos (by rfl),yp,nxt (by omega),Option.getD_some]
     ·rw [hsu,List.foldl_append,←e2,List.foldl_cons,List.foldl_nil,hnS];dsimp only;rw [hs]) (fun s ⟨e1,e2⟩=>by
  obtain⟨a,al,j⟩:=s;dsimp only at e1 e2;subst e1;exact⟨_,by rw [y2D,if_neg (by simp)],e2⟩) (Nat.zero_le _) (r.2.2.1,r.2.2.2,0) ⟨rfl,rfl⟩
 rw [y1p,h1,yOb,h2]
theorem yeB{n:Nat}(hS:Right S n)(s:Nat)(e:Int):(stepF (toAut S).es s e).map (fun t:Nat=>(t:Int))=st1 S (s:Int) e:=by
 unfold stepF st1;show((((S.2.2.2.map toEd).find? _).map _).map _)=_;rw [List.find?_map];cases h:S.2.2.2.find? fun x=>x.1==(s:Int)&&x.2.1==e with
 | none=>
  have h':S.2.2.2.find? ((fun x:Ed=>x.f==(s:Int)&&x.e==e)∘toEd)=none:=h;rw [h'];rfl
 | some x=>
  have h':S.2.2.2.find? ((fun x:Ed=>x.f==(s:Int)&&x.e==e)∘toEd)=some x:=h;have:=(hS.es x (List.mem_of_find?_eq_some h)).2.2.1;rw [h'];show some (((x.2.2).toNat:Nat):Int)=some x.2.2;rw [Int.toNat_of_nonneg this]
theorem ydm{n:Nat}(hS:Right S n):∀(ev:List Int) (s:Nat) (al:Bool),(ev.foldl (hnS S) ((s:Int),al))=(((ev.foldl (y6k (toAut S).es) (s,al)).1:Int),(ev.foldl (y6k (toAut S).es) (s,al)).2)
 | [],_,_=>rfl
 | e::ev,s,al=>by
  rw [List.foldl_cons,List.foldl_cons,hnS,y6k];dsimp only;have h:=yeB hS s e;cases hs:stepF (toAut S).es s e with
  | none=>
   rw [hs] at h;rw [←h];exact ydm hS ev s true
  | some t=>
   rw [hs] at h;rw [←h];exact ydm hS ev t al
theorem ydn{n:Nat}(hS:Right S n):e∈imL S im 32↔e∈im∧e∈S.1:=by
 unfold imL;rw [List.mem_filter,Bool.and_eq_true,yc,yc,List.mem_map];constructor
 ·rintro ⟨_,h⟩;exact h
 ·intro h;have:=hS.alr e h.2;exact⟨⟨e.toNat,List.mem_range.2 (by omega),by omega⟩,h⟩
theorem yfl:Inc (imL S im 32):=by
 unfold imL Inc;refine List.Pairwise.filter _ ?_;rw [List.pairwise_map];exact List.pairwise_lt_range.imp fun h=>by omega
theorem yfP{b:BenT}{n:Nat}(hS:Right b.1.2.1 n){l:List Int}(hl:l.length≤1000000):iter (y1E b l) (0,[])=some (l.filter (hasB b.1.2.1.1)):=by
 obtain⟨o,h1,h2⟩:=yd (f:=y1E b l) (fun i s=>s.1=(i:Int)∧i≤l.length∧s.2=(l.take i).filter (hasB b.1.2.1.1)) (fun o=>o=l.filter (hasB b.1.2.1.1)) l.length 0 (by omega) (fun i s hi ⟨e1,_,e2⟩=>by
  obtain⟨j,out⟩:=s;dsimp only at e1 e2;subst e1;left;have hle:=List.length_filter_le (hasB b.1.2.1.1) (l.take i);rw [List.length_take,←e2] at hle;refine⟨(((i+1:Nat):Int),(l.take (i+1)).filter (hasB b.1.2.1.1)),?_,rfl,by omega,rfl⟩;rw [y1E,if_pos (ct_lt hi),ya hi,yOb,y3D (by have:=hS.l1;omega),yOb,List.take_succ_eq_append_getElem hi,List.filter_append,←e2,List.filter_cons,List.filter_nil];cases hb:hasB b.1.2.1.1 l[i] with
  | true=>rw [if_pos rfl,yj (by simp;omega),yOb,y1D,nxt (by omega),if_pos rfl]
  | false=>rw [if_neg (by simp),y1D,nxt (by omega),if_neg (by simp),List.append_nil]) (fun s ⟨e1,_,e2⟩=>by
  obtain⟨j,out⟩:=s;dsimp only at e1 e2;subst e1;exact⟨_,by rw [y1E,if_neg ct_ge],by rw [e2,List.take_length]⟩) (Nat.zero_le _) (0,[]) ⟨rfl,Nat.zero_le _,by simp⟩
 rw [h1,h2]
theorem yhJ{n:Nat}(hS:Right S n){l:List Int}(hn:l.Nodup):isL (l.filter (hasB S.1))=imL S l 32:=by
 refine yer ?_ yfl fun e=>?_
 ·have hp:=y9P (l.filter (hasB S.1));have hd:(isL (l.filter (hasB S.1))).Nodup:=hp.nodup_iff.2 (hn.filter _);exact(yej _).imp₂ (fun _ _ h1 h2=>by omega) hd
 ·rw [(y9P _).mem_iff,List.mem_filter,yc,ydn hS]
theorem yfQ{b:BenT}{n:Nat}(hS:Right b.1.2.1 n)(hG:GenIn (toAut b.1.2.1) ctrl n)(ic:Inc ctrl)(hc:b.2.1=codeP (toAut b.1.2.1) ctrl n){s:Nat}{al:Bool}(hv:Shows (toAut b.1.2.1) ctrl n s al b.2.2.2){l:List Int}(hl:l.length≤1000000)(hn:l.Nodup):
  ∃st',yV b l=some (0,(b.1,b.2.1,b.2.2.1,st'))∧∃(s':Nat) (al':Bool),(imL b.1.2.1 l 32).foldl (hnS b.1.2.1) ((s:Int),al)=((s':Int),al')∧Shows (toAut b.1.2.1) ctrl n s' al' st'∧
   ∀k,k<ctrl.length→st'.1.getD k false=(st1 b.1.2.1 (s':Int) (ctrl.getD k 0)).isSome:=by
 have hi:=yfl (S:=b.1.2.1) (im:=l);have hr:∀x∈imL b.1.2.1 l 32,0≤x∧x<32:=fun x hx=>hS.alr x ((ydn hS).1 hx).2;have hlen:=Alp.len ⟨hi,hr⟩;obtain⟨st',g1,g2,g3⟩:=ygE hG hS.ali ic hi (by omega) (y7a hi hr nofun) (List.all_eq_true.2 fun x hx=>yc.2 ((ydn hS).1 hx).2) hv;refine⟨st',?_,_,_,ydm hS _ _ _,g2,fun k hk=>?_⟩
 ·have hfl:=List.length_filter_le (hasB b.1.2.1.1) l;rw [yV,yfP hS hl,yOb,y5F,if_pos (by omega),yOb,yhJ hS hn,hc,g1,yOb,if_pos (by rfl),y2Q,←hc]
 ·rw [g3 k hk,←yeB hS];simp
def cmdL(q:PbT):List Int:=q.2.1.1.filter fun e=>!hasB q.2.2 e
theorem ycc{q:PbT}(h1:q.2.1.1.length≤1000000)(h2:q.2.2.length≤1000000):y2R q=some (cmdL q):=by
 obtain⟨o,g1,g2⟩:=yd (f:=y2Z q) (fun i s=>s.1=(i:Int)∧i≤q.2.1.1.length∧s.2=(q.2.1.1.take i).filter fun e=>!hasB q.2.2 e) (fun o=>o=cmdL q) q.2.1.1.length 0 (by omega) (fun i s hi ⟨e1,_,e2⟩=>by
  obtain⟨j,out⟩:=s;dsimp only at e1 e2;subst e1;left;have hle:=List.length_filter_le (fun e=>!hasB q.2.2 e) (q.2.1.1.take i);rw [List.length_take,←e2] at hle;refine⟨(((i+1:Nat):Int),(q.2.1.1.take (i+1)).filter fun e=>!hasB q.2.2 e),?_,rfl,by omega,rfl⟩;rw [y2Z,if_pos (ct_lt hi),ya hi,yOb,has55 h2,yOb,List.take_succ_eq_append_getElem hi,List.filter_append,←e2,List.filter_cons,List.filter_nil];cases hb:hasB q.2.2 q.2.1.1[i] with
  | true=>rw [if_neg (by simp),y2b,nxt (by omega),if_neg (by simp),List.append_nil]
  | false=>rw [if_pos (by rfl),yOb,yj (by simp;omega),yOb,y2b,nxt (by omega),if_pos (by rfl)]) (fun s ⟨e1,_,e2⟩=>by
  obtain⟨j,out⟩:=s;dsimp only at e1 e2;subst e1;exact⟨_,by rw [y2Z,if_neg ct_ge],by rw [e2,List.take_length];rfl⟩) (Nat.zero_le _) (0,[]) ⟨rfl,Nat.zero_le _,by simp⟩
 rw [y2R,g1,yOb,g2]
theorem ydo{q:PbT}(h1:q.2.1.1.length≤1000000)(h2:q.2.2.length≤1000000):y5G q=yU q.2.1 (cmdL q):=by
 obtain⟨o,g1,g2⟩:=yd (f:=y5y q) (fun i s=>s.1=(i:Int)∧i≤q.2.1.1.length∧s.2=(q.2.1.1.take i).filter fun e=>!hasB q.2.2 e) (fun o=>o=cmdL q) q.2.1.1.length 0 (by omega) (fun i s hi ⟨e1,_,e2⟩=>by
  obtain⟨j,out⟩:=s;dsimp only at e1 e2;subst e1;left;have hle:=List.length_filter_le (fun e=>!hasB q.2.2 e) (q.2.1.1.take i);rw [List.length_take,←e2] at hle;refine⟨(((i+1:Nat):Int),(q.2.1.1.take (i+1)).filter fun e=>!hasB q.2.2 e),?_,rfl,by omega,rfl⟩;rw [y5y,if_pos (ct_lt hi),ya hi,yOb,y3D (by omega),yOb,List.take_succ_eq_append_getElem hi,List.filter_append,←e2,List.filter_cons,List.filter_nil];cases hb:hasB q.2.2 q.2.1.1[i] with
  | true=>rw [if_neg (by simp),y4h,nxt (by omega),if_neg (by simp),List.append_nil]
  | false=>rw [if_pos (by rfl),yj (by simp;omega),yOb,y4h,nxt (by omega),if_pos (by rfl)]) (fun s ⟨e1,_,e2⟩=>by
  obtain⟨j,out⟩:=s;dsimp only at e1 e2;subst e1;exact⟨_,by rw [y5y,if_neg ct_ge],by rw [e2,List.take_length];rfl⟩) (Nat.zero_le _) (0,[]) ⟨rfl,Nat.zero_le _,by simp⟩
 rw [y5G,g1,yOb,g2];cases yU q.2.1 (cmdL q) <;> rfl
theorem yiD{q:PbT}(h1:q.2.1.1.length≤1000000)(h2:q.2.2.length≤1000000):y1h q=y2S q:=by
 rw [y1h,y2S,ycc h1 h2,yOb,ydo h1 h2]
def trE(P:AutT):List Int→Int→Int×List Int
 | [],s=>(s,[])
 | e::l,s=>match st1 P s e with
  | none=>trE P l s
  | some t=>((trE P l t).1,e::(trE P l t).2)
theorem ya2(P:AutT)(c:Int):∀(l:List Int) (s:Int) (ok:Bool) (out:List Int),trF P c l s ok out=((trE P l s).1,ok&&(trF P c l s true []).2.1,out++(trE P l s).2)
 | [],s,ok,out=>by simp [trF,trE]
 | e::l,s,ok,out=>by
  rw [trF,trE,trF];cases h:st1 P s e with
  | none=>exact ya2 P c l s ok out
  | some t=>
   dsimp only;rw [ya2 P c l t (ok&&_),ya2 P c l t (true&&_),Bool.true_and,Bool.and_assoc,List.append_assoc];rfl
def aft(P:AutT)(c:Int)(l:List Int)(s:Int):Bool:=(trF P c l s true []).2.1
theorem yhK(P:AutT)(c e:Int)(l:List Int)(s:Int):aft P c (e::l) s=match st1 P s e with
  | none=>aft P c l s
  | some t=>(st1 P t c).isSome&&aft P c l t:=by
 unfold aft;rw [trF];cases st1 P s e with
 | none=>rfl
 | some t=>
  dsimp only;rw [ya2,Bool.true_and]
theorem ydp(P:AutT)(c:Int):∀(l:List Int) (s:Int),(st1 P s c).isSome=true→aft P c l s=true→(st1 P (trE P l s).1 c).isSome=true
 | [],_,h,_=>h
 | e::l,s,h,ha=>by
  rw [yhK] at ha;rw [trE];cases hs:st1 P s e with
  | none=>
   rw [hs] at ha;exact ydp P c l s h ha
  | some t=>
   rw [hs] at ha;simp only [Bool.and_eq_true] at ha;exact ydp P c l t ha.1 ha.2
theorem y8h(P:AutT):∀(l:List Int) (s:Int),(trE P l s).2.length≤l.length
 | [],_=>Nat.le_refl _
 | e::l,s=>by
  rw [trE];cases st1 P s e with
  | none=>exact Nat.le_succ_of_le (y8h P l s)
  | some t=>exact Nat.succ_le_succ (y8h P l t)
theorem ybT(P:AutT):∀(l:List Int) (s:Int),(trE P l s).2.Sublist l
 | [],_=> .slnil
 | e::l,s=>by
  rw [trE];cases st1 P s e with
  | none=>exact .cons _ (ybT P l s)
  | some t=>exact .cons_cons _ (ybT P l t)
abbrev RunT :=Int×Int×Bool
def hnL(S:AutT)(im:List Int)(z:Int×Bool):Int×Bool:=(imL S im 32).foldl (hnS S) z
def midR(q:PbT)(r:RunT)(c:CycT):RunT:=((trE q.1 c.1 r.1).1,hnL q.2.1 (trE q.1 c.1 r.1).2 r.2)
def dnR(q:PbT)(m:RunT)(c:CycT)(cm:Int):Bool:=cm != -1&&aft q.1 cm c.2.1 m.1
def finR(q:PbT)(m:RunT)(c:CycT)(cm:Int):RunT:=
 if dnR q m c cm=true then((st1 q.1 (trE q.1 c.2.1 m.1).1 cm).getD (trE q.1 c.2.1 m.1).1,hnL q.2.1 [cm] (hnL q.2.1 (trE q.1 c.2.1 m.1).2 m.2))
 else((trE q.1 c.2.1 m.1).1,hnL q.2.1 (trE q.1 c.2.1 m.1).2 m.2)
def enR(q:PbT)(s:Int):List Int:=(cmdL q).filter fun e=>(st1 q.2.1 s e).isSome
def perm(q:PbT)(m:RunT)(e:Int):Bool:=(st1 q.1 m.1 e).isSome&&(!hasB q.2.1.1 e||(st1 q.2.1 m.2.1 e).isSome)
abbrev StpR :=List Int×List Int×List Int×Int×Bool×Int×Bool
def stpR(q:PbT)(r:RunT)(c:CycT)(ch:RunT→Int):StpR:=
 ((trE q.1 c.1 r.1).2,(trE q.1 c.2.1 (midR q r c).1).2,enR q (midR q r c).2.1,ch (midR q r c),dnR q (midR q r c) c (ch (midR q r c)),(finR q (midR q r c) c (ch (midR q r c))).2.1,(finR q (midR q r c) c (ch (midR q r c))).2.2)
def cycR(q:PbT)(ch:CycT→RunT→Int)(r:RunT)(c:CycT):RunT:=finR q (midR q r c) c (ch c (midR q r c))
def y5Q(q:PbT)(ch:CycT→RunT→Int):RunT→List CycT→List StpR
 | _,[]=> []
 | r,c::l=>stpR q r c (ch c)::y5Q q ch (cycR q ch r c) l
def runR(q:PbT)(ch:CycT→RunT→Int)(r:RunT)(l:List CycT):RunT:=l.foldl (cycR q ch) r
theorem y9E(q:PbT)(ch:CycT→RunT→Int):∀(l:List CycT) (r:RunT),(y5Q q ch r l).length=l.length
 | [],_=>rfl
 | c::l,r=>by rw [y5Q,List.length_cons,List.length_cons,y9E]
theorem yak(q:PbT)(ch:CycT→RunT→Int)(c:CycT):∀(l:List CycT) (r:RunT),y5Q q ch r (l++[c])=y5Q q ch r l++[stpR q (runR q ch r l) c (ch c)]
 | [],_=>rfl
 | d::l,r=>by
  rw [List.cons_append,y5Q,y5Q,yak q ch c l,List.cons_append];rfl
theorem ydS(q:PbT)(ch:CycT→RunT→Int)(c:CycT)(l:List CycT)(r:RunT):runR q ch r (l++[c])=cycR q ch (runR q ch r l) c:=List.foldl_append ..
def chP(q:PbT)(pr:List Int)(m:RunT):Int:=(pr.find? (perm q m)).getD (-1)
theorem ydT(q:PbT)(pr:List Int)(m:RunT):chP q pr m= -1∨(chP q pr m∈pr∧perm q m (chP q pr m)=true):=by
 unfold chP;cases h:pr.find? (perm q m) with
 | none=>exact .inl rfl
 | some x=>exact .inr ⟨List.mem_of_find?_eq_some h,List.find?_some h⟩
def wdR(s:StpR):List Int:=s.1++s.2.1++(if s.2.2.2.2.1=true then [s.2.2.2.1] else [])
theorem yfR{a b:List Int}(h:a.length+b.length≤100000):y5O [a,b]=some (a++b):=by
 have h1:iter (y3B [a,b]) (0,0)=some ((a.length+b.length:Nat):Int):=by
  refine y4m (n:=3) (by omega) ?_;rw [yb,y3B,if_pos (by simp),show idx [a,b] 0=some a from rfl,yOb];dsimp only;rw [show (0:Int)+(a.length:Int)=((a.length:Nat):Int) by omega,W_nat (by omega),if_neg (by simp),y4O];dsimp only;rw [yb,y3B,show W (0+1)=1 from rfl,if_pos (by simp),show idx [a,b] 1=some b from rfl,yOb];dsimp only;rw [show (a.length:Int)+(b.length:Int)=((a.length+b.length:Nat):Int) by omega,W_nat (by omega),if_neg (by simp;omega),y4O];dsimp only;rw [yb,y3B,show W (1+1)=2 from rfl,if_neg (by simp)]
 have h2:iter (y3A [a,b]) (0,[])=some (a++b):=by
  refine y4m (n:=3) (by omega) ?_;rw [yb,y3A,if_pos (by simp),show idx [a,b] 0=some a from rfl,yOb,yj (by simp;omega),yOb,show W (0+1)=1 from rfl];dsimp only;rw [yb,y3A,if_pos (by simp),show idx [a,b] 1=some b from rfl,yOb,yj (by simp;omega),yOb,show W (1+1)=2 from rfl];dsimp only;rw [yb,y3A,if_neg (by simp)];rfl
 rw [y5O,h1,yOb,y6s,if_pos ⟨rfl,by omega,by omega⟩,yOb,h2,yOb]
def Shw(l:List StpR):Prop:=∀s∈l,s.1.length+s.2.1.length≤100
theorem ydq{s:StpR}(h:s.1.length+s.2.1.length≤100):(wdR s).length≤101:=by
 unfold wdR;rw [List.length_append,List.length_append];split <;> simp <;> omega
theorem ygH{s:StpR}(h:s.1.length+s.2.1.length≤100):y2v s=some (wdR s):=by
 rw [y2v,yfR (by omega),yOb,wdR];cases s.2.2.2.2.1 with
 | true=>rw [if_pos rfl,yj (by simp;omega),yOb,if_pos rfl];rfl
 | false=>rw [if_neg (by simp),if_neg (by simp),List.append_nil];rfl
theorem yaa{l:List StpR}(h:Shw l):(l.flatMap wdR).length≤l.length*101:=by
 induction l with
 | nil=>simp
 | cons s l ih=>
  have h1:=ydq (h s (List.mem_cons_self ..));have h2:=ih fun x hx=>h x (List.mem_cons_of_mem _ hx);rw [List.flatMap_cons,List.length_append,List.length_cons];omega
theorem Shw.take{l:List StpR}(h:Shw l)(i:Nat):Shw (l.take i):=fun s hs=>h s (List.mem_of_mem_take hs)
theorem yb6(l:List StpR)(s:StpR):(l++[s]).flatMap wdR=l.flatMap wdR++wdR s:=by simp
theorem yiE{l:List StpR}(h:Shw l)(hl:l.length≤1000):y4w l=some (l.flatMap wdR):=by
 have e0:((0:Int),([]:List Int))=(fun k:Nat=>((k:Int),(l.take k).flatMap wdR)) 0:=rfl;have hi:iter (y4j l) (0,[])=some (l.flatMap wdR):=by
  refine Eq.trans (congrArg _ e0) (y4v (f:=y4j l) (fun k:Nat=>((k:Int),(l.take k).flatMap wdR)) l.length (by omega) (fun k hk=>?_) ?_)
  ·have h1:=h _ (List.getElem_mem hk);have h2:=ydq h1;have h3:=yaa (h.take k);rw [List.length_take] at h3;have h4:min k l.length*101≤1000*101:=Nat.mul_le_mul_right _ (by omega);rw [y4j,if_pos (ct_lt hk),ya hk,yOb,ygH h1,yOb,yj (by dsimp only;omega),yOb];dsimp only;rw [nxt (by omega),List.take_succ_eq_append_getElem hk,yb6]
  ·rw [y4j,if_neg ct_ge,List.take_length]
 rw [y4w,hi,yOb]
abbrev MeT :=Int×Int×Int×Int×Int×Int
def mx(a b:Int):Int:=if a<b then b else a
def me1(m:MeT)(s:StpR):MeT:=
 (W (m.1+((wdR s).length:Int)),(if s.2.2.2.1 != -1 then W (m.2.1+1) else m.2.1),(if s.2.2.2.1 != -1 && !s.2.2.2.2.1 then W (m.2.2.1+1) else m.2.2.1),(if ((wdR s).length:Int)==0 then W (m.2.2.2.1+1) else m.2.2.2.1),(if s.2.2.2.2.2.2 then W (m.2.2.2.2.1+1) else m.2.2.2.2.1),mx (mx m.2.2.2.2.2 (s.1.length:Int)) (s.2.1.length:Int))
def meR(l:List StpR):MeT:=l.foldl me1 (0,0,0,0,0,0)
theorem ycy(l:List StpR)(s:StpR):meR (l++[s])=me1 (meR l) s:=List.foldl_append ..
theorem yfS{l:List StpR}(h:Shw l)(hl:l.length≤1000):y5D l=some (meR l):=by
 have e0:((0:Int),((0,0,0,0,0,0):MeT))=(fun k:Nat=>((k:Int),meR (l.take k))) 0:=rfl;have hi:iter (y3i l) (0,0,0,0,0,0,0)=some (meR l):=by
  refine Eq.trans (congrArg _ e0) (y4v (f:=y3i l) (fun k:Nat=>((k:Int),meR (l.take k))) l.length (by omega) (fun k hk=>?_) ?_)
  ·have h1:=h _ (List.getElem_mem hk);rw [y3i,if_pos (ct_lt hk),ya hk,yOb,ygH h1,yOb,List.take_succ_eq_append_getElem hk,ycy,me1,←nxt (i:=k) (by omega)];generalize meR (l.take k)=m;generalize l[k]=s;simp only [y4u,y3h,y4t,mx];cases h1:((wdR s).length:Int)==0 <;> cases h2:s.2.2.2.1 != -1 <;> cases h3:s.2.2.2.2.1 <;> cases h4:s.2.2.2.2.2.2 <;> simp <;> rfl
  ·rw [y3i,if_neg ct_ge,List.take_length]
 rw [y5D,hi,yOb]
theorem yiX{l:List StpR}(h:Shw l)(hl:l.length≤1000):(meR l).1=((l.flatMap wdR).length:Int):=by
 have:∀k,k≤l.length→(meR (l.take k)).1=(((l.take k).flatMap wdR).length:Int):=by
  intro k
  induction k with
  | zero=>intro _;rfl
  | succ k ih=>
   intro hk;have h2:=ydq (h _ (List.getElem_mem (show k<l.length from hk)));have h3:=yaa (h.take k);rw [List.length_take] at h3;have h4:min k l.length*101≤1000*101:=Nat.mul_le_mul_right _ (by omega);rw [List.take_succ_eq_append_getElem (show k<l.length from hk),ycy,yb6,me1,ih (by omega),List.length_append];dsimp only;rw [←Int.natCast_add,W_nat (by omega)]
 have g:=this l.length (Nat.le_refl _);rwa [List.take_length] at g
theorem y9F(hl:xs.length≤1000000):yG xs xs=some true:=by
 have hi:iter (y1R xs xs) 0=some (.inl ()):=y4v (f:=y1R xs xs) (fun k:Nat=>(k:Int)) xs.length (by omega) (fun k hk=>by
  rw [y1R,if_pos (ct_lt hk),ya hk,yOb,yOb,if_neg (by simp),nxt (by omega)]) (by rw [y1R,if_neg ct_ge])
 rw [yG,if_neg (by simp),hi];rfl
theorem ygI{l:List StpR}(hl:l.length≤1000000)(h:∀s∈l,s.1.length≤1000000∧s.2.1.length≤1000000∧s.2.2.1.length≤1000000):y5C l l=some true:=by
 have hi:iter (y3g l l) 0=some (.inl ()):=y4v (f:=y3g l l) (fun k:Nat=>(k:Int)) l.length (by omega) (fun k hk=>by
  obtain⟨k1,k2,k3⟩:=h _ (List.getElem_mem hk);rw [y3g,if_pos (ct_lt hk),ya hk,yOb,yOb,y9F k1,yOb,if_neg (by simp),y9F k2,yOb,yOb,if_neg (by simp),y9F k3,yOb,yOb,if_neg (by simp),nxt (by omega)]) (by rw [y3g,if_neg ct_ge])
 rw [y5C,if_neg (by simp),hi];rfl
theorem yhL{l:List StpR}(h:Shw l)(hl:l.length≤1000)(hc:∀s∈l,s.2.2.2.1= -1∨0≤s.2.2.2.1):iter (yS l) (0,(0,0,0,0,0,0),[])=some ((0,(meR l).2),l.flatMap wdR):=by
 have e0:((0:Int),((0,0,0,0,0,0):MeT),([]:List Int))=(fun k:Nat=>((k:Int),((0,(meR (l.take k)).2):MeT),(l.take k).flatMap wdR)) 0:=rfl;refine Eq.trans (congrArg _ e0) (y4v (f:=yS l) (fun k:Nat=>((k:Int),((0,(meR (l.take k)).2):MeT),(l.take k).flatMap wdR)) l.length (by omega) (fun k hk=>?_) ?_)
 ·have hm:=List.getElem_mem hk;have h1:=h _ hm;have h2:=hc _ hm;have h3:=yaa (h.take k);rw [List.length_take] at h3;have h4:min k l.length*101≤1000*101:=Nat.mul_le_mul_right _ (by omega);rw [yS,if_pos (ct_lt hk),ya hk,yOb,List.take_succ_eq_append_getElem hk,ycy,yb6,me1,←nxt (i:=k) (by omega)];generalize meR (l.take k)=m;generalize (l.take k).flatMap wdR=w at *;generalize l[k]=s at *;dsimp only;rw [yj (by omega),yOb,yj (by rw [List.length_append];omega),yOb];have hcm:decide (s.2.2.2.1≥0)=(s.2.2.2.1 != -1):=by
   rcases h2 with h2|h2
   ·rw [h2];rfl
   ·rw [decide_eq_true h2];have:s.2.2.2.1≠ -1:=by omega
    simp [this]
  have hj:∀u:List Int,u=wdR s→yR ((k:Int),((0,m.2):MeT),w) s (w++u)=some (.inl (W ((k:Int)+1),((0,(me1 m s).2):MeT),w++wdR s)):=by
   rintro u rfl;have hz:(((w++wdR s).length:Int)==(w.length:Int))=(((wdR s).length:Int)==0):=by
    rw [Bool.eq_iff_iff,beq_iff_eq,beq_iff_eq,List.length_append];omega
   simp only [yR,yQ,y1x,y1w,hcm,hz,me1,mx];cases h1:((wdR s).length:Int)==0 <;> cases h2:s.2.2.2.1 != -1 <;> cases h3:s.2.2.2.2.1 <;> cases h4:s.2.2.2.2.2.2 <;> simp <;> rfl
  rw [me1] at hj;cases hd:s.2.2.2.2.1 with
  | true=>
   rw [if_pos rfl,yj (by simp;omega),yOb,List.append_assoc,List.append_assoc,←List.append_assoc s.1];rw [hj _ (by rw [wdR,hd,if_pos rfl]),hd]
  | false=>
   rw [if_neg (by simp),List.append_assoc];rw [hj _ (by rw [wdR,hd,if_neg (by simp),List.append_nil]),hd]
 ·rw [yS,if_neg ct_ge,List.take_length]
structure SimOk (q:PbT) (n1 n2:Nat):Prop where
 rP:Right q.1 n1
 rS:Right q.2.1 n2
 g:GenIn (toAut q.2.1) (cmdL q) n2
 ic:Inc (cmdL q)
 p0:0<n1
 u:q.2.2.length≤1000000
 gen:yU q.2.1 (cmdL q)=some (codeP (toAut q.2.1) (cmdL q) n2,0)
structure BenOk (q:PbT) (n2:Nat) (b:BenT) (r:RunT):Prop where
 e1:b.1=q
 e2:b.2.1=codeP (toAut q.2.1) (cmdL q) n2
 e3:b.2.2.1=r.1
 sh:∃s:Nat,r.2.1=(s:Int)∧Shows (toAut q.2.1) (cmdL q) n2 s r.2.2 b.2.2.2
theorem BenOk.plant{q:PbT}{b:BenT}{r:RunT}(h:BenOk q n2 b r)(x:Int):BenOk q n2 (b.1,b.2.1,x,b.2.2.2) (x,r.2):=⟨h.e1,h.e2,rfl,h.sh⟩
theorem yhM{b:BenT}{n:Nat}(hP:Right b.1.1 n){c:CycT}(hl:c.1.length≤1000000):iter (y2a c) (b,0,[])=some ((b.1,b.2.1,(trE b.1.1 c.1 b.2.2.1).1,b.2.2.2),(trE b.1.1 c.1 b.2.2.1).2):=by
 obtain⟨o,h1,h2⟩:=yd (f:=y2a c) (fun i s=>s.2.1=(i:Int)∧s.1.1=b.1∧s.1.2.1=b.2.1∧s.1.2.2.2=b.2.2.2∧s.2.2.length≤i∧trE b.1.1 c.1 b.2.2.1=((trE b.1.1 (c.1.drop i) s.1.2.2.1).1,s.2.2++(trE b.1.1 (c.1.drop i) s.1.2.2.1).2)) (fun o=>o=((b.1,b.2.1,(trE b.1.1 c.1 b.2.2.1).1,b.2.2.2),(trE b.1.1 c.1 b.2.2.1).2)) c.1.length 0 (by omega) (fun i s hi ⟨e1,e2,e3,e4,e5,e6⟩=>by
  obtain⟨⟨b1,b2,b3,b4⟩,j,out⟩:=s;dsimp only at e1 e2 e3 e4 e5 e6;subst e1 e2 e3 e4;left;rw [List.drop_eq_getElem_cons hi,trE] at e6;have ht:=ydl (b:=(b.1,b.2.1,b3,b.2.2.2)) hP c.1[i];dsimp only at ht;rw [y2a,if_pos (ct_lt hi),ya hi,yOb,ht,yOb];cases hs:st1 b.1.1 b3 c.1[i] with
  | none=>
   rw [hs] at e6;refine⟨((b.1,b.2.1,b3,b.2.2.2),((i+1:Nat):Int),out),?_,rfl,rfl,rfl,rfl,Nat.le_succ_of_le e5,e6⟩;rw [if_neg (by simp),y1Z,nxt (by omega)];rfl
  | some t=>
   rw [hs] at e6;refine⟨((b.1,b.2.1,t,b.2.2.2),((i+1:Nat):Int),out++[c.1[i]]),?_,rfl,rfl,rfl,rfl,by simp;omega,by rw [e6,List.append_assoc];rfl⟩;rw [if_pos (by rfl),yj (by simp;omega),yOb,y1Z,nxt (by omega)];rfl) (fun s ⟨e1,e2,e3,e4,e5,e6⟩=>by
  obtain⟨⟨b1,b2,b3,b4⟩,j,out⟩:=s;dsimp only at e1 e2 e3 e4 e5 e6;subst e1 e2 e3 e4;rw [List.drop_length,trE,List.append_nil] at e6;exact⟨_,by rw [y2a,if_neg ct_ge],by rw [e6]⟩) (Nat.zero_le _) (b,0,[]) ⟨rfl,rfl,rfl,rfl,Nat.le_refl _,rfl⟩
 rw [h1,h2]
section
variable{q:PbT}{n1 n2:Nat}{b:BenT}{r:RunT}
theorem ybA(h:SimOk q n1 n2)(hb:BenOk q n2 b r){l:List Int}(hl:l.length≤1000000)(hn:l.Nodup):∃b',yV b l=some (0,b')∧BenOk q n2 b' (r.1,hnL q.2.1 l r.2)∧y3Z b'.2.1 b'.2.2.2=some (enR q (hnL q.2.1 l r.2).1,0):=by
 obtain⟨b1,b2,b3,b4⟩:=b;obtain⟨h1,h2,h3,s,hs,hv⟩:=hb;dsimp only at h1 h2 h3 hv;subst h1 h2 h3;obtain⟨r1,r2,al⟩:=r;dsimp only at hs hv ⊢;subst hs;obtain⟨st',g1,s',al',g2,g3,g4⟩:=yfQ (b:=(b1,codeP (toAut b1.2.1) (cmdL b1) n2,r1,b4)) h.rS h.g h.ic rfl hv hl hn;have g2:hnL b1.2.1 l ((s:Int),al)=((s':Int),al'):=g2;refine⟨_,g1,⟨rfl,rfl,rfl,s',by rw [g2],by rw [g2];exact g3⟩,?_⟩;rw [g2];exact yfO h.g g3.ho g3.hm g4
theorem yiY(h:SimOk q n1 n2)(hb:BenOk q n2 b r)(he:e∉q.2.2):y4N b e (enR q r.2.1)=some (perm q r e):=by
 obtain⟨b1,b2,b3,b4⟩:=b;obtain⟨h1,h2,h3,s,hs,hv⟩:=hb;dsimp only at h1 h2 h3 hv;subst h1 h2 h3;have hl:(enR b1 r.2.1).length≤32:=Nat.le_trans (List.length_filter_le _ _) h.g.ct;have hen:hasB (enR b1 r.2.1) e=(hasB b1.2.1.1 e&&(st1 b1.2.1 r.2.1 e).isSome):=by
  rw [Bool.eq_iff_iff,Bool.and_eq_true,yc,yc,enR,List.mem_filter,cmdL,List.mem_filter];have:(!hasB b1.2.2 e)=true:=by rw [Bool.not_eq_true',←Bool.not_eq_true,yc];exact he
  exact⟨fun h=>⟨h.1.1,h.2⟩,fun h=>⟨⟨h.1,this⟩,h.2⟩⟩
 rw [y4N,ycx h.rP,yOb,y8s h.rP,perm];cases st1 b1.1 r.1 e with
 | none=>rfl
 | some t=>
  have hS1:=h.rS.l1;rw [if_pos (show (some t).isSome=true from rfl),y3D (by omega),yOb,hen];cases hx:hasB b1.2.1.1 e with
  | false=>rw [if_neg (by simp),y3D (by dsimp only;omega),yOb,yOb,yOb];dsimp only;rw [hx];rfl
  | true=>
   cases st1 b1.2.1 r.2.1 e with
   | none=>rw [if_neg (by simp),y3D (by dsimp only;omega),yOb,yOb,yOb];dsimp only;rw [hx];rfl
   | some t=>rfl
theorem ygJ(h:SimOk q n1 n2)(hb:BenOk q n2 b r)(o:BenT×List Int)(en:List Int×Int)(cm:Int)(la:List Int×Bool×BenT):∃b',y1X o en cm la b=some ((o.2,la.1,en.1,cm,la.2.1,r.2.1,r.2.2),0,b')∧BenOk q n2 b' r:=by
 obtain⟨b1,b2,b3,b4⟩:=b;obtain⟨h1,h2,h3,s,hs,hv⟩:=hb;dsimp only at h1 h2 h3 hv;subst h1 h2 h3;rw [y1X];dsimp only;rw [ygD h.g hv.ho hv.hm hv.hs hv.hq,yOb,if_neg (by simp),yfN h.g hv.ho hv.hm,yOb];exact⟨_,by rw [hs,hv.ha],⟨rfl,rfl,rfl,s,hs,hv⟩⟩
theorem ygK(h:SimOk q n1 n2)(hb:BenOk q n2 b r)(o:BenT×List Int)(en:List Int×Int)(cm:Int)(la:List Int×Bool×BenT)(hl:la.1.length≤1000000)(hn:la.1.Nodup):
  ∃b' z,y1Y o en cm la b=some ((o.2,la.1,en.1,cm,la.2.1,z.2.1,z.2.2),0,b')∧BenOk q n2 b' z∧z=if la.2.1=true then(r.1,hnL q.2.1 [cm] (hnL q.2.1 la.1 r.2)) else(r.1,hnL q.2.1 la.1 r.2):=by
 obtain⟨b2,g1,g2,_⟩:=ybA h hb hl hn;rw [y1Y,g1,yOb,if_neg (by simp)];dsimp only;cases hd:la.2.1 with
 | true=>
  obtain⟨b3,g3,g4,_⟩:=ybA h g2 (l:=[cm]) (by simp) (by simp);obtain⟨b4,g5,g6⟩:=ygJ h g4 o en cm la;rw [hd] at g5;rw [if_pos rfl,g3,yOb,if_neg (by simp)];exact⟨b4,_,g5,g6,rfl⟩
 | false=>
  obtain⟨b4,g5,g6⟩:=ygJ h g2 o en cm la;rw [hd] at g5;rw [if_neg (by simp)];exact⟨b4,_,g5,g6,rfl⟩
theorem yhN(h:SimOk q n1 n2)(hb:BenOk q n2 b r){c:CycT}(l1:c.1.length≤1000000)(l2:c.2.1.length≤1000000)(d1:c.1.Nodup)(d2:c.2.1.Nodup){p2:(Int→Option Bool)→Option Int}{ch:RunT→Int}
  (hp:∀b2:BenT,BenOk q n2 b2 (midR q r c)→p2 (yI (some b2) ((trE q.1 c.1 r.1).2,[],enR q (midR q r c).2.1,0,false,0,false))=some (ch (midR q r c))):
  ∃b',y4a b c p2=some (stpR q r c ch,0,b')∧BenOk q n2 b' (finR q (midR q r c) c (ch (midR q r c))):=by
 have hP1:Right b.1.1 n1:=by rw [hb.e1];exact h.rP
 have k1:=y8h q.1 c.1 r.1;have k2:=y8h q.1 c.2.1 (midR q r c).1;have s1:=d1.sublist (ybT q.1 c.1 r.1);have s2:=d2.sublist (ybT q.1 c.2.1 (midR q r c).1);have hb1:=hb.plant (trE b.1.1 c.1 b.2.2.1).1;rw [y4a,yhM hP1 l1,yOb];dsimp only;rw [hb.e1,hb.e3] at hb1 ⊢;obtain⟨b2,g1,g2,g3⟩:=ybA h hb1 (l:=(trE q.1 c.1 r.1).2) (by omega) s1;have g2:BenOk q n2 b2 (midR q r c):=g2;have g3:y3Z b2.2.1 b2.2.2.2=some (enR q (midR q r c).2.1,0):=g3;rw [g1,yOb,if_neg (by simp)];dsimp only;rw [g3,yOb,if_neg (by simp)];dsimp only;rw [hp b2 g2,yOb];have hP2:Right b2.1.1 n1:=by rw [g2.e1];exact h.rP
 rw [ygG hP2 l2,yOb,ya2];have hb3:=g2.plant (trE b2.1.1 c.2.1 b2.2.2.1).1;rw [stpR];generalize ch (midR q r c)=cm at *;have hdn:((cm != -1)&&(trF b2.1.1 cm c.2.1 b2.2.2.1 true []).2.1)=dnR q (midR q r c) c cm:=by rw [g2.e1,g2.e3];rfl
 dsimp only;rw [hdn,List.nil_append,finR];rw [g2.e3,g2.e1] at hb3 ⊢;cases hd:dnR q (midR q r c) c cm with
 | true=>
  rw [if_pos rfl,ydl (by dsimp only;exact h.rP),yOb];obtain⟨b',z,w1,w2,w3⟩:=ygK h (hb3.plant ((st1 q.1 (trE q.1 c.2.1 (midR q r c).1).1 cm).getD (trE q.1 c.2.1 (midR q r c).1).1)) ((q,b.2.1,(trE q.1 c.1 r.1).1,b.2.2.2),(trE q.1 c.1 r.1).2) (enR q (midR q r c).2.1,0) cm ((trE q.1 c.2.1 (midR q r c).1).2,true,(q,b2.2.1,(trE q.1 c.2.1 (midR q r c).1).1,b2.2.2.2)) (by dsimp only;omega) s2;rw [if_pos rfl] at w3 ⊢;subst w3;exact⟨b',w1,w2⟩
 | false=>
  rw [if_neg (by simp)];obtain⟨b',z,w1,w2,w3⟩:=ygK h hb3 ((q,b.2.1,(trE q.1 c.1 r.1).1,b.2.2.2),(trE q.1 c.1 r.1).2) (enR q (midR q r c).2.1,0) cm ((trE q.1 c.2.1 (midR q r c).1).2,false,(q,b2.2.1,(trE q.1 c.2.1 (midR q r c).1).1,b2.2.2.2)) (by dsimp only;omega) s2;rw [if_neg (by simp)] at w3 ⊢;subst w3;exact⟨b',w1,w2⟩
end
theorem yaI{q:PbT}{n:Nat}(hP:Right q.1 n){m:RunT}(h:perm q m e=true):0≤e∧(st1 q.1 m.1 e).isSome=true:=by
 rw [perm,Bool.and_eq_true] at h;obtain⟨t,ht⟩:=Option.isSome_iff_exists.1 h.1;exact⟨(hP.alr e (ydh hP ht).2.2.2.2).1,h.1⟩
structure CycOk (q:PbT) (c:CycT):Prop where
 l1:c.1.length≤1000000
 l2:c.2.1.length≤1000000
 d1:c.1.Nodup
 d2:c.2.1.Nodup
section
variable{q:PbT}{n1 n2:Nat}
theorem yhO(h:SimOk q n1 n2):∃b,y6a q=some (some b,0)∧BenOk q n2 b (0,0,false):=by
 have hl:=h.rS.l1;refine⟨(q,codeP (toAut q.2.1) (cmdL q) n2,0,_),?_,⟨rfl,rfl,rfl,0,rfl,Shows.start h.g.n0⟩⟩;rw [y6a,ydo hl h.u,h.gen,yOb,if_neg (by simp)];dsimp only;rw [ygF h.g h.rS.ali h.ic,yOb,if_neg (by simp)]
theorem yiZ(h:SimOk q n1 n2){l:List CycT}(hl:l.length≤1000000)(hc:∀c∈l,CycOk q c){p2:CycT→Option ((Int→Option Bool)→Option Int)}{pr:CycT→List Int}
  (hp:∀c∈l,∃f,p2 c=some f∧∀(m:RunT) (b:BenT) (s:StpT),BenOk q n2 b m→s.2.2.1=enR q m.2.1→f (yI (some b) s)=some (chP q (pr c) m)):
  y6C q l p2=some (y5Q q (fun c=>chP q (pr c)) (0,0,false) l,0):=by
 obtain⟨b,g1,g2⟩:=yhO h;obtain⟨o,h1,h2⟩:=yd (f:=y5N l p2) (fun i s=>s.1=(i:Int)∧i≤l.length∧s.2.1=y5Q q (fun c=>chP q (pr c)) (0,0,false) (l.take i)∧BenOk q n2 s.2.2 (runR q (fun c=>chP q (pr c)) (0,0,false) (l.take i))) (fun o=>o= .inl (y5Q q (fun c=>chP q (pr c)) (0,0,false) l)) l.length 0 (by omega) (fun i s hi ⟨e1,_,e2,e3⟩=>by
  obtain⟨j,out,b1⟩:=s;dsimp only at e1 e2 e3;subst e1;left;have hm:=List.getElem_mem hi;obtain⟨f,f1,f2⟩:=hp _ hm;have hk:=hc _ hm;obtain⟨b2,w1,w2⟩:=yhN h e3 hk.l1 hk.l2 hk.d1 hk.d2 (p2:=f) (ch:=chP q (pr l[i])) (fun b2 hb2=>f2 _ b2 _ hb2 rfl);have hol:out.length≤1000000:=by rw [e2,y9E,List.length_take];omega
  refine⟨(((i+1:Nat):Int),out++[stpR q (runR q (fun c=>chP q (pr c)) (0,0,false) (l.take i)) l[i] (chP q (pr l[i]))],b2),?_,rfl,hi,?_,?_⟩
  ·rw [y5N,if_pos (ct_lt hi),ya hi,yOb,f1,yOb,w1,yOb,if_neg (by simp),yj (by simp;omega),yOb,nxt (by omega)]
  ·rw [List.take_succ_eq_append_getElem hi,yak,e2]
  ·dsimp only;rw [List.take_succ_eq_append_getElem hi,ydS];exact w2) (fun s ⟨e1,_,e2,e3⟩=>by
  obtain⟨j,out,b1⟩:=s;dsimp only at e1 e2 e3;subst e1;exact⟨_,by rw [y5N,if_neg ct_ge],by rw [e2,List.take_length]⟩) (Nat.zero_le _) (0,[],b) ⟨rfl,Nat.zero_le _,rfl,g2⟩
 rw [y6C,g1,yOb,if_neg (by simp)];dsimp only;rw [yOb,h1,yOb,h2]
theorem yiF(h:SimOk q n1 n2){c:CycT}(hc:c.2.2= -1∨c.2.2∉q.2.2):∃f,y6O c=some f∧∀(m:RunT) (b:BenT) (s:StpT),BenOk q n2 b m→s.2.2.1=enR q m.2.1→f (yI (some b) s)=some (chP q [c.2.2] m):=by
 refine⟨_,rfl,fun m b s hb hs=>?_⟩;rw [y5B,chP,List.find?_cons];by_cases h1:c.2.2= -1
 ·rw [h1,if_neg (by simp),yOb,if_neg (by simp)];cases hp:perm q m (-1) with
  | true=>have:=(yaI h.rP hp).1;omega
  | false=>rfl
 ·rw [if_pos (by simpa using h1),yI,yOb,hs,yiY h hb (hc.resolve_left h1),yOb,yOb,yOb];cases perm q m c.2.2 <;> rfl
end
section
variable{q:PbT}{n1 n2:Nat}
theorem ycQ(rP:Right q.1 n1)(rS:Right q.2.1 n2)(m:RunT)(e:Int):y2c (q,m) e=some (perm q m e):=by
 rw [y2c,y6Q rP,yOb,y8s rP,perm];cases st1 q.1 m.1 e with
 | none=>rfl
 | some t=>
  rw [if_pos (show (some t).isSome=true from rfl),has55 rS.l1,yOb];dsimp only;cases hasB q.2.1.1 e with
  | false=>rfl
  | true=>
   rw [if_neg (by simp),y6Q rS,yOb,y8s rS];rfl
theorem yiG(rP:Right q.1 n1)(rS:Right q.2.1 n2)(m:RunT)(hl:pr.length≤1000000):iter (y1H (q,m) pr) (0,-1)=some (chP q pr m):=by
 obtain⟨o,h1,h2⟩:=yd (f:=y1H (q,m) pr) (fun i s=>s.1=(i:Int)∧i≤pr.length∧((s.2= -1∧pr.find? (perm q m)=(pr.drop i).find? (perm q m))∨(0≤s.2∧pr.find? (perm q m)=some s.2))) (fun o=>o=chP q pr m) pr.length 0 (by omega) (fun i s hi ⟨e1,_,e2⟩=>by
  obtain⟨j,cm⟩:=s;dsimp only at e1 e2;subst e1;rw [y1H];dsimp only;rcases e2 with ⟨rfl,e2⟩|⟨h0,e2⟩
  ·left;rw [if_pos (by simp;omega),ya hi,yOb];rw [List.drop_eq_getElem_cons hi,List.find?_cons] at e2;cases hp:perm q m pr[i] with
   | true=>
    rw [hp] at e2;have h0:=(yaI rP hp).1;rw [if_pos (by simpa using h0),yOb,ycQ rP rS,yOb,yOb,hp,if_pos rfl,yOb,y1G,nxt (by omega)];exact⟨_,rfl,rfl,hi,.inr ⟨h0,e2⟩⟩
   | false=>
    rw [hp] at e2;have:(if decide (pr[i]≥0)=true then(some pr[i]).bind fun x54=>(y2c (q,m) x54).bind fun r55=>some r55 else some false)=some false:=by
     split
     ·rw [yOb,ycQ rP rS,yOb,hp]
     ·rfl
    rw [this,yOb,if_neg (by simp),y1G,nxt (by omega)];exact⟨_,rfl,rfl,hi,.inl ⟨rfl,e2⟩⟩
  ·right;rw [if_neg (by simp;omega)];exact⟨_,rfl,by rw [chP,e2];rfl⟩) (fun s ⟨e1,_,e2⟩=>by
  obtain⟨j,cm⟩:=s;dsimp only at e1 e2;subst e1;refine⟨cm,by rw [y1H];dsimp only;rw [if_neg (by simp)],?_⟩;rw [List.drop_length] at e2;rcases e2 with ⟨rfl,e2⟩|⟨_,e2⟩
  ·rw [chP,e2];rfl
  ·rw [chP,e2];rfl) (Nat.zero_le _) (0,-1) ⟨rfl,Nat.zero_le _,.inl ⟨rfl,rfl⟩⟩
 rw [h1,h2]
theorem yj0(rS:Right q.2.1 n2)(m:RunT):iter (y1K (q,m) (cmdL q)) (0,[])=some (enR q m.2.1):=by
 have hcl:(cmdL q).length≤1000000:=Nat.le_trans (List.length_filter_le _ _) rS.l1;obtain⟨o,h1,h2⟩:=yd (f:=y1K (q,m) (cmdL q)) (fun i s=>s.1=(i:Int)∧i≤(cmdL q).length∧s.2=((cmdL q).take i).filter fun e=>(st1 q.2.1 m.2.1 e).isSome) (fun o=>o=enR q m.2.1) (cmdL q).length 0 (by omega) (fun i s hi ⟨e1,_,e2⟩=>by
  obtain⟨j,out⟩:=s;dsimp only at e1 e2;subst e1;left;have hle:=List.length_filter_le (fun e=>(st1 q.2.1 m.2.1 e).isSome) ((cmdL q).take i);rw [List.length_take,←e2] at hle;refine⟨(((i+1:Nat):Int),((cmdL q).take (i+1)).filter fun e=>(st1 q.2.1 m.2.1 e).isSome),?_,rfl,by omega,rfl⟩;rw [y1K,if_pos (ct_lt hi),ya hi,yOb,y6Q rS,yOb,y8s rS,List.take_succ_eq_append_getElem hi,List.filter_append,←e2,List.filter_cons,List.filter_nil];dsimp only;cases hb:(st1 q.2.1 m.2.1 (cmdL q)[i]).isSome with
  | true=>rw [if_pos rfl,yOb,yj (by simp;omega),yOb,y1J,nxt (by omega),if_pos rfl]
  | false=>rw [if_neg (by simp),y1J,nxt (by omega),if_neg (by simp),List.append_nil]) (fun s ⟨e1,_,e2⟩=>by
  obtain⟨j,out⟩:=s;dsimp only at e1 e2;subst e1;exact⟨_,by rw [y1K,if_neg ct_ge],by rw [e2,List.take_length];rfl⟩) (Nat.zero_le _) (0,[]) ⟨rfl,Nat.zero_le _,by simp⟩
 rw [h1,h2]
theorem ygL(rP:Right q.1 n1)(rS:Right q.2.1 n2)(hu:q.2.2.length≤1000000)(r:RunT){c:CycT}(l1:c.1.length≤1000000)(l2:c.2.1.length≤1000000)(hl:pr.length≤1000000)(auto:Bool):
  y2A (q,r) c pr auto=some (stpR q r c (chP q (if auto=true then pr else [c.2.2])),(q,cycR q (fun c=>chP q (if auto=true then pr else [c.2.2])) r c)):=by
 have k1:=y8h q.1 c.1 r.1;have k2:=y8h q.1 c.2.1 (midR q r c).1;have j1:∀{pr:List Int} (hl:pr.length≤1000000) (ok:Bool),y1I c ((trE q.1 c.1 r.1).2,ok,(q,(midR q r c).1,r.2)) (q,midR q r c) (enR q (midR q r c).2.1) pr=some (stpR q r c (chP q pr),(q,finR q (midR q r c) c (chP q pr (midR q r c)))):=by
  intro pr hl ok;have hcs:=ydT q pr (midR q r c);rw [y1I,yiG rP rS _ hl,yOb,yeA (r:=(q,midR q r c)) rP l2,yOb,ya2,stpR];dsimp only;generalize chP q pr (midR q r c)=cm at *;rw [List.nil_append,yaj (r:=(q,(trE q.1 c.2.1 (midR q r c).1).1,(midR q r c).2)) rS (by omega),yOb];have hdn:(decide (cm≥0)&&((st1 q.1 (midR q r c).1 cm).isSome&&(trF q.1 cm c.2.1 (midR q r c).1 true []).2.1))=dnR q (midR q r c) c cm:=by
   rcases hcs with rfl|⟨_,hp⟩
   ·rfl
   ·obtain ⟨h0,h1⟩:=yaI rP hp;rw [h1,dnR,aft,Bool.true_and];have:(cm != -1)=true:=by simp;omega
    rw [this,decide_eq_true h0]
  dsimp only;rw [hdn,finR];cases hd:dnR q (midR q r c) c cm with
  | true=>
   have hd2:=hd;rw [dnR,Bool.and_eq_true] at hd2;have hp:perm q (midR q r c) cm=true:=by
    rcases hcs with rfl|⟨_,hp⟩
    ·simp at hd2
    ·exact hp
   obtain⟨t,ht⟩:=Option.isSome_iff_exists.1 (ydp q.1 cm c.2.1 (midR q r c).1 (yaI rP hp).2 hd2.2);rw [if_pos rfl,if_pos rfl,y6Q rP,yOb,ht,Option.getD_some,Option.getD_some,yaj (r:=(q,t,_)) rS (by simp),yOb,y1F];dsimp only;rw [hdn,hd];rfl
  | false=>
   rw [if_neg (by simp),if_neg (by simp),y1F];dsimp only;rw [hdn,hd];rfl
 rw [y2A,yeA (r:=(q,r)) rP l1,yOb,ya2];dsimp only;rw [List.nil_append,yaj (r:=(q,(trE q.1 c.1 r.1).1,r.2)) rS (by omega),yOb];dsimp only;rw [ycc rS.l1 hu,yOb];have hm:((q,(trE q.1 c.1 r.1).1,List.foldl (hnS q.2.1) r.2 (imL q.2.1 (trE q.1 c.1 r.1).2 32)):PbT×RunT)=(q,midR q r c):=rfl;rw [hm,yj0 rS,yOb];cases auto with
 | false=>rw [if_pos (by rfl)];exact j1 (by simp) _
 | true=>rw [if_neg (by simp)];exact j1 hl _
theorem yhP(rP:Right q.1 n1)(rS:Right q.2.1 n2)(hu:q.2.2.length≤1000000){l:List CycT}(hll:l.length≤1000000)(hc:∀c∈l,c.1.length≤1000000∧c.2.1.length≤1000000)(hl:pr.length≤1000000)(auto:Bool):
  y5o q l pr auto=some (y5Q q (fun c=>chP q (if auto=true then pr else [c.2.2])) (0,0,false) l):=by
 generalize hch:(fun c:CycT=>chP q (if auto=true then pr else [c.2.2]))=ch;have hcy:∀(r:RunT) (c:CycT),c.1.length≤1000000→c.2.1.length≤1000000→y2A (q,r) c pr auto=some (stpR q r c (ch c),(q,cycR q ch r c)):=fun r c l1 l2=>by
  rw [ygL rP rS hu r l1 l2 hl auto,hch,←hch]
 obtain⟨o,h1,h2⟩:=yd (f:=y4b l pr auto) (fun i s=>s.1=(i:Int)∧i≤l.length∧s.2.1=y5Q q ch (0,0,false) (l.take i)∧s.2.2=(q,runR q ch (0,0,false) (l.take i))) (fun o=>o=y5Q q ch (0,0,false) l) l.length 0 (by omega) (fun i s hi ⟨e1,_,e2,e3⟩=>by
  obtain⟨j,out,z⟩:=s;dsimp only at e1 e2 e3;subst e1 e3;left;have hm:=hc _ (List.getElem_mem hi);have hol:out.length≤1000000:=by rw [e2,y9E,List.length_take];omega
  refine⟨(((i+1:Nat):Int),y5Q q ch (0,0,false) (l.take (i+1)),(q,runR q ch (0,0,false) (l.take (i+1)))),?_,rfl,hi,rfl,rfl⟩;rw [y4b,if_pos (ct_lt hi),ya hi,yOb,hcy _ _ hm.1 hm.2,yOb,yj (by simp;omega),yOb,nxt (by omega),List.take_succ_eq_append_getElem hi,yak,←e2,ydS]) (fun s ⟨e1,_,e2,e3⟩=>by
  obtain⟨j,out,z⟩:=s;dsimp only at e1 e2 e3;subst e1;exact⟨_,by rw [y4b,if_neg ct_ge],by rw [e2,List.take_length]⟩) (Nat.zero_le _) (0,[],q,0,0,false) ⟨rfl,Nat.zero_le _,rfl,rfl⟩
 rw [y5o,h1,yOb,h2]
end
def evE(al u:List Int):List Int→List Int→Int
 | _,[]=>0
 | d,e::l=>if hasB al e=false then 9 else if hasB u e=false then 13 else if hasB d e=true then 8 else evE al u (d++[e]) l
def evL(q:PbT)(l:List Int):Int:=if 3<l.length then 3 else evE q.1.1 q.2.2 [] l
def scE(q:PbT):List CycT→Int
 | []=>0
 | c::l=>if evL q c.1≠0 then evL q c.1 else if evL q c.2.1≠0 then evL q c.2.1 else if c.2.2= -1 then scE q l else if hasB q.1.1 c.2.2=false then 9 else if hasB q.2.2 c.2.2=true then 13 else scE q l
theorem ygM{al u:List Int}:∀{l d:List Int},evE al u d l=0↔(∀e∈l,e∈al∧e∈u∧e∉d)∧l.Nodup
 | [],d=>by simp [evE]
 | e::l,d=>by
  rw [evE,List.nodup_cons];by_cases h1:hasB al e=false
  ·rw [if_pos h1];refine⟨fun h=>by omega,fun h=>?_⟩;rw [yc.2 (h.1 e (List.mem_cons_self ..)).1] at h1;cases h1
  rw [if_neg h1];by_cases h2:hasB u e=false
  ·rw [if_pos h2];refine⟨fun h=>by omega,fun h=>?_⟩;rw [yc.2 (h.1 e (List.mem_cons_self ..)).2.1] at h2;cases h2
  rw [if_neg h2];by_cases h3:hasB d e=true
  ·rw [if_pos h3];exact⟨fun h=>by omega,fun h=>absurd (yc.1 h3) (h.1 e (List.mem_cons_self ..)).2.2⟩
  rw [if_neg h3,ygM];rw [Bool.not_eq_false,yc] at h1 h2;rw [yc] at h3;constructor
  ·intro ⟨h4,h5⟩;refine⟨fun x hx=>?_,fun hx=>?_,h5⟩
   ·rcases List.mem_cons.1 hx with rfl|hx
    ·exact ⟨h1,h2,h3⟩
    ·have:=h4 x hx;exact⟨this.1,this.2.1,fun hd=>this.2.2 (List.mem_append_left _ hd)⟩
   ·exact (h4 e hx).2.2 (List.mem_append_right _ (List.mem_singleton_self e))
  ·intro ⟨h4,h5,h6⟩;refine⟨fun x hx=>?_,h6⟩;have:=h4 x (List.mem_cons_of_mem _ hx);refine⟨this.1,this.2.1,fun hd=>?_⟩;rcases List.mem_append.1 hd with hd|hd
   ·exact this.2.2 hd
   ·rw [List.mem_singleton.1 hd] at hx;exact h5 hx
theorem yaJ{q:PbT}(h1:q.1.1.length≤1000000)(h2:q.2.2.length≤1000000){l:List Int}(hl:l.length≤1000000):y3X q l=some (evL q l):=by
 rw [y3X,evL];by_cases h3:3<l.length
 ·rw [if_pos (by simp;omega),if_pos h3]
 rw [if_neg (by simp;omega),if_neg h3];obtain⟨o,g1,g2⟩:=yd (f:=y2X q l) (fun i s=>s=(i:Int)∧evE q.1.1 q.2.2 [] l=evE q.1.1 q.2.2 (l.take i) (l.drop i)) (fun o=>(match o with
   | .inl _=>0
   | .inr u=>u)=evE q.1.1 q.2.2 [] l) l.length 0 (by omega) (fun i s hi ⟨e1,e2⟩=>by
  subst e1;rw [List.drop_eq_getElem_cons hi,evE] at e2;rw [y2X,if_pos (ct_lt hi),ya hi,yOb,y3D (by omega),yOb];cases ha:hasB q.1.1 l[i]
  ·rw [if_pos ha] at e2;refine .inr ⟨_,by rw [if_pos (by rfl)],?_⟩;exact e2.symm
  rw [if_neg (by simp [ha])] at e2;rw [if_neg (by simp),y3D (by omega),yOb];cases hb:hasB q.2.2 l[i]
  ·rw [if_pos hb] at e2;refine .inr ⟨_,by rw [if_pos (by rfl)],?_⟩;exact e2.symm
  rw [if_neg (by simp [hb])] at e2;rw [if_neg (by simp),yhl (by omega),yOb,y3D (by rw [List.length_take];omega),yOb];cases hc:hasB (l.take i) l[i]
  ·rw [if_neg (by simp [hc])] at e2;exact .inl ⟨_,by rw [if_neg (by simp),nxt (by omega)],rfl,by rw [e2,List.take_succ_eq_append_getElem hi]⟩
  ·rw [if_pos hc] at e2;refine .inr ⟨_,by rw [if_pos rfl],?_⟩;exact e2.symm) (fun s ⟨e1,e2⟩=>by
  subst e1;rw [List.drop_length,evE] at e2;refine⟨_,by rw [y2X,if_neg ct_ge],?_⟩;exact e2.symm) (Nat.zero_le _) 0 ⟨rfl,rfl⟩
 rw [g1,yOb,←g2];cases o <;> rfl
theorem ydr{q:PbT}(h1:q.1.1.length≤1000000)(h2:q.2.2.length≤1000000){l:List CycT}(hl:l.length≤1000000)(hc:∀c∈l,c.1.length≤1000000∧c.2.1.length≤1000000)(he:y1h q=some e):
  y3Y q l=some (if e≠0 then e else if 256<l.length then 3 else scE q l):=by
 rw [y3Y,he,yOb];by_cases h0:e=0
 case neg=>rw [if_pos (by simpa using h0),if_pos h0]
 rw [if_neg (by simpa using h0),if_neg (show ¬e≠0 from fun h=>h h0)];by_cases h3:256<l.length
 ·rw [if_pos (by simp;omega),if_pos h3]
 rw [if_neg (by simp;omega),if_neg h3];have hin:∀c∈l,iter (y1V q c) 0=some (if evL q c.1≠0 then .inr (evL q c.1) else if evL q c.2.1≠0 then .inr (evL q c.2.1) else .inl ()):=fun c hm=>by
  obtain⟨k1,k2⟩:=hc c hm;refine y4m (n:=3) (by omega) ?_;rw [yb,y1V,if_pos (by simp),show idx [c.1,c.2.1] 0=some c.1 from rfl,yOb,yaJ h1 h2 k1,yOb];by_cases g1:evL q c.1=0
  case neg=>rw [if_pos (by simpa using g1),if_pos g1]
  rw [if_neg (by simpa using g1),if_neg (show ¬evL q c.1≠0 from fun h=>h g1)];dsimp only;rw [yb,y1V,show W (0+1)=1 from rfl,if_pos (by simp),show idx [c.1,c.2.1] 1=some c.2.1 from rfl,yOb,yaJ h1 h2 k2,yOb];by_cases g2:evL q c.2.1=0
  case neg=>rw [if_pos (by simpa using g2),if_pos g2]
  rw [if_neg (by simpa using g2),if_neg (show ¬evL q c.2.1≠0 from fun h=>h g2)];dsimp only;rw [yb,y1V,show W (1+1)=2 from rfl,if_neg (by simp)]
 obtain⟨o,g1,g2⟩:=yd (f:=y2Y q l) (fun i s=>s=(i:Int)∧scE q l=scE q (l.drop i)) (fun o=>(match o with
   | .inl _=>0
   | .inr u=>u)=scE q l) l.length 0 (by omega) (fun i s hi ⟨e1,e2⟩=>by
  subst e1;rw [List.drop_eq_getElem_cons hi,scE] at e2;rw [y2Y,if_pos (ct_lt hi),ya hi,yOb,hin _ (List.getElem_mem hi),yOb];by_cases k1:evL q l[i].1=0
  case neg=>
   rw [if_pos k1] at e2 ⊢;refine .inr ⟨_,rfl,?_⟩;exact e2.symm
  rw [if_neg (show ¬evL q l[i].1≠0 from fun h=>h k1)] at e2 ⊢;by_cases k2:evL q l[i].2.1=0
  case neg=>
   rw [if_pos k2] at e2 ⊢;refine .inr ⟨_,rfl,?_⟩;exact e2.symm
  rw [if_neg (show ¬evL q l[i].2.1≠0 from fun h=>h k2)] at e2 ⊢;dsimp only;by_cases k3:l[i].2.2= -1
  ·rw [if_pos k3] at e2;exact .inl ⟨_,by rw [if_pos (by simpa using k3),y1U,nxt (by omega)],rfl,e2⟩
  rw [if_neg k3] at e2;rw [if_neg (by simpa using k3),y3D (by omega),yOb];cases ha:hasB q.1.1 l[i].2.2
  ·rw [if_pos ha] at e2;refine .inr ⟨_,by rw [if_pos (by rfl)],?_⟩;exact e2.symm
  rw [if_neg (by simp [ha])] at e2;rw [if_neg (by simp),y3D (by omega),yOb];cases hb:hasB q.2.2 l[i].2.2
  ·rw [if_neg (by simp [hb])] at e2;exact .inl ⟨_,by rw [if_neg (by simp),y1U,nxt (by omega)],rfl,e2⟩
  ·rw [if_pos hb] at e2;refine .inr ⟨_,by rw [if_pos rfl],?_⟩;exact e2.symm) (fun s ⟨e1,e2⟩=>by
  subst e1;rw [List.drop_length,scE] at e2;refine⟨_,by rw [y2Y,if_neg ct_ge],?_⟩;exact e2.symm) (Nat.zero_le _) 0 ⟨rfl,rfl⟩
 rw [g1,yOb,←g2];cases o <;> rfl
structure CycIn (q:PbT) (c:CycT):Prop where
 l1:c.1.length≤3
 l2:c.2.1.length≤3
 d1:c.1.Nodup
 d2:c.2.1.Nodup
 i1:∀e∈c.1,e∈q.1.1∧e∈q.2.2
 i2:∀e∈c.2.1,e∈q.1.1∧e∈q.2.2
 cm:c.2.2= -1∨(c.2.2∈q.1.1∧c.2.2∉q.2.2)
theorem CycIn.ok{q:PbT}{c:CycT}(h:CycIn q c):CycOk q c:=⟨by have:=h.l1;omega,by have:=h.l2;omega,h.d1,h.d2⟩
theorem yeC{q:PbT}:∀{l:List CycT},scE q l=0↔ ∀c∈l,CycIn q c
 | []=>by simp [scE]
 | c::l=>by
  have hev:∀{w:List Int},evL q w=0↔w.length≤3∧(∀e∈w,e∈q.1.1∧e∈q.2.2)∧w.Nodup:=fun {w}=>by
   rw [evL];by_cases h:3<w.length
   ·rw [if_pos h];exact⟨fun h=>by omega,fun h=>by omega⟩
   ·rw [if_neg h,ygM];exact⟨fun g=>⟨by omega,fun e he=>⟨(g.1 e he).1,(g.1 e he).2.1⟩,g.2⟩,fun g=>⟨fun e he=>⟨(g.2.1 e he).1,(g.2.1 e he).2,List.not_mem_nil⟩,g.2.2⟩⟩
  rw [scE,List.forall_mem_cons,←yeC];by_cases k1:evL q c.1=0
  case neg=>
   rw [if_pos k1];exact⟨fun h=>absurd h k1,fun h=>absurd (hev.2 ⟨h.1.l1,h.1.i1,h.1.d1⟩) k1⟩
  rw [if_neg (show ¬evL q c.1≠0 from fun h=>h k1)];by_cases k2:evL q c.2.1=0
  case neg=>
   rw [if_pos k2];exact⟨fun h=>absurd h k2,fun h=>absurd (hev.2 ⟨h.1.l2,h.1.i2,h.1.d2⟩) k2⟩
  rw [if_neg (show ¬evL q c.2.1≠0 from fun h=>h k2)];have g1:=hev.1 k1;have g2:=hev.1 k2;by_cases k3:c.2.2= -1
  ·rw [if_pos k3];exact⟨fun h=>⟨⟨g1.1,g2.1,g1.2.2,g2.2.2,g1.2.1,g2.2.1,.inl k3⟩,h⟩,fun h=>h.2⟩
  rw [if_neg k3];cases ha:hasB q.1.1 c.2.2
  ·rw [if_pos rfl];refine⟨fun h=>by omega,fun h=>?_⟩;rcases h.1.cm with h|h
   ·exact absurd h k3
   ·rw [yc.2 h.1] at ha;cases ha
  rw [if_neg (by simp)];cases hb:hasB q.2.2 c.2.2
  ·rw [if_neg (by simp)];exact⟨fun h=>⟨⟨g1.1,g2.1,g1.2.2,g2.2.2,g1.2.1,g2.2.1,.inr ⟨yc.1 ha,fun hm=>by rw [yc.2 hm] at hb;cases hb⟩⟩,h⟩,fun h=>h.2⟩
  ·rw [if_pos rfl];refine⟨fun h=>by omega,fun h=>?_⟩;rcases h.1.cm with h|h
   ·exact absurd h k3
   ·exact absurd (yc.1 hb) h.2
theorem Right.err0{a:AutT}{n:Nat}(h:Right a n):(toAut a).err=0:=by
 have h1:=h.l1;have h2:=h.l2;have h3:=h.l3;have g:=yb3 (a:=toAut a) (by show(a.2.2.2.map toEd).length<_;rw [List.length_map];omega) (by show a.1.length<_;omega) (by show a.2.2.1.length<_;omega);rw [y9A,h.check] at g;exact(Option.some.inj g).symm
theorem ygN{a:AutT}{n:Nat}(h:Right a n)(hn:n≤25)(he:∀x∈a.1,0≤x∧x<5):a.2.2.2.length≤125:=by
 have hx:∀x∈a.2.2.2,0≤x.1*5+x.2.1∧x.1*5+x.2.1<((125:Nat):Int):=fun x hx=>by
  have g:=h.es x hx;have:=he _ g.2.2.2.2;omega
 have hi:Inc (a.2.2.2.map fun x=>x.1*5+x.2.1):=by
  unfold Inc;rw [List.pairwise_map];refine(List.pairwise_iff_getElem.2 fun i j hi hj hij=>?_);have g:=List.pairwise_iff_getElem.1 h.so i j hi hj hij;have g1:=he _ (h.es _ (List.getElem_mem hi)).2.2.2.2;have g2:=he _ (h.es _ (List.getElem_mem hj)).2.2.2.2;omega
 have:=y5U (lo:=0) hi (fun y hy=>by
  obtain⟨x,h1,rfl⟩:=List.mem_map.1 hy;exact hx x h1) (Int.le_refl _)
 simpa using this
theorem ygO{q:PbT}(h:PbOk q n1 n2)(l2:n2≤25)(he:∀x∈q.1.1,0≤x∧x<5):∃e,y1h q=some e∧y2S q=some e∧(e=0→SimOk q n1 n2):=by
 obtain⟨t,p,T,k1,k2,n,ho,_⟩:=h.open;have hS:=h.rS;have hul:=Alp.len ⟨h.iu,h.ur⟩;have hal:=Alp.len ⟨hS.ali,hS.alr⟩;have hes:=ygN hS l2 fun x hx=>he x (h.sub x hx);have hsub:(cmdL q).Sublist q.2.1.1:=List.filter_sublist;have hic:Inc (cmdL q):=List.Pairwise.sublist hsub hS.ali;have hcr:∀x∈cmdL q,0≤x∧x<32:=fun x hx=>hS.alr x (hsub.subset hx);have hcl:=Alp.len ⟨hic,hcr⟩;rw [←yiD (by omega) (by omega),y1h,y7E,ho,yOb,yOb,if_neg (by simp),h.rP.nn];by_cases h0:n1=0
 ·subst h0;exact⟨12,by rw [if_pos (by rfl)],by rw [if_pos (by rfl)],fun h=>by omega⟩
 rw [if_neg (by simp;omega),ydo (by omega) (by omega)];have hsb:y1c (cmdL q) q.2.1.1=some true:=by
  rw [ydR (by omega) (by omega) hic hS.ali];exact congrArg some (List.all_eq_true.2 fun x hx=>yc.2 (hsub.subset hx))
 have hse:yA 32 none (cmdL q)=0:=y7a hic hcr nofun;by_cases hz:n2=0
 ·subst hz;have:yU q.2.1 (cmdL q)=some (((0,0,0,[],[]),[],[],0),21):=by
   rw [yU,hS.check,yOb,if_neg (by simp),y9Y (by omega),hse,yOb,if_neg (by simp),hsb,yOb,if_neg (by simp),if_pos (by rw [hS.nn];rfl)]
  rw [this,yOb];exact⟨21,rfl,rfl,fun h=>by omega⟩
 have hg:GenIn (toAut q.2.1) (cmdL q) n2:=⟨hS.nn,by omega,by omega,by show(q.2.1.2.2.2.map toEd).length≤256;rw [List.length_map];omega,hal,hcl,fun x hx=>by
  obtain⟨y,hy,rfl⟩:=List.mem_map.1 hx;have:=hS.es y hy;exact⟨this.1,this.2.1,this.2.2.1,this.2.2.2.1⟩⟩
 have hgen:=yeM hg hS.l2 hS.err0 hse hsb;rw [y9A] at hgen;rw [hgen,yOb];exact⟨0,rfl,rfl,fun _=>⟨h.rP,hS,hg,hic,by omega,by omega,hgen⟩⟩
theorem yiH{x:Des26×Bool}(hd:Des26In x.1):∃q n1 n2 e,y3H x=some q∧PbOk q n1 n2∧(∀a∈q.1.1,0≤a∧a<5)∧n1≤5∧n2≤25∧y1h q=some e∧y2S q=some e∧(e=0→SimOk q n1 n2):=by
 obtain⟨q,n1,n2,h1,h2,h3,h4,h5⟩:=yfH hd x.2;obtain⟨e,g1,g2,g3⟩:=ygO h2 h4 h5;refine⟨q,n1,n2,e,?_,h2,h5,h3,h4,g1,g2,g3⟩;rw [y3H,h1,yOb]
theorem yfm{q:PbT}{n:Nat}(rP:Right q.1 n)(hu:q.2.2.length≤1000000)(mk:Int)(tn:Bool):∃l,y4l q mk tn=some l∧l.length≤3∧l.Nodup∧∀e∈l,e∈q.1.1∧e∈q.2.2:=by
 have hl:=rP.l1;obtain⟨o,h1,h2⟩:=yd (f:=y3e q mk tn) (fun i s=>s.1=(i:Int)∧i≤q.1.1.length∧s.2.length≤3∧s.2.Nodup∧∀e∈s.2,e∈q.1.1.take i∧e∈q.2.2) (fun o=>o.length≤3∧o.Nodup∧∀e∈o,e∈q.1.1∧e∈q.2.2) q.1.1.length 0 (by omega) (fun i s hi ⟨e1,_,e2,e3,e4⟩=>by
  obtain⟨j,out⟩:=s;dsimp only at e1 e2 e3 e4;subst e1;by_cases h3:out.length<3
  case neg=>
   right;rw [y3e,if_neg (by simp;omega)];exact⟨_,rfl,e2,e3,fun e he=>⟨List.mem_of_mem_take (e4 e he).1,(e4 e he).2⟩⟩
  left;rw [y3e,if_pos (by simp;omega),ya hi,yOb,has55 hu,yOb];have hsub:∀e∈q.1.1.take i,e∈q.1.1.take (i+1):=fun e he=>by
   rw [List.take_succ_eq_append_getElem hi];exact List.mem_append_left _ he
  have hx:q.1.1[i]∈q.1.1.take (i+1):=by
   rw [List.take_succ_eq_append_getElem hi];exact List.mem_append_right _ (List.mem_singleton_self _)
  have hnew:q.1.1[i]∉out:=fun hm=>by
   obtain⟨k,hk,e⟩:=List.getElem_of_mem (e4 _ hm).1;rw [List.length_take] at hk;rw [List.getElem_take] at e;have:=List.pairwise_iff_getElem.1 rP.ali k i (by omega) hi (by omega);omega
  have skip:∃s',yT ((i:Int),out) out=some (.inl s')∧s'.1=((i+1:Nat):Int)∧i+1≤q.1.1.length∧s'.2.length≤3∧s'.2.Nodup∧∀e∈s'.2,e∈q.1.1.take (i+1)∧e∈q.2.2:=
   ⟨(_,out),by rw [yT,nxt (by omega)],rfl,hi,e2,e3,fun e he=>⟨hsub e (e4 e he).1,(e4 e he).2⟩⟩
  cases hb:hasB q.2.2 q.1.1[i] with
  | false=>
   rw [if_neg (by simp),yOb,if_neg (by simp)];exact skip
  | true=>
   have hu:=yc.1 hb;rw [if_pos rfl,show ng (i:Int)=some () from if_neg (by omega),yOb,yOb];split
   ·cases tn with
    | true=>
     rw [if_pos rfl,yj (by simp;omega),yOb];refine⟨(_,_),by rw [yT,nxt (by omega)],rfl,hi,by simp;omega,?_,fun e he=>?_⟩
     ·exact List.nodup_cons.2 ⟨hnew,e3⟩
     ·rcases List.mem_cons.1 he with rfl|he
      ·exact ⟨hx,hu⟩
      ·exact ⟨hsub e (e4 e he).1,(e4 e he).2⟩
    | false=>
     rw [if_neg (by simp),yj (by simp;omega),yOb];refine⟨(_,_),by rw [yT,nxt (by omega)],rfl,hi,by simp;omega,?_,fun e he=>?_⟩
     ·dsimp only;rw [List.nodup_append];exact⟨e3,by simp,fun a ha b hb e=>by rw [List.mem_singleton.1 hb] at e;rw [e] at ha;exact hnew ha⟩
     ·rcases List.mem_append.1 he with he|he
      ·exact ⟨hsub e (e4 e he).1,(e4 e he).2⟩
      ·rw [List.mem_singleton.1 he];exact⟨hx,hu⟩
   ·exact skip) (fun s ⟨e1,_,e2,e3,e4⟩=>by
  obtain⟨j,out⟩:=s;dsimp only at e1 e2 e3 e4;subst e1;rw [List.take_length] at e4;exact⟨_,by rw [y3e,if_neg (by simp)],e2,e3,e4⟩) (Nat.zero_le _) (0,[]) ⟨rfl,Nat.zero_le _,by simp,by simp,fun e he=>by cases he⟩
 exact⟨o,by rw [y4l,h1,yOb],h2⟩
theorem yhQ{q:PbT}{n:Nat}(rP:Right q.1 n)(hu:q.2.2.length≤1000000){d:List (Int×Int×Int×Int)}(hd:∀x∈d,0≤x.2.2.2∧x.2.2.2<256):∃l,y3q d q=some l∧l.length≤8∧∀c∈l,CycIn q c:=by
 have hl:=rP.l1;obtain⟨o,h1,h2⟩:=yd (f:=y2C d q) (fun i s=>s.1=(i:Int)∧i≤8∧i≤d.length∧s.2.length≤i∧∀c∈s.2,CycIn q c) (fun o=>o.length≤8∧∀c∈o,CycIn q c) (min d.length 8) 0 (by omega) (fun i s hi ⟨e1,_,_,e2,e3⟩=>by
  obtain⟨j,out⟩:=s;dsimp only at e1 e2 e3;subst e1;have hi1:i<d.length:=by omega
  have hx:=hd _ (List.getElem_mem hi1);obtain⟨l1,p1,p2,p3,p4⟩:=yfm rP hu d[i].1 ((d[i].2.2.1.tmod 2)==1);obtain⟨l2,r1,r2,r3,r4⟩:=yfm rP hu d[i].2.1 (((IntKind.u8.wrap (d[i].2.2.1.tdiv 2)).tmod 2)==1);left;rw [y2C,if_pos (by simp;omega),ya hi1,yOb,yOb,p1,yOb,yOb,yOb,r1,yOb,yOb];have hfin:∀cm:Int,(cm= -1∨(cm∈q.1.1∧cm∉q.2.2))→∃s',y1u ((i:Int),out) l1 l2 cm=some (.inl s')∧s'.1=((i+1:Nat):Int)∧i+1≤8∧i+1≤d.length∧s'.2.length≤i+1∧∀c∈s'.2,CycIn q c:=fun cm hcm=>by
   rw [y1u];dsimp only;rw [yj (by simp;omega),yOb,nxt (by omega)];refine⟨_,rfl,rfl,by omega,hi1,by simp;omega,fun c hc=>?_⟩;rcases List.mem_append.1 hc with hc|hc
   ·exact e3 c hc
   ·rw [List.mem_singleton.1 hc];exact⟨p2,r2,p3,r3,p4,r4,hcm⟩
  rw [W_of (by omega) (by omega)];have hk:d[i].2.2.2.tmod 6=d[i].2.2.2 % 6:=Int.tmod_eq_emod_of_nonneg hx.1;obtain⟨k,hk2⟩:∃k:Nat,d[i].2.2.2.tmod 6=(k:Int):=⟨(d[i].2.2.2 % 6).toNat,by rw [hk];omega⟩;have hW:W d[i].2.2.2=d[i].2.2.2:=W_of (by omega) (by omega);split
  ·rename_i hlt;rw [hk2] at hlt ⊢;have hkl:k<q.1.1.length:=by simpa using hlt
   rw [ya hkl,yOb,has55 hu,yOb,y1v,hW,hk2];cases hb:hasB q.2.2 q.1.1[k] with
   | false=>
    rw [if_pos (by rfl),ya hkl,yOb];exact hfin _ (.inr ⟨List.getElem_mem hkl,fun hm=>by rw [yc.2 hm] at hb;cases hb⟩)
   | true=>
    rw [if_neg (by simp)];exact hfin _ (.inl rfl)
  ·rw [y1v,if_neg (by simp)];exact hfin _ (.inl rfl)) (fun s ⟨e1,_,_,e2,e3⟩=>by
  obtain⟨j,out⟩:=s;dsimp only at e1 e2 e3;subst e1;exact⟨_,by rw [y2C,if_neg (by simp;omega)],by omega,e3⟩) (Nat.zero_le _) (0,[]) ⟨rfl,by omega,Nat.zero_le _,by simp,fun c hc=>by cases hc⟩
 exact⟨o,by rw [y3q,h1,yOb],h2⟩
theorem ycR{q:PbT}{ch:CycT→RunT→Int}:∀{l:List CycT} {r:RunT} {s:StpR},s∈y5Q q ch r l→∃r' c,c∈l∧s=stpR q r' c (ch c)
 | [],_,_,h=>by cases h
 | c::l,r,s,h=>by
  rcases List.mem_cons.1 h with rfl|h
  ·exact ⟨r,c,List.mem_cons_self ..,rfl⟩
  ·obtain ⟨r',c',h1,h2⟩:=ycR h;exact⟨r',c',List.mem_cons_of_mem _ h1,h2⟩
theorem ygP{q:PbT}(h:SimOk q n1 n2){pr:CycT→List Int}{r:RunT}{l:List CycT}(hl:∀c∈l,c.1.length≤50∧c.2.1.length≤50):∀s∈y5Q q (fun c=>chP q (pr c)) r l,s.1.length+s.2.1.length≤100∧s.2.2.1.length≤32∧(s.2.2.2.1= -1∨0≤s.2.2.2.1):=fun s hs=>by
 obtain⟨r',c,hc,rfl⟩:=ycR hs;have k:=hl c hc;have k1:=y8h q.1 c.1 r'.1;have k2:=y8h q.1 c.2.1 (midR q r' c).1;refine⟨?_,Nat.le_trans (List.length_filter_le _ _) h.g.ct,?_⟩
 ·show (trE q.1 c.1 r'.1).2.length+(trE q.1 c.2.1 (midR q r' c).1).2.length≤100;omega
 ·exact (ydT q (pr c) (midR q r' c)).imp id fun g=>(yaI h.rP g.2).1
theorem yj1{q:PbT}(hu:q.2.2.length≤1000000)(hP:Right q.1 n1)(he:y1h q=some e)(hs:e=0→SimOk q n1 n2){l:List CycT}(hl:l.length≤256)(hc:∀c∈l,c.1.length≤1000000∧c.2.1.length≤1000000):
  y5a q l=some (if e≠0 then([],e) else if scE q l≠0 then([],scE q l) else(y5Q q (fun c=>chP q [c.2.2]) (0,0,false) l,0)):=by
 rw [y5a,ydr hP.l1 hu (by omega) hc he,yOb];by_cases h0:e=0
 case neg=>rw [if_pos h0,if_pos (by simpa using h0),if_pos h0]
 rw [if_neg (show ¬e≠0 from fun h=>h h0),if_neg (show ¬256<l.length by omega),if_neg (show ¬e≠0 from fun h=>h h0)];by_cases h1:scE q l=0
 case neg=>rw [if_pos (by simpa using h1),if_pos h1]
 have hk:=hs h0;have hin:=yeC.1 h1;rw [if_neg (by simpa using h1),if_neg (show ¬scE q l≠0 from fun h=>h h1),yiZ hk (by omega) (fun c hc=>(hin c hc).ok) (pr:=fun c=> [c.2.2]) fun c hc=>yiF hk ((hin c hc).cm.imp id fun g=>g.2)];rfl
theorem yhR{x:Des26×Bool}(hd:Des26In x.1){d:List (Int×Int×Int×Int)}(hdr:∀y∈d,0≤y.2.2.2∧y.2.2.2<256):y3I x d=some true:=by
 obtain⟨q,n1,n2,e,h1,hP,_,_,_,h2,h3,hs⟩:=yiH hd;have hul:=Alp.len ⟨hP.iu,hP.ur⟩;obtain⟨l,g1,g2,g3⟩:=yhQ hP.rP (by omega) hdr;have hc:∀c∈l,c.1.length≤50∧c.2.1.length≤50:=fun c hc=>by
  have:=(g3 c hc).l1;have:=(g3 c hc).l2;omega
 rw [y3I,yiB,yOb,if_neg (by simp),h1,yOb,g1,yOb,yj1 (by omega) hP.rP h2 hs (by omega) (fun c h=>by have:=hc c h;omega),yOb,h3,yOb];by_cases h0:e=0
 case neg=>
  rw [if_pos (by simpa using h0),if_pos h0];simp
 rw [if_neg (by simpa using h0),if_neg (show ¬e≠0 from fun h=>h h0),if_neg (show ¬scE q l≠0 from fun h=>h (yeC.2 g3)),yhP hP.rP hP.rS (by omega) (by omega) (fun c h=>by have:=hc c h;omega) (by simp) false,yOb];have hf:=ygP (hs h0) (pr:=fun c=> [c.2.2]) (r:=(0,0,false)) hc;have hlen:=y9E q (fun c=>chP q [c.2.2]) l (0,0,false);have he:(fun c:CycT=>chP q (if false=true then([]:List Int) else [c.2.2]))=fun c=>chP q [c.2.2]:=rfl;rw [he];generalize y5Q q (fun c=>chP q [c.2.2]) (0,0,false) l=L at *;have hsh:Shw L:=fun s hm=>(hf s hm).1;have hfl:=yaa hsh;rw [yhL hsh (by omega) fun s hm=>(hf s hm).2.2,yOb,if_pos (by rfl)];dsimp only;rw [ygI (by omega) (fun s hm=>by have:=hf s hm;omega),yOb,if_pos rfl,yiE hsh (by omega),yOb,y9F (by omega),yOb,if_pos rfl,yfS hsh (by omega),yOb,yz,yiX hsh (by omega)];simp
end Go.Proofs.YtecmobjeeonmaaaGreatDoor
namespace Go.Proofs.YtecmobjeeonmaaaGreatDoor
open Go Go.RowKit Go.ChangeShapes Go.WideShapes Go.Deep
def Op(P:Program){α:Type}(r:Rep α)(Q:α→Prop)(t:TypeId):Prop:=
 ∀(H:Type) (enc:TypeId×Value→H) (w:World) (fuel:Nat) (cs:List Value) (x:DataW H×List MemPlace),DataW.trod enc P w 0 (fun _=>true) true fuel t cs=some x→∃y:α,r.rd ⟨w,fun _=>0⟩ cs y∧Q y
section
variable{P:Program}{α β:Type}{r:Rep α}{q:Rep β}{Q:α→Prop}{R:β→Prop}{t e:TypeId}
theorem Op.int{k:IntKind}(ht:P.underlying t=some (.int k)):Op P (rK k) (fun n=>k.min≤n∧n≤k.max) t:=by
 intro H enc w fuel cs x h;obtain⟨n,h1,h2,h3⟩:=DataW.trod_int ht h;refine⟨n,h1,?_⟩;simpa [Lit.wf] using h3
theorem Op.bool(ht:P.underlying t=some .bool):Op P rB (fun _=>True) t:=by
 intro H enc w fuel cs x h;obtain⟨b,h1,h2⟩:=DataW.trod_bool ht h;exact⟨b,h1,trivial⟩
theorem yhS{H:Type}{enc:TypeId×Value→H}{w:World}{base fuel:Nat}{v:Value}{x:DataW H×List MemPlace}(ht:P.underlying t=some (.slice e))(hc:P.cellsOf e=r.sz)(ho:Op P r Q e)(hok:Cell.okWide P w .any base t v)
  (h:DataW.trod enc P w 0 (fun _=>true) true fuel t [v]=some x):∃(a:Option Addr) (c:Nat) (xs:List α),v= .slice a xs.length c∧RdL r ⟨w,fun _=>0⟩ a c xs∧∀y∈xs,Q y:=by
 rcases open_slice ht h with ⟨h1,-⟩|⟨a,len,cap,m,n,D,Pl,h1,-,h3,h4,h5,-,h7⟩
 ·rw [List.cons.injEq] at h1;refine⟨none,0,[],h1.1,⟨[],⟨by simp,by simp,by simp,fun _=>rfl,fun ad e=>(by cases e),fun ad e=>(by cases e)⟩,fun ad e=>(by cases e),rfl⟩,fun y hy=>(by cases hy)⟩
 ·rw [List.cons.injEq] at h1;have hv:=h1.1;subst hv;rw [if_pos rfl] at h5;subst h5;have hsp:a.spot=none:=by
   simp only [Cell.okWide,ht,Cell.ok] at hok;exact hok.2.2.2.1
  have hadd:∀k,a.add k=⟨a.block,a.off+k,none⟩:=fun k=>by
   obtain⟨b,o,sp⟩:=a;dsimp only at hsp;subst hsp;unfold Addr.add;split
   ·rename_i hk;subst hk;rfl
   ·rfl
  have key:∀k,k≤len→∃(xs:List α) (cs:List Value),xs.length=k∧Cells r ⟨w,fun _=>0⟩ cs xs∧(∀y∈xs,Q y)∧∀j (hj:j<cs.length),w.cell? ⟨a.block,a.off+j,none⟩=some cs[j]:=by
   intro k
   induction k with
   | zero=>intro _;exact⟨[],[],rfl,rfl,fun y hy=>(by cases hy),fun j hj=>absurd hj (Nat.not_lt_zero _)⟩
   | succ k ih=>
    intro hk;obtain⟨xs,cs,g1,g2,g3,g4⟩:=ih (by omega);obtain⟨cs',k1,k2⟩:=h7 k (by omega);obtain⟨y,k3,k4⟩:=ho H enc w n cs' _ k2;obtain⟨-,k5,k6⟩:=World.cells?_some k1;have hl:=g2.len;rw [g1] at hl;rw [hc] at k5 k6;refine⟨xs++[y],cs++cs',by simp [g1],g2.append ⟨cs',[],by simp,k3,rfl⟩,fun z hz=>?_,fun j hj=>?_⟩
    ·rcases List.mem_append.1 hz with hz|hz
     ·exact g3 z hz
     ·rw [List.mem_singleton.1 hz];exact k4
    ·by_cases hlt:j<cs.length
     ·rw [List.getElem_append_left hlt];exact g4 j hlt
     ·have hj2:j-cs.length<cs'.length:=by rw [List.length_append] at hj;omega
      rw [List.getElem_append_right (by omega)];have:=k6 (j-cs.length) (by omega);rw [add_add,hadd,yGe hj2] at this;rw [←this];congr 2;omega
  obtain⟨xs,cs,g1,g2,g3,g4⟩:=key len (Nat.le_refl _);subst g1;refine⟨some a,m,xs,rfl,⟨cs,⟨g2.len,h3,h4,fun e=>(by cases e),fun ad e=>(by cases e;exact hsp),fun ad e j hj=>(by cases e;exact g4 j hj)⟩,fun _ _ _=>rfl,g2⟩,g3⟩
theorem yj2{w:World}{base:Nat}{v:Value}{fs:Array Field}{ts:List TypeId}(ht:P.underlying t=some (.struct fs))(hts:P.cellTypes P.depth t=some ts)(hsz:P.cellsOf t=ts.length)(hok:Value.okWide P w .any base t v):
  ∃cs,v= .agg cs∧cs.size=ts.length∧∀(i:Nat) (u:TypeId),ts[i]? =some u→∃c:Value,cs[i]? =some c∧Cell.okWide P w .any base u c:=by
 simp only [Value.okWide,ht] at hok;obtain⟨cs,rfl,h1,ts',h2,h3,h4⟩:=hok;rw [hts] at h2;cases h2;refine⟨cs,rfl,by omega,fun i u hu=>?_⟩;have hlt:i<ts.length:=(List.getElem?_eq_some_iff.1 hu).1;obtain⟨u',g1,g2⟩:=h4 i cs[i] (Array.getElem?_eq_getElem (by omega));rw [Nat.mod_eq_of_lt hlt,hu] at g1;cases g1;exact⟨_,Array.getElem?_eq_getElem (by omega),g2⟩
theorem yb7{H:Type}{enc:TypeId×Value→H}{w:World}{fuel:Nat}{cs:List Value}{x:DataW H×List MemPlace}{fs:Array Field}(ht:P.underlying t=some (.struct fs))(h:DataW.trod enc P w 0 (fun _=>true) true fuel t cs=some x){i:Nat}{f:Field}(hf:fs[i]? =some f):
  ∃n y,DataW.trod enc P w 0 (fun _=>true) true n f.type ((cs.drop f.offset).take (P.cellsOf f.type))=some y:=by
 obtain⟨xs,n,_,_,_,h5,h6⟩:=DataW.trod_struct ht h;have hlt:=(Array.getElem?_eq_some_iff.1 hf).1;exact⟨n,xs[i]'(by omega),by rw [h6 i f hf,yGe (by omega)]⟩
end
end Go.Proofs.YtecmobjeeonmaaaGreatDoor
namespace Go.Proofs.YtecmobjeeonmaaaGreatDoor
open Go Go.ChangeShapes Go.WideShapes Go.ChangeAt Go.RowKit Go.Deep
theorem Fw.law{P:Program}{f:FuncId}{ts:List TV}(h:Fw P f ⟨0,[]⟩ ts [] (.b true) []){w:World}{vs:List Value}(ha:All3 (fun _=> .bool false) ⟨w,fun _=>0⟩ ts vs):Calls P f vs.toArray w fun e w'=>e= .returned (.bool true)∧Below w.heap.size w w':=
 Calls.mono (h.is [] (fun _=> .bool false) ⟨w,fun _=>0⟩ vs rfl (Nat.le_refl _) List.nodup_nil (fun t ht=>by cases ht) ha (fun i o h=>by simp at h)) fun e W' ⟨v,s',hw,he,hm,β',_,hv,_⟩=>by
  obtain⟨hv,_⟩:=hv;subst hw;subst hv;exact⟨he,(hm.weak (S':=No) fun t ⟨i,hi,_⟩=>by cases hi).below⟩
theorem All3.c{β:Nat→Value}{s:Sig}{x:TV}{xs:List TV}{v:Value}{us:List Value}(h:x.p β s v)(h2:All3 β s xs us):All3 β s (x::xs) (v::us):=⟨v,us,h,h2,rfl⟩
theorem yfT{α:Type}[Inhabited α]{n:Nat}{p:Nat→α→Prop}(h:∀i,i<n→∃x,p i x):∃f:Nat→α,∀i,i<n→p i (f i):=
 ⟨fun i=>if hi:i<n then Classical.choose (h i hi) else default,fun i hi=>by
  dsimp only;rw [dif_pos hi];exact Classical.choose_spec (h i hi)⟩
abbrev yj3 :=(Int×y1L)×(Int×y1L)×Int
def pbT :List TypeId:=[22]++List.replicate 27 5++[22]++List.replicate 27 5++[22]
section
variable{H:Type}{enc:TypeId×Value→H}{w:World}{base:Nat}{v:Value}{d:DataW H}{ps:List MemPlace}
theorem op_u8 :Op Tryz.prog (rK .u8) (fun n=>0≤n∧n<256) 5:=by
 intro H enc w fuel cs x h;obtain⟨y,h1,h2⟩:=(Op.int (P:=Tryz.prog) (k:= .u8) Tryz.underlying5) H enc w fuel cs x h;refine⟨y,h1,?_⟩;simp [IntKind.min,IntKind.max,IntKind.signed,IntKind.bits] at h2;omega
end
theorem Tryz.own :ownKnob Tryz.prog.godebug=none:=by kernel_rfl
theorem Tryz.laidOut :laidOutB Tryz.prog=true:=by kernel_rfl
section
variable{H:Type}{enc:TypeId×Value→H}
def yeD(P:Program)(ts:List TypeId):Bool:=ts.all fun t=>P.readableRec t&&decide (t<P.types.size)
theorem ybd{P:Program}(hl:laidOutB P=true){W W':World}(hb:Below W.heap.size W W'){sp:Nat→Bool}:∀{ts:List TypeId} {vs:List Value} {ds:List (DataW H)} {ps:List MemPlace},yeD P ts=true→
  DataW.TrodAll enc P W 0 (fun _=>true) true ts vs ds ps→(∀x∈ps,x.block<W.heap.size)→(∀x∈ps,sp x.block=true)→DataW.TrodAll enc P W' 0 sp true ts vs ds ps
 | [],[],[],_,_,h,_,_=>h
 | [],_::_,_,_,_,h,_,_=>h.elim
 | [],[],_::_,_,_,h,_,_=>h.elim
 | t::ts,[],_,_,_,h,_,_=>h.elim
 | t::ts,_::_,[],_,_,h,_,_=>h.elim
 | t::ts,v::vs,d::ds,ps,hc,⟨p,q,h1,h2,e⟩,hlt,hsp=>by
  subst e;unfold yeD at hc;rw [List.all_cons,Bool.and_eq_true,Bool.and_eq_true] at hc;exact⟨p,q,WideElems.Trod_stays hl hc.1.1 (of_decide_eq_true hc.1.2) h1 (fun x hx=>hb.same (hlt x (List.mem_append_left _ hx))) (fun x hx=>hsp x (List.mem_append_left _ hx)),
   ybd hl hb hc.2 h2 (fun x hx=>hlt x (List.mem_append_right _ hx)) (fun x hx=>hsp x (List.mem_append_right _ hx)),rfl⟩
theorem yhT{P:Program}(hl:laidOutB P=true){f:Func}{s:ChangeSpec}{apart fresh handsOn again:Bool}{W W':World}{args:Array Value}{ds:List (DataW H)}{before:List MemPlace}{tb:TypeId}{b:Bool}
  (hW:DataW.Whole enc P f.params.toList s.vars apart W args.toList ds [] before) (hv:s.vars= []) (hc:yeD P f.params.toList=true) (hrt:f.resultTypes= #[tb]) (ht:P.underlying tb=some .bool)
  (hr:(s.fn H (ds++[])).results= [.lit (.bool b)]) (ha:(s.fn H (ds++[])).args=ds) (hvn:(s.fn H (ds++[])).vars= []) (hb:Below W.heap.size W W'):
  s.post enc P f apart fresh handsOn again W args (.bool b) W':=by
 have hlt:∀p∈before,p.block<W.heap.size:=fun p hp=>hW.lt p hp;have hWc:=hW;obtain⟨p,q,hA,hV,rfl,hz,hn⟩:=hWc;rw [hv] at hV;obtain⟨-,rfl⟩:=trodVars_none hV;rw [List.append_nil] at hlt hz hn;have hargs:∀sp:Nat→Bool,(∀x∈p,sp x.block=true)→DataW.TrodAll enc P W' 0 sp true f.params.toList args.toList (s.fn H (ds++[])).args p:=fun sp hsp=>by
  rw [ha];exact ybd hl hb hc hA hlt hsp
 have hres:∀(b0:Nat) (sp:Nat→Bool) (hd:Bool),DataW.TrodAll enc P W' b0 sp hd f.resultTypes.toList ((Value.bool b).resultList f.resultTypes.size) (s.fn H (ds++[])).results []:=fun _ _ _=>by
  rw [hr,hrt];exact trodAll_mk1 (shut_bool ht b)
 have hvars:∀sp:Nat→Bool,DataW.TrodVars enc P W' sp s.vars (s.fn H (ds++[])).vars []:=fun sp=>by rw [hv,hvn];rfl
 have hold:∀x∈p,(fun b=>decide (b<W.heap.size)) x.block=true:=fun x hx=>by simpa using hlt x hx
 refine⟨ds,[],p++[],[],p,[],hW,hres _ _ _,hargs _ hold,hvars _,World.keptBut_mono (fun x hx=>?_) (hb.frame (· ∈p)),fun _=>?_⟩
 ·exact ⟨by rwa [List.append_nil],Or.inr (.inl hx)⟩
 ·have hok:=ok_one (f:=f) (W':=W') (by rw [hrt]) rfl (okWide_bool_mk (W':=W') ht b);refine⟨hok,_,_,([]++p)++[],⟨[]++p,[],trodAll_append (hargs _ (fun _ _=>rfl)) (hres _ _ _),hvars _,rfl,?_,?_⟩,?_⟩
  ·intro b0 off hp;have hin:MemPlace.cell b0 off∈p:=by simpa using hp
   rw [hb.frozen (hlt _ hin)];exact hz b0 off hin
  ·intro hap;simpa using hn hap
  ·intro x hx _;simpa using hx
end
def lay24 : List (String × DataW Unit) := [("math/bits.deBruijn32tab", Rows.laid_math_bits_deBruijn32tab), ("math/bits.deBruijn64tab", Rows.laid_math_bits_deBruijn64tab), ("internal/strconv.uint64pow10", Rows.laid_internal_strconv_uint64pow10)]
theorem ygQ(os:Os)(args:Array Value):laidMetH Tryz.prog lay24 ((World.laidAll Tryz.prog os lay24).forCall (fun _ _=>0) ⟨#[],args,[]⟩).memory:=
 laidMetH_of_parts3 (fuel:=8) (laidMet_laidAll args (by kernel_rfl) (by kernel_rfl)) (by kernel_rfl) (by kernel_rfl)
theorem yhU :Tryz.prog.cellTypes Tryz.prog.depth 84=some (pbT++[4]):=by kernel_rfl
theorem yhV :Tryz.prog.cellsOf 84=(pbT++[4]).length:=by kernel_rfl
section
variable{H:Type}{enc:TypeId×Value→H}{w:World}{base:Nat}{v:Value}{d:DataW H}{ps:List MemPlace}
theorem yhW(hok:Value.okWide Tryz.prog w .any base 84 v):∃x:yj3×Bool,GrIn x.1.1.2∧GrIn x.1.2.1.2∧∀β s,(TV.a (lx84 x)).p β s v:=by
 obtain⟨cs,rfl,h1,h2⟩:=yj2 Tryz.underlying84 yhU yhV hok;have h1':cs.size=58:=h1;obtain⟨f,hf⟩:=yfT (α:=Int) (n:=57) (p:=fun i n=>cs[i]? =some (.int .u8 n)∧0≤n∧n<256) (fun i hi=>by
  obtain⟨u,hu,hu2⟩:∃u,pbT[i]? =some u∧(u=22∨u=5):=by
   refine⟨pbT[i]'hi,yGe (l:=pbT) hi,?_⟩;have:=List.getElem_mem (l:=pbT) hi;generalize pbT[i]'hi=u at this;simp only [pbT,List.mem_append,List.mem_singleton,List.mem_replicate] at this;rcases this with (((h|h)|h)|h)|h
   ·exact .inl h
   ·exact .inr h.2
   ·exact .inl h
   ·exact .inr h.2
   ·exact .inl h
  obtain⟨c,g1,g2⟩:=h2 i u (by rw [List.getElem?_append_left hi];exact hu);have g2':Cell.okWide Tryz.prog w .any base 5 c:=by
   rcases hu2 with rfl|rfl
   ·simp only [Cell.okWide,Cell.ok,Tryz.underlying22,Tryz.underlying5] at g2 ⊢;exact g2
   ·exact g2
  obtain⟨n,rfl,g3⟩:∃n:Int,c= .int .u8 n∧0≤n∧n<256:=by
   simp only [Cell.okWide,Tryz.underlying5] at g2';cases c <;> simp_all [Cell.ok];rename_i k n;obtain⟨rfl,h2⟩:=g2';simp [IntKind.has,IntKind.min,IntKind.max,IntKind.signed,IntKind.bits] at h2;omega
  exact⟨n,g1,g3⟩)
 obtain⟨b,hb⟩:∃b,cs[57]? =some (.bool b):=by
  obtain⟨c,g1,g2⟩:=h2 57 4 rfl;simp only [Cell.okWide,Tryz.underlying4] at g2;cases c <;> simp_all [Cell.ok]
 have hcs:cs=((List.range 57).map (fun i=>Value.int .u8 (f i))++[Value.bool b]).toArray:=by
  apply Array.ext_getElem?;intro i;by_cases hi:i<57
  ·rw [(hf i hi).1,List.getElem?_toArray,List.getElem?_append_left (by simpa using hi)];simp [hi]
  ·by_cases hi2:i=57
   ·subst hi2;rw [hb];rfl
   ·rw [Array.getElem?_eq_none (by omega),Array.getElem?_eq_none (by simp;omega)]
 have gr:∀o,o+27≤57→GrIn (f o,f (o+1),((f (o+2),f (o+3),f (o+4),f (o+5),f (o+6)),(f (o+7),f (o+8),f (o+9),f (o+10),f (o+11)),(f (o+12),f (o+13),f (o+14),f (o+15),f (o+16)),(f (o+17),f (o+18),f (o+19),f (o+20),f (o+21)),(f (o+22),f (o+23),f (o+24),f (o+25),f (o+26)))):=fun o ho=>by
  refine⟨(hf o (by omega)).2,fun y hy=>?_⟩;have hy2:y∈(List.range 25).map fun i=>f (o+(i+2)):=hy;obtain⟨i,hi,rfl⟩:=List.mem_map.1 hy2;have:=List.mem_range.1 hi;exact(hf (o+(i+2)) (by omega)).2
 refine⟨(((f 0,f 1,f 2,((f 3,f 4,f 5,f 6,f 7),(f 8,f 9,f 10,f 11,f 12),(f 13,f 14,f 15,f 16,f 17),(f 18,f 19,f 20,f 21,f 22),(f 23,f 24,f 25,f 26,f 27))),(f 28,f 29,f 30,((f 31,f 32,f 33,f 34,f 35),(f 36,f 37,f 38,f 39,f 40),(f 41,f 42,f 43,f 44,f 45),(f 46,f 47,f 48,f 49,f 50),(f 51,f 52,f 53,f 54,f 55))),f 56),b),gr 1 (by omega),gr 29 (by omega),fun β s=>?_⟩;refine⟨(List.range 57).map (fun i=>Value.int .u8 (f i))++[Value.bool b],?_,by rw [hcs]⟩;exact yap (cs:=(List.range 57).map (fun i=>Value.int .u8 (f i))++[Value.bool b]) (List.all_eq_true.2 fun x hx=>by
  rcases List.mem_append.1 hx with hx|hx
  ·obtain ⟨i,_,rfl⟩:=List.mem_map.1 hx;rfl
  ·rw [List.mem_singleton.1 hx];rfl)
end
theorem Op.struct4{α β γ δ:Type}{r:Rep α}{q:Rep β}{u:Rep γ}{z:Rep δ}{Q:α→Prop}{R:β→Prop}{U:γ→Prop}{Z':δ→Prop}{P:Program}{t:TypeId}{f0 f1 f2 f3:Field}(ht:P.underlying t=some (.struct #[f0,f1,f2,f3]))(h0:Op P r Q f0.type)(h1:Op P q R f1.type)(h2:Op P u U f2.type)(h3:Op P z Z' f3.type)(o0:f0.offset=0)(o1:f1.offset=r.sz)(o2:f2.offset=r.sz+q.sz)(o3:f3.offset=r.sz+q.sz+u.sz)
  (c0:P.cellsOf f0.type=r.sz) (c1:P.cellsOf f1.type=q.sz) (c2:P.cellsOf f2.type=u.sz) (c3:P.cellsOf f3.type=z.sz) (c:P.cellsOf t=r.sz+q.sz+u.sz+z.sz):Op P (rP r (rP q (rP u z))) (fun y=>Q y.1∧R y.2.1∧U y.2.2.1∧Z' y.2.2.2) t:=by
 intro H enc w fuel cs x h;obtain⟨xs,n,_,_,hl,h5,h6⟩:=DataW.trod_struct ht h;obtain⟨n0,x0,g0⟩:=yb7 (i:=0) (f:=f0) ht h rfl;obtain⟨n1,x1,g1⟩:=yb7 (i:=1) (f:=f1) ht h rfl;obtain⟨n2,x2,g2⟩:=yb7 (i:=2) (f:=f2) ht h rfl;obtain⟨n3,x3,g3⟩:=yb7 (i:=3) (f:=f3) ht h rfl;obtain⟨y0,a0,b0⟩:=h0 _ _ _ _ _ _ g0;obtain⟨y1,a1,b1⟩:=h1 _ _ _ _ _ _ g1;obtain⟨y2,a2,b2⟩:=h2 _ _ _ _ _ _ g2;obtain⟨y3,a3,b3⟩:=h3 _ _ _ _ _ _ g3;rw [o0,c0] at a0;rw [o1,c1] at a1;rw [o2,c2] at a2;rw [o3,c3] at a3;refine⟨(y0,y1,y2,y3),⟨_,_,?_,a0,_,_,rfl,a1,_,_,rfl,a2,a3⟩,b0,b1,b2,b3⟩;have e3:((cs.drop (r.sz+q.sz+u.sz)).take z.sz)=cs.drop (r.sz+q.sz+u.sz):=List.take_of_length_le (by rw [List.length_drop];omega);rw [e3,List.drop_zero,show cs.drop (r.sz+q.sz+u.sz)=((cs.drop r.sz).drop q.sz).drop u.sz by simp [List.drop_drop,Nat.add_assoc],show cs.drop (r.sz+q.sz)=(cs.drop r.sz).drop q.sz by simp [List.drop_drop],List.take_append_drop,List.take_append_drop,List.take_append_drop]
section
variable{H:Type}{enc:TypeId×Value→H}{w:World}{base:Nat}{v:Value}{d:DataW H}{ps:List MemPlace}
/-- A draft. -/
theorem ygR(hok:Value.okWide Tryz.prog w .any base 86 v)(h:DataW.Trod enc Tryz.prog w 0 (fun _=>true) true 86 v d ps):∃xs:List (Int×Int×Int×Int),(∀y∈xs,0≤y.2.2.2∧y.2.2.2<256)∧∀β,(TV.f (rP (rK .u8) (rP (rK .u8) (rP (rK .u8) (rK .u8)))) xs).p β ⟨w,fun _=>0⟩ v:=by
 obtain⟨fuel,hf⟩:=h;simp only [Value.okWide,Tryz.underlying86] at hok;have hv:v.cells.toList= [v]:=by
  simp only [Cell.okWide,Tryz.underlying86] at hok;cases v <;> simp_all [Cell.ok,Value.cells]
 rw [hv] at hf;obtain⟨a,c,xs,rfl,h1,h2⟩:=yhS Tryz.underlying86 (by kernel_rfl) (Op.struct4 Tryz.underlying209 op_u8 op_u8 op_u8 op_u8 rfl rfl rfl rfl (by kernel_rfl) (by kernel_rfl) (by kernel_rfl) (by kernel_rfl) (by kernel_rfl)) hok hf;exact⟨xs,fun y hy=>(h2 y hy).2.2.2,fun β=>⟨a,c,rfl,h1⟩⟩
end
theorem yaK(os:Os)(started:os.Started)(H:Type)(enc:TypeId×Value→H):
  ReturnsInHanded {} Tryz.checked os 10 .any (fun w args=>(Rows.simulationRunsSpec.pre enc Tryz.prog Tryz.f10 [] false w args∧laidMetH Tryz.prog lay24 w)∧sizedMet enc Tryz.prog Tryz.f10 (OpenSpec.ofChange Rows.simulationRunsSpec) false w args) (Rows.simulationRunsSpec.post enc Tryz.prog Tryz.f10 false true false false):=by
 refine returnsInHanded_of_change_and (C:=Tryz.checked) (X:=fun w _=>laidMetH Tryz.prog lay24 w) (fun _ _ _ hh h=>h.of_heap hh) Tryz.own started (by kernel_rfl) Tryz.func10
  (ChangeSpec.witness_shaped (enc:=enc) (C:=Tryz.checked) (os:=os) (X:=fun w _=>laidMetH Tryz.prog lay24 w) false (World.laidAll Tryz.prog os lay24) #[.agg (Array.replicate 57 (.int .u8 0) ++ #[.bool false]),.slice none 0 0] 8 (World.laidAll_os _ _ _) (World.shaped_of_ZipB (by kernel_rfl) (by kernel_rfl)) (by kernel_rfl) (by kernel_rfl) (by kernel_rfl) (ygQ os _)) ?_
 intro W base args ds gs before hval0 hW _ _ _ _;have hval:∀(j:Nat) t v,Tryz.f10.params[j]? =some t→args[j]? =some v→Value.okWide Tryz.prog W .any base t v:=hval0;have hW':=hW;obtain⟨p,q,hA0,hV,rfl,hfz,hnd⟩:=hW;have hA:DataW.TrodAll enc Tryz.prog W 0 (fun _=>true) true Tryz.f10.params.toList args.toList ds p:=hA0;rw [Tryz.params10] at hA hval;obtain⟨v0,v1,d0,d1,p0,p1,rfl,rfl,rfl,h0,h1⟩:=trodAll_two hA;obtain⟨x,g1,g2,r0⟩:=yhW (hval 0 84 v0 rfl rfl);obtain⟨y,hd,r1⟩:=ygR (hval 1 86 v1 rfl rfl) h1;obtain⟨rfl,rfl⟩:=trodVars_none hV;clear hA0 hval0;refine Calls.mono ((y8a (yhR (x:=x) ⟨g1,g2⟩ hd)).law (All3.c (r0 _ _) (All3.c (r1 _) rfl))) fun e W' ⟨he,hbl⟩=>?_;subst he;exact⟨_,rfl,yhT Tryz.laidOut hW' rfl (by kernel_rfl) (by kernel_rfl) Tryz.underlying4 rfl rfl rfl hbl⟩
end Go.Proofs.YtecmobjeeonmaaaGreatDoor
namespace Go.Proofs.YtecmobjeeonmaaaGreatDoor
open Go Go.RowKit
set_option maxRecDepth 100000
theorem yiI :Tryz.prog.stopsHeard=true:=by kernel_rfl
theorem yiJ :Tryz.prog.mayEnter=true:=by kernel_rfl
theorem yiK :(laidOutB Tryz.prog&&mapsRowed Tryz.prog)=true:=by kernel_rfl
theorem yiL :(Tryz.prog.stops==[])=true:=by kernel_rfl
theorem yhX :(Tryz.prog.stopKnobs==[])=true:=by kernel_rfl
theorem yhY :false=Tryz.prog.looks []:=by kernel_rfl
end Go.Proofs.YtecmobjeeonmaaaGreatDoor
namespace Go.Proofs.YtecmobjeeonmaaaGreatDoor
open Go Go.ChangeShapes Go.WideShapes Go.ChangeAt Go.RowKit Go.Deep
theorem ybW :(Rows.simulationRunsRow.inPlace==Tryz.prog.inPlace 10)=true:=by kernel_rfl
theorem ybX :(Rows.simulationRunsRow.unfollowed==Tryz.prog.unfollowed 10)=true:=by kernel_rfl
theorem ybY :(Rows.simulationRunsRow.recurses==Tryz.prog.recurses 10)=true:=by kernel_rfl
theorem ybZ :(Rows.simulationRunsRow.named==Tryz.prog.varsNamed 10)=true:=by kernel_rfl
theorem yc0 :(Rows.simulationRunsRow.lifted==Tryz.prog.liftsFinal)=true:=by kernel_rfl
theorem yaL :joinedFacts Tryz.prog 10 Tryz.f10 Rows.simulationRunsSpec Rows.simulationRunsRow=true:=by
 have h8:=yiK;rw [Bool.and_eq_true] at h8;unfold joinedFacts;rw [h8.1,h8.2,ybW,ybX,ybY,ybZ,yc0,yiI,yiJ,yiL,yhX];change (_:Bool)=true;kernel_rfl
theorem yb8 :Rows.SimulationRunsSaid:=
 OpenClaim.holds_of_wide 10 Tryz.f10 rfl rfl rfl rfl rfl rfl rfl ⟨rfl,rfl,rfl,rfl,rfl⟩ rfl rfl rfl rfl rfl (by kernel_rfl) Tryz.func10 yaL
  (of_decide_eq_true (by kernel_rfl)) (by unfold Func.isWrapper;first | (rw [if_pos (by decide +kernel)];kernel_rfl)|(rw [if_neg (by decide +kernel)];exact⟨rfl,rfl⟩))
  (fun os started H enc _=>yaK os started H enc)
theorem simulationRuns_k12 :false=Rows.simulationRunsRow.goesBy Tryz.prog:=by kernel_rfl
theorem simulationRuns_k13 : Tryz.prog.funcNamed "overseer/overseerlaw55.SimulationRuns" = some 10 := by kernel_rfl
theorem simulationRuns_k14 :(Tryz.f10.params.toList.all fun u=>!(Tryz.prog.wantsStandIn u))=true:=by kernel_rfl
theorem simulationRuns_k15 :Rows.simulationRunsRow.wfByText (OpenSpec.ofChange Rows.simulationRunsSpec)=true:=by kernel_rfl
theorem simulationRuns_card_holds :Rows.SimulationRunsCardSaid:=
 Claim7.holds_tied_plain_at .later [] [.data,.data,.data] true _ false
  yb8 (fun _ h=>by cases h) simulationRuns_k15 (fun _ h=>by cases h) simulationRuns_row_tie rfl ⟨rfl,rfl⟩ (by kernel_rfl) rfl
  (fun f fn hf hfn=>by
   obtain rfl:f=10:=Option.some.inj (simulationRuns_k13.symm.trans hf) |>.symm;obtain rfl:fn=Tryz.f10:=(Option.some.inj (Tryz.func10.symm.trans hfn)).symm;exact⟨yhY,fun j t ht=>by
    have hm:t∈Tryz.f10.params:=Array.mem_of_getElem? ht;exact(show Tryz.prog.wantsStandIn t=false by simpa using List.all_eq_true.1 simulationRuns_k14 t (Array.mem_toList_iff.2 hm))⟩)
  simulationRuns_k12
end Go.Proofs.YtecmobjeeonmaaaGreatDoor
