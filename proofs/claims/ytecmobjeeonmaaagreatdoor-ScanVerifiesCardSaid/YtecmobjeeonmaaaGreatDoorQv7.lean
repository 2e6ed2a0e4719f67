/- ScanVerifies returns true for all arguments, and leaves its arguments as they were. The condition: three tables of Go's library (math/bits, internal/strconv) hold what their source text lays, and the card ties this to the text. -/
import Derived.Deep.Slices
import Derived.ChangeSame
import Derived.ProofKit
import Derived.Test.YtecmobjeeonmaaaGreatDoorProg
import Derived.Test.YtecmobjeeonmaaaGreatDoorRows
import Derived.Test.YtecmobjeeonmaaaGreatDoorTie
import Derived.Test.YtecmobjeeonmaaaGreatDoorCards
import Derived.Lay
import Derived.LaidMore
import Derived.LaidHandle
import Derived.SevenTiedAt
import Derived.Stop.Joined
import Derived.Test.YtecmobjeeonmaaaGreatDoorQv6
set_option maxRecDepth 100000
namespace Go.Proofs.YtecmobjeeonmaaaGreatDoor
open Go Go.RowKit
structure CanOf (st:Int→Int→Option Int) (al ms:List Int) (r:AutT) (X:List Int):Prop where
 right:Right r X.length
 ale:r.1=al
 x0:0 < X.length→X[0]? =some 0
 disc:Disc st al X r.2.2.2
 mkd:∀(i:Nat) (s:Int),X[i]? =some s→((i:Int)∈r.2.2.1↔s∈ms)
theorem ResOk.can {p:AutT} {u l:List Int} {r:AutT} {X:List Int} (h:ResOk p u l r X):CanOf (stR p u l) p.1 p.2.2.1 r X:=⟨h.right,h.al,h.x0,h.disc,h.mkd⟩
theorem CanOf.congr {st st':Int→Int→Option Int} {al ms:List Int} {r:AutT} {X:List Int} (h:CanOf st al ms r X) (hs:∀s∈X,∀e∈al,st s e=st' s e):CanOf st' al ms r X:=by
 refine⟨h.right,h.ale,h.x0,⟨h.disc.nd,h.disc.so,fun x hx=>?_,fun a t e v ha he hv=>h.disc.ed a t e v ha he (by rw [hs t (List.mem_of_getElem? ha) e he];exact hv),h.disc.cov,h.disc.ear,h.disc.fst,h.disc.evr⟩,h.mkd⟩
 obtain⟨a,q,t,v,h1,h2,h3,h4,h5,h6⟩:=h.disc.sn x hx
 exact⟨a,q,t,v,h1,h2,h3,h4,h5,by rw [←hs t (List.mem_of_getElem? h3) _ h5];exact h6⟩
theorem yeX {xs ys:List Int} (hx:Inc xs) (hy:Inc ys) (h:∀x,x∈xs↔x∈ys):xs=ys:=y6i (lt:=fun a b:Int=>a < b) (fun a b h1 h2=>by omega) hx hy h
theorem CanOf.unique {st:Int→Int→Option Int} {al ms:List Int} {r r':AutT} {X X':List Int} (h:CanOf st al ms r X) (h':CanOf st al ms r' X') (hz:X.length=0↔X'.length=0):r=r'∧X=X':=by
 have key:X=X'∧r.2.2.2=r'.2.2.2:=by
  by_cases h0:X.length=0
  ·have h0':=hz.1 h0
   have e:X= []:=List.eq_nil_of_length_eq_zero h0
   have e':X'= []:=List.eq_nil_of_length_eq_zero h0'
   subst e e'
   refine⟨rfl,?_⟩
   have g:∀{q:AutT},Right q ([]:List Int).length→q.2.2.2= []:=fun {q} hq=>List.eq_nil_iff_forall_not_mem.2 fun x hx=>by
    have:=hq.es x hx
    simp at this
    omega
   rw [g h.right,g h'.right]
  ·exact h.disc.unique h'.disc (h.x0 (by omega)) (h'.x0 (by omega))
 obtain⟨rfl,e4⟩:=key
 refine⟨Prod.ext (h.ale.trans h'.ale.symm) (Prod.ext (h.right.nn.trans h'.right.nn.symm) (Prod.ext (yeX h.right.msi h'.right.msi fun x=>?_) e4)),rfl⟩
 by_cases hx:0≤x∧x < (X.length:Int)
 ·obtain ⟨k,rfl⟩:∃k:Nat,x=(k:Int):=⟨x.toNat,by omega⟩
  have hk:=yGe (l:=X) (i:=k) (by omega)
  exact(h.mkd k _ hk).trans (h'.mkd k _ hk).symm
 ·exact ⟨fun hm=>absurd (h.right.msr x hm) hx,fun hm=>absurd (h'.right.msr x hm) hx⟩
theorem SR.skips {st:Int→Int→Option Int} {al:List Int} {n i j:Nat} {T:List Int} {kn:List (Int×Int)} {E:List (Int×Int×Int)} (h:SR st al n i j T kn E) {s:Int} (ht:T[i]? =some s):∀(b:Nat),j≤b→b≤al.length→(∀c (hc:c < al.length),j≤c→c < b→st s al[c]=none)→SR st al n i b T kn E
 | 0,hj,_,_=>by
  obtain rfl:j=0:=by omega
  exact h
 | b + 1,hj,hb,hn=>by
  by_cases e:j=b + 1
  ·subst e;exact h
  ·have hb2:b < al.length:=by omega
   exact(h.skips ht b (by omega) (by omega) fun c hc h1 h2=>hn c hc h1 (by omega)).skip ht (yGe hb2) (hn b hb2 (by omega) (by omega))
def NMok (n:Nat) (NM:List Int) (kn:List (Int×Int)):Prop:=NM.length=n∧∀s:Nat,s < n→NM[s]? =some ((kget kn (s:Int)).getD (-1))
theorem ye6 {a:AutT} {n:Nat} (hr:Right a n) (hE32:a.1.length≤32) {i s:Nat} (hs:s < n) {X NM:List Int} {kn:List (Int×Int)} {E:List (Int×Int×Int)} (hS:SR (st1 a) a.1 n i 0 X kn E) (hi:X[i]? =some (s:Int)) (hN:NMok n NM kn) (z:List Int×List Int×List Int×List (Int×Int×Int)) {os:List (Int×Int×Int)} (hos:os=a.2.2.2.filter fun x=>x.1 == (s:Int)):
  ∃kn' X' NM' E',iter (y2j ((i:Int),z) os) (0,X,NM,E)=some (X',NM',E')∧SR (st1 a) a.1 n (i + 1) 0 X' kn' E'∧NMok n NM' kn'∧∃U,X'=X ++ U:=by
 have hnl:=hr.nl
 have hl3:=hr.l3
 have hil:i < X.length:=(List.getElem?_eq_some_iff.1 hi).1
 have hmem:∀x∈os,x∈a.2.2.2∧x.1=(s:Int):=fun x hx=>by
  rw [hos] at hx
  have:=List.mem_filter.1 hx
  exact⟨this.1,by simpa using this.2⟩
 have hso:os.Pairwise fun x y=>x.2.1 < y.2.1:=by
  have h:=hr.so.filter (fun x=>x.1 == (s:Int))
  rw [←hos] at h
  refine h.imp_of_mem fun {x y} hx hy hxy=>?_
  have:=(hmem x hx).2
  have:=(hmem y hy).2
  omega
 have hol:os.length≤1000000:=by rw [hos];exact Nat.le_trans (List.length_filter_le _ _) hl3
 have hin:∀{e t:Int},st1 a (s:Int) e=some t→((s:Int),e,t)∈os:=fun {e t} h=>by
  rw [hos]
  exact List.mem_filter.2 ⟨(y4y hr).1 h,by simp⟩
 obtain⟨o,h1,kn',j,hS',hN',hU,hj,hlast⟩:=yc (f:=y2j ((i:Int),z) os)
  (fun k s'=>s'.1=(k:Int)∧k≤os.length∧∃kn' j,SR (st1 a) a.1 n i j s'.2.1 kn' s'.2.2.2∧NMok n s'.2.2.1 kn'∧(∃U,s'.2.1=X ++ U)∧j≤a.1.length∧
   (∀c (hc:c < a.1.length),c < j→∀k' (hk:k' < os.length),k≤k'→os[k'].2.1≠a.1[c])∧∀k' (hk:k' < os.length),k' < k→∀c (hc:c < a.1.length),j≤c→os[k'].2.1≠a.1[c])
  (fun o=>∃kn' j,SR (st1 a) a.1 n i j o.1 kn' o.2.2∧NMok n o.2.1 kn'∧(∃U,o.1=X ++ U)∧j≤a.1.length∧∀k' (hk:k' < os.length),∀c (hc:c < a.1.length),j≤c→os[k'].2.1≠a.1[c])
  os.length 0 (by omega) (fun k s' hk ⟨e1,_,kn',j,hS',hN',⟨U,hU⟩,hj,hlo,hhi⟩=>by
   obtain⟨c',X1,NM1,E1⟩:=s'
   dsimp only at e1 hS' hN' hU
   subst e1
   have hx:=hmem _ (List.getElem_mem hk)
   have hxe:=hr.es _ hx.1
   obtain⟨t,ht⟩:∃t:Nat,os[k].2.2=(t:Int):=⟨os[k].2.2.toNat,by omega⟩
   have htn:t < n:=by omega
   obtain⟨b,hb,hbe⟩:=List.getElem_of_mem hxe.2.2.2.2
   have hjb:j≤b:=Nat.le_of_not_lt fun hlt=>hlo b hb hlt k hk (Nat.le_refl _) hbe.symm
   have hiX:X1[i]? =some (s:Int):=by rw [hU,List.getElem?_append_left hil];exact hi
   have hstx:st1 a (s:Int) a.1[b]=some (t:Int):=by
    rw [y4y hr,hbe,←ht,←hx.2]
    exact hx.1
   have hSb:=hS'.skips hiX b hjb (by omega) fun c hc h1 h2=>by
    cases hst:st1 a (s:Int) a.1[c] with
    | none=>rfl
    | some v=>
     exfalso
     obtain⟨k',hk',e'⟩:=List.getElem_of_mem (hin hst)
     have ev:os[k'].2.1=a.1[c]:=by rw [e']
     have hcb:a.1[c] < a.1[b]:=List.pairwise_iff_getElem.1 hr.ali c b hc hb h2
     by_cases h3:k' < k
     ·exact hhi k' hk' h3 c hc h1 ev
     ·by_cases h4:k'=k
      ·subst h4;omega
      ·have:=List.pairwise_iff_getElem.1 hso k k' hk hk' (by omega)
       omega
   have hpos:∀(X2 NM2:List Int) (E2:List (Int×Int×Int)) (kn2:List (Int×Int)),SR (st1 a) a.1 n i (b + 1) X2 kn2 E2→NMok n NM2 kn2→(∃U,X2=X ++ U)→
     (∃kn' j,SR (st1 a) a.1 n i j X2 kn' E2∧NMok n NM2 kn'∧(∃U,X2=X ++ U)∧j≤a.1.length∧
   (∀c (hc:c < a.1.length),c < j→∀k' (hk:k' < os.length),k + 1≤k'→os[k'].2.1≠a.1[c])∧∀k' (hk:k' < os.length),k' < k + 1→∀c (hc:c < a.1.length),j≤c→os[k'].2.1≠a.1[c]):=fun X2 NM2 E2 kn2 g1 g2 g3=>by
    refine⟨kn2,b + 1,g1,g2,g3,hb,fun c hc h1 k' hk' h2 e=>?_,fun k' hk' h2 c hc h1 e=>?_⟩
    ·have h5:=List.pairwise_iff_getElem.1 hso k k' hk hk' (by omega)
     by_cases h6:c=b
     ·subst h6;omega
     ·have:=List.pairwise_iff_getElem.1 hr.ali c b hc hb (by omega)
      omega
    ·have h5:=List.pairwise_iff_getElem.1 hr.ali b c hb hc (by omega)
     by_cases h6:k'=k
     ·subst h6;omega
     ·have:=List.pairwise_iff_getElem.1 hso k' k hk' hk (by omega)
      omega
   have hXl:=hSb.len
   have hEl:=hSb.el
   have htl:t < NM1.length:=by rw [hN'.1];exact htn
   have hNt:NM1[t]=(kget kn' (t:Int)).getD (-1):=by
    have:=hN'.2 t htn
    rw [yGe htl] at this
    exact Option.some.inj this
   have hil2:i < n:=by have:=(List.getElem?_eq_some_iff.1 hiX).1;omega
   have hj2:∀(Q2 NM2:List Int) (hh:t < NM2.length),y2i ((i:Int),z) ((k:Int),X1,NM1,E1) os[k] Q2 NM2=some (.inl (((k + 1:Nat):Int),Q2,NM2,E1 ++ [((i:Int),os[k].2.1,NM2[t])])):=fun Q2 NM2 hh=>by
    rw [y2i]
    dsimp only
    rw [ht,ya hh,yOb,yo (by simp;omega),yOb,nxt (by omega)]
   left
   rw [y2j]
   dsimp only
   rw [if_pos (ct_lt hk),ya hk,yOb,ht,ya htl,yOb]
   cases hkg:kget kn' (t:Int) with
   | none=>
    rw [hkg] at hNt
    rw [if_pos (by rw [hNt];rfl),yOb,y5p htl,yOb,yo (by simp;omega),yOb,hj2 _ _ (by rw [List.length_set];exact htl)]
    refine⟨_,rfl,rfl,hk,?_⟩
    dsimp only
    rw [List.getElem_set_self,←hbe]
    refine hpos _ _ _ _ (hSb.new hr.ali hb hiX hstx hkg (by omega) (by omega)) ⟨by rw [List.length_set];exact hN'.1,fun s' hs'=>?_⟩ ⟨U ++ [(t:Int)],by rw [hU,List.append_assoc]⟩
    rw [y2r,List.getElem?_set]
    by_cases e:t=s'
    ·subst e
     rw [if_pos rfl,if_pos htl,if_pos rfl]
     rfl
    ·rw [if_neg e,if_neg (by omega)]
     exact hN'.2 s' hs'
   | some v=>
    rw [hkg] at hNt
    obtain⟨q,hv,hq⟩:=hSb.k1 _ _ hkg
    subst hv
    rw [if_neg (by rw [hNt];simp),hj2 _ _ htl]
    refine⟨_,rfl,rfl,hk,?_⟩
    dsimp only
    rw [hNt,←hbe]
    exact hpos _ _ _ _ (hSb.edge hr.ali hb hiX hstx hq) hN' ⟨U,hU⟩) (fun s' ⟨e1,_,kn',j,hS',hN',hU,hj,hlo,hhi⟩=>by
   obtain⟨c',X1,NM1,E1⟩:=s'
   dsimp only at e1 hS' hN' hU
   subst e1
   refine⟨(X1,NM1,E1),?_,kn',j,hS',hN',hU,hj,fun k' hk' c hc hjc=>hhi k' hk' hk' c hc hjc⟩
   rw [y2j]
   dsimp only
   rw [if_neg ct_ge]) (Nat.zero_le _) (0,X,NM,E) ⟨rfl,Nat.zero_le _,kn,0,hS,hN,⟨[],(List.append_nil _).symm⟩,Nat.zero_le _,fun c hc h=>absurd h (Nat.not_lt_zero _),fun k' hk' h=>absurd h (Nat.not_lt_zero _)⟩
 obtain⟨X',NM',E'⟩:=o
 obtain⟨U,hU⟩:=hU
 dsimp only at hS' hN' hU
 have hiX:X'[i]? =some (s:Int):=by rw [hU,List.getElem?_append_left hil];exact hi
 have hSe:=hS'.skips hiX a.1.length hj (Nat.le_refl _) fun c hc h1 _=>by
  cases hst:st1 a (s:Int) a.1[c] with
  | none=>rfl
  | some v=>
   exfalso
   obtain⟨k',hk',e'⟩:=List.getElem_of_mem (hin hst)
   exact hlast k' hk' c hc h1 (by rw [e'])
 exact⟨kn',X',NM',E',h1,hSe.next (Nat.le_refl _) hE32,hN',U,hU⟩
theorem ye7 {a:AutT} {n:Nat} (hr:Right a n):∃r X,y4l a=some r∧CanOf (st1 a) a.1 a.2.2.1 r X∧X.length≤n∧(X.length=0↔n=0):=by
 have hnn:=hr.nn
 have hnl:=hr.nl
 have hl1:=hr.l1
 have hal:a.1.length≤32:=Alp.len ⟨hr.ali,hr.alr⟩
 have hcl:y1a a.1=some a.1:=y6u (by omega)
 rw [y4l,hcl,yOb,hnn]
 by_cases h0:n=0
 ·subst h0
  rw [if_pos (by simp)]
  refine⟨_,[],rfl,⟨⟨rfl,by simp,hr.ali,hr.alr,List.Pairwise.nil,fun x hx=>(by cases hx),fun x hx=>(by cases hx),List.Pairwise.nil,hl1,by simp,by simp⟩,rfl,fun h=>absurd h (by simp),(Fnd.start (by simp)).disc List.nodup_nil List.Pairwise.nil (fun x hx=>(by cases hx)) hr.alr,fun i s hi=>by simp at hi⟩,by simp,by simp⟩
 have hf:iter (y2m (List.replicate n 0)) (0,List.replicate n 0)=some (List.replicate n (-1)):=by
  obtain⟨o,g1,rfl⟩:=yc (f:=y2m (List.replicate n 0)) (fun i s=>i≤n∧s=((i:Int),List.replicate i (-1) ++ List.replicate (n - i) 0)) (fun o=>o=List.replicate n (-1)) n 0 (by omega) (fun i s hi ⟨_,e1⟩=>by
    subst e1
    refine .inl ⟨(((i + 1:Nat):Int),List.replicate (i + 1) (-1) ++ List.replicate (n - (i + 1)) 0),?_,hi,rfl⟩
    rw [y2m]
    dsimp only
    rw [if_pos (by simp;omega),ya (by simp;omega),yOb,y5p (by simp;omega),yOb,nxt (by omega)]
    rw [List.set_append_right _ _ (by simp),List.length_replicate,Nat.sub_self,show n - i=(n - (i + 1)) + 1 by omega,List.replicate_succ,List.set_cons_zero,List.replicate_succ',List.append_assoc]
    rfl) (fun s ⟨_,e1⟩=>by
    subst e1
    refine⟨_,?_,rfl⟩
    rw [y2m]
    dsimp only
    rw [if_neg (by simp),Nat.sub_self]
    simp) (Nat.zero_le _) (0,List.replicate n 0) ⟨Nat.zero_le _,by simp⟩
  exact g1
 have hbin:∀x:Int,∃r,y1H a.2.2.1 x=some r∧r.2=hasB a.2.2.1 x:=fun x=>by
  have h:=y2n (xs:=a.2.2.1) (t:=x) (by have:=hr.l2;omega) hr.msi
  rw [yk] at h
  obtain⟨r,h,h2⟩:=bindS h
  exact⟨r,h,Option.some.inj h2⟩
 have hS0:SR (st1 a) a.1 n 0 0 [0] (kput [] 0 0) []:=by
  refine⟨Fnd.start (by simp),fun s v hv=>?_,fun s hs=>?_,by simp,fun s hs=>?_,List.Pairwise.nil,fun x hx=>(by cases hx),fun x hx=>(by cases hx),by simp⟩
  ·rw [y2r] at hv
   split at hv
   ·rename_i e
    subst e
    cases hv
    exact⟨0,rfl,rfl⟩
   ·cases hv
  ·rw [List.mem_singleton.1 hs,y2r,if_pos rfl]
   rfl
  ·rw [List.mem_singleton.1 hs]
   omega
 have hN0:NMok n ((List.replicate n (-1)).set 0 0) (kput [] 0 0):=by
  refine⟨by simp,fun s hs=>?_⟩
  rw [y2r,List.getElem?_set]
  by_cases e:0=s
  ·subst e
   rw [if_pos rfl,if_pos (by simp;omega),if_pos (show ((0:Nat):Int)=0 from rfl)]
   rfl
  ·rw [if_neg e,if_neg (by omega),List.getElem?_replicate,if_pos hs]
   rfl
 obtain⟨o,g1,kn,g2,g3,g4,g5,g6⟩:=yc (f:=y2l a) (fun i s=>s.1=(i:Int)∧i≤s.2.1.length∧∃kn,SR (st1 a) a.1 n i 0 s.2.1 kn s.2.2.2.2∧NMok n s.2.2.1 kn∧Inc s.2.2.2.1∧(∀x∈s.2.2.2.1,0≤x∧x < (i:Int))∧s.2.1[0]? =some 0∧∀(c:Nat) (x:Int),c < i→s.2.1[c]? =some x→((c:Int)∈s.2.2.2.1↔x∈a.2.2.1))
  (fun o=>∃kn,SR (st1 a) a.1 n o.1.length 0 o.1 kn o.2.2∧Inc o.2.1∧(∀x∈o.2.1,0≤x∧x < (o.1.length:Int))∧o.1[0]? =some 0∧∀(c:Nat) (x:Int),o.1[c]? =some x→((c:Int)∈o.2.1↔x∈a.2.2.1)) n 0 (by omega) (fun i s hi ⟨e1,hle,kn,hS,hN,m1,m2,x0,mk⟩=>by
   obtain⟨k,X,NM,M,E⟩:=s
   dsimp only at e1 hle hS hN m1 m2 x0 mk
   subst e1
   have hXl:=hS.len
   have hMl:=y2N (n:=i) (lo:=0) m1 m2 (Int.le_refl _)
   by_cases hiq:i < X.length
   ·left
    have hq:=hS.tr _ (List.getElem_mem hiq)
    obtain⟨s,hs⟩:∃s:Nat,X[i]=(s:Int):=⟨X[i].toNat,by omega⟩
    have hsn:s < n:=by omega
    obtain⟨kn',X',NM',E',w1,w2,w3,U,hU⟩:=ye6 hr hal hsn hS (by rw [yGe hiq,hs]) hN (X,NM,M,E) rfl
    have hpre:∀c,c < X.length→X'[c]? =X[c]? :=fun c hc=>by rw [hU,List.getElem?_append_left hc]
    have hXX:X.length≤X'.length:=by rw [hU];simp
    have hj1:∀M':List Int,Inc M'→(∀x∈M',0≤x∧x < ((i + 1:Nat):Int))→(∀x:Int,x≠(i:Int)→(x∈M'↔x∈M))→((i:Int)∈M'↔X[i]∈a.2.2.1)→
      ∃s',y2k a ((i:Int),X,NM,M,E) M'=some (.inl s')∧s'.1=((i + 1:Nat):Int)∧i + 1≤s'.2.1.length∧∃kn,SR (st1 a) a.1 n (i + 1) 0 s'.2.1 kn s'.2.2.2.2∧NMok n s'.2.2.1 kn∧Inc s'.2.2.2.1∧(∀x∈s'.2.2.2.1,0≤x∧x < ((i + 1:Nat):Int))∧s'.2.1[0]? =some 0∧∀(c:Nat) (x:Int),c < i + 1→s'.2.1[c]? =some x→((c:Int)∈s'.2.2.2.1↔x∈a.2.2.1):=fun M' q1 q2 q3 q4=>by
     rw [y2k]
     dsimp only
     rw [ya hiq,yOb,hs,ycT hr hsn,yOb,w1,yOb,nxt (by omega)]
     refine⟨_,rfl,rfl,by dsimp only;omega,kn',w2,w3,q1,q2,?_,fun c x hc hx=>?_⟩
     ·dsimp only
      rw [hpre 0 (by omega)]
      exact x0
     ·dsimp only at hx ⊢
      rw [hpre c (by omega)] at hx
      by_cases e:c=i
      ·subst e
       rw [yGe hiq] at hx
       cases hx
       exact q4
      ·rw [q3 _ (by omega)]
       exact mk c x (by omega) hx
    obtain⟨r,hbr,hb2⟩:=hbin X[i]
    rw [y2l]
    dsimp only
    rw [if_pos (ct_lt hiq),ya hiq,yOb,hbr,yOb,hb2]
    cases hm:hasB a.2.2.1 X[i] with
    | true=>
     rw [if_pos rfl,yo (by simp;omega),yOb]
     refine hj1 _ ?_ (fun x hx=>?_) (fun x hx=>?_) ⟨fun _=>yb.1 hm,fun _=>List.mem_append_right _ (List.mem_singleton.2 rfl)⟩
     ·unfold Inc at m1 ⊢
      rw [List.pairwise_append]
      exact⟨m1,List.pairwise_singleton _ _,fun c hc b hb=>by rw [List.mem_singleton.1 hb];exact(m2 c hc).2⟩
     ·rcases List.mem_append.1 hx with hx | hx
      ·have:=m2 x hx;omega
      ·rw [List.mem_singleton.1 hx];omega
     ·rw [List.mem_append,List.mem_singleton]
      exact⟨fun h=>h.resolve_right hx,.inl⟩
    | false=>
     rw [if_neg (by simp)]
     refine hj1 M m1 (fun x hx=>by have:=m2 x hx;omega) (fun x _=>Iff.rfl) ⟨fun hx=>by have:=m2 _ hx;omega,fun hx=>?_⟩
     rw [yb.2 hx] at hm
     cases hm
   ·right
    obtain rfl:i=X.length:=by omega
    refine⟨(X,M,E),?_,kn,hS,m1,m2,x0,fun c x hx=>mk c x (List.getElem?_eq_some_iff.1 hx).1 hx⟩
    rw [y2l]
    dsimp only
    rw [if_neg ct_ge]) (fun s ⟨e1,hle,kn,hS,hN,m1,m2,x0,mk⟩=>by
   obtain⟨k,X,NM,M,E⟩:=s
   dsimp only at e1 hle hS hN m1 m2 x0 mk
   subst e1
   have hXl:=hS.len
   have hnq:n=X.length:=by omega
   refine⟨(X,M,E),?_,kn,by dsimp only;rw [←hnq];exact hnq ▸ hS,m1,by dsimp only;rw [←hnq];exact m2,x0,fun c x hx=>mk c x (by have h8:c < X.length:=(List.getElem?_eq_some_iff.1 hx).1;omega) hx⟩
   rw [y2l]
   dsimp only
   rw [if_neg (by simp;omega)]) (Nat.zero_le _) (0,[0],(List.replicate n (-1)).set 0 0,[],[]) ⟨rfl,by simp,kput [] 0 0,hS0,hN0,List.Pairwise.nil,fun x hx=>(by cases hx),rfl,fun c x hc=>absurd hc (Nat.not_lt_zero _)⟩
 obtain⟨X,M,E⟩:=o
 dsimp only at g2 g3 g4 g5 g6
 have hXl:=g2.len
 have hEl:=g2.el
 have hMl:=y2N (n:=X.length) (lo:=0) g3 g4 (Int.le_refl _)
 have hX0:0 < X.length:=(List.getElem?_eq_some_iff.1 g5).1
 refine⟨(a.1,(X.length:Int),M,E),X,?_,⟨⟨rfl,by omega,hr.ali,hr.alr,g3,g4,fun x hx=>?_,g2.so,hl1,by dsimp only;omega,by dsimp only;omega⟩,rfl,fun _=>g5,g2.f.disc g2.nd g2.so g2.ea hr.alr,g6⟩,hXl,by omega⟩
 ·rw [if_neg (by simp;omega),y7c (by omega) (by omega),yOb,Int.toNat_natCast,hf,yOb,show idx (List.replicate n (-1:Int)) 0=some (-1) by rw [show (0:Int)=((0:Nat):Int) from rfl,ya (by simp;omega)];simp,yOb,show upd (List.replicate n (-1:Int)) 0 0=some ((List.replicate n (-1)).set 0 0) by rw [show (0:Int)=((0:Nat):Int) from rfl,y5p (by simp;omega)],yOb,g1]
  rfl
 ·obtain ⟨c,b,s,r,q1,q2,q3,q4,q5⟩:=g2.f.sn x hx
  have e3:=(List.getElem?_eq_some_iff.1 q3).1
  have e4:=(List.getElem?_eq_some_iff.1 q4).1
  exact⟨by omega,by omega,by omega,by omega,g2.ea x hx⟩
theorem y7C {S R:Type} {f:S→Option (S ⊕ (Unit ⊕ R))} (mk:Int→S) (n:Nat) (hn:n≤4000000) (b:Nat→Bool) (r:Nat→R) (step:∀i,i < n→f (mk (i:Int))=if b i=true then some (.inr (.inr (r i))) else some (.inl (mk ((i + 1:Nat):Int)))) (last:f (mk (n:Int))=some (.inr (.inl ()))):
  ∃o,iter f (mk 0)=some o∧((o= .inl ()∧∀i,i < n→b i=false)∨∃i,i < n∧o= .inr (r i)∧b i=true∧∀j,j < i→b j=false):=by
 refine yc (f:=f) (fun i s=>s=mk (i:Int)∧∀j,j < i→b j=false) _ n 0 (by omega) (fun i s hi ⟨e1,g1⟩=>?_) (fun s ⟨e1,g1⟩=>?_) (Nat.zero_le _) (mk 0) ⟨rfl,fun j hj=>absurd hj (by omega)⟩
 ·subst e1
  rw [step i hi]
  cases hb:b i with
  | true=>exact .inr ⟨_,rfl,.inr ⟨i,hi,rfl,hb,g1⟩⟩
  | false=>
   refine .inl ⟨_,by rw [if_neg (by simp)],rfl,fun j hj=>?_⟩
   by_cases e:j=i
   ·rw [e];exact hb
   ·exact g1 j (by omega)
 ·subst e1
  exact⟨_,last,.inl ⟨rfl,g1⟩⟩
theorem yaq (p:Int):∃ev,y1f p=some ev∧Inc ev∧(∀x∈ev,0≤x∧x < 5)∧ev.length≤5:=by
 obtain⟨o,h1,h2⟩:=yc (f:=y1S p) (fun i s=>s.1=(i:Int)∧Inc s.2∧(∀x∈s.2,0≤x∧x < (i:Int))∧s.2.length≤i) (fun o=>Inc o∧(∀x∈o,0≤x∧x < 5)∧o.length≤5) 5 0 (by omega) (fun i s hi ⟨e1,e2,e3,e4⟩=>by
   obtain⟨s1,s2⟩:=s
   dsimp only at e1 e2 e3 e4
   subst e1
   have hj:∀l:List Int,y1h ((i:Int),s2) l=some (.inl (((i + 1:Nat):Int),l)):=fun l=>by
    rw [y1h];dsimp only;rw [nxt (by omega)]
   left
   rw [y1S]
   dsimp only
   rw [if_pos (by simp;omega),show ng (i:Int)=some () from if_neg (by omega),yOb]
   split
   ·rw [yo (by simp;omega),yOb,hj]
    refine⟨_,rfl,rfl,?_,fun x hx=>?_,by simp;omega⟩
    ·unfold Inc at e2 ⊢
     rw [List.pairwise_append]
     exact⟨e2,List.pairwise_singleton ..,fun a ha b hb=>by rw [List.mem_singleton.1 hb];exact(e3 a ha).2⟩
    ·dsimp only at hx
     rcases List.mem_append.1 hx with h | h
     ·have:=e3 x h;omega
     ·rw [List.mem_singleton.1 h];omega
   ·rw [hj]
    exact⟨_,rfl,rfl,e2,fun x hx=>by have:=e3 x hx;omega,by dsimp only;omega⟩) (fun s ⟨e1,e2,e3,e4⟩=>by
   obtain⟨s1,s2⟩:=s
   dsimp only at e1 e2 e3 e4
   subst e1
   refine⟨s2,?_,e2,e3,e4⟩
   rw [y1S]
   dsimp only
   rw [if_neg (by simp)]) (by omega) (0,[]) ⟨rfl,List.Pairwise.nil,fun x hx=>(by cases hx),by simp⟩
 exact⟨o,by rw [y1f,h1];rfl,h2⟩
theorem ybD {xs:List Int} (h:xs.length≤1000000):y2d xs=some (xs,0,[],[]):=by
 rw [y2d,yo (by simp;omega)];rfl
theorem yd2 {xs:List Int} {x:Int} (hl:xs.length≤1000000):y3J xs x=some (hasB xs x):=by
 obtain⟨o,h1,h2⟩:=y7C (f:=y3N xs x) (fun i=>i) xs.length (by omega) (fun i=>xs[i]? == some x) (fun _=>()) (fun i hi=>by
  rw [y3N]
  rw [if_pos (ct_lt hi),ya hi,yOb,nxt (by omega),yGe hi]
  by_cases e:xs[i]=x
  ·rw [if_pos (by simpa using e),if_pos (by simpa using e)]
  ·rw [if_neg (by simpa using e),if_neg (by simpa using e)]) (by
  rw [y3N]
  rw [if_neg ct_ge])
 rw [y3J,h1,yOb]
 rcases h2 with ⟨rfl,h3⟩ | ⟨i,hi,rfl,h3,h4⟩
 ·have:hasB xs x=false:=by
   rw [←Bool.not_eq_true,yb]
   intro hm
   obtain⟨k,hk,e⟩:=List.getElem_of_mem hm
   have:=h3 k hk
   rw [yGe hk,e] at this
   simp at this
  rw [this]
 ·have:hasB xs x=true:=by
   rw [yb]
   rw [yGe hi] at h3
   have h3:xs[i]=x:=by simpa using h3
   exact h3 ▸ List.getElem_mem hi
  rw [this]
theorem ye8 {xs:List Int} {x:Int} (hl:xs.length≤1000000) (hm:x∈xs):∃k:Nat,y4f xs x=some (k:Int)∧xs[k]? =some x:=by
 obtain⟨o,h1,h2⟩:=y7C (f:=y3m xs x) (fun i=>i) xs.length (by omega) (fun i=>xs[i]? == some x) (fun i=>(i:Int)) (fun i hi=>by
  rw [y3m]
  rw [if_pos (ct_lt hi),ya hi,yOb,nxt (by omega),yGe hi]
  by_cases e:xs[i]=x
  ·rw [if_pos (by simpa using e),if_pos (by simpa using e)]
  ·rw [if_neg (by simpa using e),if_neg (by simpa using e)]) (by
  rw [y3m]
  rw [if_neg ct_ge])
 rw [y4f,h1,yOb]
 rcases h2 with ⟨rfl,h3⟩ | ⟨i,hi,rfl,h3,h4⟩
 ·exfalso
  obtain⟨k,hk,e⟩:=List.getElem_of_mem hm
  have:=h3 k hk
  rw [yGe hk,e] at this
  simp at this
 ·exact ⟨i,rfl,by simpa using h3⟩
theorem y9i {a:AutT} {s e:Int} (h:∀x∈a.2.2.2,¬(x.1=s∧x.2.1=e)):st1 a s e=none:=by
 unfold st1
 rw [Option.map_eq_none_iff,List.find?_eq_none]
 intro x hx
 have:=h x hx
 simpa using this
theorem ycf {a:AutT} {n:Nat} (hr:Right a n) (s e:Int):y3u a s e=some ((st1 a s e).getD (-1)):=by
 have hl:=hr.l3
 obtain⟨o,h1,h2⟩:=y7C (f:=y3z a s e) (fun i=>i) a.2.2.2.length (by omega) (fun i=>match a.2.2.2[i]? with | some x=>x.1 == s && x.2.1 == e | none=>false) (fun i=>(a.2.2.2.getD i (0,0,0)).2.2) (fun i hi=>by
  rw [y3z]
  rw [if_pos (ct_lt hi),ya hi,yOb,nxt (by omega),yGe hi,List.getD_eq_getElem?_getD,yGe hi]
  dsimp only [Option.getD_some]
  by_cases e1:a.2.2.2[i].1=s
  ·rw [if_pos (by simpa using e1),yOb,yOb,yOb]
   by_cases e2:a.2.2.2[i].2.1=e
   ·rw [if_pos (by simpa using e2),if_pos (by simp [e1,e2])]
   ·rw [if_neg (by simpa using e2),if_neg (by simp [e2])]
  ·rw [if_neg (by simpa using e1),yOb,if_neg (by simp),if_neg (by simp [e1])]) (by
  rw [y3z]
  rw [if_neg ct_ge])
 rw [y3u,h1,yOb]
 rcases h2 with ⟨rfl,h3⟩ | ⟨i,hi,rfl,h3,h4⟩
 ·rw [y9i fun x hx hxx=>?_]
  ·rfl
  ·obtain ⟨k,hk,e'⟩:=List.getElem_of_mem hx
   have:=h3 k hk
   rw [yGe hk,e'] at this
   simp [hxx.1,hxx.2] at this
 ·rw [yGe hi] at h3
  have h3:a.2.2.2[i].1=s∧a.2.2.2[i].2.1=e:=by simpa using h3
  have:st1 a s e=some a.2.2.2[i].2.2:=by
   rw [y4y hr,←h3.1,←h3.2]
   exact List.getElem_mem hi
  rw [this,List.getD_eq_getElem?_getD,yGe hi]
  rfl
section
variable {a:AutT} {n:Nat}
theorem yeY (hr:Right a n) (hal:a.1.length≤32) {i:Nat} {y:List Int} {X:List Int} {kn:List (Int×Int)} {E:List (Int×Int×Int)} (hS:SR (st1 a) a.1 n i 0 X kn E) (hi:i < X.length):
  ∃kn' X' E',iter (y2f a ((i:Int),y)) (0,X)=some X'∧SR (st1 a) a.1 n (i + 1) 0 X' kn' E'∧∃U,X'=X ++ U:=by
 have hnl:=hr.nl
 obtain⟨o,h1,kn',E',hS',hU⟩:=yc (f:=y2f a ((i:Int),y)) (fun j s=>s.1=(j:Int)∧∃kn E,SR (st1 a) a.1 n i j s.2 kn E∧∃U,s.2=X ++ U) (fun o=>∃kn E,SR (st1 a) a.1 n (i + 1) 0 o kn E∧∃U,o=X ++ U) a.1.length 0 (by omega) (fun j s hj ⟨e1,kn1,E1,hS1,U,hU⟩=>by
   obtain⟨c,X1⟩:=s
   dsimp only at e1 hS1 hU
   subst e1
   have hX1:=hS1.len
   have hi1:i < X1.length:=by rw [hU,List.length_append];omega
   have hj2:∀l:List Int,y2e ((j:Int),X1) l=some (.inl (((j + 1:Nat):Int),l)):=fun l=>by
    rw [y2e];dsimp only;rw [nxt (by omega)]
   left
   rw [y2f]
   dsimp only
   rw [if_pos (ct_lt hj),ya hi1,yOb,ya hj,yOb,ycf hr,yOb]
   cases hst:st1 a X1[i] a.1[j] with
   | none=>
    rw [Option.getD_none,if_neg (by simp),yOb,if_neg (by simp),hj2]
    exact⟨_,rfl,rfl,kn1,E1,hS1.skip (yGe hi1) (yGe hj) hst,U,hU⟩
   | some t=>
    have ht:=y4B hr hst
    rw [Option.getD_some,if_pos (by simp;omega),yd2 (by omega),yOb,yOb]
    by_cases hm:t∈X1
    ·obtain ⟨q,hq⟩:=List.getElem?_of_mem hm
     rw [yb.2 hm,if_neg (by simp),hj2]
     exact⟨_,rfl,rfl,kn1,_,hS1.edge hr.ali hj (yGe hi1) hst hq,U,hU⟩
    ·have hb:hasB X1 t=false:=by rw [←Bool.not_eq_true,yb];exact hm
     rw [hb,if_pos (by simp),yo (by simp;omega),yOb,hj2]
     have hk:kget kn1 t=none:=by
      cases hk:kget kn1 t with
      | none=>rfl
      | some v=>
       obtain⟨q,_,hq⟩:=hS1.k1 _ _ hk
       exact absurd (List.mem_of_getElem? hq) hm
     exact⟨_,rfl,rfl,_,_,hS1.new hr.ali hj (yGe hi1) hst hk ht.2.2.1 ht.2.2.2.1,U ++ [t],by dsimp only;rw [hU,List.append_assoc]⟩) (fun s ⟨e1,kn1,E1,hS1,hU⟩=>by
   obtain⟨c,X1⟩:=s
   dsimp only at e1 hS1 hU
   subst e1
   rw [y2f]
   dsimp only
   rw [if_neg ct_ge]
   exact⟨_,rfl,kn1,E1,hS1.next (Nat.le_refl _) hal,hU⟩) (Nat.zero_le _) (0,X) ⟨rfl,kn,E,hS,[],(List.append_nil _).symm⟩
 exact⟨kn',o,E',h1,hS',hU⟩
theorem yeZ (hr:Right a n) (h0:0 < n):∃X kn E,y4e a=some X∧SR (st1 a) a.1 n X.length 0 X kn E∧X[0]? =some 0:=by
 have hnl:=hr.nl
 have hal:a.1.length≤32:=Alp.len ⟨hr.ali,hr.alr⟩
 have hS0:SR (st1 a) a.1 n 0 0 [0] (kput [] 0 0) []:=by
  refine⟨Fnd.start (by simp),fun s v hv=>?_,fun s hs=>?_,by simp,fun s hs=>?_,List.Pairwise.nil,fun x hx=>(by cases hx),fun x hx=>(by cases hx),by simp⟩
  ·rw [y2r] at hv
   split at hv
   ·rename_i e
    subst e
    cases hv
    exact⟨0,rfl,rfl⟩
   ·cases hv
  ·rw [List.mem_singleton.1 hs,y2r,if_pos rfl]
   rfl
  ·rw [List.mem_singleton.1 hs]
   omega
 obtain⟨o,h1,kn,E,h2,h3⟩:=yc (f:=y2g a) (fun i s=>s.1=(i:Int)∧i≤s.2.length∧∃kn E,SR (st1 a) a.1 n i 0 s.2 kn E∧s.2[0]? =some 0) (fun o=>∃kn E,SR (st1 a) a.1 n o.length 0 o kn E∧o[0]? =some 0) n 0 (by omega) (fun i s hi ⟨e1,hle,kn,E,hS,x0⟩=>by
   obtain⟨c,X⟩:=s
   dsimp only at e1 hle hS x0
   subst e1
   have hXl:=hS.len
   rw [y2g]
   dsimp only
   by_cases hix:i < X.length
   ·left
    obtain⟨kn',X',E',w1,w2,U,hU⟩:=yeY hr hal (y:=X) hS hix
    rw [if_pos (ct_lt hix),w1,yOb,nxt (by omega)]
    exact⟨_,rfl,rfl,by dsimp only;rw [hU,List.length_append];omega,kn',E',w2,by dsimp only;rw [hU,List.getElem?_append_left (by omega)];exact x0⟩
   ·right
    obtain rfl:i=X.length:=by omega
    rw [if_neg ct_ge]
    exact⟨_,rfl,kn,E,hS,x0⟩) (fun s ⟨e1,hle,kn,E,hS,x0⟩=>by
   obtain⟨c,X⟩:=s
   dsimp only at e1 hle hS x0
   subst e1
   have hXl:=hS.len
   have hX:n=X.length:=by omega
   rw [y2g]
   dsimp only
   rw [if_neg (by simp;omega)]
   exact⟨_,rfl,kn,E,by rw [←hX];exact hX ▸ hS,x0⟩) (Nat.zero_le _) (0,[0]) ⟨rfl,by simp,kput [] 0 0,[],hS0,rfl⟩
 refine⟨o,kn,E,?_,h2,h3⟩
 rw [y4e,if_pos (by rw [hr.nn];simp;omega),yo (by simp),yOb,y3l,show iter (y2g a) (0,([]:List Int) ++ [0])=some o from h1]
 rfl
structure EL (st:Int→Int→Option Int) (al X:List Int) (i j:Nat) (E:List (Int×Int×Int)):Prop where
 so:E.Pairwise fun x y=>x.1 < y.1∨(x.1=y.1∧x.2.1 < y.2.1)
 ei:∀x∈E,x.1 < (i:Int)∨(x.1=(i:Int)∧∃b,∃hb:b < al.length,b < j∧al[b]=x.2.1)
 sn:∀x∈E,∃(a q:Nat) (t r:Int),x.1=(a:Int)∧x.2.2=(q:Int)∧X[a]? =some t∧X[q]? =some r∧x.2.1∈al∧st t x.2.1=some r
 ed:∀(a b:Nat) (t e r:Int),(a < i∨(a=i∧b < j))→X[a]? =some t→al[b]? =some e→st t e=some r→∃q:Nat,((a:Int),e,(q:Int))∈E∧X[q]? =some r
 el:E.length≤32 * i + j
theorem EL.skip {st:Int→Int→Option Int} {al X:List Int} {i j:Nat} {E:List (Int×Int×Int)} (h:EL st al X i j E) {s e:Int} (ht:X[i]? =some s) (he:al[j]? =some e) (hs:st s e=none):EL st al X i (j + 1) E:=by
 refine⟨h.so,fun x hx=>?_,h.sn,fun a b t' e' r hab ha hb hst=>?_,by have:=h.el;omega⟩
 ·rcases h.ei x hx with h1 | ⟨h1,b,hb,h2,h3⟩
  ·exact .inl h1
  ·exact .inr ⟨h1,b,hb,by omega,h3⟩
 ·by_cases hx:a=i∧b=j
  ·obtain ⟨rfl,rfl⟩:=hx
   rw [ht] at ha
   rw [he] at hb
   cases ha
   cases hb
   rw [hs] at hst
   cases hst
  ·exact h.ed a b t' e' r (by omega) ha hb hst
theorem EL.edge {st:Int→Int→Option Int} {al X:List Int} {i j:Nat} {E:List (Int×Int×Int)} (h:EL st al X i j E) (ia:Inc al) (hj:j < al.length) {s v:Int} {q:Nat} (ht:X[i]? =some s) (hs:st s al[j]=some v) (hq:X[q]? =some v):EL st al X i (j + 1) (E ++ [((i:Int),al[j],(q:Int))]):=by
 refine⟨?_,fun x hx=>?_,fun x hx=>?_,fun a b t' e' r hab ha hb hst=>?_,by have:=h.el;rw [List.length_append,List.length_singleton];omega⟩
 ·rw [List.pairwise_append]
  refine⟨h.so,List.pairwise_singleton _ _,fun x hx y hy=>?_⟩
  rw [List.mem_singleton.1 hy]
  rcases h.ei x hx with h1 | ⟨h1,b,hb,h2,h3⟩
  ·exact .inl h1
  ·refine .inr ⟨h1,?_⟩
   rw [←h3]
   exact List.pairwise_iff_getElem.1 ia b j hb hj h2
 ·rcases List.mem_append.1 hx with hx | hx
  ·rcases h.ei x hx with h1 | ⟨h1,b,hb,h2,h3⟩
   ·exact .inl h1
   ·exact .inr ⟨h1,b,hb,by omega,h3⟩
  ·rw [List.mem_singleton.1 hx]
   exact .inr ⟨rfl,j,hj,by omega,rfl⟩
 ·rcases List.mem_append.1 hx with hx | hx
  ·exact h.sn x hx
  ·rw [List.mem_singleton.1 hx]
   exact⟨i,q,s,v,rfl,rfl,ht,hq,List.getElem_mem hj,hs⟩
 ·by_cases hx:a=i∧b=j
  ·obtain ⟨rfl,rfl⟩:=hx
   rw [ht] at ha
   rw [yGe hj] at hb
   cases ha
   cases hb
   rw [hs] at hst
   cases hst
   exact⟨q,List.mem_append_right _ (List.mem_singleton.2 rfl),hq⟩
  ·obtain ⟨q',g1,g2⟩:=h.ed a b t' e' r (by omega) ha hb hst
   exact⟨q',List.mem_append_left _ g1,g2⟩
theorem EL.next {st:Int→Int→Option Int} {al X:List Int} {i j:Nat} {E:List (Int×Int×Int)} (h:EL st al X i j E) (hj:al.length≤j) (hj2:j≤32):EL st al X (i + 1) 0 E:=
 ⟨h.so,fun x hx=>by
  rcases h.ei x hx with h1 | ⟨h1,_⟩
  ·exact .inl (by omega)
  ·exact .inl (by omega),h.sn,fun a b t e r hab ha hb hst=>h.ed a b t e r (by have:=(List.getElem?_eq_some_iff.1 hb).1;omega) ha hb hst,by have:=h.el;omega⟩
theorem ye9 (hr:Right a n) (hal:a.1.length≤32) {X:List Int} {kn:List (Int×Int)} {E0:List (Int×Int×Int)} (hS:SR (st1 a) a.1 n X.length 0 X kn E0) {i:Nat} (hi:i < X.length) {ms:List Int} {y E:List (Int×Int×Int)} (hE:EL (st1 a) a.1 X i 0 E):
  ∃E',iter (y1p a X ((i:Int),ms,y)) (0,E)=some E'∧EL (st1 a) a.1 X (i + 1) 0 E':=by
 have hnl:=hr.nl
 have hXl:=hS.len
 refine yc (f:=y1p a X ((i:Int),ms,y)) (fun j s=>s.1=(j:Int)∧EL (st1 a) a.1 X i j s.2) (fun o=>EL (st1 a) a.1 X (i + 1) 0 o) a.1.length 0 (by omega) (fun j s hj ⟨e1,hE1⟩=>?_) (fun s ⟨e1,hE1⟩=>?_) (Nat.zero_le _) (0,E) ⟨rfl,hE⟩
 ·obtain ⟨c,E1⟩:=s
  dsimp only at e1 hE1
  subst e1
  have hel:=hE1.el
  have hj2:∀l:List (Int×Int×Int),y1o ((j:Int),E1) l=some (.inl (((j + 1:Nat):Int),l)):=fun l=>by
   rw [y1o];dsimp only;rw [nxt (by omega)]
  left
  rw [y1p]
  dsimp only
  rw [if_pos (ct_lt hj),ya hi,yOb,ya hj,yOb,ycf hr,yOb]
  cases hst:st1 a X[i] a.1[j] with
  | none=>
   rw [Option.getD_none,if_neg (by simp),hj2]
   exact⟨_,rfl,rfl,hE1.skip (yGe hi) (yGe hj) hst⟩
  | some t=>
   have ht:=y4B hr hst
   obtain⟨q,_,hq⟩:=hS.f.ed i j X[i] a.1[j] t (.inl hi) (yGe hi) (yGe hj) hst
   obtain⟨k,hk,hk2⟩:=ye8 (xs:=X) (x:=t) (by omega) (List.mem_of_getElem? hq)
   rw [Option.getD_some,if_pos (by simp;omega),yOb,hk,yOb,yo (by simp;omega),yOb,hj2]
   exact⟨_,rfl,rfl,hE1.edge hr.ali hj (yGe hi) hst hk2⟩
 ·obtain ⟨c,E1⟩:=s
  dsimp only at e1 hE1
  subst e1
  rw [y1p]
  dsimp only
  rw [if_neg ct_ge]
  exact⟨_,rfl,hE1.next (Nat.le_refl _) hal⟩
theorem yea (hr:Right a n) (h0:0 < n):∃r X,y2S a=some r∧CanOf (st1 a) a.1 a.2.2.1 r X∧0 < X.length∧X.length≤n:=by
 have hnl:=hr.nl
 have hl1:=hr.l1
 have hl2:=hr.l2
 have hal:a.1.length≤32:=Alp.len ⟨hr.ali,hr.alr⟩
 obtain⟨X,kn,E0,hf,hS,x0⟩:=yeZ hr h0
 have hXl:=hS.len
 have hX0:0 < X.length:=(List.getElem?_eq_some_iff.1 x0).1
 obtain⟨o,h1,hE,m1,m2,mk⟩:=yc (f:=y2h a X) (fun i s=>s.1=(i:Int)∧i≤X.length∧EL (st1 a) a.1 X i 0 s.2.2∧Inc s.2.1∧(∀x∈s.2.1,0≤x∧x < (i:Int))∧∀(c:Nat) (x:Int),c < i→X[c]? =some x→((c:Int)∈s.2.1↔x∈a.2.2.1))
   (fun o=>EL (st1 a) a.1 X X.length 0 o.2∧Inc o.1∧(∀x∈o.1,0≤x∧x < (X.length:Int))∧∀(c:Nat) (x:Int),X[c]? =some x→((c:Int)∈o.1↔x∈a.2.2.1)) X.length 0 (by omega) (fun i s hi ⟨e1,_,hE,m1,m2,mk⟩=>by
   obtain⟨c,M,E⟩:=s
   dsimp only at e1 hE m1 m2 mk
   subst e1
   have hMl:=y2N (n:=i) (lo:=0) m1 m2 (Int.le_refl _)
   have hj1:∀M':List Int,Inc M'→(∀x∈M',0≤x∧x < ((i + 1:Nat):Int))→(∀x:Int,x≠(i:Int)→(x∈M'↔x∈M))→((i:Int)∈M'↔X[i]∈a.2.2.1)→
     ∃s',y1q a X ((i:Int),M,E) M'=some (.inl s')∧s'.1=((i + 1:Nat):Int)∧i + 1≤X.length∧EL (st1 a) a.1 X (i + 1) 0 s'.2.2∧Inc s'.2.1∧(∀x∈s'.2.1,0≤x∧x < ((i + 1:Nat):Int))∧∀(c:Nat) (x:Int),c < i + 1→X[c]? =some x→((c:Int)∈s'.2.1↔x∈a.2.2.1):=fun M' q1 q2 q3 q4=>by
    obtain⟨E',w1,w2⟩:=ye9 hr hal hS hi (ms:=M) (y:=E) hE
    rw [y1q]
    dsimp only
    rw [w1,yOb,nxt (by omega)]
    refine⟨_,rfl,rfl,hi,w2,q1,q2,fun c x hc hx=>?_⟩
    dsimp only
    by_cases e:c=i
    ·subst e
     rw [yGe hi] at hx
     cases hx
     exact q4
    ·rw [q3 _ (by omega)]
     exact mk c x (by omega) hx
   left
   rw [y2h]
   dsimp only
   rw [if_pos (ct_lt hi),ya hi,yOb,yd2 (by omega),yOb]
   cases hm:hasB a.2.2.1 X[i] with
   | true=>
    rw [if_pos rfl,yo (by simp;omega),yOb]
    refine hj1 _ ?_ (fun x hx=>?_) (fun x hx=>?_) ⟨fun _=>yb.1 hm,fun _=>List.mem_append_right _ (List.mem_singleton.2 rfl)⟩
    ·unfold Inc at m1 ⊢
     rw [List.pairwise_append]
     exact⟨m1,List.pairwise_singleton _ _,fun c hc b hb=>by rw [List.mem_singleton.1 hb];exact(m2 c hc).2⟩
    ·rcases List.mem_append.1 hx with hx | hx
     ·have:=m2 x hx;omega
     ·rw [List.mem_singleton.1 hx];omega
    ·rw [List.mem_append,List.mem_singleton]
     exact⟨fun h=>h.resolve_right hx,.inl⟩
   | false=>
    rw [if_neg (by simp)]
    refine hj1 M m1 (fun x hx=>by have:=m2 x hx;omega) (fun x _=>Iff.rfl) ⟨fun hx=>by have:=m2 _ hx;omega,fun hx=>?_⟩
    rw [yb.2 hx] at hm
    cases hm) (fun s ⟨e1,_,hE,m1,m2,mk⟩=>by
   obtain⟨c,M,E⟩:=s
   dsimp only at e1 hE m1 m2 mk
   subst e1
   rw [y2h]
   dsimp only
   rw [if_neg ct_ge]
   exact⟨_,rfl,hE,m1,m2,fun c x hx=>mk c x (List.getElem?_eq_some_iff.1 hx).1 hx⟩) (Nat.zero_le _) (0,[],[]) ⟨rfl,Nat.zero_le _,⟨List.Pairwise.nil,fun x hx=>(by cases hx),fun x hx=>(by cases hx),fun a b t e r hab=>by omega,by simp⟩,List.Pairwise.nil,fun x hx=>(by cases hx),fun c x hc=>absurd hc (Nat.not_lt_zero _)⟩
 obtain⟨M,E⟩:=o
 dsimp only at hE m1 m2 mk
 have hMl:=y2N (n:=X.length) (lo:=0) m1 m2 (Int.le_refl _)
 have hD:=hS.f.disc hS.nd hS.so hS.ea hr.alr
 have hEE:E=E0:=y6i (lt:=fun x y=>x.1 < y.1∨(x.1=y.1∧x.2.1 < y.2.1)) (fun a b h1 h2=>by omega) hE.so hD.so fun x=>by
  have same:∀{a q q':Nat} {t r r':Int},X[a]? =some t→X[q]? =some r→X[q']? =some r→q=q':=fun {a q q' t r r'} _ h1 h2=>by
   have e1:=(List.getElem?_eq_some_iff.1 h1).2
   have e2:=(List.getElem?_eq_some_iff.1 h2).2
   exact(List.getElem_inj hS.nd).1 (e1.trans e2.symm)
  constructor
  ·intro hx
   obtain⟨c,q,t,r,g1,g2,g3,g4,g5,g6⟩:=hE.sn x hx
   obtain⟨q',k1,k2⟩:=hD.ed c t x.2.1 r g3 g5 g6
   have:=same (r':=r) g3 g4 k2
   subst this
   rw [←g1,←g2] at k1
   exact k1
  ·intro hx
   obtain⟨c,q,t,r,g1,g2,g3,g4,g5,g6⟩:=hD.sn x hx
   obtain⟨b,hb,hbe⟩:=List.getElem_of_mem g5
   obtain⟨q',k1,k2⟩:=hE.ed c b t x.2.1 r (.inl (List.getElem?_eq_some_iff.1 g3).1) g3 (by rw [yGe hb,hbe]) g6
   have:=same (r':=r) g3 g4 k2
   subst this
   rw [←g1,←g2] at k1
   exact k1
 subst hEE
 have hEl:=hE.el
 refine⟨(a.1,(X.length:Int),M,E),X,?_,⟨⟨rfl,by omega,hr.ali,hr.alr,m1,m2,fun x hx=>?_,hE.so,hl1,by dsimp only;omega,by dsimp only;omega⟩,rfl,fun _=>x0,hD,mk⟩,hX0,hXl⟩
 ·rw [y2S,hf,yOb,ybD (by omega),yOb,h1]
  rfl
 ·obtain ⟨c,q,t,r,g1,g2,g3,g4,g5,_⟩:=hE.sn x hx
  have e3:=(List.getElem?_eq_some_iff.1 g3).1
  have e4:=(List.getElem?_eq_some_iff.1 g4).1
  exact⟨by omega,by omega,by omega,by omega,g5⟩
end
abbrev Row5 :=Int×Int×Int×Int×Int
def y9X (g:Row5×Row5×Row5×Row5×Row5):List Int:=
 [g.1.1,g.1.2.1,g.1.2.2.1,g.1.2.2.2.1,g.1.2.2.2.2,g.2.1.1,g.2.1.2.1,g.2.1.2.2.1,g.2.1.2.2.2.1,g.2.1.2.2.2.2,g.2.2.1.1,g.2.2.1.2.1,g.2.2.1.2.2.1,g.2.2.1.2.2.2.1,g.2.2.1.2.2.2.2,g.2.2.2.1.1,g.2.2.2.1.2.1,g.2.2.2.1.2.2.1,g.2.2.2.1.2.2.2.1,g.2.2.2.1.2.2.2.2,g.2.2.2.2.1,g.2.2.2.2.2.1,g.2.2.2.2.2.2.1,g.2.2.2.2.2.2.2.1,g.2.2.2.2.2.2.2.2]
structure GrIn (g:y2B):Prop where
 s:0≤g.1∧g.1 < 256
 c:∀y∈y9X g.2.2,0≤y∧y < 256
structure MG (ev:List Int) (n i j:Nat) (E:List (Int×Int×Int)):Prop where
 er:∀x∈E,0≤x.1∧x.1≤(i:Int)∧x.2.1∈ev∧0≤x.2.2∧x.2.2 < (n:Int)
 es:∀x∈E,x.1=(i:Int)→∃b,∃hb:b < ev.length,b < j∧ev[b]=x.2.1
 so:E.Pairwise fun x y=>x.1 < y.1∨(x.1=y.1∧x.2.1 < y.2.1)
 el:E.length≤5 * i + j
theorem MG.push {ev:List Int} {n i j:Nat} {E:List (Int×Int×Int)} {q:Int} (h:MG ev n i j E) (ie:Inc ev) (hj:j < ev.length) (h0:0≤q) (h1:q < (n:Int)):MG ev n i (j + 1) (E ++ [((i:Int),ev[j],q)]):=by
 refine⟨fun x hx=>?_,fun x hx e=>?_,?_,by have:=h.el;rw [List.length_append,List.length_singleton];omega⟩
 ·rcases List.mem_append.1 hx with hx | hx
  ·exact h.er x hx
  ·rw [List.mem_singleton.1 hx];exact⟨by dsimp only;omega,by dsimp only;omega,List.getElem_mem hj,h0,h1⟩
 ·rcases List.mem_append.1 hx with hx | hx
  ·obtain ⟨b,hb,h2,h3⟩:=h.es x hx e
   exact⟨b,hb,by omega,h3⟩
  ·rw [List.mem_singleton.1 hx];exact⟨j,hj,by omega,rfl⟩
 ·rw [List.pairwise_append]
  refine⟨h.so,List.pairwise_singleton _ _,fun a ha b hb=>?_⟩
  rw [List.mem_singleton.1 hb]
  have h2:=h.er a ha
  by_cases e:a.1=(i:Int)
  ·obtain ⟨b,hb,h3,h4⟩:=h.es a ha e
   refine .inr ⟨e,?_⟩
   rw [←h4]
   exact List.pairwise_iff_getElem.1 ie b j hb hj h3
  ·exact .inl (by dsimp only;omega)
theorem MG.skip {ev:List Int} {n i j:Nat} {E:List (Int×Int×Int)} (h:MG ev n i j E):MG ev n i (j + 1) E:=⟨h.er,fun x hx e=>by
 obtain⟨b,hb,h2,h3⟩:=h.es x hx e
 exact⟨b,hb,by omega,h3⟩,h.so,by have:=h.el;omega⟩
theorem MG.next {ev:List Int} {n i j:Nat} {E:List (Int×Int×Int)} (h:MG ev n i j E) (hj:j≤5):MG ev n (i + 1) 0 E:=⟨fun x hx=>by
 have:=h.er x hx
 exact⟨this.1,by omega,this.2.2⟩,fun x hx e=>by have:=h.er x hx;omega,h.so,by have:=h.el;omega⟩
theorem ycg {ev:List Int} (ie:Inc ev) (he:∀x∈ev,0≤x∧x < 32) (hel:ev.length≤5) {g:y2B} (hg:GrIn g):∃r n,y3v ev g=some r∧Right r n∧n≤5∧r.1=ev:=by
 obtain⟨s,m,c⟩:=g
 obtain⟨hs,hc⟩:=hg
 dsimp only at hs hc
 rw [y3v,ybD (by omega)]
 dsimp only
 by_cases h250:s≥250
 ·rw [if_pos (by simpa using h250),yOb]
  exact⟨_,0,rfl,⟨rfl,by omega,ie,he,List.Pairwise.nil,fun x hx=>(by cases hx),fun x hx=>(by cases hx),List.Pairwise.nil,by dsimp only;omega,by simp,by simp⟩,by omega,rfl⟩
 rw [if_neg (by simpa using h250),yOb]
 obtain⟨n,hn0,hn5,hn⟩:∃n:Nat,0 < n∧n≤5∧W (1 + W (s.tmod 5))=(n:Int):=by
  refine⟨(1 + s % 5).toNat,by omega,by omega,?_⟩
  rw [Int.tmod_eq_emod_of_nonneg hs.1,W_of (x:=s % 5) (by omega) (by omega),W_of (by omega) (by omega)]
  omega
 have hn2:W ((n:Int) + 2)=((n + 2:Nat):Int):=by rw [show (n:Int) + 2=((n + 2:Nat):Int) by omega,W_nat (by omega)]
 rw [hn]
 obtain⟨o,h1,m1,m2,hM⟩:=yc (f:=y3B ev (s,m,c)) (fun i t=>t.1=(i:Int)∧Inc t.2.1∧(∀x∈t.2.1,0≤x∧x < (i:Int))∧MG ev n i 0 t.2.2) (fun o=>Inc o.1∧(∀x∈o.1,0≤x∧x < (n:Int))∧MG ev n n 0 o.2) n 0 (by omega) (fun i t hi ⟨e1,m1,m2,hM⟩=>by
   obtain⟨t1,t2,t3⟩:=t
   dsimp only at e1 m1 m2 hM
   subst e1
   have hMl:=y2N (n:=i) (lo:=0) m1 m2 (Int.le_refl _)
   have hj:∀l:List Int,Inc l→(∀x∈l,0≤x∧x < ((i + 1:Nat):Int))→∃s',y2w ev (s,m,c) ((i:Int),t2,t3) l=some (.inl s')∧s'.1=((i + 1:Nat):Int)∧Inc s'.2.1∧(∀x∈s'.2.1,0≤x∧x < ((i + 1:Nat):Int))∧MG ev n (i + 1) 0 s'.2.2:=by
    intro l hl1 hl2
    obtain⟨o,h1,h2⟩:=yc (f:=y3A ev (s,m,c) ((i:Int),t2,t3)) (fun k t=>t.1=(k:Int)∧MG ev n i k t.2) (fun o=>MG ev n i ev.length o) ev.length 0 (by omega) (fun k t hk ⟨g1,g2⟩=>by
      obtain⟨u1,u2⟩:=t
      dsimp only at g1 g2
      subst g1
      have hel2:=g2.el
      have hj2:∀l:List (Int×Int×Int),y2v ((k:Int),u2) l=some (.inl (((k + 1:Nat):Int),l)):=fun l=>by
       rw [y2v];dsimp only;rw [nxt (by omega)]
      left
      have hlt:i * 5 + k * 1 < (y9X c).length:=by show _ < 25;omega
      obtain⟨v,hcell,hv⟩:∃v,(y9X c)[i * 5 + k * 1]? =some v∧0≤v∧v < 256:=⟨_,yGe hlt,hc _ (List.getElem_mem hlt)⟩
      rw [y9X] at hcell
      rw [y3A]
      dsimp only
      rw [if_pos (by simp;omega),show rng (i:Int) 5=some () from if_pos (by simp;omega),yOb,show rng (k:Int) 5=some () from if_pos (by simp;omega),yOb,Int.toNat_natCast,Int.toNat_natCast,hcell,yOb,hn,hn2,show nz ((n + 2:Nat):Int)=some () from if_neg (by omega),yOb,W_of (x:=v) (by omega) (by omega),Int.tmod_eq_emod_of_nonneg hv.1]
      have hm0:=Int.emod_nonneg v (show ((n + 2:Nat):Int)≠0 by omega)
      by_cases hlt2:v % ((n + 2:Nat):Int) < (n:Int)
      ·rw [if_pos (decide_eq_true hlt2),ya hk,yOb,yo (by rw [List.length_cons,List.length_nil];omega),yOb,hj2]
       exact⟨_,rfl,rfl,g2.push ie hk hm0 hlt2⟩
      ·rw [if_neg (by simpa using hlt2),hj2]
       exact⟨_,rfl,rfl,g2.skip⟩) (fun t ⟨g1,g2⟩=>by
      obtain⟨u1,u2⟩:=t
      dsimp only at g1 g2
      subst g1
      rw [y3A]
      dsimp only
      rw [if_neg (by simp)]
      exact⟨_,rfl,g2⟩) (Nat.zero_le _) (0,t3) ⟨rfl,hM⟩
    rw [y2w]
    dsimp only
    rw [h1,yOb,nxt (by omega)]
    exact⟨_,rfl,rfl,hl1,hl2,h2.next hel⟩
   left
   rw [y3B]
   dsimp only
   rw [hn,if_pos (by simp;omega),show ng (i:Int)=some () from if_neg (by omega),yOb]
   split
   ·rw [yo (by simp;omega),yOb]
    refine hj _ ?_ (fun x hx=>?_)
    ·unfold Inc at m1 ⊢
     rw [List.pairwise_append]
     exact⟨m1,List.pairwise_singleton _ _,fun c hc b hb=>by rw [List.mem_singleton.1 hb];exact(m2 c hc).2⟩
    ·rcases List.mem_append.1 hx with hx | hx
     ·have:=m2 x hx;omega
     ·rw [List.mem_singleton.1 hx];omega
   ·exact hj _ m1 (fun x hx=>by have:=m2 x hx;omega)) (fun t ⟨e1,m1,m2,hM⟩=>by
   obtain⟨t1,t2,t3⟩:=t
   dsimp only at e1 m1 m2 hM
   subst e1
   rw [y3B]
   dsimp only
   rw [hn,if_neg (by simp)]
   exact⟨_,rfl,m1,m2,hM⟩) (Nat.zero_le _) (0,[],[]) ⟨rfl,List.Pairwise.nil,fun x hx=>(by cases hx),⟨fun x hx=>(by cases hx),fun x hx=>(by cases hx),List.Pairwise.nil,by simp⟩⟩
 obtain⟨M,E⟩:=o
 dsimp only at m1 m2 hM
 have hMl:=y2N (n:=n) (lo:=0) m1 m2 (Int.le_refl _)
 have hel2:=hM.el
 have hR:Right (ev,(n:Int),M,E) n:=⟨rfl,by omega,ie,he,m1,m2,fun x hx=>by
  have h:=hM.er x hx
  refine⟨h.1,?_,h.2.2.2.1,h.2.2.2.2,h.2.2.1⟩
  by_cases e:x.1=(n:Int)
  ·obtain ⟨b,_,hb,_⟩:=hM.es x hx e
   omega
  ·omega,hM.so,by dsimp only;omega,by dsimp only;omega,by dsimp only;omega⟩
 obtain⟨r,X,hc1,hc2,hc3,hc4⟩:=yea hR hn0
 rw [h1,yOb,hc1,yOb]
 exact⟨r,X.length,rfl,hc2.right,by omega,hc2.ale⟩
structure PbOk (q:ProbT) (n1 n2:Nat):Prop where
 rP:Right q.1 n1
 rS:Right q.2.1 n2
 l1:n1≤40
 l2:n2≤40
 sub:∀x∈q.2.1.1,x∈q.1.1
 iu:Inc q.2.2
 ur:∀x∈q.2.2,0≤x∧x < 32
theorem PbOk.open {q:ProbT} {n1 n2:Nat} (h:PbOk q n1 n2):∃t p T n1 n2 n,y5j q=some (some t,0)∧TaskOk q t p T n1 n2 n∧ym [q.1,q.2.1]=some (p,T,0):=by
 have hu:=Alp.len ⟨h.iu,h.ur⟩
 refine ye0 ⟨h.rP.l1,h.rP.l2,h.rP.l3,h.rS.l1,h.rS.l2,h.rS.l3,by omega⟩ ?_ (by rw [h.rP.nn];have:=h.l1;omega) (by rw [h.rS.nn];have:=h.l2;omega)
 have hm:mg (fun a b=>a && !b) q.2.1.1 q.1.1= []:=List.eq_nil_iff_forall_not_mem.2 fun x hx=>by
  rw [(y3L (fun a b=>a && !b) q.2.1.1 q.1.1 h.rS.ali h.rP.ali).2] at hx
  obtain⟨_,h2⟩:=hx
  rw [Bool.and_eq_true,yb] at h2
  have:=yb.2 (h.sub x h2.1)
  rw [this] at h2
  simp at h2
 unfold errP
 rw [h.rP.err,h.rS.err,hm,if_neg (by simp),if_neg (by simp),if_neg (by simp)]
 exact y6A h.iu h.ur (fun q hq=>by cases hq)
abbrev PartT :=Int×y2B
abbrev Des26 :=PartT×PartT×Int
structure Des26In (d:Des26):Prop where
 g1:GrIn d.1.2
 g2:GrIn d.2.1.2
theorem yeb {d:Des26} (hd:Des26In d):∃q n1 n2,y4s d=some q∧PbOk q n1 n2∧n1≤5∧n2≤5∧∀x∈q.1.1,0≤x∧x < 5:=by
 obtain⟨e1,a1,i1,r1,z1⟩:=yaq d.1.1
 obtain⟨P,n1,b1,R1,s1,t1⟩:=ycg i1 (fun x hx=>by have:=r1 x hx;omega) z1 hd.g1
 obtain⟨e2,a2,i2,r2,z2⟩:=yaq d.2.1.1
 have hsp:=y3L (fun a b=>a && b) e2 P.1 i2 R1.ali
 have hmem:∀x,x∈mg (fun a b=>a && b) e2 P.1→x∈e2∧x∈P.1:=fun x hx=>by
  have:=(hsp.2 x).1 hx
  simp only [Bool.and_eq_true] at this
  exact⟨yb.1 this.2.1,yb.1 this.2.2⟩
 have hl:=y2N (n:=5) (lo:=0) hsp.1 (fun x hx=>r2 x (hmem x hx).1) (Int.le_refl _)
 obtain⟨S,n2,b2,R2,s2,t2⟩:=ycg hsp.1 (fun x hx=>by have:=r2 x (hmem x hx).1;omega) (by omega) hd.g2
 obtain⟨e3,a3,i3,r3,z3⟩:=yaq d.2.2
 refine⟨(P,S,e3),n1,n2,?_,⟨R1,R2,by omega,by omega,fun x hx=>?_,i3,fun x hx=>by have:=r3 x hx;omega⟩,s1,s2,fun x hx=>?_⟩
 ·rw [y4s,a1,yOb,b1,yOb,a2,yOb,ybB (by omega) R1.l1,yOb,b2,yOb,a3]
  rfl
 ·dsimp only at hx
  rw [t2] at hx
  exact(hmem x hx).2
 ·dsimp only at hx
  rw [t1] at hx
  exact r1 x hx
theorem ydk {P S:AutT} {n1 n2:Nat} (hP:Right P n1) (hS:Right S n2) {x y:Int} (x0:0≤x) (x1:x < (n1:Int)) (y0:0≤y) (y1:y < (n2:Int)):y4w [P,S] [x,y]=some 0:=by
 have h1:iter (y2z [P,S] [x,y]) 0=some (.inl ()):=by
  refine y4N (n:=3) (by omega) ?_
  rw [ye,y2z,if_pos (by simp),show idx [P,S] 0=some P from rfl,yOb,show idx [x,y] 0=some x from rfl,yOb,if_neg (by simp;omega),yOb,y2y,if_neg (by rw [hP.nn];simp;omega)]
  dsimp only
  rw [show W (0 + 1)=1 from rfl,ye,y2z,if_pos (by simp),show idx [P,S] 1=some S from rfl,yOb,show idx [x,y] 1=some y from rfl,yOb,if_neg (by simp;omega),yOb,y2y,if_neg (by rw [hS.nn];simp;omega)]
  dsimp only
  rw [show W (1 + 1)=2 from rfl,ye,y2z,if_neg (by simp)]
 rw [y4w,ybA hP hS,yOb,if_neg (by simp),if_neg (by simp),h1]
 rfl
theorem yec {P S:AutT} {n1 n2:Nat} (hP:Right P n1) (hS:Right S n2) {x y:Int} (x0:0≤x) (x1:x < (n1:Int)) (y0:0≤y) (y1:y < (n2:Int)) (e:Int):
  y2J [P,S] [x,y] e=some (if hasB (mg (fun a b=>a || b) P.1 S.1) e=true then(match pst P S x y e with
   | some u=>([u.1,u.2],true,0)
   | none=>([],false,0)) else(([],false,9):List Int×Bool×Int)):=by
 have aP:Alp P.1:=⟨hP.ali,hP.alr⟩
 have aS:Alp S.1:=⟨hS.ali,hS.alr⟩
 have hsp:=y3L (fun a b=>a || b) P.1 S.1 hP.ali hS.ali
 have hal:Alp (mg (fun a b=>a || b) P.1 S.1):=⟨hsp.1,fun z hz=>by
  rcases((hsp.2 z).1 hz).1 with h | h
  ·exact hP.alr z h
  ·exact hS.alr z h⟩
 have hl:=hal.len
 obtain⟨o1,o2,ho,g1,g2⟩:=yao hP hS
 rw [y2J,y5i,ydk hP hS x0 x1 y0 y1,yOb,if_neg (by simp),yaI aP aS,yOb,y2n (by omega) hsp.1,yOb]
 cases hb:hasB (mg (fun a b=>a || b) P.1 S.1) e with
 | false=>rw [if_pos (by simp),yOb,if_pos (by simp),if_neg (by simp)]
 | true=>
  rw [if_neg (by simp),yOb,if_neg (by simp),ho,yOb,ycX hP hS g1 g2,yOb,if_pos rfl]
  cases pst P S x y e <;> rfl
section
variable {q:ProbT} {t:TaskT} {p:AutT} {T:List (List Int)} {n1 n2 n:Nat}
theorem TaskOk.evP (h:TaskOk q t p T n1 n2 n) (e:Int):e∈p.1↔e∈q.1.1:=by
 rw [h.loop.ev]
 exact⟨fun h'=>h'.elim id (h.sub e),.inl⟩
theorem TaskOk.pairIn (h:TaskOk q t p T n1 n2 n) {k:Nat} {x y:Int} (hk:T[k]? =some [x,y]):0≤x∧x < (n1:Int)∧0≤y∧y < (n2:Int):=by
 obtain⟨x',y',e,h1⟩:=h.pair (List.getElem?_eq_some_iff.1 hk).1
 rw [hk] at e
 cases e
 exact h1
theorem TaskOk.step (h:TaskOk q t p T n1 n2 n) {k:Nat} {x y:Int} (hk:T[k]? =some [x,y]) {e:Int} (he:e∈q.1.1):
  (st1 p (k:Int) e=none∧y2J [q.1,q.2.1] [x,y] e=some ([],false,0))∨∃(j:Nat) (x' y':Int),st1 p (k:Int) e=some (j:Int)∧T[j]? =some [x',y']∧pst q.1 q.2.1 x y e=some (x',y')∧y2J [q.1,q.2.1] [x,y] e=some ([x',y'],true,0):=by
 have hin:=h.pairIn hk
 have hep:e∈p.1:=(h.evP e).2 he
 have hsp:=y3L (fun a b=>a || b) q.1.1 q.2.1.1 h.rP.ali h.rS.ali
 have hb:hasB (mg (fun a b=>a || b) q.1.1 q.2.1.1) e=true:=yb.2 ((hsp.2 e).2 ⟨.inl he,by rw [yb.2 he];rfl⟩)
 have hs:=yec h.rP h.rS hin.1 hin.2.1 hin.2.2.1 hin.2.2.2 e
 rw [if_pos hb] at hs
 cases hp:pst q.1 q.2.1 x y e with
 | none=>
  rw [hp] at hs
  exact .inl ⟨h.loop.no k x y e hk hep hp,hs⟩
 | some u=>
  rw [hp] at hs
  obtain⟨j,g1,g2⟩:=h.loop.yes k x y e u.1 u.2 hk hep hp
  exact .inr ⟨j,u.1,u.2,g1,g2,rfl,hs⟩
theorem yed (h:TaskOk q t p T n1 n2 n) {k:Nat} {x y:Int} (hk:T[k]? =some [x,y]) {l:List Int} (hl:l.length≤1000000) (hla:∀e∈l,e∈q.1.1):y3S q [x,y] l=some (chz p l (k:Int)):=by
 obtain⟨o,h1,h2⟩:=y7C (f:=y2V q [x,y] l) (fun i=>i) l.length (by omega) (fun i=>(st1 p (k:Int) (l.getD i 0)).isSome) (fun i=>l.getD i 0) (fun i hi=>by
  have hm:=hla _ (List.getElem_mem hi)
  rw [y2V,if_pos (ct_lt hi),ya hi,yOb,nxt (by omega),List.getD_eq_getElem?_getD,yGe hi,Option.getD_some]
  rcases h.step hk hm with ⟨g1,g2⟩ | ⟨j,x',y',g1,_,_,g2⟩
  ·rw [g2,yOb,g1,if_neg (by simp),if_neg (by simp)]
  ·rw [g2,yOb,g1,if_pos rfl,yOb,if_pos (by rfl)]) (by
  rw [y2V,if_neg ct_ge])
 rw [y3S,h1,yOb,chz]
 rcases h2 with ⟨rfl,h3⟩ | ⟨i,hi,rfl,h3,h4⟩
 ·rw [List.find?_eq_none.2 fun e he=>?_]
  ·rfl
  ·obtain ⟨i,hi,rfl⟩:=List.getElem_of_mem he
   have:=h3 i hi
   rw [List.getD_eq_getElem?_getD,yGe hi,Option.getD_some] at this
   rw [this];simp
 ·rw [List.getD_eq_getElem?_getD,yGe hi,Option.getD_some] at h3 ⊢
  have:l.find? (fun e=>(st1 p (k:Int) e).isSome)=some l[i]:=by
   rw [List.find?_eq_some_iff_getElem]
   refine⟨h3,i,hi,rfl,fun j hji=>?_⟩
   have:=h4 j hji
   rw [List.getD_eq_getElem?_getD,yGe (by omega),Option.getD_some] at this
   rw [this];rfl
  rw [this]
  rfl
theorem yee (h:TaskOk q t p T n1 n2 n) (hs:ym [q.1,q.2.1]=some (p,T,0)) {l:List Int} (hl:l.length≤1000000) (hla:∀e∈l,e∈q.1.1) {r:AutT} {X:List Int} (hr:ResOk p t.2.2.2.2.1 l r X):y2D q l=some r:=by
 have hpr:=h.loop.right
 have hl3:=hpr.l3
 have hle:=h.loop.le
 have hul:=Alp.len ⟨h.iu,h.ur⟩
 -- the edges that are kept
 let kp:Int×Int×Int→Bool:=fun z=>hasB q.2.2 z.2.1 || chz p l z.1 == z.2.1
 have hf:∀x,iter (y1l q l (p,T,x)) (0,([]:List (Int×Int×Int)))=some (p.2.2.2.filter kp):=fun x=>by
  have:=(ydc (f:=y1l q l (p,T,x)) (xs:=p.2.2.2) (fun i s=>((i:Int),s)) (fun out z=>if kp z=true then out ++ [z] else out) (fun s=>s) (fun i s=>s.length≤i) (by omega) (fun i hi s hs=>by
   have hz:=hpr.es _ (List.getElem_mem hi)
   have hj1:∀E,y1j ((i:Int),s) E=some (.inl (((i + 1:Nat):Int),E)):=fun E=>by
    rw [y1j];dsimp only;rw [nxt (by omega)]
   have hj2:∀b:Bool,y1k ((i:Int),s) p.2.2.2[i] b=some (.inl (((i + 1:Nat):Int),if b=true then s ++ [p.2.2.2[i]] else s)):=fun b=>by
    rw [y1k]
    cases b
    ·rw [if_neg (by simp),hj1,if_neg (by simp)]
    ·rw [if_pos rfl,yo (by simp;omega),yOb,hj1,if_pos rfl]
   obtain⟨k,hk⟩:∃k:Nat,p.2.2.2[i].1=(k:Int):=⟨p.2.2.2[i].1.toNat,by omega⟩
   have hkT:k < T.length:=by rw [h.loop.tl];omega
   obtain⟨x,y,hxy,_⟩:=h.pair hkT
   refine⟨?_,by
    split
    ·rw [List.length_append,List.length_singleton];exact Nat.succ_le_succ hs
    ·exact Nat.le_succ_of_le hs⟩
   rw [y1l]
   dsimp only
   rw [if_pos (ct_lt hi),ya hi,yOb,y4O (by omega),yOb]
   cases hb:hasB q.2.2 p.2.2.2[i].2.1
   ·rw [if_neg (by simp),hk,show idx T (k:Int)=some T[k] from ya hkT,yOb,show T[k]= [x,y] from by rw [yGe hkT] at hxy;exact Option.some.inj hxy,yed h hxy hl hla,yOb,hj2]
    simp only [kp,hb,hk,Bool.false_or]
   ·rw [if_pos rfl,hj2]
    simp only [kp,hb,Bool.true_or]) (fun s hs=>by
   rw [y1l]
   dsimp only
   rw [if_neg ct_ge]) (s:=[]) (by simp)).1
  rw [y9J,List.nil_append] at this
  exact this
 obtain⟨a,ha⟩:∃a:AutT,a=(p.1,p.2.1,p.2.2.1,p.2.2.2.filter kp):=⟨_,rfl⟩
 have hR:Right a n:=by
  subst ha
  exact⟨hpr.nn,hpr.nl,hpr.ali,hpr.alr,hpr.msi,hpr.msr,fun x hx=>hpr.es x (List.mem_filter.1 hx).1,hpr.so.filter _,hpr.l1,hpr.l2,Nat.le_trans (List.length_filter_le _ _) hpr.l3⟩
 have hst:∀s e,e∈p.1→st1 a s e=stR p t.2.2.2.2.1 l s e:=fun s e he=>by
  have heq:hasB t.2.2.2.2.1 e=hasB q.2.2 e:=h.unB (yb.2 ((h.evP e).1 he))
  unfold stR
  rw [heq]
  cases hv:st1 p s e with
  | none=>
   rw [y9i fun z hz hzz=>?_]
   ·split <;> rfl
   ·rw [ha] at hz
    have:=(y4y hpr).2 (show (s,e,z.2.2)∈p.2.2.2 from by rw [←hzz.1,←hzz.2];exact(List.mem_filter.1 hz).1)
    rw [hv] at this
    cases this
  | some v=>
   have hm:=(y4y hpr).1 hv
   by_cases hk:kp (s,e,v)=true
   ·have hk':(e == chz p l s || hasB q.2.2 e)=true:=by
     simp only [kp,Bool.or_eq_true] at hk ⊢
     rcases hk with hk | hk
     ·exact .inr hk
     ·exact .inl (by rw [beq_iff_eq] at hk ⊢;exact hk.symm)
    rw [if_pos hk',y4y hR,ha]
    exact List.mem_filter.2 ⟨hm,hk⟩
   ·have hk':¬(e == chz p l s || hasB q.2.2 e)=true:=fun hc=>hk (by
     simp only [kp,Bool.or_eq_true] at hc ⊢
     rcases hc with hc | hc
     ·exact .inr (by rw [beq_iff_eq] at hc ⊢;exact hc.symm)
     ·exact .inl hc)
    rw [if_neg hk']
    refine y9i fun z hz hzz=>hk ?_
    rw [ha] at hz
    obtain⟨h1,h2⟩:=List.mem_filter.1 hz
    have h3:=(y4y hpr).2 (show (s,e,z.2.2)∈p.2.2.2 from by rw [←hzz.1,←hzz.2];exact h1)
    rw [hv] at h3
    have h3:v=z.2.2:=Option.some.inj h3
    rw [h3,←hzz.1,←hzz.2]
    exact h2
 obtain⟨r',X',hc,hC,hX1,hX2⟩:=ye7 hR
 have ha1:a.1=p.1:=by rw [ha]
 have ha2:a.2.2.1=p.2.2.1:=by rw [ha]
 rw [ha1,ha2] at hC
 have hC':=hC.congr (st':=stR p t.2.2.2.2.1 l) fun s _ e he=>hst s e he
 have hrr:=hC'.unique hr.can (by rw [hX2,hr.zero,hpr.nn];omega)
 rw [y2D,hs,yOb]
 dsimp only
 rw [hf,yOb,←ha,y4Z,hR.check,yOb,if_neg (by simp),hc,yOb,yOb,hrr.1]
end
theorem ycv {a:AutT} {n:Nat} (hr:Right a n):∃b,y3E a=some b∧Inc b∧∀x,x∈b↔0≤x∧x < (n:Int)∧¬LiveS a x:=by
 have hnl:=hr.nl
 have hcl:(corea (toAut a)).length≤1000000:=by
  have hi:Inc (corea (toAut a)):=by
   unfold corea listL listK
   exact yeK _ _
  have:=y2N (n:=n) (lo:=0) hi (fun x hx=>by have:=(y9h hr x).1 hx;exact⟨this.1,this.2.1⟩) (Int.le_refl _)
  omega
 obtain⟨o,h1,h2,h3⟩:=yc (f:=y2E a (corea (toAut a),0)) (fun i s=>s.1=(i:Int)∧Inc s.2∧∀x,x∈s.2↔0≤x∧x < (i:Int)∧¬LiveS a x) (fun o=>Inc o∧∀x,x∈o↔0≤x∧x < (n:Int)∧¬LiveS a x) n 0 (by omega) (fun i s hi ⟨e1,g1,g2⟩=>by
   obtain⟨c,out⟩:=s
   dsimp only at e1 g1 g2
   subst e1
   have hol:=y2N (n:=i) (lo:=0) g1 (fun x hx=>by have:=(g2 x).1 hx;exact⟨this.1,this.2.1⟩) (Int.le_refl _)
   have hj1:∀l,y1x ((i:Int),out) l=some (.inl (((i + 1:Nat):Int),l)):=fun l=>by
    rw [y1x];dsimp only;rw [nxt (by omega)]
   left
   rw [y2E]
   dsimp only
   rw [hr.nn,if_pos (ct_lt hi),y4O hcl,yOb]
   cases hb:hasB (corea (toAut a)) (i:Int)
   ·have hn:¬LiveS a (i:Int):=fun hv=>by
     have:=yb.2 ((y9h hr (i:Int)).2 ⟨by omega,by omega,hv⟩)
     rw [hb] at this
     cases this
    rw [if_pos (by simp),yo (by simp;omega),yOb,hj1]
    refine⟨_,rfl,rfl,?_,fun x=>?_⟩
    ·unfold Inc at g1 ⊢
     rw [List.pairwise_append]
     exact⟨g1,List.pairwise_singleton _ _,fun c hc b hb=>by rw [List.mem_singleton.1 hb];exact((g2 c).1 hc).2.1⟩
    ·dsimp only
     rw [List.mem_append,List.mem_singleton,g2]
     constructor
     ·rintro (h | rfl)
      ·exact ⟨h.1,by omega,h.2.2⟩
      ·exact ⟨by omega,by omega,hn⟩
     ·rintro ⟨h1,h2,h3⟩
      by_cases e:x=(i:Int)
      ·exact .inr e
      ·exact .inl ⟨h1,by omega,h3⟩
   ·rw [if_neg (by simp),hj1]
    refine⟨_,rfl,rfl,g1,fun x=>?_⟩
    dsimp only
    rw [g2]
    constructor
    ·rintro ⟨h1,h2,h3⟩
     exact⟨h1,by omega,h3⟩
    ·rintro ⟨h1,h2,h3⟩
     refine⟨h1,?_,h3⟩
     by_cases e:x=(i:Int)
     ·subst e
      exact absurd ((y9h hr (i:Int)).1 (yb.1 hb)).2.2 h3
     ·omega) (fun s ⟨e1,g1,g2⟩=>by
   obtain⟨c,out⟩:=s
   dsimp only at e1 g1 g2
   subst e1
   rw [y2E]
   dsimp only
   rw [hr.nn,if_neg ct_ge]
   exact⟨_,rfl,g1,g2⟩) (Nat.zero_le _) (0,[]) ⟨rfl,List.Pairwise.nil,fun x=>⟨fun hx=>(by cases hx),fun⟨h1,h2,_⟩=>by omega⟩⟩
 exact⟨o,by rw [y3E,yeM hr,yOb,h1];rfl,h2,h3⟩
def stK (a:AutT) (g:List Bool) (s e:Int):Option Int:=(st1 a s e).filter fun t=>g.getD t.toNat false
theorem yar {a:AutT} {n:Nat} (hr:Right a n) {g:List Bool} {s e t:Int}:stK a g s e=some t↔(s,e,t)∈a.2.2.2∧g.getD t.toNat false=true:=by
 unfold stK
 rw [Option.filter_eq_some_iff,y4y hr]
theorem yf0 {a:AutT} {n:Nat} (hr:Right a n) (hE32:a.1.length≤32) {g:List Bool} {i s:Nat} {X:List Int} {kn:List (Int×Int)} {E:List (Int×Int×Int)} (hS:SR (stK a g) a.1 n i 0 X kn E) (hi:X[i]? =some (s:Int)) (M:List Int) {os:List (Int×Int×Int)} (hos:os=a.2.2.2.filter fun x=>x.1 == (s:Int) && g.getD x.2.2.toNat false):
  ∃kn' X' E',iter (yM ((i:Int),X,kn,M,E) os) (0,X,kn,E)=some (X',kn',E')∧SR (stK a g) a.1 n (i + 1) 0 X' kn' E'∧∃U,X'=X ++ U:=by
 have hnl:=hr.nl
 have hl3:=hr.l3
 have hil:i < X.length:=(List.getElem?_eq_some_iff.1 hi).1
 have hmem:∀x∈os,x∈a.2.2.2∧x.1=(s:Int)∧g.getD x.2.2.toNat false=true:=fun x hx=>by
  rw [hos] at hx
  have:=List.mem_filter.1 hx
  rw [Bool.and_eq_true] at this
  exact⟨this.1,by simpa using this.2.1,this.2.2⟩
 have hso:os.Pairwise fun x y=>x.2.1 < y.2.1:=by
  have h:=hr.so.filter (fun x=>x.1 == (s:Int) && g.getD x.2.2.toNat false)
  rw [←hos] at h
  refine h.imp_of_mem fun {x y} hx hy hxy=>?_
  have:=(hmem x hx).2.1
  have:=(hmem y hy).2.1
  omega
 have hol:os.length≤1000000:=by rw [hos];exact Nat.le_trans (List.length_filter_le _ _) hl3
 have hin:∀{e t:Int},stK a g (s:Int) e=some t→((s:Int),e,t)∈os:=fun {e t} h=>by
  rw [hos]
  have:=(yar hr).1 h
  exact List.mem_filter.2 ⟨this.1,by simp only [beq_self_eq_true,Bool.true_and];exact this.2⟩
 obtain⟨o,h1,j,hS',hU,hj,hlast⟩:=yc (f:=yM ((i:Int),X,kn,M,E) os)
  (fun k s'=>s'.1=(k:Int)∧k≤os.length∧∃j,SR (stK a g) a.1 n i j s'.2.1 s'.2.2.1 s'.2.2.2∧(∃U,s'.2.1=X ++ U)∧j≤a.1.length∧
   (∀c (hc:c < a.1.length),c < j→∀k' (hk:k' < os.length),k≤k'→os[k'].2.1≠a.1[c])∧∀k' (hk:k' < os.length),k' < k→∀c (hc:c < a.1.length),j≤c→os[k'].2.1≠a.1[c])
  (fun o=>∃j,SR (stK a g) a.1 n i j o.1 o.2.1 o.2.2∧(∃U,o.1=X ++ U)∧j≤a.1.length∧∀k' (hk:k' < os.length),∀c (hc:c < a.1.length),j≤c→os[k'].2.1≠a.1[c])
  os.length 0 (by omega) (fun k s' hk ⟨e1,_,j,hS',⟨U,hU⟩,hj,hlo,hhi⟩=>by
   obtain⟨c',X1,kn',E1⟩:=s'
   dsimp only at e1 hS' hU
   subst e1
   have hx:=hmem _ (List.getElem_mem hk)
   have hxe:=hr.es _ hx.1
   obtain⟨t,ht⟩:∃t:Nat,os[k].2.2=(t:Int):=⟨os[k].2.2.toNat,by omega⟩
   have htn:t < n:=by omega
   obtain⟨b,hb,hbe⟩:=List.getElem_of_mem hxe.2.2.2.2
   have hjb:j≤b:=Nat.le_of_not_lt fun hlt=>hlo b hb hlt k hk (Nat.le_refl _) hbe.symm
   have hiX:X1[i]? =some (s:Int):=by rw [hU,List.getElem?_append_left hil];exact hi
   have hstx:stK a g (s:Int) a.1[b]=some (t:Int):=by
    rw [yar hr,hbe,←ht]
    refine⟨?_,hx.2.2⟩
    rw [←hx.2.1]
    exact hx.1
   have hSb:=hS'.skips hiX b hjb (by omega) fun c hc h1 h2=>by
    cases hst:stK a g (s:Int) a.1[c] with
    | none=>rfl
    | some v=>
     exfalso
     obtain⟨k',hk',e'⟩:=List.getElem_of_mem (hin hst)
     have ev:os[k'].2.1=a.1[c]:=by rw [e']
     have hcb:a.1[c] < a.1[b]:=List.pairwise_iff_getElem.1 hr.ali c b hc hb h2
     by_cases h3:k' < k
     ·exact hhi k' hk' h3 c hc h1 ev
     ·by_cases h4:k'=k
      ·subst h4;omega
      ·have:=List.pairwise_iff_getElem.1 hso k k' hk hk' (by omega)
       omega
   have hpos:∀(X2:List Int) (E2:List (Int×Int×Int)) (kn2:List (Int×Int)),SR (stK a g) a.1 n i (b + 1) X2 kn2 E2→(∃U,X2=X ++ U)→
     (∃j,SR (stK a g) a.1 n i j X2 kn2 E2∧(∃U,X2=X ++ U)∧j≤a.1.length∧
   (∀c (hc:c < a.1.length),c < j→∀k' (hk:k' < os.length),k + 1≤k'→os[k'].2.1≠a.1[c])∧∀k' (hk:k' < os.length),k' < k + 1→∀c (hc:c < a.1.length),j≤c→os[k'].2.1≠a.1[c]):=fun X2 E2 kn2 g1 g3=>by
    refine⟨b + 1,g1,g3,hb,fun c hc h1 k' hk' h2 e=>?_,fun k' hk' h2 c hc h1 e=>?_⟩
    ·have h5:=List.pairwise_iff_getElem.1 hso k k' hk hk' (by omega)
     by_cases h6:c=b
     ·subst h6;omega
     ·have:=List.pairwise_iff_getElem.1 hr.ali c b hc hb (by omega)
      omega
    ·have h5:=List.pairwise_iff_getElem.1 hr.ali b c hb hc (by omega)
     by_cases h6:k'=k
     ·subst h6;omega
     ·have:=List.pairwise_iff_getElem.1 hso k' k hk' hk (by omega)
      omega
   have hXl:=hSb.len
   have hEl:=hSb.el
   have hil2:i < n:=by have:=(List.getElem?_eq_some_iff.1 hiX).1;omega
   have hj2:∀(X2:List Int) (v:Int) (kn2:List (Int×Int)),yL ((i:Int),X,kn,M,E) os[k] ((k:Int),X1,kn',E1) X2 v kn2=some (.inl (((k + 1:Nat):Int),X2,kn2,E1 ++ [((i:Int),os[k].2.1,v)])):=fun X2 v kn2=>by
    rw [yL]
    dsimp only
    rw [yo (by simp;omega),yOb,nxt (by omega)]
   left
   rw [yM]
   dsimp only
   rw [if_pos (ct_lt hk),ya hk,yOb,ht]
   cases hkg:kget kn' (t:Int) with
   | none=>
    rw [if_pos (by simp),yo (by simp;omega),yOb,hj2]
    refine⟨_,rfl,rfl,hk,?_⟩
    dsimp only
    rw [←hbe]
    exact hpos _ _ _ (hSb.new hr.ali hb hiX hstx hkg (by omega) (by omega)) ⟨U ++ [(t:Int)],by rw [hU,List.append_assoc]⟩
   | some v=>
    obtain⟨q,hv,hq⟩:=hSb.k1 _ _ hkg
    subst hv
    rw [if_neg (by simp),hj2]
    refine⟨_,rfl,rfl,hk,?_⟩
    dsimp only
    rw [←hbe,Option.getD_some]
    exact hpos _ _ _ (hSb.edge hr.ali hb hiX hstx hq) ⟨U,hU⟩) (fun s' ⟨e1,_,j,hS',hU,hj,hlo,hhi⟩=>by
   obtain⟨c',X1,kn',E1⟩:=s'
   dsimp only at e1 hS' hU
   subst e1
   refine⟨(X1,kn',E1),?_,j,hS',hU,hj,fun k' hk' c hc hjc=>hhi k' hk' hk' c hc hjc⟩
   rw [yM]
   dsimp only
   rw [if_neg ct_ge]) (Nat.zero_le _) (0,X,kn,E) ⟨rfl,Nat.zero_le _,0,hS,⟨[],(List.append_nil _).symm⟩,Nat.zero_le _,fun c hc h=>absurd h (Nat.not_lt_zero _),fun k' hk' h=>absurd h (Nat.not_lt_zero _)⟩
 obtain⟨X',kn',E'⟩:=o
 obtain⟨U,hU⟩:=hU
 dsimp only at hS' hU
 have hiX:X'[i]? =some (s:Int):=by rw [hU,List.getElem?_append_left hil];exact hi
 have hSe:=hS'.skips hiX a.1.length hj (Nat.le_refl _) fun c hc h1 _=>by
  cases hst:stK a g (s:Int) a.1[c] with
  | none=>rfl
  | some v=>
   exfalso
   obtain⟨k',hk',e'⟩:=List.getElem_of_mem (hin hst)
   exact hlast k' hk' c hc h1 (by rw [e'])
 exact⟨kn',X',E',h1,hSe.next (Nat.le_refl _) hE32,U,hU⟩
theorem ydl {a:AutT} {n:Nat} (hr:Right a n) {g:List Bool} (hg:g.length=n) (p:AutT×List Int×List (Int×List Int)×List Bool) (hp1:p.1=a) (hp2:p.2.2.2=g):
  ∃R:List EdgL,iter (yP p) (0,List.replicate n [])=some R∧R.length=n∧∀s:Nat,s < n→R[s]? =some (a.2.2.2.filter fun x=>x.1 == (s:Int) && g.getD x.2.2.toNat false):=by
 subst hp1 hp2
 have hl3:=hr.l3
 have hnl:=hr.nl
 obtain⟨R,h1,h2,h3⟩:=yc (f:=yP p) (fun i s=>s.1=(i:Int)∧i≤p.1.2.2.2.length∧s.2.length=n∧∀t:Nat,t < n→s.2[t]? =some ((p.1.2.2.2.take i).filter fun x=>x.1 == (t:Int) && p.2.2.2.getD x.2.2.toNat false))
  (fun R=>R.length=n∧∀t:Nat,t < n→R[t]? =some (p.1.2.2.2.filter fun x=>x.1 == (t:Int) && p.2.2.2.getD x.2.2.toNat false)) p.1.2.2.2.length 0 (by omega) (fun i s hi ⟨e1,_,hl,hR⟩=>by
   obtain⟨c,R⟩:=s
   dsimp only at e1 hl hR
   subst e1
   have hx:=hr.es _ (List.getElem_mem hi)
   obtain⟨q,hq⟩:∃q:Nat,(p.1.2.2.2[i]).1=(q:Int):=⟨(p.1.2.2.2[i]).1.toNat,by omega⟩
   obtain⟨t,ht⟩:∃t:Nat,(p.1.2.2.2[i]).2.2=(t:Int):=⟨(p.1.2.2.2[i]).2.2.toNat,by omega⟩
   have hqn:q < n:=by omega
   have htn:t < p.2.2.2.length:=by omega
   have hql:q < R.length:=by omega
   have hRq:R[q]=(p.1.2.2.2.take i).filter fun x=>x.1 == (q:Int) && p.2.2.2.getD x.2.2.toNat false:=by
    have:=hR q hqn
    rw [yGe hql] at this
    exact Option.some.inj this
   have hgt:p.2.2.2.getD (p.1.2.2.2[i]).2.2.toNat false=p.2.2.2[t]:=by
    rw [ht,Int.toNat_natCast,List.getD_eq_getElem?_getD,yGe htn,Option.getD_some]
   have htake:p.1.2.2.2.take (i + 1)=p.1.2.2.2.take i ++ [p.1.2.2.2[i]]:=by rw [List.take_add_one,yGe hi];rfl
   left
   rw [yP]
   dsimp only
   rw [if_pos (ct_lt hi),ya hi,yOb,ht,ya htn,yOb]
   cases hgb:p.2.2.2[t] with
   | true=>
    have hlen:R[q].length≤1000000:=by rw [hRq];exact Nat.le_trans (List.length_filter_le _ _) (Nat.le_trans (List.length_take_le _ _) (by omega))
    rw [if_pos rfl,hq,ya hql,yOb,yo (by simp;omega),yOb,yOb,y5p hql,yOb,yO]
    dsimp only
    rw [nxt (by omega)]
    refine⟨_,rfl,rfl,hi,by dsimp only;rw [List.length_set];exact hl,fun s' hs'=>?_⟩
    dsimp only
    rw [List.getElem?_set,htake,List.filter_append]
    by_cases e:q=s'
    ·subst e
     rw [if_pos rfl,if_pos hql,hRq,List.filter_cons_of_pos (by rw [hq,hgt,hgb];simp)]
     rfl
    ·rw [if_neg e,List.filter_cons_of_neg (by rw [hq];simp;omega),List.filter_nil,List.append_nil]
     exact hR s' hs'
   | false=>
    rw [if_neg (by simp),yO]
    dsimp only
    rw [nxt (by omega)]
    refine⟨_,rfl,rfl,hi,hl,fun s' hs'=>?_⟩
    dsimp only
    rw [htake,List.filter_append,List.filter_cons_of_neg (by rw [hgt,hgb];simp),List.filter_nil,List.append_nil]
    exact hR s' hs') (fun s ⟨e1,_,hl,hR⟩=>by
   obtain⟨c,R⟩:=s
   dsimp only at e1 hl hR
   subst e1
   refine⟨R,?_,hl,fun t ht=>by have:=hR t ht;rwa [List.take_length] at this⟩
   rw [yP]
   dsimp only
   rw [if_neg ct_ge]) (Nat.zero_le _) (0,List.replicate n []) ⟨rfl,Nat.zero_le _,by simp,fun t ht=>by simp [List.getElem?_replicate,ht]⟩
 exact⟨R,h1,h2,h3⟩
theorem yf1 {a:AutT} {n:Nat} (hr:Right a n) {g:List Bool} (hg:g.length=n) (p:AutT×List Int×List (Int×List Int)×List Bool) (hp1:p.1=a) (hp2:p.2.2.2=g):
  ∃r X,y1B p=some (r,X)∧CanOf (stK a g) a.1 a.2.2.1 r X∧X.length≤n∧∀s∈X,0≤s∧s < (n:Int)∧g.getD s.toNat false=true:=by
 subst hp1 hp2
 have hnn:=hr.nn
 have hnl:=hr.nl
 have hl1:=hr.l1
 have hal:p.1.1.length≤32:=Alp.len ⟨hr.ali,hr.alr⟩
 have hcl:y1a p.1.1=some p.1.1:=y6u (by omega)
 have hemp:∃r X,some ((p.1.1,(0:Int),([]:List Int),([]:List (Int×Int×Int))),([]:List Int))=some (r,X)∧CanOf (stK p.1 p.2.2.2) p.1.1 p.1.2.2.1 r X∧X.length≤n∧∀s∈X,0≤s∧s < (n:Int)∧p.2.2.2.getD s.toNat false=true:=
  ⟨_,[],rfl,⟨⟨rfl,by simp,hr.ali,hr.alr,List.Pairwise.nil,fun x hx=>(by cases hx),fun x hx=>(by cases hx),List.Pairwise.nil,hl1,by simp,by simp⟩,rfl,fun h=>absurd h (by simp),(Fnd.start (by simp)).disc List.nodup_nil List.Pairwise.nil (fun x hx=>(by cases hx)) hr.alr,fun i s hi=>by simp at hi⟩,by simp,fun s hs=>by cases hs⟩
 rw [y1B,hcl,yOb,hnn]
 by_cases h0:n=0
 ·subst h0
  rw [if_pos (by simp),yOb,if_pos rfl]
  exact hemp
 have hg0:0 < p.2.2.2.length:=by omega
 rw [if_neg (by simp;omega),show idx p.2.2.2 0=some p.2.2.2[0] from ya hg0,yOb,yOb]
 cases hb:p.2.2.2[0] with
 | false=>
  rw [if_pos (show (!false)=true from rfl)]
  exact hemp
 | true=>
 obtain⟨R,f1,f2,f3⟩:=ydl hr hg p rfl rfl
 have hS0:SR (stK p.1 p.2.2.2) p.1.1 n 0 0 [0] (kput [] 0 0) []:=by
  refine⟨Fnd.start (by simp),fun s v hv=>?_,fun s hs=>?_,by simp,fun s hs=>?_,List.Pairwise.nil,fun x hx=>(by cases hx),fun x hx=>(by cases hx),by simp⟩
  ·rw [y2r] at hv
   split at hv
   ·rename_i e
    subst e
    cases hv
    exact⟨0,rfl,rfl⟩
   ·cases hv
  ·rw [List.mem_singleton.1 hs,y2r,if_pos rfl]
   rfl
  ·rw [List.mem_singleton.1 hs]
   omega
 obtain⟨o,g1,kn,g2,g3,g4,g5,g6⟩:=yc (f:=yN p R) (fun i s=>s.1=(i:Int)∧i≤s.2.1.length∧SR (stK p.1 p.2.2.2) p.1.1 n i 0 s.2.1 s.2.2.1 s.2.2.2.2∧Inc s.2.2.2.1∧(∀x∈s.2.2.2.1,0≤x∧x < (i:Int))∧s.2.1[0]? =some 0∧∀(c:Nat) (x:Int),c < i→s.2.1[c]? =some x→((c:Int)∈s.2.2.2.1↔x∈p.1.2.2.1))
  (fun o=>∃kn,SR (stK p.1 p.2.2.2) p.1.1 n o.1.length 0 o.1 kn o.2.2∧Inc o.2.1∧(∀x∈o.2.1,0≤x∧x < (o.1.length:Int))∧o.1[0]? =some 0∧∀(c:Nat) (x:Int),o.1[c]? =some x→((c:Int)∈o.2.1↔x∈p.1.2.2.1)) n 0 (by omega) (fun i s hi ⟨e1,hle,hS,m1,m2,x0,mk⟩=>by
   obtain⟨k,X,kn,M,E⟩:=s
   dsimp only at e1 hle hS m1 m2 x0 mk
   subst e1
   have hXl:=hS.len
   have hMl:=y2N (n:=i) (lo:=0) m1 m2 (Int.le_refl _)
   by_cases hiq:i < X.length
   ·left
    have hq:=hS.tr _ (List.getElem_mem hiq)
    obtain⟨s,hs⟩:∃s:Nat,X[i]=(s:Int):=⟨X[i].toNat,by omega⟩
    have hsn:s < n:=by omega
    have hsR:s < R.length:=by omega
    have hRs:R[s]=p.1.2.2.2.filter fun x=>x.1 == (s:Int) && p.2.2.2.getD x.2.2.toNat false:=by
     have:=f3 s hsn
     rw [yGe hsR] at this
     exact Option.some.inj this
    obtain⟨kn',X',E',w1,w2,U,hU⟩:=yf0 hr hal hS (by rw [yGe hiq,hs]) M hRs
    have hpre:∀c,c < X.length→X'[c]? =X[c]? :=fun c hc=>by rw [hU,List.getElem?_append_left hc]
    have hXX:X.length≤X'.length:=by rw [hU];simp
    have hiX':i < X'.length:=by omega
    have hXi:X'[i]=(s:Int):=by
     have:=hpre i hiq
     rw [yGe hiq,yGe hiX',hs] at this
     exact Option.some.inj this
    have hml:p.1.2.2.1.length < 4611686018427387904:=by have:=hr.l2;omega
    have hj1:∀M':List Int,Inc M'→(∀x∈M',0≤x∧x < ((i + 1:Nat):Int))→(∀x:Int,x≠(i:Int)→(x∈M'↔x∈M))→((i:Int)∈M'↔(s:Int)∈p.1.2.2.1)→
      ∃s',yK ((i:Int),X,kn,M,E) X' kn' M' E'=some (.inl s')∧s'.1=((i + 1:Nat):Int)∧i + 1≤s'.2.1.length∧SR (stK p.1 p.2.2.2) p.1.1 n (i + 1) 0 s'.2.1 s'.2.2.1 s'.2.2.2.2∧Inc s'.2.2.2.1∧(∀x∈s'.2.2.2.1,0≤x∧x < ((i + 1:Nat):Int))∧s'.2.1[0]? =some 0∧∀(c:Nat) (x:Int),c < i + 1→s'.2.1[c]? =some x→((c:Int)∈s'.2.2.2.1↔x∈p.1.2.2.1):=fun M' q1 q2 q3 q4=>by
     rw [yK]
     dsimp only
     rw [nxt (by omega)]
     refine⟨_,rfl,rfl,by dsimp only;omega,w2,q1,q2,?_,fun c x hc hx=>?_⟩
     ·dsimp only
      rw [hpre 0 (by omega)]
      exact x0
     ·dsimp only at hx ⊢
      rw [hpre c (by omega)] at hx
      by_cases e:c=i
      ·subst e
       rw [yGe hiq,hs] at hx
       cases hx
       exact q4
      ·rw [q3 _ (by omega)]
       exact mk c x (by omega) hx
    rw [yN]
    dsimp only
    rw [if_pos (ct_lt hiq),ya hiq,yOb,hs,ya hsR,yOb,w1,yOb]
    dsimp only
    rw [ya hiX',yOb,hXi,y5z hml,yOb]
    cases hm:hasB p.1.2.2.1 (s:Int) with
    | true=>
     rw [if_pos rfl,yo (by simp;omega),yOb]
     refine hj1 _ ?_ (fun x hx=>?_) (fun x hx=>?_) ⟨fun _=>yb.1 hm,fun _=>List.mem_append_right _ (List.mem_singleton.2 rfl)⟩
     ·unfold Inc at m1 ⊢
      rw [List.pairwise_append]
      exact⟨m1,List.pairwise_singleton _ _,fun c hc b hb=>by rw [List.mem_singleton.1 hb];exact(m2 c hc).2⟩
     ·rcases List.mem_append.1 hx with hx | hx
      ·have:=m2 x hx;omega
      ·rw [List.mem_singleton.1 hx];omega
     ·rw [List.mem_append,List.mem_singleton]
      exact⟨fun h=>h.resolve_right hx,.inl⟩
    | false=>
     rw [if_neg (by simp)]
     refine hj1 M m1 (fun x hx=>by have:=m2 x hx;omega) (fun x _=>Iff.rfl) ⟨fun hx=>by have:=m2 _ hx;omega,fun hx=>?_⟩
     rw [yb.2 hx] at hm
     cases hm
   ·right
    obtain rfl:i=X.length:=by omega
    refine⟨(X,M,E),?_,kn,hS,m1,m2,x0,fun c x hx=>mk c x (List.getElem?_eq_some_iff.1 hx).1 hx⟩
    rw [yN]
    dsimp only
    rw [if_neg ct_ge]) (fun s ⟨e1,hle,hS,m1,m2,x0,mk⟩=>by
   obtain⟨k,X,kn,M,E⟩:=s
   dsimp only at e1 hle hS m1 m2 x0 mk
   subst e1
   have hXl:=hS.len
   have hnq:n=X.length:=by omega
   refine⟨(X,M,E),?_,kn,by dsimp only;rw [←hnq];exact hnq ▸ hS,m1,by dsimp only;rw [←hnq];exact m2,x0,fun c x hx=>mk c x (by have h8:c < X.length:=(List.getElem?_eq_some_iff.1 hx).1;omega) hx⟩
   rw [yN]
   dsimp only
   rw [if_neg (by simp;omega)]) (Nat.zero_le _) (0,[0],kput [] 0 0,[],[]) ⟨rfl,by simp,hS0,List.Pairwise.nil,fun x hx=>(by cases hx),rfl,fun c x hc=>absurd hc (Nat.not_lt_zero _)⟩
 obtain⟨X,M,E⟩:=o
 dsimp only at g2 g3 g4 g5 g6
 have hXl:=g2.len
 have hEl:=g2.el
 have hMl:=y2N (n:=X.length) (lo:=0) g3 g4 (Int.le_refl _)
 have hX0:0 < X.length:=(List.getElem?_eq_some_iff.1 g5).1
 refine⟨(p.1.1,(X.length:Int),M,E),X,?_,⟨⟨rfl,by omega,hr.ali,hr.alr,g3,g4,fun x hx=>?_,g2.so,hl1,by dsimp only;omega,by dsimp only;omega⟩,rfl,fun _=>g5,g2.f.disc g2.nd g2.so g2.ea hr.alr,g6⟩,hXl,fun s hs=>?_⟩
 ·rw [if_neg (by simp),y7c (by omega) (by omega),yOb,Int.toNat_natCast,f1,yOb,g1]
  rfl
 ·obtain ⟨c,b,s,r,q1,q2,q3,q4,q5⟩:=g2.f.sn x hx
  have e3:=(List.getElem?_eq_some_iff.1 q3).1
  have e4:=(List.getElem?_eq_some_iff.1 q4).1
  exact⟨by omega,by omega,by omega,by omega,g2.ea x hx⟩
 ·refine ⟨(g2.tr s hs).1,(g2.tr s hs).2,?_⟩
  obtain⟨k,hk,rfl⟩:=List.getElem_of_mem hs
  by_cases hk0:k=0
  ·subst hk0
   rw [yGe hX0] at g5
   rw [Option.some.inj g5,Int.toNat_zero,List.getD_eq_getElem?_getD,yGe hg0,Option.getD_some,hb]
  ·obtain ⟨x,hx,e⟩:=g2.f.cov k (by omega) hk
   obtain⟨c,b,s,r,q1,q2,q3,q4,q5⟩:=g2.f.sn x hx
   obtain rfl:b=k:=by omega
   rw [yGe hk] at q4
   rw [Option.some.inj q4]
   exact((yar hr).1 q5).2
inductive LiveG (a:AutT) (g:List Bool):Nat→Prop
 | mk {s:Nat}:g[s]? =some true→(s:Int)∈a.2.2.1→LiveG a g s
 | st {s t:Nat} {e:Int}:g[s]? =some true→((s:Int),e,(t:Int))∈a.2.2.2→LiveG a g t→LiveG a g s
structure DQs (a:AutT) (g:List Bool) (n:Nat) (Q d:List Int):Prop where
 dl:d.length=n
 qn:Q.Nodup
 qd:∀(k:Nat) (x:Int),Q[k]? =some x→∃s:Nat,x=(s:Int)∧s < n∧∃v:Int,d[s]? =some v∧0≤v∧v≤(k:Int)
 lv:∀(s:Nat) (v:Int),d[s]? =some v→0≤v→LiveG a g s
theorem DQs.len {a:AutT} {g:List Bool} {n:Nat} {Q d:List Int} (h:DQs a g n Q d):Q.length≤n:=by
 have hr:∀x∈Q,0≤x∧x < (n:Int):=fun x hx=>by
  obtain⟨k,hk,rfl⟩:=List.getElem_of_mem hx
  obtain⟨s,e,h1,_⟩:=h.qd k _ (yGe hk)
  omega
 have:=y6B n (Q.map Int.toNat) (by
  unfold List.Nodup
  rw [List.pairwise_map]
  refine h.qn.imp_of_mem fun {a b} ha hb hab=>?_
  have h1:=hr a ha
  have h2:=hr b hb
  omega) (fun x hx=>by
  obtain⟨y,hy,rfl⟩:=List.mem_map.1 hx
  have:=hr y hy
  omega)
 simpa using this
theorem DQs.add {a:AutT} {g:List Bool} {n:Nat} {Q d:List Int} (h:DQs a g n Q d) {s:Nat} (hs:s < n) {v0 v:Int} (hd:d[s]? =some v0) (hv0:v0 < 0) (v1:0≤v) (v2:v≤(Q.length:Int)) (hl:LiveG a g s):DQs a g n (Q ++ [(s:Int)]) (d.set s v):=by
 have hsd:s < d.length:=by rw [h.dl];exact hs
 refine⟨by rw [List.length_set];exact h.dl,?_,fun k x hx=>?_,fun t w hw h0=>?_⟩
 ·unfold List.Nodup
  rw [List.pairwise_append]
  refine⟨h.qn,List.pairwise_singleton _ _,fun x hx y hy e=>?_⟩
  rw [List.mem_singleton.1 hy] at e
  subst e
  obtain⟨k,hk,e⟩:=List.getElem_of_mem hx
  obtain⟨s',e1,_,w,e2,e3,_⟩:=h.qd k _ (yGe hk)
  obtain rfl:s'=s:=by omega
  rw [hd] at e2
  cases e2
  omega
 ·by_cases hk:k < Q.length
  ·rw [List.getElem?_append_left hk] at hx
   obtain⟨s',e1,e2,w,e3,e4,e5⟩:=h.qd k x hx
   refine⟨s',e1,e2,?_⟩
   rw [List.getElem?_set]
   by_cases e:s=s'
   ·subst e
    rw [hd] at e3
    cases e3
    omega
   ·rw [if_neg e]
    exact⟨w,e3,e4,e5⟩
  ·rw [List.getElem?_append_right (by omega)] at hx
   have hk2:k - Q.length=0:=by
    have:=(List.getElem?_eq_some_iff.1 hx).1
    simp at this
    omega
   rw [hk2] at hx
   cases hx
   exact⟨s,rfl,hs,v,by rw [List.getElem?_set,if_pos rfl,if_pos hsd],v1,by omega⟩
 ·rw [List.getElem?_set] at hw
  by_cases e:s=t
  ·subst e
   exact hl
  ·rw [if_neg e] at hw
   exact h.lv t w hw h0
def IncOk (a:AutT) (n:Nat) (m:List (Int×List Int)):Prop:=∀(t:Int),((kget m t).getD []).length≤a.2.2.2.length∧∀x∈(kget m t).getD [],0≤x∧x < (n:Int)∧∃e,(x,e,t)∈a.2.2.2
section
variable {a:AutT} {n:Nat} {g:List Bool} {u:List Int} {m:List (Int×List Int)}
theorem ydm (hr:Right a n) (hg:g.length=n):∃Q d,iter (yY (a,u,m,g)) (0,[],List.replicate n (-1))=some (Q,d)∧DQs a g n Q d:=by
 have hl2:=hr.l2
 have hnl:=hr.nl
 obtain⟨o,h1,h2⟩:=yc (f:=yY (a,u,m,g)) (fun i s=>s.1=(i:Int)∧i≤a.2.2.1.length∧DQs a g n s.2.1 s.2.2∧∀(t:Nat) (v:Int),s.2.2[t]? =some v→0≤v→∃k,k < i∧a.2.2.1[k]? =some (t:Int)) (fun o=>DQs a g n o.1 o.2) a.2.2.1.length 0 (by omega) (fun i s hi ⟨e1,_,hd,hm⟩=>by
   obtain⟨c,Q,d⟩:=s
   dsimp only at e1 hd hm
   subst e1
   have hQl:=hd.len
   have hx:=hr.msr _ (List.getElem_mem hi)
   obtain⟨t,ht⟩:∃t:Nat,a.2.2.1[i]=(t:Int):=⟨(a.2.2.1[i]).toNat,by omega⟩
   have htg:t < g.length:=by omega
   have htd:t < d.length:=by rw [hd.dl];omega
   left
   rw [yY]
   dsimp only
   rw [if_pos (ct_lt hi),ya hi,yOb,ht,ya htg,yOb]
   cases hgb:g[t] with
   | true=>
    have hgt:g[t]? =some true:=by rw [yGe htg,hgb]
    have hneg:d[t] < 0:=by
     refine Int.not_le.1 fun h0=>?_
     obtain⟨k,hk,e⟩:=hm t _ (yGe htd) h0
     have hkl:k < a.2.2.1.length:=by omega
     rw [yGe hkl] at e
     have:=List.pairwise_iff_getElem.1 hr.msi k i hkl hi hk
     rw [Option.some.inj e,ht] at this
     omega
    rw [if_pos rfl,ya htd,yOb,y5p htd,yOb,yo (by simp;omega),yOb,yX]
    dsimp only
    rw [nxt (by omega)]
    refine⟨_,rfl,rfl,hi,hd.add (by omega) (yGe htd) hneg (Int.le_refl _) (by omega) (.mk hgt (by rw [←ht];exact List.getElem_mem hi)),fun s' v hv h0=>?_⟩
    dsimp only at hv
    rw [List.getElem?_set] at hv
    by_cases e:t=s'
    ·subst e
     exact⟨i,by omega,by rw [yGe hi,ht]⟩
    ·rw [if_neg e] at hv
     obtain⟨k,hk,e2⟩:=hm s' v hv h0
     exact⟨k,by omega,e2⟩
   | false=>
    rw [if_neg (by simp),yX]
    dsimp only
    rw [nxt (by omega)]
    refine⟨_,rfl,rfl,hi,hd,fun s' v hv h0=>?_⟩
    obtain⟨k,hk,e2⟩:=hm s' v hv h0
    exact⟨k,by omega,e2⟩) (fun s ⟨e1,_,hd,hm⟩=>by
   obtain⟨c,Q,d⟩:=s
   dsimp only at e1 hd
   subst e1
   refine⟨(Q,d),?_,hd⟩
   rw [yY]
   dsimp only
   rw [if_neg ct_ge]) (Nat.zero_le _) (0,[],List.replicate n (-1)) ⟨rfl,Nat.zero_le _,⟨by simp,List.nodup_nil,fun k x hx=>by simp at hx,fun s v hv h0=>by
    rw [List.getElem?_replicate] at hv
    split at hv
    ·cases hv
     omega
    ·cases hv⟩,fun s v hv h0=>by
    dsimp only at hv
    rw [List.getElem?_replicate] at hv
    split at hv
    ·cases hv
     omega
    ·cases hv⟩
 exact⟨o.1,o.2,h1,h2⟩
theorem yfH (hr:Right a n) (hg:g.length=n) (hm:IncOk a n m) {i:Nat} {Q d:List Int} (hd:DQs a g n Q d) (hi:i < Q.length) (z:List Int×List Int):
  ∃Q' d',iter (yV (a,u,m,g) ((i:Int),z) Q[i]) (0,Q,d)=some (Q',d')∧DQs a g n Q' d'∧Q.length≤Q'.length:=by
 have hl3:=hr.l3
 have hnl:=hr.nl
 obtain⟨ml,mm⟩:=hm Q[i]
 obtain⟨q,hq,hqn,vq,hvq,hvq0,_⟩:=hd.qd i _ (yGe hi)
 have hlq:=hd.lv q vq hvq hvq0
 obtain⟨o,h1,h2,h3⟩:=yc (f:=yV (a,u,m,g) ((i:Int),z) Q[i]) (fun k s=>s.1=(k:Int)∧k≤((kget m Q[i]).getD []).length∧DQs a g n s.2.1 s.2.2∧Q.length≤s.2.1.length) (fun o=>DQs a g n o.1 o.2∧Q.length≤o.1.length) ((kget m Q[i]).getD []).length 0 (by omega) (fun k s hk ⟨e1,_,hd1,hle⟩=>by
   obtain⟨c,Q1,d1⟩:=s
   dsimp only at e1 hd1 hle
   subst e1
   have hQl:=hd1.len
   obtain⟨x0,x1,e,hxe⟩:=mm _ (List.getElem_mem hk)
   obtain⟨t,ht⟩:∃t:Nat,((kget m Q[i]).getD [])[k]=(t:Int):=⟨(((kget m Q[i]).getD [])[k]).toNat,by omega⟩
   rw [ht] at hxe x1
   have htg:t < g.length:=by omega
   have htd:t < d1.length:=by rw [hd1.dl];omega
   have hi1:i < Q1.length:=by omega
   have hj1:∀Q2 d2,yU ((k:Int),Q1,d1) Q2 d2=some (.inl (((k + 1:Nat):Int),Q2,d2)):=fun Q2 d2=>by
    rw [yU]
    dsimp only
    rw [nxt (by omega)]
   left
   rw [yV]
   dsimp only
   rw [if_pos (ct_lt hk),ya hk,yOb,ht,ya htg,yOb,ya htd]
   cases hgb:g[t] with
   | true=>
    have hgt:g[t]? =some true:=by rw [yGe htg,hgb]
    rw [if_pos rfl,yOb,yOb]
    by_cases hneg:d1[t] < 0
    ·obtain ⟨q1,e1,e2,v1,e3,e4,e5⟩:=hd1.qd i _ (yGe hi1)
     have hq1d:q1 < d1.length:=by rw [hd1.dl];exact e2
     have hv1:d1[q1]=v1:=by
      rw [yGe hq1d] at e3
      exact Option.some.inj e3
     rw [if_pos (by simpa using hneg),ya hi1,yOb,e1,ya hq1d,yOb,yOb,y5p htd,yOb,yo (by simp;omega),yOb,hj1]
     refine⟨_,rfl,rfl,hk,hd1.add (by omega) (yGe htd) hneg ?_ ?_ (.st (e:=e) hgt ?_ hlq),by dsimp only;simp;omega⟩
     ·rw [hv1,W_of (by omega) (by omega)];omega
     ·rw [hv1,W_of (by omega) (by omega)];omega
     ·rw [←hq]
      exact hxe
    ·rw [if_neg (by simpa using hneg),hj1]
     exact⟨_,rfl,rfl,hk,hd1,hle⟩
   | false=>
    rw [if_neg (by simp),yOb,if_neg (by simp),hj1]
    exact⟨_,rfl,rfl,hk,hd1,hle⟩) (fun s ⟨e1,_,hd1,hle⟩=>by
   obtain⟨c,Q1,d1⟩:=s
   dsimp only at e1 hd1 hle
   subst e1
   refine⟨(Q1,d1),?_,hd1,hle⟩
   rw [yV]
   dsimp only
   rw [if_neg ct_ge]) (Nat.zero_le _) (0,Q,d) ⟨rfl,Nat.zero_le _,hd,Nat.le_refl _⟩
 exact⟨o.1,o.2,h1,h2,h3⟩
theorem yd3 (hr:Right a n) (hg:g.length=n) (hm:IncOk a n m):∃d,y1i (a,u,m,g)=some d∧d.length=n∧∀(s:Nat) (v:Int),d[s]? =some v→0≤v→LiveG a g s:=by
 have hnn:=hr.nn
 have hnl:=hr.nl
 have hf:iter (yZ (List.replicate n 0)) (0,List.replicate n 0)=some (List.replicate n (-1)):=by
  obtain⟨o,g1,rfl⟩:=yc (f:=yZ (List.replicate n 0)) (fun i s=>i≤n∧s=((i:Int),List.replicate i (-1) ++ List.replicate (n - i) 0)) (fun o=>o=List.replicate n (-1)) n 0 (by omega) (fun i s hi ⟨_,e1⟩=>by
    subst e1
    refine .inl ⟨(((i + 1:Nat):Int),List.replicate (i + 1) (-1) ++ List.replicate (n - (i + 1)) 0),?_,hi,rfl⟩
    rw [yZ]
    dsimp only
    rw [if_pos (by simp;omega),ya (by simp;omega),yOb,y5p (by simp;omega),yOb,nxt (by omega)]
    rw [List.set_append_right _ _ (by simp),List.length_replicate,Nat.sub_self,show n - i=(n - (i + 1)) + 1 by omega,List.replicate_succ,List.set_cons_zero,List.replicate_succ',List.append_assoc]
    rfl) (fun s ⟨_,e1⟩=>by
    subst e1
    refine⟨_,?_,rfl⟩
    rw [yZ]
    dsimp only
    rw [if_neg (by simp),Nat.sub_self]
    simp) (Nat.zero_le _) (0,List.replicate n 0) ⟨Nat.zero_le _,by simp⟩
  exact g1
 obtain⟨Q,d,h1,h2⟩:=ydm (u:=u) (m:=m) hr hg
 obtain⟨o,h3,h4,h5⟩:=yc (f:=yW (a,u,m,g)) (fun i s=>s.1=(i:Int)∧i≤s.2.1.length∧DQs a g n s.2.1 s.2.2) (fun o=>o.length=n∧∀(s:Nat) (v:Int),o[s]? =some v→0≤v→LiveG a g s) n 0 (by omega) (fun i s hi ⟨e1,hle,hd⟩=>by
   obtain⟨c,Q,d⟩:=s
   dsimp only at e1 hd hle
   subst e1
   by_cases hiq:i < Q.length
   ·left
    obtain⟨Q',d',w1,w2,w3⟩:=yfH (u:=u) hr hg hm hd hiq (Q,d)
    rw [yW]
    dsimp only
    rw [if_pos (ct_lt hiq),ya hiq,yOb,w1,yOb,nxt (by omega)]
    exact⟨_,rfl,rfl,by dsimp only;omega,w2⟩
   ·right
    obtain rfl:i=Q.length:=by omega
    refine⟨d,?_,hd.dl,hd.lv⟩
    rw [yW]
    dsimp only
    rw [if_neg ct_ge]) (fun s ⟨e1,hle,hd⟩=>by
   obtain⟨c,Q,d⟩:=s
   dsimp only at e1 hd hle
   subst e1
   have:=hd.len
   refine⟨d,?_,hd.dl,hd.lv⟩
   rw [yW]
   dsimp only
   rw [if_neg (by simp;omega)]) (Nat.zero_le _) (0,Q,d) ⟨rfl,Nat.zero_le _,h2⟩
 refine⟨o,?_,h4,h5⟩
 rw [y1i]
 dsimp only
 rw [hnn,y7c (by omega) (by omega),yOb,Int.toNat_natCast,hf,yOb,h1,yOb,h3]
 rfl
end
theorem yef :∀{g g':List Bool},g'.length=g.length→(∀s:Nat,g'[s]? =some true→g[s]? =some true)→g'.count true≤g.count true
 | [],[],_,_=>Nat.le_refl _
 | [],_ :: _,h,_=>by simp at h
 | _ :: _,[],h,_=>by simp at h
 | x :: g,y :: g',h,hs=>by
  have ih:=yef (g:=g) (g':=g') (by simpa using h) fun s hs'=>hs (s + 1) (by simpa using hs')
  have h0:=hs 0
  cases y with
  | true=>
   have:x=true:=by simpa using h0 rfl
   subst this
   simp [ih]
  | false=>cases x <;> simp <;> omega
theorem yeg :∀{g g':List Bool},g'.length=g.length→(∀s:Nat,g'[s]? =some true→g[s]? =some true)→∀{s:Nat},g[s]? =some true→g'[s]? ≠some true→g'.count true < g.count true
 | [],[],_,_,s,h,_=>by simp at h
 | [],_ :: _,h,_,_,_,_=>by simp at h
 | _ :: _,[],h,_,_,_,_=>by simp at h
 | x :: g,y :: g',h,hs,0,h1,h2=>by
  have:=yef (g:=g) (g':=g') (by simpa using h) fun s hs'=>hs (s + 1) (by simpa using hs')
  have hx:x=true:=by simpa using h1
  subst hx
  cases y with
  | true=>exact absurd rfl h2
  | false=>simp;omega
 | x :: g,y :: g',h,hs,s + 1,h1,h2=>by
  have:=yeg (g:=g) (g':=g') (by simpa using h) (fun s hs'=>hs (s + 1) (by simpa using hs')) (s:=s) (by simpa using h1) (by simpa using h2)
  have h0:=hs 0
  cases y with
  | true=>
   have hx:x=true:=by simpa using h0 rfl
   subst hx
   simp
   omega
  | false=>cases x <;> simp <;> omega
theorem ydn {L:List (Int×Int×Int×Int)} (h:∀x∈L,0≤x.1∧x.1 < 4294967296) (hl:L.length≤4294967296):∃r,y1N L=some r:=by
 unfold y1N
 by_cases h0:L= []
 ·subst h0
  rw [dif_neg (by simp),if_pos rfl]
  exact⟨_,rfl⟩
 ·rw [dif_pos ⟨h,hl,List.length_pos_iff.2 h0⟩]
  exact⟨_,rfl⟩
def RemIn (g:List Bool) (L:List (Int×Int×Int×Int)):Prop:=∀x∈L,∃s:Nat,x.1=(s:Int)∧g[s]? =some true
theorem RemIn.app {g:List Bool} {L:List (Int×Int×Int×Int)} (h:RemIn g L) {x:Int×Int×Int×Int} {s:Nat} (hx:x.1=(s:Int)) (hg:g[s]? =some true):RemIn g (L ++ [x]):=fun y hy=>by
 rcases List.mem_append.1 hy with hy | hy
 ·exact h y hy
 ·rw [List.mem_singleton.1 hy]
  exact⟨s,hx,hg⟩
section
variable {a:AutT} {n:Nat} {g:List Bool} {u:List Int} {m:List (Int×List Int)}
theorem yfI (hr:Right a n) (hg:g.length=n) (hu:u.length < 4611686018427387904) (k:Int):∃L,y3n (a,u,m,g) k=some L∧L.length≤a.2.2.2.length∧RemIn g L:=by
 have hl3:=hr.l3
 have hnl:=hr.nl
 obtain⟨o,h1,h2,h3⟩:=yc (f:=y2p (a,u,m,g) k) (fun i s=>s.1=(i:Int)∧i≤a.2.2.2.length∧s.2.length≤i∧RemIn g s.2) (fun o=>o.length≤a.2.2.2.length∧RemIn g o) a.2.2.2.length 0 (by omega) (fun i s hi ⟨e1,_,hL,hR⟩=>by
   obtain⟨c,L⟩:=s
   dsimp only at e1 hL hR
   subst e1
   have hx:=hr.es _ (List.getElem_mem hi)
   obtain⟨q,hq⟩:∃q:Nat,(a.2.2.2[i]).1=(q:Int):=⟨(a.2.2.2[i]).1.toNat,by omega⟩
   obtain⟨t,ht⟩:∃t:Nat,(a.2.2.2[i]).2.2=(t:Int):=⟨(a.2.2.2[i]).2.2.toNat,by omega⟩
   have hqg:q < g.length:=by omega
   have htg:t < g.length:=by omega
   have hj1:∀L':List (Int×Int×Int×Int),L'.length≤i + 1→RemIn g L'→∃s',y1b ((i:Int),L) L'=some (.inl s')∧s'.1=((i + 1:Nat):Int)∧i + 1≤a.2.2.2.length∧s'.2.length≤i + 1∧RemIn g s'.2:=fun L' g1 g2=>by
    rw [y1b]
    dsimp only
    rw [nxt (by omega)]
    exact⟨_,rfl,rfl,hi,g1,g2⟩
   have hj3:g[q]? =some true→∀b,∃s',y1s k ((i:Int),L) a.2.2.2[i] b=some (.inl s')∧s'.1=((i + 1:Nat):Int)∧i + 1≤a.2.2.2.length∧s'.2.length≤i + 1∧RemIn g s'.2:=fun hgq b=>by
    rw [y1s]
    cases b with
    | true=>
     rw [if_pos rfl]
     exact hj1 _ (by dsimp only;omega) hR
    | false=>
     rw [if_neg (by simp)]
     dsimp only
     rw [yo (by simp;omega),yOb]
     exact hj1 _ (by simp;omega) (hR.app hq hgq)
   left
   rw [y2p]
   dsimp only
   rw [if_pos (ct_lt hi),ya hi,yOb,hq,ya hqg,yOb]
   cases hgb:g[q] with
   | false=>
    rw [if_pos (show (!false)=true from rfl),yC,if_pos rfl]
    exact hj1 _ (by dsimp only;omega) hR
   | true=>
    have hgq:g[q]? =some true:=by rw [yGe hqg,hgb]
    rw [if_neg (by simp),ht,ya htg,yOb]
    cases g[t] with
    | true=>
     rw [if_pos rfl,yC,if_pos rfl]
     exact hj1 _ (by dsimp only;omega) hR
    | false=>
     rw [if_neg (by simp),y5z hu,yOb,yC]
     cases hasB u (a.2.2.2[i]).2.1 with
     | false=>
      rw [if_pos (show (!false)=true from rfl)]
      exact hj1 _ (by dsimp only;omega) hR
     | true=>
      rw [if_neg (by simp)]
      dsimp only
      by_cases hL0:0 < L.length
      ·rw [if_pos (by rw [decide_eq_true_eq];omega),show W ((L.length:Int) - 1)=((L.length - 1:Nat):Int) by rw [W_of (by omega) (by omega)];omega,ya (by omega),yOb]
       exact hj3 hgq _
      ·rw [if_neg (by rw [decide_eq_true_eq];omega)]
       exact hj3 hgq _) (fun s ⟨e1,_,hL,hR⟩=>by
   obtain⟨c,L⟩:=s
   dsimp only at e1 hL hR
   subst e1
   refine⟨L,?_,hL,hR⟩
   rw [y2p]
   dsimp only
   rw [if_neg ct_ge]) (Nat.zero_le _) (0,[]) ⟨rfl,Nat.zero_le _,Nat.zero_le _,fun x hx=>by cases hx⟩
 exact⟨o,by rw [y3n,h1];rfl,h2,h3⟩
theorem ydo (hr:Right a n) (hg:g.length=n) (hm:IncOk a n m) (k:Int):∃L,y2q (a,u,m,g) k=some L∧L.length≤n∧RemIn g L∧(L= []→∀s:Nat,g[s]? =some true→LiveG a g s):=by
 have hnl:=hr.nl
 obtain⟨d,d1,d2,d3⟩:=yd3 (u:=u) hr hg hm
 obtain⟨o,h1,h2,h3,h4⟩:=yc (f:=y1A (a,u,m,g) k d) (fun i s=>s.1=(i:Int)∧i≤n∧s.2.length≤i∧RemIn g s.2∧(s.2= []→∀t:Nat,t < i→g[t]? =some true→LiveG a g t)) (fun o=>o.length≤n∧RemIn g o∧(o= []→∀t:Nat,t < n→g[t]? =some true→LiveG a g t)) n 0 (by omega) (fun i s hi ⟨e1,_,hL,hR,hv⟩=>by
   obtain⟨c,L⟩:=s
   dsimp only at e1 hL hR hv
   subst e1
   have hid:i < d.length:=by omega
   have hig:i < g.length:=by omega
   left
   rw [y1A]
   dsimp only
   rw [if_pos (by simp;omega),ya hid,yOb,ya hig,yOb]
   by_cases hb:g[i]=true∧d[i] < 0
   ·rw [if_pos (by simp;exact hb),yo (by simp;omega),yOb,y1e]
    dsimp only
    rw [nxt (by omega)]
    exact⟨_,rfl,rfl,hi,by simp;omega,hR.app rfl (by rw [yGe hig,hb.1]),fun h=>by simp at h⟩
   ·rw [if_neg (by simp;exact fun h=>Int.not_lt.1 fun h2=>hb ⟨h,h2⟩),y1e]
    dsimp only
    rw [nxt (by omega)]
    refine⟨_,rfl,rfl,hi,by dsimp only;omega,hR,fun h t ht hgt=>?_⟩
    by_cases e:t=i
    ·subst e
     refine d3 t _ (yGe hid) (Int.not_lt.1 fun h2=>hb ⟨?_,h2⟩)
     rw [yGe hig] at hgt
     exact Option.some.inj hgt
    ·exact hv h t (by omega) hgt) (fun s ⟨e1,_,hL,hR,hv⟩=>by
   obtain⟨c,L⟩:=s
   dsimp only at e1 hL hR hv
   subst e1
   refine⟨L,?_,hL,hR,hv⟩
   rw [y1A]
   dsimp only
   rw [if_neg (by simp;omega)]) (Nat.zero_le _) (0,[]) ⟨rfl,Nat.zero_le _,Nat.zero_le _,fun x hx=>by(cases hx),fun _ t ht=>absurd ht (Nat.not_lt_zero _)⟩
 refine⟨o,by rw [y2q,d1,yOb,h1];rfl,h2,h3,fun h s hs=>h4 h s ?_ hs⟩
 rw [←hg]
 exact(List.getElem?_eq_some_iff.1 hs).1
theorem ych (hr:Right a n) (hg:g.length=n) (hm:IncOk a n m) (hu:u.length < 4611686018427387904) (k:Int):∃L,y3o (a,u,m,g) k true=some L∧L.length≤1000000∧RemIn g L∧(L= []→∀s:Nat,g[s]? =some true→LiveG a g s):=by
 have hl3:=hr.l3
 have hnl:=hr.nl
 obtain⟨L,h1,h2,h3⟩:=yfI (m:=m) hr hg hu k
 obtain⟨L',w1,w2,w3,w4⟩:=ydo (u:=u) hr hg hm k
 rw [y3o,h1,yOb]
 by_cases h0:0 < L.length
 ·rw [if_pos (by rw [decide_eq_true (show (L.length:Int) > 0 by omega)];rfl)]
  exact⟨L,rfl,by omega,h3,fun h=>by rw [h] at h0;simp at h0⟩
 ·rw [if_neg (by rw [decide_eq_false (show ¬(L.length:Int) > 0 by omega)];simp),w1]
  exact⟨L',rfl,by omega,w3,w4⟩
theorem yeh (hr:Right a n) {f:List Int} (hf:∀x∈f,0≤x∧x < (n:Int)) (hfl:f.length≤1000000) (u:List Int):∃m g,y5d a f u=some (a,u,m,g)∧g.length=n∧IncOk a n m:=by
 have hnn:=hr.nn
 have hnl:=hr.nl
 have hl3:=hr.l3
 have h1:iter (y3w (List.replicate n false)) (0,List.replicate n false)=some (List.replicate n true):=by
  obtain⟨o,g1,rfl⟩:=yc (f:=y3w (List.replicate n false)) (fun i s=>i≤n∧s=((i:Int),List.replicate i true ++ List.replicate (n - i) false)) (fun o=>o=List.replicate n true) n 0 (by omega) (fun i s hi ⟨_,e1⟩=>by
    subst e1
    refine .inl ⟨(((i + 1:Nat):Int),List.replicate (i + 1) true ++ List.replicate (n - (i + 1)) false),?_,hi,rfl⟩
    rw [y3w]
    dsimp only
    rw [if_pos (by simp;omega),ya (by simp;omega),yOb,y5p (by simp;omega),yOb,nxt (by omega)]
    rw [List.set_append_right _ _ (by simp),List.length_replicate,Nat.sub_self,show n - i=(n - (i + 1)) + 1 by omega,List.replicate_succ,List.set_cons_zero,List.replicate_succ',List.append_assoc]
    rfl) (fun s ⟨_,e1⟩=>by
    subst e1
    refine⟨_,?_,rfl⟩
    rw [y3w]
    dsimp only
    rw [if_neg (by simp),Nat.sub_self]
    simp) (Nat.zero_le _) (0,List.replicate n false) ⟨Nat.zero_le _,by simp⟩
  exact g1
 obtain⟨g,h2,h3⟩:=yc (f:=y4u f) (fun i s=>s.1=(i:Int)∧i≤f.length∧s.2.length=n) (fun o=>o.length=n) f.length 0 (by omega) (fun i s hi ⟨e1,_,hl⟩=>by
   obtain⟨c,g⟩:=s
   dsimp only at e1 hl
   subst e1
   have hx:=hf _ (List.getElem_mem hi)
   obtain⟨t,ht⟩:∃t:Nat,f[i]=(t:Int):=⟨(f[i]).toNat,by omega⟩
   have htg:t < g.length:=by omega
   left
   rw [y4u]
   dsimp only
   rw [if_pos (ct_lt hi),ya hi,yOb,ht,ya htg,yOb,y5p htg,yOb,nxt (by omega)]
   exact⟨_,rfl,rfl,hi,by dsimp only;rw [List.length_set];exact hl⟩) (fun s ⟨e1,_,hl⟩=>by
   obtain⟨c,g⟩:=s
   dsimp only at e1 hl
   subst e1
   refine⟨g,?_,hl⟩
   rw [y4u]
   dsimp only
   rw [if_neg ct_ge]) (Nat.zero_le _) (0,List.replicate n true) ⟨rfl,Nat.zero_le _,by simp⟩
 obtain⟨m,h4,h5⟩:=yc (f:=y4t a) (fun i s=>s.1=(i:Int)∧i≤a.2.2.2.length∧∀t,((kget s.2 t).getD []).length≤i∧∀x∈(kget s.2 t).getD [],0≤x∧x < (n:Int)∧∃e,(x,e,t)∈a.2.2.2) (fun o=>IncOk a n o) a.2.2.2.length 0 (by omega) (fun i s hi ⟨e1,_,hm⟩=>by
   obtain⟨c,m⟩:=s
   dsimp only at e1 hm
   subst e1
   have hx:=hr.es _ (List.getElem_mem hi)
   obtain⟨m1,m2⟩:=hm (a.2.2.2[i]).2.2
   left
   rw [y4t]
   dsimp only
   rw [if_pos (ct_lt hi),ya hi,yOb,yo (by simp;omega),yOb,nxt (by omega)]
   refine⟨_,rfl,rfl,hi,fun t=>?_⟩
   dsimp only
   rw [y2r]
   by_cases e:t=(a.2.2.2[i]).2.2
   ·subst e
    rw [if_pos rfl,Option.getD_some]
    refine⟨by simp;omega,fun x hx'=>?_⟩
    rcases List.mem_append.1 hx' with hx' | hx'
    ·exact m2 x hx'
    ·rw [List.mem_singleton.1 hx']
     exact⟨hx.1,hx.2.1,(a.2.2.2[i]).2.1,List.getElem_mem hi⟩
   ·rw [if_neg e]
    exact⟨by have:=(hm t).1;omega,(hm t).2⟩) (fun s ⟨e1,_,hm⟩=>by
   obtain⟨c,m⟩:=s
   dsimp only at e1 hm
   subst e1
   refine⟨m,?_,hm⟩
   rw [y4t]
   dsimp only
   rw [if_neg ct_ge]) (Nat.zero_le _) (0,[]) ⟨rfl,Nat.zero_le _,fun t=>⟨by simp [kget],fun x hx=>by simp [kget] at hx⟩⟩
 refine⟨m,g,?_,h3,h5⟩
 rw [y5d,hnn,y7c (by omega) (by omega),yOb,Int.toNat_natCast,h1,yOb,h2,yOb,h4]
 rfl
theorem yf2 (hn:n≤4096) (hg:g.length=n) {L:List (Int×Int×Int×Int)} (hL:RemIn g L) (hl:L.length≤1000000):∃g',iter (y3d L) (0,g)=some g'∧g'.length=n∧(∀s:Nat,g'[s]? =some true→g[s]? =some true)∧∀(k s:Nat) (h:k < L.length),(L[k]).1=(s:Int)→g'[s]? ≠some true:=by
 obtain⟨o,h1,h2,h3,h4⟩:=yc (f:=y3d L) (fun i s=>s.1=(i:Int)∧i≤L.length∧s.2.length=n∧(∀t:Nat,s.2[t]? =some true→g[t]? =some true)∧∀(k t:Nat) (h:k < L.length),k < i→(L[k]).1=(t:Int)→s.2[t]? ≠some true) (fun o=>o.length=n∧(∀t:Nat,o[t]? =some true→g[t]? =some true)∧∀(k t:Nat) (h:k < L.length),(L[k]).1=(t:Int)→o[t]? ≠some true) L.length 0 (by omega) (fun i s hi ⟨e1,_,q1,q2,q3⟩=>by
   obtain⟨c,g1⟩:=s
   dsimp only at e1 q1 q2 q3
   subst e1
   obtain⟨t,ht,hgt⟩:=hL _ (List.getElem_mem hi)
   have htl:t < g1.length:=by
    have:=(List.getElem?_eq_some_iff.1 hgt).1
    omega
   left
   rw [y3d]
   dsimp only
   rw [if_pos (ct_lt hi),ya hi,yOb,ht,ya htl,yOb,y5p htl,yOb,nxt (by omega)]
   refine⟨_,rfl,rfl,hi,by dsimp only;rw [List.length_set];exact q1,fun s' hs'=>?_,fun k s' hk hki e=>?_⟩
   ·dsimp only at hs'
    rw [List.getElem?_set] at hs'
    by_cases e2:t=s'
    ·subst e2
     rw [if_pos rfl,if_pos htl] at hs'
     cases hs'
    ·rw [if_neg e2] at hs'
     exact q2 s' hs'
   ·dsimp only
    rw [List.getElem?_set]
    by_cases e2:t=s'
    ·subst e2
     rw [if_pos rfl,if_pos htl]
     simp
    ·rw [if_neg e2]
     by_cases e3:k=i
     ·subst e3
      omega
     ·exact q3 k s' hk (by omega) e) (fun s ⟨e1,_,q1,q2,q3⟩=>by
   obtain⟨c,g1⟩:=s
   dsimp only at e1 q1 q2 q3
   subst e1
   refine⟨g1,?_,q1,q2,fun k t h e=>q3 k t h h e⟩
   rw [y3d]
   dsimp only
   rw [if_neg ct_ge]) (Nat.zero_le _) (0,g) ⟨rfl,Nat.zero_le _,hg,fun t h=>h,fun k t h hk=>absurd hk (Nat.not_lt_zero _)⟩
 exact⟨o,h1,h2,h3,h4⟩
end
section
variable {a:AutT} {n:Nat} {u f:List Int}
structure SynOk (a:AutT) (n:Nat) (g:List Bool) (r:AutT) (X:List Int):Prop where
 gl:g.length=n
 can:CanOf (stK a g) a.1 a.2.2.1 r X
 le:X.length≤n
 kept:∀s∈X,0≤s∧s < (n:Int)∧g.getD s.toNat false=true
 live:∀s:Nat,g[s]? =some true→LiveG a g s
theorem yei (hr:Right a n) (hn:n≤40) (hf:∀x∈f,0≤x∧x < (n:Int)) (hfl:f.length≤1000000) (hu:u.length < 4611686018427387904):
  ∃z k g r X,y4U a f u true=some (z,k,r,X)∧SynOk a n g r X:=by
 obtain⟨m,g0,s1,s2,s3⟩:=yeh hr hf hfl u
 obtain⟨o1,h1,h2,h3⟩:=yc (f:=y4h f) (fun i s=>s.1=(i:Int)∧i≤f.length∧s.2.1.length≤i∧∀x∈s.2.1,0≤x.1∧x.1 < (n:Int)) (fun o=>o.1.length≤f.length∧∀x∈o.1,0≤x.1∧x.1 < (n:Int)) f.length 0 (by omega) (fun i s hi ⟨e1,_,q1,q2⟩=>by
   obtain⟨c,L,w⟩:=s
   dsimp only at e1 q1 q2
   subst e1
   left
   rw [y4h]
   dsimp only
   rw [if_pos (ct_lt hi),ya hi,yOb,yo (by simp;omega),yOb,nxt (by omega)]
   refine⟨_,rfl,rfl,hi,by simp;omega,fun x hx=>?_⟩
   dsimp only at hx
   rcases List.mem_append.1 hx with hx | hx
   ·exact q2 x hx
   ·rw [List.mem_singleton.1 hx]
    exact hf _ (List.getElem_mem hi)) (fun s ⟨e1,_,q1,q2⟩=>by
   obtain⟨c,L,w⟩:=s
   dsimp only at e1 q1 q2
   subst e1
   refine⟨(L,w),?_,q1,q2⟩
   rw [y4h]
   dsimp only
   rw [if_neg ct_ge]) (Nat.zero_le _) (0,[],0) ⟨rfl,Nat.zero_le _,Nat.zero_le _,fun x hx=>by cases hx⟩
 obtain⟨o2,h4,h5,h6,h7,h8⟩:=yc (f:=y4g true (a,u,m,g0)) (fun i s=>s.2.1.length≤1000000 + i * 1000000∧(∀x∈s.2.1,0≤x.1∧x.1 < (n:Int))∧s.2.2.2.length=n∧i + s.2.2.2.count true≤n) (fun o=>o.1.length≤100000000∧(∀x∈o.1,0≤x.1∧x.1 < (n:Int))∧o.2.2.length=n∧∀s:Nat,o.2.2[s]? =some true→LiveG a o.2.2 s) n 0 (by omega) (fun i s hi ⟨q1,q2,q3,q4⟩=>by
   obtain⟨c,L,w,g⟩:=s
   dsimp only at q1 q2 q3 q4
   obtain⟨R,r1,r2,r3,r4⟩:=ych (u:=u) hr q3 s3 hu c
   rw [y4g]
   dsimp only
   rw [r1,yOb]
   by_cases h0:R= []
   ·right
    subst h0
    rw [if_pos (by simp)]
    exact⟨_,rfl,by dsimp only;omega,q2,q3,r4 rfl⟩
   ·left
    have hRl:0 < R.length:=List.length_pos_iff.2 h0
    obtain⟨g',w1,w2,w3,w4⟩:=yf2 (n:=n) (by omega) q3 r3 r2
    rw [if_neg (by simp [h0]),w1,yOb,yo (by omega),yOb]
    obtain⟨t,ht,hgt⟩:=r3 _ (List.getElem_mem hRl)
    have hc:=yeg (by omega) w3 hgt (w4 0 t hRl ht)
    refine⟨_,rfl,by simp;omega,fun x hx=>?_,w2,by dsimp only;omega⟩
    dsimp only at hx
    rcases List.mem_append.1 hx with hx | hx
    ·exact q2 x hx
    ·obtain ⟨s',e,hs'⟩:=r3 x hx
     have:=(List.getElem?_eq_some_iff.1 hs').1
     omega) (fun s ⟨q1,q2,q3,q4⟩=>by
   obtain⟨c,L,w,g⟩:=s
   dsimp only at q1 q2 q3 q4
   obtain⟨R,r1,r2,r3,r4⟩:=ych (u:=u) hr q3 s3 hu c
   rw [y4g]
   dsimp only
   rw [r1,yOb]
   by_cases h0:R= []
   ·subst h0
    rw [if_pos (by simp)]
    exact⟨_,rfl,by dsimp only;omega,q2,q3,r4 rfl⟩
   ·exfalso
    have hRl:0 < R.length:=List.length_pos_iff.2 h0
    obtain⟨t,ht,hgt⟩:=r3 _ (List.getElem_mem hRl)
    have:0 < g.count true:=List.count_pos_iff.2 (List.mem_of_getElem? hgt)
    omega) (Nat.zero_le _) (2,o1.1,o1.2,g0) ⟨by dsimp only;omega,h3,s2,by
    dsimp only
    have:=List.count_le_length (a:=true) (l:=g0)
    omega⟩
 obtain⟨rem,hrem⟩:=ydn (fun x hx=>by have:=h6 x hx;omega) (by omega:o2.1.length≤4294967296)
 obtain⟨d,d1,d2,d3⟩:=yd3 (u:=u) hr h7 s3
 obtain⟨o3,h9⟩:∃o3,iter (y3c o2 d) (0,[],[])=some o3:=by
  obtain⟨o,w,_⟩:=yc (f:=y3c o2 d) (fun i s=>s.1=(i:Int)∧i≤n∧s.2.1.length≤i∧s.2.2.length≤i) (fun o=>True) n 0 (by omega) (fun i s hi ⟨e1,_,q1,q2⟩=>by
    obtain⟨c,A,B⟩:=s
    dsimp only at e1 q1 q2
    subst e1
    have hid:i < d.length:=by omega
    have hig:i < o2.2.2.length:=by omega
    left
    rw [y3c]
    dsimp only
    rw [if_pos (by simp;omega),ya hid,yOb,ya hig,yOb]
    cases o2.2.2[i] with
    | true=>
     rw [if_pos rfl,yo (by simp;omega),yOb,yo (by simp;omega),yOb,y3b]
     dsimp only
     rw [nxt (by omega)]
     exact⟨_,rfl,rfl,hi,by simp;omega,by simp;omega⟩
    | false=>
     rw [if_neg (by simp),y3b]
     dsimp only
     rw [nxt (by omega)]
     exact⟨_,rfl,rfl,hi,by dsimp only;omega,by dsimp only;omega⟩) (fun s ⟨e1,_,q1,q2⟩=>by
    obtain⟨c,A,B⟩:=s
    dsimp only at e1 q1 q2
    subst e1
    refine⟨(A,B),?_,trivial⟩
    rw [y3c]
    dsimp only
    rw [if_neg (by simp;omega)]) (Nat.zero_le _) (0,[],[]) ⟨rfl,Nat.zero_le _,Nat.zero_le _,Nat.zero_le _⟩
  exact⟨o,w⟩
 obtain⟨r,X,x1,x2,x3,x4⟩:=yf1 hr h7 (a,u,m,o2.2.2) rfl rfl
 refine⟨(o3.1,o3.2,rem),o2.2.1,o2.2.2,r,X,?_,h7,x2,x3,x4,h8⟩
 rw [y4U,s1,yOb,h1,yOb]
 dsimp only
 rw [h4,yOb,hrem,yOb,d1,yOb,h9,yOb,x1]
 rfl
theorem yg3 (hr:Right a n) (hn:n≤40) (hfi:Inc f) (hf:∀x∈f,0≤x∧x < (n:Int)) (hui:Inc u) (hur:∀x∈u,0≤x∧x < 32):
  ∃z k g r X,y2H a f u=some ((z,k,r,X),0)∧SynOk a n g r X:=by
 have hfl:=y2N (n:=n) (lo:=0) hfi hf (Int.le_refl _)
 have hul:=Alp.len ⟨hui,hur⟩
 obtain⟨z,k,g,r,X,h1,h2⟩:=yei hr hn hf (by omega) (u:=u) (by omega)
 refine⟨z,k,g,r,X,?_,h2⟩
 have hc:y5c a f u=some 0:=by
  rw [y5c,ycu hr.l1 hr.l2 hr.l3,hr.err,yOb,if_neg (by simp),hr.nn,y9g (by omega),y6A hfi hf (fun q hq=>by cases hq),yOb,if_neg (by simp),y9g (by omega),y6A hui hur (fun q hq=>by cases hq)]
  rfl
 rw [y2H,hc,yOb,if_neg (by simp),h1]
 rfl
theorem y7p (hr:Right a n) (s e:Int):y1m a s e=some ((st1 a s e).getD (-1)):=by
 have hl3:=hr.l3
 obtain⟨o,h1,h2⟩:=yc (f:=y3C a s e) (fun i c=>c=(i:Int)∧i≤a.2.2.2.length∧∀k (h:k < a.2.2.2.length),k < i→¬((a.2.2.2[k]).1=s∧(a.2.2.2[k]).2.1=e)) (fun o=>match o with
  | .inl _=>st1 a s e=none
  | .inr t=>st1 a s e=some t) a.2.2.2.length 0 (by omega) (fun i c hi ⟨e1,_,hk⟩=>by
   subst e1
   rw [y3C,if_pos (ct_lt hi),ya hi,yOb]
   by_cases hx:(a.2.2.2[i]).1=s∧(a.2.2.2[i]).2.1=e
   ·right
    rw [if_pos (by simpa using hx.1),yOb,yOb,if_pos (by simpa using hx.2),yOb]
    refine⟨_,rfl,?_⟩
    dsimp only
    rw [y4y hr,←hx.1,←hx.2]
    exact List.getElem_mem hi
   ·left
    refine⟨((i + 1:Nat):Int),?_,rfl,hi,fun k h hki=>?_⟩
    ·by_cases h1:(a.2.2.2[i]).1=s
     ·rw [if_pos (by simpa using h1),yOb,yOb,if_neg (by simpa using fun h2=>hx ⟨h1,h2⟩),nxt (by omega)]
     ·rw [if_neg (by simpa using h1),yOb,if_neg (by simp),nxt (by omega)]
    ·by_cases e:k=i
     ·subst e
      exact hx
     ·exact hk k h (by omega)) (fun c ⟨e1,_,hk⟩=>by
   subst e1
   refine⟨.inl (),by rw [y3C,if_neg ct_ge],?_⟩
   dsimp only
   cases hst:st1 a s e with
   | none=>rfl
   | some t=>
    exfalso
    obtain⟨k,h,e2⟩:=List.getElem_of_mem ((y4y hr).1 hst)
    exact hk k h h (by rw [e2];exact⟨rfl,rfl⟩)) (Nat.zero_le _) 0 ⟨rfl,Nat.zero_le _,fun k h hk=>absurd hk (Nat.not_lt_zero _)⟩
 rw [y1m,h1,yOb]
 cases o with
 | inl _=>dsimp only at h2 ⊢;rw [h2];rfl
 | inr t=>dsimp only at h2 ⊢;rw [h2];rfl
end
theorem LoopZ.few {P S p:AutT} {T:List (List Int)} {n n1 n2:Nat} (h:LoopZ P S p T n) (hP:P.2.1=(n1:Int)) (hS:S.2.1=(n2:Int)):n≤n1 * n2:=by
 rw [←h.tl]
 have hx:∀t∈T,∃x y:Nat,t= [(x:Int),(y:Int)]∧x < n1∧y < n2:=fun t ht=>by
  obtain⟨x,y,e,g1,g2,g3,g4⟩:=h.tt t ht
  exact⟨x.toNat,y.toNat,by rw [e,Int.toNat_of_nonneg g1,Int.toNat_of_nonneg g3],by omega,by omega⟩
 have:=y6B (n1 * n2) (T.map fun t=>match t with
  | [x,y]=>x.toNat * n2 + y.toNat
  | _=>0) (by
  unfold List.Nodup
  rw [List.pairwise_map]
  refine h.nd.imp_of_mem fun {s t} hs ht hst=>?_
  obtain⟨x,y,rfl,g1,g2⟩:=hx s hs
  obtain⟨x',y',rfl,g3,g4⟩:=hx t ht
  dsimp only
  rw [Int.toNat_natCast,Int.toNat_natCast,Int.toNat_natCast,Int.toNat_natCast]
  intro e
  refine hst ?_
  have e1:x=x':=by
   have a1:(x * n2 + y) / n2=x:=by rw [Nat.mul_comm,Nat.mul_add_div (by omega),Nat.div_eq_of_lt g2,Nat.add_zero]
   have a2:(x' * n2 + y') / n2=x':=by rw [Nat.mul_comm,Nat.mul_add_div (by omega),Nat.div_eq_of_lt g4,Nat.add_zero]
   rw [←a1,e,a2]
  subst e1
  have:y=y':=by omega
  rw [this]) (fun v hv=>by
  obtain⟨t,ht,rfl⟩:=List.mem_map.1 hv
  obtain⟨x,y,rfl,g1,g2⟩:=hx t ht
  dsimp only
  rw [Int.toNat_natCast,Int.toNat_natCast]
  calc x * n2 + y < x * n2 + n2:=by omega
   _=(x + 1) * n2:=by rw [Nat.succ_mul]
   _≤n1 * n2:=Nat.mul_le_mul_right _ g1)
 simpa using this
theorem yfJ {q:ProbT} {n1 n:Nat} {A:AutT} {T:List (List Int)} {z:Int} (hP:Right q.1 n1) (hA:Right A n) (hu:q.2.2.length≤32) (hT:∀t∈T,∃x y,t= [x,y]) {i:Nat} (hi:i < T.length) {o:List Int} (ho:o.length≤1000000):
  ∃o',iter (y2x q (A,T,z) ((i:Int),o)) 0=some o'∧(o'=o∨o'=o ++ [(i:Int)]):=by
 obtain⟨x,y,hxy⟩:=hT _ (List.getElem_mem hi)
 obtain⟨o',h1,h2⟩:=yc (f:=y2x q (A,T,z) ((i:Int),o)) (fun j c=>c=(j:Int)∧j≤q.2.2.length) (fun o'=>o'=o∨o'=o ++ [(i:Int)]) q.2.2.length 0 (by omega) (fun j c hj ⟨e1,_⟩=>by
   subst e1
   have hj1:∀b,(∃s',y1u ((i:Int),o) (j:Int) b=some (.inl s')∧s'=((j + 1:Nat):Int)∧j + 1≤q.2.2.length)∨∃o',y1u ((i:Int),o) (j:Int) b=some (.inr o')∧(o'=o∨o'=o ++ [(i:Int)]):=fun b=>by
    rw [y1u]
    cases b with
    | true=>
     right
     rw [if_pos rfl]
     dsimp only
     rw [yo (by simp;omega)]
     exact⟨_,rfl,.inr rfl⟩
    | false=>
     left
     rw [if_neg (by simp),nxt (by omega)]
     exact⟨_,rfl,rfl,hj⟩
   rw [y2x]
   dsimp only
   rw [if_pos (ct_lt hj),ya hj,yOb,ya hi,yOb,hxy,show idx [x,y] 0=some x from rfl,yOb,y7p hP,yOb]
   split
   ·rw [y7p hA,yOb]
    exact hj1 _
   ·exact hj1 _) (fun c ⟨e1,_⟩=>by
   subst e1
   refine⟨o,?_,.inl rfl⟩
   rw [y2x]
   dsimp only
   rw [if_neg ct_ge]) (Nat.zero_le _) 0 ⟨rfl,Nat.zero_le _⟩
 exact⟨o',h1,h2⟩
theorem yfK {q:ProbT} {n1 n:Nat} {A:AutT} {T:List (List Int)} {z:Int} (hP:Right q.1 n1) (hA:Right A n) (hu:q.2.2.length≤32) (hT:∀t∈T,∃x y,t= [x,y]) (hl:T.length≤4000):
  ∃o,iter (y1v q (A,T,z)) (0,[])=some o∧Inc o∧∀x∈o,0≤x∧x < (T.length:Int):=by
 obtain⟨o,h1,h2,h3⟩:=yc (f:=y1v q (A,T,z)) (fun i s=>s.1=(i:Int)∧i≤T.length∧Inc s.2∧∀x∈s.2,0≤x∧x < (i:Int)) (fun o=>Inc o∧∀x∈o,0≤x∧x < (T.length:Int)) T.length 0 (by omega) (fun i s hi ⟨e1,_,q1,q2⟩=>by
   obtain⟨c,o⟩:=s
   dsimp only at e1 q1 q2
   subst e1
   have hol:=y2N (n:=i) (lo:=0) q1 q2 (Int.le_refl _)
   obtain⟨o',w1,w2⟩:=yfJ (z:=z) hP hA hu hT hi (o:=o) (by omega)
   left
   rw [y1v]
   dsimp only
   rw [if_pos (ct_lt hi),w1,yOb,nxt (by omega)]
   refine⟨_,rfl,rfl,hi,?_⟩
   dsimp only
   rcases w2 with rfl | rfl
   ·exact ⟨q1,fun x hx=>by have:=q2 x hx;omega⟩
   ·refine ⟨?_,fun x hx=>?_⟩
    ·unfold Inc at q1 ⊢
     rw [List.pairwise_append]
     exact⟨q1,List.pairwise_singleton _ _,fun c hc b hb=>by rw [List.mem_singleton.1 hb];exact(q2 c hc).2⟩
    ·rcases List.mem_append.1 hx with hx | hx
     ·have:=q2 x hx;omega
     ·rw [List.mem_singleton.1 hx];omega) (fun s ⟨e1,_,q1,q2⟩=>by
   obtain⟨c,o⟩:=s
   dsimp only at e1 q1 q2
   subst e1
   refine⟨o,?_,q1,q2⟩
   rw [y1v]
   dsimp only
   rw [if_neg ct_ge]) (Nat.zero_le _) (0,[]) ⟨rfl,Nat.zero_le _,List.Pairwise.nil,fun x hx=>by cases hx⟩
 exact⟨o,h1,h2,h3⟩
theorem yfL {q:ProbT} {m1 m2:Nat} (h:PbOk q m1 m2) (l1:m1≤5) (l2:m2≤5):∃A T n o z k g r X,ym [q.1,q.2.1]=some (A,T,0)∧iter (y1v q (A,T,0)) (0,[])=some o∧y2H A o q.2.2=some ((z,k,r,X),0)∧LoopZ q.1 q.2.1 A T n∧n≤25∧SynOk A n g r X∧PbOk (q.1,r,q.2.2) m1 X.length:=by
 obtain⟨t,A,T,k1,k2,n,_,hk,hs⟩:=h.open
 have hL:=hk.loop
 have hn:n≤25:=Nat.le_trans (hL.few h.rP.nn h.rS.nn) (Nat.mul_le_mul l1 l2)
 have hul:=Alp.len ⟨h.iu,h.ur⟩
 obtain⟨o,o1,o2,o3⟩:=yfK (z:=0) h.rP hL.right hul (fun t ht=>by
  obtain⟨x,y,e,_⟩:=hL.tt t ht
  exact⟨x,y,e⟩) (by rw [hL.tl];exact hL.le)
 rw [hL.tl] at o3
 obtain⟨z,k,g,r,X,s1,s2⟩:=yg3 hL.right (by omega) o2 o3 h.iu h.ur
 refine⟨A,T,n,o,z,k,g,r,X,hs,o1,s1,hL,hn,s2,h.rP,s2.can.right,h.l1,by have:=s2.le;omega,fun x hx=>?_,h.iu,h.ur⟩
 dsimp only at hx
 rw [s2.can.ale,hL.ev] at hx
 exact hx.elim id (h.sub x)
theorem ydp {d:Des26} (hd:Des26In d) (keep:Bool):∃q n1 n2,y4v d keep=some q∧PbOk q n1 n2∧n1≤5∧n2≤25∧∀x∈q.1.1,0≤x∧x < 5:=by
 obtain⟨q,n1,n2,h1,h2,h3,h4,h5⟩:=yeb hd
 rw [y4v,h1,yOb]
 cases keep with
 | false=>
  rw [if_pos (show (!false)=true from rfl)]
  exact⟨q,n1,n2,rfl,h2,h3,by omega,h5⟩
 | true=>
  obtain⟨A,T,n,o,z,k,g,r,X,s1,s2,s3,s4,s5,s6,s7⟩:=yfL h2 h3 h4
  rw [if_neg (by simp),s1,yOb]
  dsimp only
  rw [s2,yOb,s3]
  exact⟨_,n1,X.length,rfl,s7,h3,by have:=s6.le;omega,h5⟩
def dB (P p:AutT) (T:List (List Int)) (s u c:Int):Bool:=match st1 p s u with
 | none=>false
 | some r=>(st1 p s c).isSome && (st1 p r c).isNone && (match T[r.toNat]? with
  | some (x :: _)=>(st1 P x c).isSome
  | _=>false)
section
variable {q:ProbT} {t:TaskT} {p:AutT} {T:List (List Int)} {n1 n2 n:Nat}
theorem y9Y {a:AutT} {m:Nat} (hr:Right a m) (s e:Int):((st1 a s e).getD (-1) != -1)=(st1 a s e).isSome:=by
 cases hs:st1 a s e with
 | none=>rfl
 | some v=>
  have hv:=y4B hr hs
  have:v≠ -1:=by omega
  simpa using this
theorem ydq (h:TaskOk q t p T n1 n2 n) (k:Nat) (u c:Int):y3K t (k:Int) u c=some (dB q.1 p T (k:Int) u c):=by
 rw [y3K,to_eq h.g3,yOb,y9Y h.loop.right,dB]
 cases hs:st1 p (k:Int) u with
 | none=>rfl
 | some v=>
  have hv:=y4B h.loop.right hs
  have hvt:v.toNat < T.length:=by rw [h.loop.tl];omega
  obtain⟨x,y,e,_⟩:=h.pair hvt
  have hix:idx t.2.2.2.1 v=some [x,y]:=by
   rw [h.tt,←Int.toNat_of_nonneg hv.2.2.1,y6d,e]
  rw [if_pos (show (some v).isSome=true from rfl),to_eq h.g3,yOb,y9Y h.loop.right]
  dsimp only [Option.getD_some]
  rw [e]
  dsimp only
  cases hc:(st1 p (k:Int) c).isSome with
  | false=>rw [if_neg (by simp)];rfl
  | true=>
   rw [if_pos rfl,to_eq h.g3,yOb]
   have h7:((st1 p v c).getD (-1) == -1)=(st1 p v c).isNone:=by
    have:=y9Y h.loop.right v c
    cases hq:st1 p v c with
    | none=>rfl
    | some w=>
     have:=y4B h.loop.right hq
     have:w≠ -1:=by omega
     simpa using this
   rw [h7]
   cases hn:(st1 p v c).isNone with
   | false=>rw [if_neg (by simp)];rfl
   | true=>
    rw [if_pos rfl,hix,yOb,show idx [x,y] 0=some x from rfl,yOb,to_eq h.g1,yOb,y9Y h.rP]
    rfl
theorem yfM (h:TaskOk q t p T n1 n2 n) {k:Nat} {x y:Int} (hk:T[k]? =some [x,y]) {u c:Int} (hu:u∈q.1.1) (hc:c∈q.1.1):y1C q [x,y] u c=some (hasB q.2.2 u && !hasB q.2.2 c && dB q.1 p T (k:Int) u c):=by
 have hal:=Alp.len ⟨h.rP.ali,h.rP.alr⟩
 have hul:=Alp.len ⟨h.iu,h.ur⟩
 rw [y1C,y4O (by omega),yOb,yb.2 hu,if_neg (by simp),y4O (by omega),yOb,yb.2 hc,yOb,if_neg (by simp),y4O (by omega),yOb,yOb]
 cases hbu:hasB q.2.2 u with
 | false=>
  rw [if_pos (show (!false)=true from rfl),yOb,if_pos rfl]
  rfl
 | true=>
  rw [if_neg (by simp),y4O (by omega),yOb,yOb]
  cases hbc:hasB q.2.2 c with
  | true=>
   rw [if_pos rfl]
   rfl
  | false=>
   rw [if_neg (by simp),dB]
   have hj1:∀r,yy q c r true=some false:=fun r=>by rw [yy,if_pos rfl]
   rcases h.step hk hu with ⟨g1,g2⟩ | ⟨j,x',y',g1,gT,_,g2⟩
   ·rw [g2,g1,yOb]
    rcases h.step hk hc with ⟨f1,f2⟩ | ⟨i,x2,y2,f1,_,_,f2⟩
    ·rw [f2,yOb,if_neg (by simp),if_neg (by simp),if_pos (by rfl),hj1]
     rfl
    ·rw [f2,yOb,if_neg (by simp),if_neg (by simp),if_pos (by rfl),hj1]
     rfl
   ·rw [g2,g1,yOb]
    dsimp only
    rw [Int.toNat_natCast,gT]
    dsimp only
    rcases h.step hk hc with ⟨f1,f2⟩ | ⟨i,x2,y2,f1,_,_,f2⟩
    ·rw [f2,yOb,if_neg (by simp),if_neg (by simp),if_neg (by simp),if_pos (by rfl),hj1,f1]
     rfl
    ·rw [f2,yOb,if_neg (by simp),if_neg (by simp),if_neg (by simp),if_neg (by simp),show idx [x',y'] 0=some x' from rfl,yOb,y7p h.rP,yOb,f1]
     cases hx:st1 q.1 x' c with
     | none=>
      rw [show decide ((none:Option Int).getD (-1) < 0)=true from rfl,hj1]
      simp
     | some v=>
      have hv:=y4B h.rP hx
      rw [show decide ((some v).getD (-1) < 0)=false by simp;omega,yy,if_neg (by simp)]
      dsimp only
      rcases h.step gT hc with ⟨e1,e2⟩ | ⟨i3,x3,y3,e1,_,_,e2⟩
      ·rw [e2,e1]
       rfl
      ·rw [e2,e1]
       rfl
end
section
variable {q:ProbT} {t:TaskT} {p:AutT} {T:List (List Int)} {n1 n2 n:Nat}
def dL (q:ProbT) (p:AutT) (T:List (List Int)) (s u c:Int):Bool:=hasB q.2.2 u && !hasB q.2.2 c && dB q.1 p T s u c
end
def folP (a:AutT):Int→List Int→Int×Nat
 | s,[]=>(s,0)
 | s,e :: u=>match st1 a s e with
  | some r=>((folP a r u).1,(folP a r u).2 + 1)
  | none=>(s,0)
theorem y9M {a:AutT}:∀{u:List Int} {s t:Int},stw (st1 a) s u=some t→folP a s u=(t,u.length)
 | [],s,t,h=>by
  have h:some s=some t:=h
  cases h
  rfl
 | e :: u,s,t,h=>by
  rw [stw] at h
  obtain⟨r,h1,h2⟩:=Option.bind_eq_some_iff.1 h
  rw [folP,h1]
  dsimp only
  rw [y9M h2]
  rfl
theorem ybE {a:AutT}:∀{u:List Int} {s:Int},stw (st1 a) s u=none→(folP a s u).2 < u.length
 | [],s,h=>by cases h
 | e :: u,s,h=>by
  rw [stw] at h
  rw [folP]
  cases h1:st1 a s e with
  | none=>simp
  | some r=>
   rw [h1,yOb] at h
   have:=ybE h
   dsimp only
   rw [List.length_cons]
   omega
section
variable {a:AutT} {n:Nat}
theorem yaJ (hr:Right a n):∀{u:List Int} {s t:Int},stw (st1 a) s u=some t→0≤s→s < (n:Int)→0≤t∧t < (n:Int)∧∀e∈u,e∈a.1
 | [],s,t,h,h0,h1=>by
  have h:some s=some t:=h
  cases h
  exact⟨h0,h1,fun e he=>by cases he⟩
 | e :: u,s,t,h,h0,h1=>by
  rw [stw] at h
  obtain⟨r,g1,g2⟩:=Option.bind_eq_some_iff.1 h
  have g3:=y4B hr g1
  obtain⟨k1,k2,k3⟩:=yaJ hr g2 g3.2.2.1 g3.2.2.2.1
  refine⟨k1,k2,fun x hx=>?_⟩
  rcases List.mem_cons.1 hx with rfl | hx
  ·exact g3.2.2.2.2
  ·exact k3 x hx
theorem yf3 (hr:Right a n) {s:Nat} (hs:s < n) (e:Int):y5n a (s:Int) e=some ((st1 a (s:Int) e).getD (-1)):=by
 have hl3:=hr.l3
 obtain⟨os,hos⟩:∃os,os=a.2.2.2.filter fun x=>x.1 == (s:Int):=⟨_,rfl⟩
 have hol:os.length≤1000000:=by rw [hos];exact Nat.le_trans (List.length_filter_le _ _) hl3
 have hmem:∀x∈os,x∈a.2.2.2∧x.1=(s:Int):=fun x hx=>by
  rw [hos] at hx
  have:=List.mem_filter.1 hx
  exact⟨this.1,by simpa using this.2⟩
 obtain⟨r,h1,h2⟩:=yfD (xs:=os) (f:=y4V e) (g:=fun x=>x.2.1 == e) (fun x _=>rfl) (by omega)
 rw [y5n,ycT hr hs,yOb,←hos,h1,yOb]
 rcases h2 with ⟨rfl,h3⟩ | ⟨k,hk,rfl,h3,h4⟩
 ·rw [if_pos (by simp),y9i fun x hx hxx=>?_]
  ·rfl
  ·have:=h3 x (by rw [hos];exact List.mem_filter.2 ⟨hx,by simp [hxx.1]⟩)
   simp [hxx.2] at this
 ·have hm:=hmem _ (List.getElem_mem hk)
  have h3:os[k].2.1=e:=by simpa using h3
  have:st1 a (s:Int) e=some os[k].2.2:=by
   rw [y4y hr,←hm.2,←h3]
   exact hm.1
  rw [if_neg (by simp),ya hk,yOb,this]
  rfl
theorem ybF (hr:Right a n) {s:Int} (s0:0≤s) (s1:s < (n:Int)) {u:List Int} (hl:u.length≤1000000):y4k a s u=some ((folP a s u).1,((folP a s u).2:Int)):=by
 obtain⟨o,h1,h2⟩:=yc (f:=y4j a u) (fun i st=>st.1=(i:Int)∧0≤st.2∧st.2 < (n:Int)∧(folP a st.2 (u.drop i)).1=(folP a s u).1∧(folP a st.2 (u.drop i)).2 + i=(folP a s u).2)
   (fun o=>(∃t,o= .inl t∧t=(folP a s u).1∧u.length=(folP a s u).2)∨∃t,o= .inr (((folP a s u).2:Int),t)∧t=(folP a s u).1) u.length 0 (by omega) (fun i st hi ⟨e1,g0,g1,g2,g3⟩=>by
   obtain⟨c,x⟩:=st
   dsimp only at e1 g0 g1 g2 g3
   subst e1
   obtain⟨k,hk⟩:∃k:Nat,x=(k:Int):=⟨x.toNat,by omega⟩
   subst hk
   rw [List.drop_eq_getElem_cons hi,folP] at g2 g3
   rw [y4j]
   dsimp only
   rw [if_pos (ct_lt hi),ya hi,yOb,yf3 hr (by omega),yOb]
   cases hst:st1 a (k:Int) u[i] with
   | none=>
    rw [hst] at g2 g3
    dsimp only at g2 g3
    right
    rw [if_pos (by simp)]
    exact⟨_,rfl,.inr ⟨(k:Int),by rw [←g3,Nat.zero_add],g2⟩⟩
   | some t=>
    rw [hst] at g2 g3
    dsimp only at g2 g3
    have ht:=y4B hr hst
    left
    rw [Option.getD_some,if_neg (by simp;omega),nxt (by omega)]
    exact⟨_,rfl,rfl,ht.2.2.1,ht.2.2.2.1,g2,by dsimp only;omega⟩) (fun st ⟨e1,g0,g1,g2,g3⟩=>by
   obtain⟨c,x⟩:=st
   dsimp only at e1 g0 g1 g2 g3
   subst e1
   rw [List.drop_length,folP] at g2 g3
   rw [y4j]
   dsimp only
   rw [if_neg ct_ge]
   exact⟨_,rfl,.inl ⟨x,rfl,g2,by dsimp only at g3;omega⟩⟩) (Nat.zero_le _) (0,s) ⟨rfl,s0,s1,by rw [List.drop_zero],by rw [List.drop_zero];rfl⟩
 rw [y4k,h1,yOb]
 rcases h2 with ⟨t,rfl,h3,h4⟩ | ⟨t,rfl,h3⟩
 ·rw [h3,←h4]
 ·rw [h3]
theorem y9N (hr:Right a n) {u:List Int} (hl:u.length≤1000000):y3f a u=some (decide (0 < n) && (stw (st1 a) 0 u).isSome,0):=by
 rw [y3f,hr.check,yOb,if_neg (by simp),y5q,hr.nn]
 by_cases h0:n=0
 ·subst h0
  rw [if_pos (by simp)]
  rfl
 ·rw [if_neg (by simp;omega),ybF hr (by omega) (by omega) hl,yOb,yOb]
  cases hs:stw (st1 a) 0 u with
  | none=>
   have:=ybE hs
   have hne:(((folP a 0 u).2:Int) == (u.length:Int))=false:=by
    rw [beq_eq_false_iff_ne];omega
   simp [hne]
  | some t=>
   rw [y9M hs]
   simp;omega
theorem y7Z (hr:Right a n) (h0:0 < n) {u:List Int} (hl:u.length≤1000000) {t:Int} (hs:stw (st1 a) 0 u=some t):y4Y a 0 u=some (t,(u.length:Int),0):=by
 have hl1:=hr.l1
 have hin:=yaJ hr hs (Int.le_refl _) (by omega)
 obtain⟨r,h1,h2⟩:=ycZ (xs:=u) (f:=y4A a) (g:=fun x=>!hasB a.1 x) (fun x _=>by rw [y4A,y5z (by omega),yOb]) (by omega)
 have hr1:r= -1:=by
  rcases h2 with ⟨h,_⟩ | ⟨k,hk,_,h3,_⟩
  ·exact h
  ·have:=yb.2 (hin.2.2 _ (List.getElem_mem hk))
   rw [this] at h3
   cases h3
 subst hr1
 rw [y4Y,y4R,hr.check,yOb,if_neg (by simp),if_neg (by rw [hr.nn];simp;omega),yOb,if_neg (by simp),y4n,h1,yOb,yOb,if_neg (by simp),ybF hr (by omega) (by omega) hl,y9M hs,yOb]
theorem yci {g:GrT} (hg:GrOk g a) (hr:Right a n) {u:List Int} (hl:u.length≤1000000):y3p g u=some (if n=0 then -1 else(stw (st1 a) 0 u).getD (-1)):=by
 rw [y3p,hg.1,hr.nn]
 by_cases h0:n=0
 ·rw [if_pos (by simpa using h0),if_pos h0]
 ·rw [if_neg (by simpa using h0),if_neg h0]
  obtain⟨o,h1,h2⟩:=yc (f:=y4i g u) (fun i st=>st.1=(i:Int)∧stw (st1 a) st.2 (u.drop i)=stw (st1 a) 0 u) (fun o=>(∃t,o= .inl t∧stw (st1 a) 0 u=some t)∨(o= .inr ()∧stw (st1 a) 0 u=none)) u.length 0 (by omega) (fun i st hi ⟨e1,g1⟩=>by
    obtain⟨c,x⟩:=st
    dsimp only at e1 g1
    subst e1
    rw [List.drop_eq_getElem_cons hi,stw] at g1
    rw [y4i]
    dsimp only
    rw [if_pos (ct_lt hi),ya hi,yOb,to_eq hg,yOb]
    cases hst:st1 a x u[i] with
    | none=>
     rw [hst] at g1
     right
     rw [if_pos (by simp)]
     exact⟨_,rfl,.inr ⟨rfl,g1.symm⟩⟩
    | some t=>
     rw [hst,yOb] at g1
     have ht:=y4B hr hst
     left
     rw [Option.getD_some,if_neg (by simp;omega),nxt (by omega)]
     exact⟨_,rfl,rfl,g1⟩) (fun st ⟨e1,g1⟩=>by
    obtain⟨c,x⟩:=st
    dsimp only at e1 g1
    subst e1
    rw [List.drop_length] at g1
    rw [y4i]
    dsimp only
    rw [if_neg ct_ge]
    exact⟨_,rfl,.inl ⟨x,rfl,g1.symm⟩⟩) (Nat.zero_le _) (0,0) ⟨rfl,by rw [List.drop_zero]⟩
  rw [h1,yOb]
  rcases h2 with ⟨t,rfl,h3⟩ | ⟨rfl,h3⟩
  ·rw [h3];rfl
  ·rw [h3];rfl
end
theorem yd4 {al u:List Int}:∀{l d:List Int},(∀e∈l,e∈al∧e∉u∧e∉d)→l.Nodup→priE al u d l=0
 | [],_,_,_=>rfl
 | e :: l,d,h,hn=>by
  obtain⟨h1,h2,h3⟩:=h e (List.mem_cons_self ..)
  obtain⟨n1,n2⟩:=List.nodup_cons.1 hn
  have hb:∀{xs:List Int},e∉xs→¬hasB xs e=true:=fun hx hb=>hx (yb.1 hb)
  rw [priE,if_neg (by rw [yb.2 h1];simp),if_neg (hb h2),if_neg (hb h3)]
  refine yd4 (fun x hx=>?_) n2
  obtain⟨g1,g2,g3⟩:=h x (List.mem_cons_of_mem _ hx)
  refine⟨g1,g2,fun hm=>?_⟩
  rcases List.mem_append.1 hm with hm | hm
  ·exact g3 hm
  ·rw [List.mem_singleton.1 hm] at hx
   exact n1 hx
theorem yas {τ:Type} {st:τ→Int→Option τ}:∀{u:List Int} {t:τ} {e:Int},stw st t (u ++ [e])=(stw st t u).bind fun r=>st r e
 | [],t,e=>by
  rw [List.nil_append,stw,stw,yOb]
  cases st t e <;> rfl
 | x :: u,t,e=>by
  rw [List.cons_append,stw,stw]
  cases h:st t x with
  | none=>rfl
  | some r=>
   rw [yOb,yOb,yas]
def IsRun (P:AutT) (U:List Int) (x:Int) (w:List Int) (y:Int):Prop:=stw (st1 P) x w=some y∧(∀e∈w,e∈U)∧w.Nodup
theorem IsRun.snoc {P:AutT} {U:List Int} {x y y' e:Int} {w:List Int} (h:IsRun P U x w y) (he:e∈U) (hn:e∉w) (hs:st1 P y e=some y'):IsRun P U x (w ++ [e]) y':=by
 obtain⟨h1,h2,h3⟩:=h
 refine⟨by rw [yas,h1,yOb,hs],fun z hz=>?_,?_⟩
 ·rcases List.mem_append.1 hz with hz | hz
  ·exact h2 z hz
  ·rw [List.mem_singleton.1 hz];exact he
 ·rw [List.nodup_append]
  refine⟨h3,by simp,fun a ha b hb e=>?_⟩
  rw [List.mem_singleton.1 hb] at e
  rw [e] at ha
  exact hn ha
theorem IsRun.of_snoc {P:AutT} {U:List Int} {x y' e:Int} {w:List Int} (h:IsRun P U x (w ++ [e]) y'):∃y,IsRun P U x w y∧e∈U∧e∉w∧st1 P y e=some y':=by
 obtain⟨h1,h2,h3⟩:=h
 rw [yas] at h1
 obtain⟨y,g1,g2⟩:=Option.bind_eq_some_iff.1 h1
 rw [List.nodup_append] at h3
 exact⟨y,⟨g1,fun z hz=>h2 z (List.mem_append_left _ hz),h3.1⟩,h2 e (by simp),fun hm=>h3.2.2 e hm e (by simp) rfl,g2⟩
structure BR (P:AutT) (U:List Int) (x:Int) (z i:Nat) (A:List (Int×List Int)):Prop where
 run:∀r∈A,IsRun P U x r.2 r.1
 len:∀r∈A,r.2.length≤z
 so:A.Pairwise fun r r'=>wval r.2 < wval r'.2
 root:(x,([]:List Int))∈A
 clo:∀(j:Nat) (r:Int×List Int),j < i→A[j]? =some r→r.2.length < z→∀e∈U,e∉r.2→∀y,st1 P r.1 e=some y→(y,r.2 ++ [e])∈A
 bd:∀(j:Nat) (r:Int×List Int),i≤j→A[j]? =some r→∀q∈A,wval q.2≤33 * wval r.2
theorem BR.next {P:AutT} {U:List Int} {x:Int} {z i:Nat} {A:List (Int×List Int)} (h:BR P U x z i A) {r:Int×List Int} (hi:A[i]? =some r) (hr:z≤r.2.length):BR P U x z (i + 1) A:=
 ⟨h.run,h.len,h.so,h.root,fun j r' hj ej hl=>by
  by_cases e:j=i
  ·subst e
   rw [hi] at ej
   cases ej
   omega
  ·exact h.clo j r' (by omega) ej hl,fun j r' hj=>h.bd j r' (by omega)⟩
theorem BR.all {P:AutT} {U:List Int} {x:Int} {z:Nat} {A:List (Int×List Int)} (h:BR P U x z A.length A) (w:List Int):∀y,IsRun P U x w y→w.length≤z→(y,w)∈A:=by
 refine yam (P:=fun w=>∀y,IsRun P U x w y→w.length≤z→(y,w)∈A) (fun y hy _=>?_) (fun v e ih y hy hl=>?_) w
 ·have:some x=some y:=hy.1
  cases this
  exact h.root
 ·obtain ⟨y',g1,g2,g3,g4⟩:=hy.of_snoc
  rw [List.length_append,List.length_singleton] at hl
  obtain⟨j,hj,e2⟩:=List.getElem_of_mem (ih y' g1 (by omega))
  exact h.clo j (y',v) hj (by rw [yGe hj,e2]) (by dsimp only;omega) e g2 g3 y g4
structure BuL (P:AutT) (U:List Int) (x:Int) (z:Nat) (bs:List (List Int)):Prop where
 mem:∀b,b∈bs↔(∃y,IsRun P U x b y)∧2≤b.length∧b.length≤z
 so:bs.Pairwise fun b b'=>wval b < wval b'
section
variable {q:ProbT} {t:TaskT} {p:AutT} {T:List (List Int)} {n1 n2 n:Nat}
theorem yej (h:TaskOk q t p T n1 n2 n) {x:Int} {z c:Nat} {out:List (List Int)} {l:List (Int×List Int)} {r:Int×List Int} (hc:l[c]? =some r) (hz:r.2.length < z) (hz3:z≤3) (hl:l.length≤1000000) (hB:BR q.1 t.2.2.2.2.1 x z c l):
  ∃l',iter (yJ t ((c:Int),out,l)) (0,l)=some l'∧BR q.1 t.2.2.2.2.1 x z (c + 1) l':=by
 obtain⟨ui,ul,um⟩:=h.uni
 obtain⟨U,hU⟩:∃U,U=t.2.2.2.2.1:=⟨_,rfl⟩
 rw [←hU] at ui ul um hB ⊢
 have hcl:c < l.length:=(List.getElem?_eq_some_iff.1 hc).1
 have hUr:∀i (hi:i < U.length),0≤U[i]∧U[i] < 32:=fun i hi=>h.rP.alr _ ((um _).1 (List.getElem_mem hi)).1
 obtain⟨w,y,rfl⟩:∃w y,r=(y,w):=⟨r.2,r.1,rfl⟩
 dsimp only at hz
 have hcm:(y,w)∈l:=List.mem_of_getElem? hc
 obtain⟨A',h1,⟨N,hN⟩,h3,h4,h5,h6,h7⟩:=yc (f:=yJ t ((c:Int),out,l))
  (fun k s=>s.1=(k:Int)∧k≤U.length∧(∃N,s.2=l ++ N∧N.length≤k)∧(∀r∈s.2,IsRun q.1 U x r.2 r.1)∧(∀r∈s.2,r.2.length≤z)∧(s.2.Pairwise fun r r'=>wval r.2 < wval r'.2)∧
   (∀k' (h:k' < U.length),k≤k'→∀r∈s.2,wval r.2 < 33 * wval w + U[k'] + 1)∧(∀k' (h:k' < U.length),k' < k→U[k']∉w→∀y',st1 q.1 y U[k']=some y'→(y',w ++ [U[k']])∈s.2)∧∀r∈s.2,wval r.2≤33 * wval w + 32)
  (fun o=>(∃N,o=l ++ N)∧(∀r∈o,IsRun q.1 U x r.2 r.1)∧(∀r∈o,r.2.length≤z)∧(o.Pairwise fun r r'=>wval r.2 < wval r'.2)∧
   (∀k' (h:k' < U.length),U[k']∉w→∀y',st1 q.1 y U[k']=some y'→(y',w ++ [U[k']])∈o)∧∀r∈o,wval r.2≤33 * wval w + 32)
  U.length 0 (by omega) (fun k s hk ⟨e1,_,⟨N,hN,hNl⟩,q1,q2,q3,q4,q5,q6⟩=>by
   obtain⟨c',B⟩:=s
   dsimp only at e1 hN q1 q2 q3 q4 q5 q6
   subst e1
   have hur:=hUr k hk
   have hiB:B[c]? =some (y,w):=by rw [hN,List.getElem?_append_left hcl];exact hc
   have hwB:(y,w)∈B:=List.mem_of_getElem? hiB
   have hBl:B.length≤1000032:=by rw [hN,List.length_append];omega
   -- an event that is passed over
   have hskip:(U[k]∉w→st1 q.1 y U[k]=none)→∃s',yI ((k:Int),B) B=some (.inl s')∧s'.1=((k + 1:Nat):Int)∧k + 1≤U.length∧(∃N,s'.2=l ++ N∧N.length≤k + 1)∧(∀r∈s'.2,IsRun q.1 U x r.2 r.1)∧(∀r∈s'.2,r.2.length≤z)∧(s'.2.Pairwise fun r r'=>wval r.2 < wval r'.2)∧
     (∀k' (h:k' < U.length),k + 1≤k'→∀r∈s'.2,wval r.2 < 33 * wval w + U[k'] + 1)∧(∀k' (h:k' < U.length),k' < k + 1→U[k']∉w→∀y',st1 q.1 y U[k']=some y'→(y',w ++ [U[k']])∈s'.2)∧∀r∈s'.2,wval r.2≤33 * wval w + 32:=fun hn=>by
    rw [yI]
    dsimp only
    rw [nxt (by omega)]
    refine⟨_,rfl,rfl,hk,⟨N,hN,by omega⟩,q1,q2,q3,fun k' hk' hkk=>q4 k' hk' (by omega),fun k' hk' hkk hnw y' hy'=>?_,q6⟩
    by_cases e:k'=k
    ·subst e
     rw [hn hnw] at hy'
     cases hy'
    ·exact q5 k' hk' (by omega) hnw y' hy'
   left
   rw [yJ,←hU]
   dsimp only
   rw [if_pos (ct_lt hk),ya hk,yOb,y6d,hiB,yOb,to_eq h.g1,yOb]
   dsimp only
   cases hst:st1 q.1 y U[k] with
   | none=>
    rw [Option.getD_none,if_neg (by simp),yOb,if_neg (by simp)]
    exact hskip fun _=>hst
   | some y'=>
    have hy':=y4B h.rP hst
    rw [Option.getD_some,if_pos (by simp;omega),yOb,y5z (by show w.length < _;omega),yOb,yOb]
    cases hh:hasB w U[k] with
    | true=>
     rw [if_neg (by simp)]
     exact hskip fun hn=>absurd (yb.1 hh) hn
    | false=>
     have hnw:U[k]∉w:=fun hm=>by
      rw [yb.2 hm] at hh
      cases hh
     rw [if_pos (by rfl),yOb,y6u (by show w.length≤_;omega),yOb,yo (by simp;omega),yOb,yo (by simp;omega),yOb,yI]
     dsimp only
     rw [nxt (by omega)]
     have hwv:wval (w ++ [U[k]])=33 * wval w + U[k] + 1:=y6z _ _
     refine⟨_,rfl,rfl,hk,⟨N ++ [(y',w ++ [U[k]])],by dsimp only;rw [hN,List.append_assoc],by simp;omega⟩,fun r hr'=>?_,fun r hr'=>?_,?_,fun k' hk' hkk r hr'=>?_,fun k' hk' hkk hnw' y2 hy2=>?_,fun r hr'=>?_⟩
     ·rcases List.mem_append.1 hr' with hr' | hr'
      ·exact q1 r hr'
      ·rw [List.mem_singleton.1 hr']
       exact(q1 _ hwB).snoc (List.getElem_mem hk) hnw hst
     ·rcases List.mem_append.1 hr' with hr' | hr'
      ·exact q2 r hr'
      ·rw [List.mem_singleton.1 hr'];simp;omega
     ·dsimp only
      rw [List.pairwise_append]
      refine⟨q3,List.pairwise_singleton _ _,fun r hr' r' hr2=>?_⟩
      rw [List.mem_singleton.1 hr2]
      dsimp only
      rw [hwv]
      exact q4 k hk (Nat.le_refl _) r hr'
     ·rcases List.mem_append.1 hr' with hr' | hr'
      ·exact q4 k' hk' (by omega) r hr'
      ·rw [List.mem_singleton.1 hr']
       dsimp only
       rw [hwv]
       have:=List.pairwise_iff_getElem.1 ui k k' hk hk' (by omega)
       omega
     ·by_cases e:k'=k
      ·subst e
       rw [hst] at hy2
       cases hy2
       exact List.mem_append_right _ (List.mem_singleton.2 rfl)
      ·exact List.mem_append_left _ (q5 k' hk' (by omega) hnw' y2 hy2)
     ·rcases List.mem_append.1 hr' with hr' | hr'
      ·exact q6 r hr'
      ·rw [List.mem_singleton.1 hr']
       dsimp only
       rw [hwv]
       omega) (fun s ⟨e1,_,⟨N,hN,_⟩,q1,q2,q3,q4,q5,q6⟩=>by
   obtain⟨c',B⟩:=s
   dsimp only at e1 hN q1 q2 q3 q4 q5 q6
   subst e1
   refine⟨B,?_,⟨N,hN⟩,q1,q2,q3,fun k' hk'=>q5 k' hk' hk',q6⟩
   rw [yJ,←hU]
   dsimp only
   rw [if_neg ct_ge]) (Nat.zero_le _) (0,l) ⟨rfl,Nat.zero_le _,⟨[],(List.append_nil _).symm,Nat.le_refl _⟩,hB.run,hB.len,hB.so,fun k' hk' _ r hr'=>by
    have:=hB.bd c _ (Nat.le_refl _) hc r hr'
    have:=hUr k' hk'
    dsimp only at *
    omega,fun k' hk' h=>absurd h (Nat.not_lt_zero _),fun r hr'=>by
    have:=hB.bd c _ (Nat.le_refl _) hc r hr'
    dsimp only at *
    omega⟩
 have hcA:A'[c]? =some (y,w):=by rw [hN,List.getElem?_append_left hcl];exact hc
 refine⟨A',h1,⟨h3,h4,h5,by rw [hN];exact List.mem_append_left _ hB.root,fun j r hj ej hlz e he hne y2 hy2=>?_,fun j r hij hj q hq=>?_⟩⟩
 ·by_cases e2:j=c
  ·subst e2
   rw [hcA] at ej
   cases ej
   obtain⟨k,hk,rfl⟩:=List.getElem_of_mem he
   exact h6 k hk hne y2 hy2
  ·rw [hN,List.getElem?_append_left (by omega)] at ej
   rw [hN]
   exact List.mem_append_left _ (hB.clo j r (by omega) ej hlz e he hne y2 hy2)
 ·obtain ⟨hj1,hj2⟩:=List.getElem?_eq_some_iff.1 hj
  obtain⟨hi1,hi2⟩:=List.getElem?_eq_some_iff.1 hcA
  have:=List.pairwise_iff_getElem.1 h5 c j hi1 hj1 (by omega)
  rw [hi2,hj2] at this
  have:=h7 q hq
  dsimp only at *
  omega
theorem ydr (h:TaskOk q t p T n1 n2 n) {k:Nat} {x y:Int} (hk:T[k]? =some [x,y]) {z:Nat} (hz:z≤3):∃bs,y3Y t (k:Int) (z:Int)=some bs∧bs.length≤40000∧BuL q.1 t.2.2.2.2.1 x z bs:=by
 have hp:=yg1 hz
 obtain⟨o,h1,h2,l,h3,h4⟩:=yc (f:=y3X t (z:Int)) (fun i s=>s.1=(i:Int)∧i≤s.2.2.length∧i + potL z (s.2.2.drop i)≤pot z∧s.2.1.length≤i∧s.2.1=((s.2.2.take i).filter fun r=>decide (1 < r.2.length)).map Prod.snd∧BR q.1 t.2.2.2.2.1 x z i s.2.2) (fun o=>o.length≤40000∧∃l:List (Int×List Int),o=(l.filter fun r=>decide (1 < r.2.length)).map Prod.snd∧BR q.1 t.2.2.2.2.1 x z l.length l) (pot z) 0 (by omega) (fun i s hi ⟨e1,g0,g1,g3,g4,g5⟩=>by
   obtain⟨c,out,l⟩:=s
   dsimp only at e1 g0 g1 g3 g4 g5
   subst e1
   have g2:=g5.len
   have hll:l.length≤pot z:=by
    have:=yap z (l.drop i)
    rw [List.length_drop] at this
    omega
   rw [y3X]
   dsimp only
   by_cases hil:i < l.length
   ·left
    have hil2:l[i]? =some l[i]:=yGe hil
    have hj2:∀out':List (List Int),out'.length≤i + 1→out'=((l.take (i + 1)).filter fun r=>decide (1 < r.2.length)).map Prod.snd→∃s',y2Z t (z:Int) ((i:Int),out,l) out'=some (.inl s')∧s'.1=((i + 1:Nat):Int)∧i + 1≤s'.2.2.length∧i + 1 + potL z (s'.2.2.drop (i + 1))≤pot z∧s'.2.1.length≤i + 1∧s'.2.1=((s'.2.2.take (i + 1)).filter fun r=>decide (1 < r.2.length)).map Prod.snd∧BR q.1 t.2.2.2.2.1 x z (i + 1) s'.2.2:=fun out' o1 o2=>by
     have hd:potL z (l.drop i)=pot (z - l[i].2.length) + potL z (l.drop (i + 1)):=by
      rw [List.drop_eq_getElem_cons hil]
      unfold potL
      rw [List.map_cons,List.sum_cons]
     rw [y2Z]
     dsimp only
     rw [ya hil,yOb]
     have hrl:=g2 _ (List.getElem_mem hil)
     by_cases hc:l[i].2.length=z
     ·rw [if_pos (by simp [hc]),y2Y]
      dsimp only
      rw [nxt (by omega)]
      have:=yd1 (z - l[i].2.length)
      exact⟨_,rfl,rfl,hil,by dsimp only;omega,o1,o2,g5.next hil2 (by omega)⟩
     ·rw [if_neg (by simp;omega)]
      obtain⟨N,q1,q2,q3⟩:=ye2 h (z:=z) (out:=out) hil2 (by omega) hz (by omega) g2
      obtain⟨l',r1,r2⟩:=yej h (out:=out) hil2 (by omega) hz (by omega) g5
      rw [q1] at r1
      cases r1
      rw [q1,yOb,y2Y]
      dsimp only
      rw [nxt (by omega)]
      refine⟨_,rfl,rfl,by simp;omega,?_,o1,?_,r2⟩
      ·dsimp only
       rw [List.drop_append_of_le_length (by omega),yeV,ycd q3]
       have e:z - l[i].2.length=(z - (l[i].2.length + 1)) + 1:=by omega
       rw [e,pot] at hd
       have:=Nat.mul_le_mul_right (pot (z - (l[i].2.length + 1))) q2
       omega
      ·dsimp only
       rw [List.take_append_of_le_length (by omega)]
       exact o2
    rw [if_pos (ct_lt hil),ya hil,yOb]
    by_cases h2:1 < l[i].2.length
    ·rw [if_pos (by simp;omega),yOb,yo (by simp;omega),yOb]
     refine hj2 _ (by simp;omega) ?_
     rw [List.take_succ_eq_append_getElem hil,List.filter_append,List.map_append,←g4]
     simp [h2]
    ·rw [if_neg (by simp;omega)]
     refine hj2 _ (by omega) ?_
     rw [List.take_succ_eq_append_getElem hil,List.filter_append,List.map_append,←g4]
     simp [h2]
   ·right
    rw [if_neg (by simp;omega)]
    obtain rfl:i=l.length:=by omega
    rw [List.take_length] at g4
    exact⟨_,rfl,by omega,l,g4,g5⟩) (fun s ⟨e1,g0,g1,g3,g4,g5⟩=>by
   obtain⟨c,out,l⟩:=s
   dsimp only at e1 g0 g1 g3 g4 g5
   subst e1
   have:=yap z (l.drop (pot z))
   rw [List.length_drop] at this
   rw [y3X]
   dsimp only
   rw [if_neg (by simp;omega)]
   have e:pot z=l.length:=by omega
   rw [e,List.take_length] at g4
   rw [e] at g5
   exact⟨_,rfl,by omega,l,g4,g5⟩) (Nat.zero_le _) (0,[],[(x,[])]) ⟨rfl,by simp,by rw [List.drop_zero,yeW];simp,by simp,by simp,⟨fun r hr=>by
   rw [List.mem_singleton.1 hr]
   exact⟨rfl,(fun e he=>by cases he),List.Pairwise.nil⟩,fun r hr=>by rw [List.mem_singleton.1 hr];simp,List.pairwise_singleton _ _,List.mem_singleton.2 rfl,fun j r hj=>absurd hj (Nat.not_lt_zero _),fun j r _ hj q hq=>by
   rw [List.mem_singleton.1 (List.mem_of_getElem? hj),List.mem_singleton.1 hq]
   show wval []≤33 * wval []
   decide⟩⟩
 refine⟨o,?_,h2,?_⟩
 ·rw [y3Y,h.tt,y6d,hk,yOb,show idx [x,y] 0=some x from rfl,yOb,h1]
  rfl
 ·subst h3
  refine⟨fun b=>?_,?_⟩
  ·constructor
   ·intro hb
    obtain⟨r,hr,rfl⟩:=List.mem_map.1 hb
    obtain⟨hr,hl⟩:=List.mem_filter.1 hr
    exact⟨⟨r.1,h4.run r hr⟩,by have:=of_decide_eq_true hl;omega,h4.len r hr⟩
   ·rintro ⟨⟨y',hy'⟩,hb1,hb2⟩
    exact List.mem_map.2 ⟨(y',b),List.mem_filter.2 ⟨h4.all b y' hy' hb2,decide_eq_true (by dsimp only;omega)⟩,rfl⟩
  ·rw [List.pairwise_map]
   exact h4.so.filter _
end
theorem yek {a:AutT} {n:Nat} (hr:Right a n):∀{u:List Int} {s t:Int},stw (st1 a) s u=some t→∀e∈u,e∈a.1
 | [],_,_,_,e,he=>by cases he
 | x :: u,s,t,h,e,he=>by
  rw [stw] at h
  obtain⟨r,g1,g2⟩:=Option.bind_eq_some_iff.1 h
  rcases List.mem_cons.1 he with rfl | he
  ·exact (y4B hr g1).2.2.2.2
  ·exact yek hr g2 e he
section
variable {q:ProbT} {t:TaskT} {p:AutT} {T:List (List Int)} {n1 n2 n:Nat}
theorem TaskOk.isrun (h:TaskOk q t p T n1 n2 n) {x v:Int} {w:List Int}:IsRun q.1 t.2.2.2.2.1 x w v↔IsRun q.1 q.2.2 x w v:=by
 obtain⟨ui,ul,um⟩:=h.uni
 constructor
 ·rintro ⟨h1,h2,h3⟩
  exact⟨h1,fun e he=>((um e).1 (h2 e he)).2,h3⟩
 ·rintro ⟨h1,h2,h3⟩
  exact⟨h1,fun e he=>(um e).2 ⟨yek h.rP h1 e he,h2 e he⟩,h3⟩
end
theorem yaK {S:AutT} {n2:Nat} (hS:Right S n2) (s:Int) {l:List Int} (hl:l.length≤1000000):y2K S s l=some ((hdl S s l).1,((hdl S s l).2:Int)):=by
 have hal:=Alp.len ⟨hS.ali,hS.alr⟩
 obtain⟨o,h1,h2⟩:=yc (f:=y2T S l) (fun i st=>st.1=(i:Int)∧hdl S s l=((hdl S st.2 (l.drop i)).1,i + (hdl S st.2 (l.drop i)).2)) (fun o=>(match o with
   | .inl u=>(u,(l.length:Int))
   | .inr u=>(u.2,u.1))=((hdl S s l).1,((hdl S s l).2:Int))) l.length 0 (by omega) (fun i st hi ⟨e1,g1⟩=>by
   obtain⟨k,c⟩:=st
   dsimp only at e1 g1
   subst e1
   rw [List.drop_eq_getElem_cons hi,hdl] at g1
   rw [y2T]
   dsimp only
   rw [if_pos (ct_lt hi),ya hi,yOb,y4O (by omega),yOb]
   cases hb:hasB S.1 l[i]
   ·left
    rw [hb,if_neg (by simp)] at g1
    rw [if_pos (by rfl),y1O]
    dsimp only
    rw [nxt (by omega)]
    refine⟨_,rfl,rfl,?_⟩
    dsimp only
    rw [g1]
    congr 1
    omega
   ·rw [hb,if_pos rfl] at g1
    rw [if_neg (by simp),yOb,y7p hS,yOb]
    cases hs:st1 S c l[i] with
    | none=>
     right
     rw [hs] at g1
     rw [if_pos (by rfl)]
     refine⟨_,rfl,?_⟩
     dsimp only at g1 ⊢
     rw [g1]
     rfl
    | some u=>
     left
     rw [hs] at g1
     have:=y4B hS hs
     rw [if_neg (by simp;omega),y1O]
     dsimp only [Option.getD]
     rw [nxt (by omega)]
     refine⟨_,rfl,rfl,?_⟩
     dsimp only at g1 ⊢
     rw [g1]
     congr 1
     omega) (fun st ⟨e1,g1⟩=>by
   obtain⟨k,c⟩:=st
   dsimp only at e1 g1
   subst e1
   rw [y2T]
   dsimp only
   rw [if_neg ct_ge]
   refine⟨_,rfl,?_⟩
   rw [List.drop_length,hdl] at g1
   dsimp only at g1 ⊢
   rw [g1]
   rfl) (Nat.zero_le _) (0,s) ⟨rfl,by simp⟩
 rw [y2K,h1,yOb,←h2]
 cases o <;> rfl
theorem yf4 {p:List Int} {l:List Int} {i:Nat} (hi:i < p.length) (hl:l.length≤1000000) (hs:l.Pairwise (· ≤ ·)):∃k:Nat,k≤l.length∧iter (y1Q p ((i:Int),l)) (l.length:Int)=some (k:Int)∧(∀x∈l.take k,x≤p[i])∧∀x∈l.drop k,p[i]≤x:=by
 obtain⟨o,h1,k,rfl,h2,h3,h4⟩:=yc (f:=y1Q p ((i:Int),l)) (fun j s=>j≤l.length∧s=((l.length - j:Nat):Int)∧∀x∈l.drop (l.length - j),p[i]≤x) (fun o=>∃k:Nat,o=(k:Int)∧k≤l.length∧(∀x∈l.take k,x≤p[i])∧∀x∈l.drop k,p[i]≤x) l.length 0 (by omega) (fun j s hj ⟨h0,e1,g1⟩=>by
   subst e1
   have hk:l.length - (j + 1) < l.length:=by omega
   have hW:W (((l.length - j:Nat):Int) - 1)=((l.length - (j + 1):Nat):Int):=by rw [W_of (by omega) (by omega)];omega
   rw [y1Q,if_pos (by simp;omega)]
   dsimp only
   rw [hW,ya hk,yOb,ya hi,yOb,y1P]
   by_cases h:l[l.length - (j + 1)] > p[i]
   ·left
    rw [if_pos (by simpa using h),hW]
    refine⟨_,rfl,hj,rfl,fun x hx=>?_⟩
    rw [List.drop_eq_getElem_cons hk,List.mem_cons] at hx
    rcases hx with rfl | hx
    ·omega
    ·rw [show l.length - (j + 1) + 1=l.length - j by omega] at hx
     exact g1 x hx
   ·right
    rw [if_neg (by simpa using h)]
    refine⟨_,rfl,l.length - j,rfl,by omega,fun x hx=>?_,g1⟩
    rw [show l.length - j=l.length - (j + 1) + 1 by omega,List.take_succ_eq_append_getElem hk] at hx
    rcases List.mem_append.1 hx with hx | hx
    ·obtain ⟨q,hq,e⟩:=List.getElem_of_mem hx
     rw [List.length_take] at hq
     rw [List.getElem_take] at e
     have:=List.pairwise_iff_getElem.1 hs q (l.length - (j + 1)) (by omega) hk (by omega)
     omega
    ·rw [List.mem_singleton.1 hx];omega) (fun s ⟨h0,e1,g1⟩=>by
   subst e1
   rw [y1Q,if_neg (by simp),y1P,if_neg (by simp)]
   exact⟨_,rfl,0,by simp,Nat.zero_le _,fun x hx=>(by cases hx),by simpa using g1⟩) (Nat.zero_le _) (l.length:Int) ⟨Nat.zero_le _,by simp,by simp⟩
 exact⟨k,h2,h1,h3,h4⟩
theorem yf5 {α:Type} {xs:List α} {i:Nat} (h:i≤xs.length):slc xs (i:Int) (xs.length:Int)=some (xs.drop i):=by
 rw [slc,if_pos ⟨by omega,by omega,by omega⟩]
 simp
theorem yds {p:List Int} (hl:p.length≤100000):y3Q p=some (isL p):=by
 obtain⟨o,h1,h2,h3⟩:=yc (f:=y2U p) (fun i s=>s.1=(i:Int)∧i≤p.length∧s.2.Perm (p.take i)∧s.2.Pairwise (· ≤ ·)) (fun o=>o.Perm p∧o.Pairwise (· ≤ ·)) p.length 0 (by omega) (fun i s hi ⟨e1,_,g1,g2⟩=>by
   obtain⟨c,l⟩:=s
   dsimp only at e1 g1 g2
   subst e1
   have hll:l.length=i:=by rw [g1.length_eq,List.length_take];omega
   obtain⟨k,k1,k2,k3,k4⟩:=yf4 hi (l:=l) (by omega) g2
   left
   rw [y2U]
   dsimp only
   rw [if_pos (ct_lt hi),k2,yOb,show slc3 l 0 (k:Int) (k:Int)=some (l.take k) from by rw [slc3];first | (rw [if_pos ⟨by omega,by omega,by omega⟩];simp) | (simp;omega),yOb,ya hi,yOb,yf5 k1,yOb,yo (by simp;omega),yOb,yo (by simp;omega),yOb,nxt (by omega)]
   refine⟨_,rfl,rfl,hi,?_,?_⟩
   ·dsimp only
    rw [List.take_succ_eq_append_getElem hi]
    have e:l=l.take k ++ l.drop k:=(List.take_append_drop k l).symm
    have h9:(l.take k ++ ([p[i]] ++ l.drop k)).Perm (l ++ [p[i]]):=by
     conv=>rhs;rw [e]
     rw [List.append_assoc]
     exact(List.perm_append_comm).append_left _
    exact h9.trans (g1.append_right _)
   ·dsimp only
    rw [List.pairwise_append]
    refine⟨g2.sublist (List.take_sublist _ _),?_,fun a ha b hb=>?_⟩
    ·exact List.pairwise_cons.2 ⟨fun b hb=>k4 b hb,g2.sublist (List.drop_sublist _ _)⟩
    ·have:=k3 a ha
     rcases List.mem_cons.1 hb with rfl | hb
     ·exact this
     ·exact Int.le_trans this (k4 b hb)) (fun s ⟨e1,_,g1,g2⟩=>by
   obtain⟨c,l⟩:=s
   dsimp only at e1 g1 g2
   subst e1
   refine⟨l,?_,by simpa using g1,g2⟩
   rw [y2U]
   dsimp only
   rw [if_neg ct_ge]) (Nat.zero_le _) (0,[]) ⟨rfl,Nat.zero_le _,by simp,List.Pairwise.nil⟩
 rw [y3Q,h1,yOb]
 congr 1
 exact List.Perm.eq_of_pairwise (le:=(· ≤ ·)) (fun a b _ _ h1 h2=>Int.le_antisymm h1 h2) h3 (yc3 p) (h2.trans (y6X p).symm)
theorem ydt {q:ProbT} {n2:Nat} (hS:Right q.2.1 n2) {x y:Int} {l:List Int} (hl:l.length≤100000):y3R q [x,y] l=some (!okB q.2.1 y l):=by
 have hlen:(isL l).length=l.length:=(y6X l).length_eq
 have hd:∀(m:List Int) (s:Int),(hdl q.2.1 s m).2≤m.length:=by
  intro m
  induction m with
  | nil=>intro s;exact Nat.le_refl _
  | cons e m ih=>
   intro s
   rw [hdl]
   split
   ·split
    ·exact Nat.zero_le _
    ·have:=ih ‹_›
     rw [List.length_cons];omega
   ·have:=ih s
    rw [List.length_cons];omega
 have h1:=hd l y
 have h2:=hd (isL l) y
 rw [y3R,show idx [x,y] 1=some y from rfl,yOb,yaK hS y (by omega),yOb,yOb,yds hl,yOb,yaK hS y (by omega),yOb]
 congr 1
 unfold okB
 rw [Bool.eq_iff_iff]
 simp only [Bool.or_eq_true,decide_eq_true_eq,Bool.not_eq_true',Bool.and_eq_false_iff,bne_iff_ne,beq_eq_false_iff_ne,ne_eq]
 omega
def brn (P:AutT) (u:List Int):List Int→Int→List Int→Option Int
 | _,s,[]=>some s
 | d,s,e :: w=>if(hasB u e && !hasB d e)=true then(st1 P s e).bind fun r=>brn P u (d ++ [e]) r w else none
theorem ybf {P:AutT} {u:List Int}:∀{w d:List Int} {s v:Int},brn P u d s w=some v↔stw (st1 P) s w=some v∧(∀e∈w,e∈u)∧w.Nodup∧∀e∈w,e∉d
 | [],d,s,v=>by
  rw [brn,stw]
  exact⟨fun h=>⟨h,(fun e he=>by cases he),List.Pairwise.nil,fun e he=>by cases he⟩,fun h=>h.1⟩
 | e :: w,d,s,v=>by
  rw [brn,stw]
  by_cases hc:(hasB u e && !hasB d e)=true
  ·rw [if_pos hc]
   rw [Bool.and_eq_true,yb,Bool.not_eq_true'] at hc
   have hed:e∉d:=fun hm=>by rw [yb.2 hm] at hc;exact absurd hc.2 (by simp)
   cases hs:st1 P s e with
   | none=>exact⟨(fun h=>by cases h),fun h=>by cases h.1⟩
   | some r=>
    rw [yOb,yOb,ybf]
    constructor
    ·rintro ⟨h1,h2,h3,h4⟩
     refine⟨h1,fun x hx=>?_,List.nodup_cons.2 ⟨fun hm=>h4 e hm (by simp),h3⟩,fun x hx=>?_⟩
     ·rcases List.mem_cons.1 hx with rfl | hx
      ·exact hc.1
      ·exact h2 x hx
     ·rcases List.mem_cons.1 hx with rfl | hx
      ·exact hed
      ·exact fun hm=>h4 x hx (List.mem_append_left _ hm)
    ·rintro ⟨h1,h2,h3,h4⟩
     obtain⟨n1,n2⟩:=List.nodup_cons.1 h3
     refine⟨h1,fun x hx=>h2 x (List.mem_cons_of_mem _ hx),n2,fun x hx hm=>?_⟩
     rcases List.mem_append.1 hm with hm | hm
     ·exact h4 x (List.mem_cons_of_mem _ hx) hm
     ·rw [List.mem_singleton.1 hm] at hx
      exact n1 hx
  ·rw [if_neg hc]
   refine⟨(fun h=>by cases h),fun⟨h1,h2,h3,h4⟩=>absurd ?_ hc⟩
   have:hasB d e=false:=by
    cases hb:hasB d e with
    | false=>rfl
    | true=>exact absurd (yb.1 hb) (h4 e (List.mem_cons_self ..))
   rw [this,yb.2 (h2 e (List.mem_cons_self ..))]
   rfl
theorem ydu {q:ProbT} {n1:Nat} (hP:Right q.1 n1) (hu:q.2.2.length≤1000) {x y:Int} {l:List Int} (hl:l.length≤100000):y3D q [x,y] l=some ((brn q.1 q.2.2 [] x l).isSome && decide (2≤l.length)):=by
 obtain⟨o,h1,h2⟩:=yc (f:=y2C q l) (fun i s=>s.1=(i:Int)∧brn q.1 q.2.2 [] x l=brn q.1 q.2.2 (l.take i) s.2 (l.drop i)) (fun o=>(match o with
   | .inl _=>true
   | .inr _=>false)=(brn q.1 q.2.2 [] x l).isSome) l.length 0 (by omega) (fun i s hi ⟨e1,g1⟩=>by
   obtain⟨c,z⟩:=s
   dsimp only at e1 g1
   subst e1
   rw [List.drop_eq_getElem_cons hi,brn] at g1
   rw [y2C]
   dsimp only
   rw [if_pos (ct_lt hi),ya hi,yOb,y4O (by omega),yOb]
   cases hb:hasB q.2.2 l[i]
   ·right
    rw [hb,if_neg (by simp)] at g1
    rw [if_pos (by rfl),y1w,if_pos rfl]
    exact⟨_,rfl,by rw [g1];rfl⟩
   ·rw [if_neg (by simp),yce (by omega),yOb,yOb,y4O (by simp;omega),yOb,y1w]
    cases hd:hasB (l.take i) l[i]
    ·rw [hb,hd,if_pos (by rfl)] at g1
     rw [if_neg (by simp)]
     dsimp only
     rw [ya hi,yOb,y7p hP,yOb]
     cases hs:st1 q.1 z l[i] with
     | none=>
      right
      rw [hs] at g1
      rw [if_pos (by rfl)]
      exact⟨_,rfl,by rw [g1];rfl⟩
     | some v=>
      left
      rw [hs,yOb] at g1
      have:=y4B hP hs
      rw [Option.getD_some,if_neg (by simp;omega),nxt (by omega)]
      refine⟨_,rfl,rfl,?_⟩
      dsimp only
      rw [g1,List.take_succ_eq_append_getElem hi]
    ·right
     rw [hb,hd,if_neg (by simp)] at g1
     rw [if_pos rfl]
     exact⟨_,rfl,by rw [g1];rfl⟩) (fun s ⟨e1,g1⟩=>by
   obtain⟨c,z⟩:=s
   dsimp only at e1 g1
   subst e1
   rw [y2C]
   dsimp only
   rw [if_neg ct_ge]
   refine⟨_,rfl,?_⟩
   rw [g1,List.drop_length,brn]
   rfl) (Nat.zero_le _) (0,x) ⟨rfl,rfl⟩
 rw [y3D,show idx [x,y] 0=some x from rfl,yOb,h1,yOb,←h2]
 cases o with
 | inl u=>
  dsimp only
  rw [Bool.true_and]
  congr 1
  rw [Bool.eq_iff_iff]
  simp
  omega
 | inr u=>rfl
section
variable {q:ProbT} {t:TaskT} {p:AutT} {T:List (List Int)} {n1 n2 n:Nat}
theorem yf6 (h:TaskOk q t p T n1 n2 n) {k:Nat} {x y:Int} (hk:T[k]? =some [x,y]) (u c:Int):y1C q [x,y] u c=some (hasB q.1.1 u && hasB q.1.1 c && dL q p T (k:Int) u c):=by
 have hal:=Alp.len ⟨h.rP.ali,h.rP.alr⟩
 cases hu:hasB q.1.1 u with
 | false=>
  rw [y1C,y4O (by omega),yOb,hu,if_pos (by rfl),yOb,if_pos rfl,yOb,if_pos rfl,yOb,if_pos rfl]
  rfl
 | true=>
  cases hc:hasB q.1.1 c with
  | false=>
   rw [y1C,y4O (by omega),yOb,hu,if_neg (by simp),y4O (by omega),yOb,hc,yOb,if_pos (by rfl),yOb,if_pos rfl,yOb,if_pos rfl]
   rfl
  | true=>
   rw [yfM h hk (yb.1 hu) (yb.1 hc)]
   rfl
end
theorem yel {xs ys:List Int} (hl:xs.length≤1000000):y4c xs ys=some (decide (xs=ys)):=by
 rw [y4c]
 by_cases hn:xs.length=ys.length
 case neg=>
  rw [if_pos (by simp;omega),decide_eq_false (fun e=>hn (by rw [e]))]
 rw [if_neg (by simp;omega)]
 obtain⟨o,h1,h2⟩:=yc (f:=y4b xs ys) (fun i s=>s=(i:Int)∧i≤xs.length∧xs.take i=ys.take i) (fun o=>(match o with
   | .inl _=>true
   | .inr _=>false)=decide (xs=ys)) xs.length 0 (by omega) (fun i s hi ⟨e1,_,e2⟩=>by
   subst e1
   have hi2:i < ys.length:=by omega
   rw [y4b,if_pos (ct_lt hi),ya hi,yOb,ya hi2,yOb]
   by_cases h:xs[i]=ys[i]
   ·left
    rw [if_neg (by simpa using h),nxt (by omega)]
    exact⟨_,rfl,rfl,hi,by rw [List.take_succ_eq_append_getElem hi,List.take_succ_eq_append_getElem hi2,e2,h]⟩
   ·right
    rw [if_pos (by simpa using h)]
    refine⟨_,rfl,?_⟩
    rw [decide_eq_false (fun e=>h (by subst e;rfl))]) (fun s ⟨e1,_,e2⟩=>by
   subst e1
   rw [y4b,if_neg ct_ge]
   refine⟨_,rfl,?_⟩
   rw [List.take_length,hn,List.take_length] at e2
   rw [decide_eq_true e2]) (Nat.zero_le _) 0 ⟨rfl,Nat.zero_le _,rfl⟩
 rw [h1,yOb,←h2]
 cases o <;> rfl
section
variable {q:ProbT} {t:TaskT} {p:AutT} {T:List (List Int)} {n1 n2 n:Nat}
theorem yf7 (h:TaskOk q t p T n1 n2 n) {k:Nat} {x y:Int} (hk:T[k]? =some [x,y]) {l:List Int} (hl:l.length≤1000):y4z t (k:Int) l=some ((brn q.1 q.2.2 [] x l).isSome && decide (2≤l.length) && decide (l.length≤3)):=by
 rw [y4z]
 by_cases hz:2≤l.length∧l.length≤3
 case neg=>
  rw [if_pos (by simp;omega)]
  congr 1
  symm
  rw [Bool.and_assoc,show(decide (2≤l.length) && decide (l.length≤3))=false from by simp;omega,Bool.and_false]
 obtain⟨z2,z3⟩:=hz
 rw [if_neg (by simp;omega)]
 obtain⟨bs,b1,b2,b3⟩:=ydr h hk (z:=l.length) z3
 rw [b1,yOb]
 obtain⟨o,g1,g2⟩:=ybe (xs:=bs) (f:=y2Q l) (g:=fun b=>decide (b=l)) (fun b hb=>by
  have:=((b3.mem b).1 hb).2.2
  rw [y2Q,yel (by omega),yOb]) (by omega)
 have g1:iter (y4D bs (y2Q l)) 0=some o:=g1
 have hm:l∈bs↔(brn q.1 q.2.2 [] x l).isSome=true:=by
  rw [b3.mem,Option.isSome_iff_exists]
  constructor
  ·rintro ⟨⟨v,hv⟩,_⟩
   obtain⟨h1,h2,h3⟩:=h.isrun.1 hv
   exact⟨v,ybf.2 ⟨h1,h2,h3,fun e _ he=>by cases he⟩⟩
  ·rintro ⟨v,hv⟩
   obtain⟨h1,h2,h3,_⟩:=ybf.1 hv
   exact⟨⟨v,h.isrun.2 ⟨h1,h2,h3⟩⟩,z2,Nat.le_refl _⟩
 rw [y3g,y3T,g1,yOb]
 rw [decide_eq_true z2,decide_eq_true z3,Bool.and_true,Bool.and_true]
 rcases g2 with ⟨rfl,g3⟩ | ⟨i,hi,rfl,g3,_⟩
 ·have:(brn q.1 q.2.2 [] x l).isSome=false:=by
   cases hb:(brn q.1 q.2.2 [] x l).isSome with
   | false=>rfl
   | true=>
    have:=g3 l (hm.2 hb)
    simp at this
  rw [this]
  rfl
 ·have:(brn q.1 q.2.2 [] x l).isSome=true:=hm.1 (by
   have:=of_decide_eq_true g3
   rw [←this]
   exact List.getElem_mem hi)
  rw [this]
  simp
theorem y9Z (h:TaskOk q t p T n1 n2 n) (w:List Int):(decide (0 < n) && (stw (st1 p) 0 w).isSome)=false∧(if n=0 then(-1:Int) else(stw (st1 p) 0 w).getD (-1))= -1∨
  ∃(k:Nat) (x y:Int),(decide (0 < n) && (stw (st1 p) 0 w).isSome)=true∧0 < n∧stw (st1 p) 0 w=some (k:Int)∧(if n=0 then(-1:Int) else(stw (st1 p) 0 w).getD (-1))=(k:Int)∧T[k]? =some [x,y]:=by
 by_cases h0:n=0
 ·left
  rw [if_pos h0,decide_eq_false (by omega)]
  exact⟨rfl,rfl⟩
 ·rw [if_neg h0,decide_eq_true (by omega),Bool.true_and]
  cases hs:stw (st1 p) 0 w with
  | none=>exact .inl ⟨rfl,rfl⟩
  | some v=>
   right
   have hv:=yaJ h.loop.right hs (Int.le_refl _) (by omega)
   obtain⟨k,rfl⟩:∃k:Nat,v=(k:Int):=⟨v.toNat,by omega⟩
   obtain⟨x,y,e,_⟩:=h.pair (k:=k) (by rw [h.loop.tl];omega)
   exact⟨k,x,y,rfl,by omega,rfl,rfl,e⟩
theorem vj1 (b:Bool):yp b=some (if b=true then 0 else 24):=by
 cases b <;> rfl
def vO (q:ProbT) (y:Int) (x:Int) (l:List Int):Bool:=(brn q.1 q.2.2 [] x l).isSome && decide (2≤l.length) && decide (l.length≤3) && !okB q.2.1 y l
theorem ydv {d:Des26} (hd:Des26In d) (w:Int×List Int×List Int) (keep:Bool):y3x d w keep=some true:=by
 obtain⟨kd,wd,ev⟩:=w
 rw [y3x,yfG,yOb]
 dsimp only
 by_cases hlen:wd.length≤4∧ev.length≤4
 case neg=>
  rw [if_pos (by simp;omega),yOb]
 obtain⟨lw,le⟩:=hlen
 rw [if_neg (by simp;omega)]
 obtain⟨q,m1,m2,hq,hP,_⟩:=ydp hd keep
 obtain⟨t,p,T,n1,n2,n,ho,h,hs⟩:=hP.open
 have hul:=Alp.len ⟨h.iu,h.ur⟩
 have hR:=h.loop.right
 have hmi:=y3L (fun a b=>a && !b) q.1.1 q.2.2 h.rP.ali h.iu
 have hmem:∀e,e∈mg (fun a b=>a && !b) q.1.1 q.2.2→e∈q.1.1∧e∉q.2.2:=fun e he=>by
  have:=((hmi.2 e).1 he).2
  rw [Bool.and_eq_true,yb] at this
  refine⟨this.1,fun hm=>?_⟩
  rw [yb.2 hm] at this
  simp at this
 have hml:=Alp.len ⟨hmi.1,fun x hx=>h.rP.alr x (hmem x hx).1⟩
 rw [hq,yOb,y9L h.rP.l1 (by omega),yOb,hs,yOb,y9N hR (by omega),yOb]
 generalize hl:mg (fun a b=>a && !b) q.1.1 q.2.2=l at *
 have hll:l.length≤1000000:=by omega
 have hla:∀e∈l,e∈q.1.1:=fun e he=>(hmem e he).1
 have hnd:l.Nodup:=by
  have:=hmi.1
  unfold Inc at this
  exact this.imp fun h e=>by omega
 have hw:=yfF h ho hll
 rw [if_pos (yd4 (fun e he=>⟨(hmem e he).1,(hmem e he).2,List.not_mem_nil⟩) hnd)] at hw
 have haf:=yci h.g3 hR (u:=wd) (by omega)
 -- what the law does with its own answer
 have hj2:∀{c:Int},y1V q l (kd,wd,ev)=some c→yg (kd,wd,ev) q l c=some true:=fun {c} e=>by
  rw [yg,e,yOb]
  simp
 have hver:y1V q l (kd,wd,ev)=(some (if n=0 then(-1:Int) else(stw (st1 p) 0 wd).getD (-1))).bind fun r3=>
   if(kd == 1)=true then
    (if (r3 != (-1))=true then(y4z t r3 ev).bind fun r13=>some r13 else some false).bind fun b6=>
    (if b6=true then(y2P t r3 ev).bind fun r12=>some (!r12) else some false).bind fun b9=>yp b9
   else if(kd == 2)=true then
    if(r3 != (-1))=true then
     if((ev.length:Int) == 2)=true then
      (idx ev 0).bind fun x16=>(yk t.2.2.2.2.1 x16).bind fun r17=>
      if r17=true then
       (idx ev 1).bind fun x19=>(yk t.2.2.2.2.2 x19).bind fun r20=>
       if r20=true then(idx ev 0).bind fun x22=>(idx ev 1).bind fun x23=>(y3K t r3 x22 x23).bind fun r24=>yp r24
       else yp false
      else yp false
     else yp false
    else yp false
   else if(kd == 3)=true then
    (y1D t l).bind fun r25=>(y3p r25 wd).bind fun r26=>
    (if ((r26 != (-1)) && ((ev.length:Int) == 0))=true then(y3F r25).bind fun r32=>(idx r32 r26).bind fun x33=>some (!x33) else some false).bind fun b29=>yp b29
   else some 11:=by
  rw [y1V,hw,yOb,if_neg (by simp),yOb]
  dsimp only
  rw [haf]
 -- the three kinds
 by_cases k1:kd=1
 ·subst k1
  rcases y9Z h wd with ⟨g1,g2⟩ | ⟨k,x,y,g1,g0,g2,g3,g4⟩
  ·have hv:y1V q l (1,wd,ev)=some 24:=by
    rw [hver,g2]
    rfl
   dsimp only
   rw [g1,if_neg (by simp),yh,if_pos (by rfl),if_neg (by simp),yl,if_neg (by simp)]
   exact hj2 hv
  ·have hv:y1V q l (1,wd,ev)=some (if vO q y x ev=true then 0 else 24):=by
    rw [hver,g3,yOb,if_pos (by rfl),if_pos (by simp),yf7 h g4 (by omega),yOb,yOb]
    unfold vO
    cases hb:(brn q.1 q.2.2 [] x ev).isSome && decide (2≤ev.length) && decide (ev.length≤3) with
    | false=>
     rw [if_neg (by simp),yOb,Bool.false_and]
     rfl
    | true=>rw [if_pos rfl,ydj h g4 (by omega),yOb,yOb,vj1,Bool.true_and]
   have hrun:=y7Z hR g0 (u:=wd) (by omega) g2
   dsimp only
   rw [g1,if_pos rfl,hrun,yOb,yh,if_pos (by rfl),if_pos rfl]
   dsimp only
   have hTk:idx T (k:Int)=some [x,y]:=by rw [y6d,g4]
   unfold vO at hv
   by_cases h3:ev.length≤3
   ·rw [if_pos (by simp;omega),hTk,yOb,ydu h.rP (by omega) (by omega),yOb]
    rw [decide_eq_true h3,Bool.and_true] at hv
    cases hb:(brn q.1 q.2.2 [] x ev).isSome && decide (2≤ev.length) with
    | false=>
     rw [hb,Bool.false_and,if_neg (by simp)] at hv
     rw [if_neg (by simp),yl,if_neg (by simp)]
     exact hj2 hv
    | true=>
     rw [hb,Bool.true_and] at hv
     rw [if_pos rfl,yOb,ydt h.rS (by omega),yOb,yl]
     cases hok:okB q.2.1 y ev with
     | false=>
      rw [hok] at hv
      rw [if_pos (by rfl)]
      exact hj2 hv
     | true=>
      rw [hok] at hv
      rw [if_neg (by simp)]
      exact hj2 hv
   ·rw [decide_eq_false h3,Bool.and_false,Bool.false_and,if_neg (by simp)] at hv
    rw [if_neg (by simp;omega),yl,if_neg (by simp)]
    exact hj2 hv
 by_cases k2:kd=2
 ·subst k2
  obtain⟨ui,ul,um⟩:=h.uni
  obtain⟨ci,cl,cm⟩:=h.con
  rcases y9Z h wd with ⟨g1,g2⟩ | ⟨k,x,y,g1,g0,g2,g3,g4⟩
  ·have hv:y1V q l (2,wd,ev)=some 24:=by
    rw [hver,g2]
    rfl
   dsimp only
   rw [g1,if_neg (by simp),yh,if_neg (by simp),if_pos (by rfl),if_neg (by simp),yu,if_neg (by simp)]
   exact hj2 hv
  ·have hrun:=y7Z hR g0 (u:=wd) (by omega) g2
   have hTk:idx T (k:Int)=some [x,y]:=by rw [y6d,g4]
   dsimp only
   rw [g1,if_pos rfl,hrun,yOb,yh,if_neg (by simp),if_pos (by rfl),if_pos rfl]
   dsimp only
   match ev,le with
   | [u,c],_=>
    have hv:y1V q l (2,wd,[u,c])=some (if (hasB q.1.1 u && hasB q.1.1 c && dL q p T (k:Int) u c)=true then 0 else 24):=by
     rw [hver,g3,yOb,if_neg (by simp),if_pos (by rfl),if_pos (by simp),if_pos (by rfl),show idx [u,c] 0=some u from rfl,yOb,y2n (by omega) ui,yOb]
     have e1:hasB t.2.2.2.2.1 u=(hasB q.1.1 u && hasB q.2.2 u):=by rw [Bool.eq_iff_iff,Bool.and_eq_true,yb,yb,yb];exact um u
     have e2:hasB t.2.2.2.2.2 c=(hasB q.1.1 c && !hasB q.2.2 c):=by
      rw [Bool.eq_iff_iff,Bool.and_eq_true,yb,yb,Bool.not_eq_true',←Bool.not_eq_true,yb]
      exact cm c
     rw [e1,dL]
     cases hu:hasB q.1.1 u && hasB q.2.2 u with
     | false=>
      rw [if_neg (by simp),vj1]
      have:(hasB q.1.1 u && hasB q.1.1 c && (hasB q.2.2 u && !hasB q.2.2 c && dB q.1 p T (k:Int) u c))=false:=by
       rw [Bool.and_eq_false_iff] at hu
       rcases hu with hu | hu <;> rw [hu] <;> simp
      rw [this]
     | true=>
      rw [Bool.and_eq_true] at hu
      rw [if_pos rfl,show idx [u,c] 1=some c from rfl,yOb,y2n (by omega) ci,yOb,e2,hu.1,hu.2]
      cases hc:hasB q.1.1 c && !hasB q.2.2 c with
      | false=>
       rw [if_neg (by simp),vj1]
       have:(true && hasB q.1.1 c && (true && !hasB q.2.2 c && dB q.1 p T (k:Int) u c))=false:=by
        rw [Bool.and_eq_false_iff] at hc
        rcases hc with hc | hc <;> rw [hc] <;> simp
       rw [this]
      | true=>
       rw [Bool.and_eq_true] at hc
       rw [if_pos rfl,yOb,yOb,ydq h,yOb,vj1,hc.1,hc.2]
       rfl
    rw [if_pos (by rfl),hTk,yOb,show idx [u,c] 0=some u from rfl,yOb,show idx [u,c] 1=some c from rfl,yOb,yf6 h g4,yOb,yu]
    split
    ·rename_i hb
     rw [if_pos hb] at hv
     exact hj2 hv
    ·rename_i hb
     rw [if_neg hb] at hv
     exact hj2 hv
   | [],_ | [_],_ | [_,_,_],_ | [_,_,_,_],_=>
    rw [if_neg (by simp),yu,if_neg (by simp)]
    refine hj2 ?_
    rw [hver,g3,yOb,if_neg (by simp),if_pos (by rfl),if_pos (by simp),if_neg (by simp)]
    rfl
 by_cases k3:kd=3
 ·subst k3
  obtain⟨g,r,X,hg,hgr,hr⟩:=ybJ h l hll
  have hRr:=hr.right
  have hle:=hr.le
  obtain⟨bad,hbad,bi,bm⟩:=ycv hRr
  obtain⟨b,hb1,hb2,hb3⟩:=ye5 hgr hRr
  have hbl:=y2N (n:=X.length) (lo:=0) bi (fun y hy=>⟨((bm y).1 hy).1,((bm y).1 hy).2.1⟩) (Int.le_refl _)
  have haf2:=yci hgr hRr (u:=wd) (by omega)
  have hgo:∀z,yh (3,wd,ev) q l (p,T,0) (decide (0 < n) && (stw (st1 p) 0 wd).isSome,0) z=some true:=fun z=>by
   rw [yh,if_neg (by simp),if_neg (by simp),if_pos (by rfl),yee h hs hll hla hr,yOb,y9N hRr (by dsimp only;omega),yOb]
   dsimp only
   by_cases h0:X.length=0
   ·rw [decide_eq_false (show ¬0 < X.length by omega),Bool.false_and,Bool.false_and,if_neg (by simp)]
    refine hj2 ?_
    rw [hver,yOb,if_neg (by simp),if_neg (by simp),if_pos (by rfl),hg,yOb,haf2,yOb,if_pos h0,if_neg (by simp)]
    rfl
   ·rw [decide_eq_true (show 0 < X.length by omega),Bool.true_and]
    cases hst:stw (st1 r) 0 wd with
    | none=>
     rw [show (none:Option Int).isSome=false from rfl,Bool.false_and,if_neg (by simp)]
     refine hj2 ?_
     rw [hver,yOb,if_neg (by simp),if_neg (by simp),if_pos (by rfl),hg,yOb,haf2,yOb,if_neg h0,hst,if_neg (by simp)]
     rfl
    | some v=>
     have hv:=yaJ hRr hst (Int.le_refl _) (by omega)
     obtain⟨k,rfl⟩:∃k:Nat,v=(k:Int):=⟨v.toNat,by omega⟩
     have hkb:k < b.length:=by omega
     rw [show (some (k:Int)).isSome=true from rfl,Bool.true_and]
     by_cases he:ev.length=0
     ·have hev:((ev.length:Int) == 0)=true:=by simp [he]
      rw [hev,if_pos rfl,y7Z hRr (by omega) (u:=wd) (by omega) hst,yOb,hbad,yOb]
      dsimp only
      rw [y4O (by omega),yOb]
      have hv2:y1V q l (3,wd,ev)=some (if (!b[k])=true then 0 else 24):=by
       rw [hver,yOb,if_neg (by simp),if_neg (by simp),if_pos (by rfl),hg,yOb,haf2,yOb,if_neg h0,hst,Option.getD_some,if_pos (by rw [hev];simp),hb1,yOb,ya hkb,yOb,yOb,vj1]
      cases hbk:b[k] with
      | true=>
       have:hasB bad (k:Int)=false:=by
        cases hh:hasB bad (k:Int) with
        | false=>rfl
        | true=>exact absurd ((hb3 k (by omega)).1 (by rw [yGe hkb,hbk])) ((bm _).1 (yb.1 hh)).2.2
       rw [this,if_neg (by simp)]
       rw [hbk] at hv2
       exact hj2 hv2
      | false=>
       have:hasB bad (k:Int)=true:=yb.2 ((bm _).2 ⟨by omega,by omega,fun hl=>by
        have:=(hb3 k (by omega)).2 hl
        rw [yGe hkb,hbk] at this
        cases this⟩)
       rw [this,if_pos rfl]
       rw [hbk] at hv2
       exact hj2 hv2
     ·have hev:((ev.length:Int) == 0)=false:=by simp;intro h;exact he (by simp [h])
      rw [hev,if_neg (by simp)]
      refine hj2 ?_
      rw [hver,yOb,if_neg (by simp),if_neg (by simp),if_pos (by rfl),hg,yOb,haf2,yOb,hev,Bool.and_false,if_neg (by simp)]
      rfl
  dsimp only
  rcases y9Z h wd with ⟨g1,g2⟩ | ⟨k,x,y,g1,g0,g2,g3,g4⟩
  ·rw [g1,if_neg (by simp),←g1]
   exact hgo 0
  ·have hgk:=hgo (k:Int)
   rw [g1] at hgk
   rw [g1,if_pos rfl,y7Z hR g0 (u:=wd) (by omega) g2,yOb]
   exact hgk
 ·have hv:y1V q l (kd,wd,ev)=some 11:=by
   rw [hver,yOb,if_neg (by simpa using k1),if_neg (by simpa using k2),if_neg (by simpa using k3)]
  have hgo:∀r10 z,yh (kd,wd,ev) q l (p,T,0) r10 z=some true:=fun r10 z=>by
   rw [yh,if_neg (by simpa using k1),if_neg (by simpa using k2),if_neg (by simpa using k3)]
   exact hj2 hv
  dsimp only
  rcases y9Z h wd with ⟨g1,g2⟩ | ⟨k,x,y,g1,g0,g2,g3,g4⟩
  ·rw [g1,if_neg (by simp)]
   exact hgo _ _
  ·rw [g1,if_pos rfl,y7Z hR g0 (u:=wd) (by omega) g2,yOb]
   exact hgo _ _
end
end Go.Proofs.YtecmobjeeonmaaaGreatDoor
namespace Go.Proofs.YtecmobjeeonmaaaGreatDoor
open Go Go.RowKit Go.ChangeShapes Go.WideShapes Go.Deep
def Op (P:Program) {α:Type} (r:Rep α) (Q:α→Prop) (t:TypeId):Prop:=
 ∀(H:Type) (enc:TypeId×Value→H) (w:World) (fuel:Nat) (cs:List Value) (x:DataW H×List MemPlace),DataW.trod enc P w 0 (fun _=>true) true fuel t cs=some x→∃y:α,r.rd ⟨w,fun _=>0⟩ cs y∧Q y
section
variable {P:Program} {α β:Type} {r:Rep α} {q:Rep β} {Q:α→Prop} {R:β→Prop} {t e:TypeId}
theorem Op.int {k:IntKind} (ht:P.underlying t=some (.int k)):Op P (rK k) (fun n=>k.min≤n∧n≤k.max) t:=by
 intro H enc w fuel cs x h
 obtain⟨n,h1,h2,h3⟩:=DataW.trod_int ht h
 refine⟨n,h1,?_⟩
 simpa [Lit.wf] using h3
theorem ycj {H:Type} {enc:TypeId×Value→H} {w:World} {base fuel:Nat} {v:Value} {x:DataW H×List MemPlace} (ht:P.underlying t=some (.slice e)) (hc:P.cellsOf e=r.sz) (ho:Op P r Q e) (hok:Cell.okWide P w .any base t v)
  (h:DataW.trod enc P w 0 (fun _=>true) true fuel t [v]=some x):∃(a:Option Addr) (c:Nat) (xs:List α),v= .slice a xs.length c∧RdL r ⟨w,fun _=>0⟩ a c xs∧∀y∈xs,Q y:=by
 rcases open_slice ht h with ⟨h1,-⟩ | ⟨a,len,cap,m,n,D,Pl,h1,-,h3,h4,h5,-,h7⟩
 ·rw [List.cons.injEq] at h1
  refine⟨none,0,[],h1.1,⟨[],⟨by simp,by simp,by simp,fun _=>rfl,fun ad e=>(by cases e),fun ad e=>(by cases e)⟩,fun ad e=>(by cases e),rfl⟩,fun y hy=>(by cases hy)⟩
 ·rw [List.cons.injEq] at h1
  have hv:=h1.1
  subst hv
  rw [if_pos rfl] at h5
  subst h5
  have hsp:a.spot=none:=by
   simp only [Cell.okWide,ht,Cell.ok] at hok
   exact hok.2.2.2.1
  have hadd:∀k,a.add k=⟨a.block,a.off + k,none⟩:=fun k=>by
   obtain⟨b,o,sp⟩:=a
   dsimp only at hsp
   subst hsp
   unfold Addr.add
   split
   ·rename_i hk;subst hk;rfl
   ·rfl
  have key:∀k,k≤len→∃(xs:List α) (cs:List Value),xs.length=k∧Cells r ⟨w,fun _=>0⟩ cs xs∧(∀y∈xs,Q y)∧∀j (hj:j < cs.length),w.cell? ⟨a.block,a.off + j,none⟩=some cs[j]:=by
   intro k
   induction k with
   | zero=>intro _;exact⟨[],[],rfl,rfl,fun y hy=>(by cases hy),fun j hj=>absurd hj (Nat.not_lt_zero _)⟩
   | succ k ih=>
    intro hk
    obtain⟨xs,cs,g1,g2,g3,g4⟩:=ih (by omega)
    obtain⟨cs',k1,k2⟩:=h7 k (by omega)
    obtain⟨y,k3,k4⟩:=ho H enc w n cs' _ k2
    obtain⟨-,k5,k6⟩:=World.cells?_some k1
    have hl:=g2.len
    rw [g1] at hl
    rw [hc] at k5 k6
    refine⟨xs ++ [y],cs ++ cs',by simp [g1],g2.append ⟨cs',[],by simp,k3,rfl⟩,fun z hz=>?_,fun j hj=>?_⟩
    ·rcases List.mem_append.1 hz with hz | hz
     ·exact g3 z hz
     ·rw [List.mem_singleton.1 hz];exact k4
    ·by_cases hlt:j < cs.length
     ·rw [List.getElem_append_left hlt];exact g4 j hlt
     ·have hj2:j - cs.length < cs'.length:=by rw [List.length_append] at hj;omega
      rw [List.getElem_append_right (by omega)]
      have:=k6 (j - cs.length) (by omega)
      rw [add_add,hadd,yGe hj2] at this
      rw [←this]
      congr 2
      omega
  obtain⟨xs,cs,g1,g2,g3,g4⟩:=key len (Nat.le_refl _)
  subst g1
  refine⟨some a,m,xs,rfl,⟨cs,⟨g2.len,h3,h4,fun e=>(by cases e),fun ad e=>(by cases e;exact hsp),fun ad e j hj=>(by cases e;exact g4 j hj)⟩,fun _ _ _=>rfl,g2⟩,g3⟩
theorem yem {w:World} {base:Nat} {v:Value} {fs:Array Field} {ts:List TypeId} (ht:P.underlying t=some (.struct fs)) (hts:P.cellTypes P.depth t=some ts) (hsz:P.cellsOf t=ts.length) (hok:Value.okWide P w .any base t v):
  ∃cs,v= .agg cs∧cs.size=ts.length∧∀(i:Nat) (u:TypeId),ts[i]? =some u→∃c:Value,cs[i]? =some c∧Cell.okWide P w .any base u c:=by
 simp only [Value.okWide,ht] at hok
 obtain⟨cs,rfl,h1,ts',h2,h3,h4⟩:=hok
 rw [hts] at h2
 cases h2
 refine⟨cs,rfl,by omega,fun i u hu=>?_⟩
 have hlt:i < ts.length:=(List.getElem?_eq_some_iff.1 hu).1
 obtain⟨u',g1,g2⟩:=h4 i cs[i] (Array.getElem?_eq_getElem (by omega))
 rw [Nat.mod_eq_of_lt hlt,hu] at g1
 cases g1
 exact⟨_,Array.getElem?_eq_getElem (by omega),g2⟩
theorem yf8 {H:Type} {enc:TypeId×Value→H} {w:World} {fuel:Nat} {cs:List Value} {x:DataW H×List MemPlace} {fs:Array Field} (ht:P.underlying t=some (.struct fs)) (h:DataW.trod enc P w 0 (fun _=>true) true fuel t cs=some x) {i:Nat} {f:Field} (hf:fs[i]? =some f):
  ∃n y,DataW.trod enc P w 0 (fun _=>true) true n f.type ((cs.drop f.offset).take (P.cellsOf f.type))=some y:=by
 obtain⟨xs,n,_,_,_,h5,h6⟩:=DataW.trod_struct ht h
 have hlt:=(Array.getElem?_eq_some_iff.1 hf).1
 exact⟨n,xs[i]'(by omega),by rw [h6 i f hf,yGe (by omega)]⟩
theorem y9O {H:Type} {enc:TypeId×Value→H} {w:World} {fuel:Nat} {cs:List Value} {x:DataW H×List MemPlace} {fs:Array Field} (ht:P.underlying t=some (.struct fs)) (h:DataW.trod enc P w 0 (fun _=>true) true fuel t cs=some x) (i:Nat) (u:TypeId) {f:Field} {o:Nat} {c:Value} (hf:fs[i]? =some f) (hu:f.type=u) (ho:f.offset=o) (hc:P.cellsOf u=1) (hat:cs[o]? =some c):
  ∃n y,DataW.trod enc P w 0 (fun _=>true) true n u [c]=some y:=by
 obtain⟨n,y,g⟩:=yf8 ht h hf
 subst hu
 subst ho
 rw [hc] at g
 obtain⟨hlt,he⟩:=List.getElem?_eq_some_iff.1 hat
 rw [List.drop_eq_getElem_cons hlt,he,List.take_succ_cons,List.take_zero] at g
 exact⟨n,y,g⟩
end
end Go.Proofs.YtecmobjeeonmaaaGreatDoor
namespace Go.Proofs.YtecmobjeeonmaaaGreatDoor
open Go Go.ChangeShapes Go.WideShapes Go.ChangeAt Go.RowKit Go.Deep
theorem yck :Op Tryz.prog (rK .i64) (fun n=> -9223372036854775808≤n∧n < 9223372036854775808) 3:=by
 intro H enc w fuel cs x h
 obtain⟨y,h1,h2⟩:=(Op.int (P:=Tryz.prog) (k:= .i64) Tryz.underlying3) H enc w fuel cs x h
 refine⟨y,h1,?_⟩
 simp [IntKind.min,IntKind.max,IntKind.signed,IntKind.bits] at h2
 omega
section
variable {H:Type} {enc:TypeId×Value→H} {w:World} {base:Nat} {v:Value} {d:DataW H} {ps:List MemPlace}
theorem yd5 :Tryz.prog.cellsOf 32=1:=by kernel_rfl
theorem ycl :Tryz.prog.cellsOf 3=1:=by kernel_rfl
end
theorem Fw.law {P:Program} {f:FuncId} {ts:List TV} (h:Fw P f ⟨0,[]⟩ ts [] (.b true) []) {w:World} {vs:List Value} (ha:All3 (fun _=> .bool false) ⟨w,fun _=>0⟩ ts vs):Calls P f vs.toArray w fun e w'=>e= .returned (.bool true)∧Below w.heap.size w w':=
 Calls.mono (h.is [] (fun _=> .bool false) ⟨w,fun _=>0⟩ vs rfl (Nat.le_refl _) List.nodup_nil (fun t ht=>by cases ht) ha (fun i o h=>by simp at h)) fun e W' ⟨v,s',hw,he,hm,β',_,hv,_⟩=>by
  obtain⟨hv,_⟩:=hv
  subst hw
  subst hv
  exact⟨he,(hm.weak (S':=No) fun t ⟨i,hi,_⟩=>by cases hi).below⟩
theorem All3.c {β:Nat→Value} {s:Sig} {x:TV} {xs:List TV} {v:Value} {us:List Value} (h:x.p β s v) (h2:All3 β s xs us):All3 β s (x :: xs) (v :: us):=⟨v,us,h,h2,rfl⟩
theorem ydw {α:Type} [Inhabited α] {n:Nat} {p:Nat→α→Prop} (h:∀i,i < n→∃x,p i x):∃f:Nat→α,∀i,i < n→p i (f i):=
 ⟨fun i=>if hi:i < n then Classical.choose (h i hi) else default,fun i hi=>by
  dsimp only
  rw [dif_pos hi]
  exact Classical.choose_spec (h i hi)⟩
abbrev yg4 :=(Int×y2B)×(Int×y2B)×Int
def pbT :List TypeId:=[22] ++ List.replicate 27 5 ++ [22] ++ List.replicate 27 5 ++ [22]
theorem yf9 :Tryz.prog.cellTypes Tryz.prog.depth 30=some pbT:=by kernel_rfl
theorem yfa :Tryz.prog.cellsOf 30=pbT.length:=by kernel_rfl
section
variable {H:Type} {enc:TypeId×Value→H} {w:World} {base:Nat} {v:Value} {d:DataW H} {ps:List MemPlace}
/-- A described problem. -/
theorem yen (hok:Value.okWide Tryz.prog w .any base 30 v):∃x:yg4,GrIn x.1.2∧GrIn x.2.1.2∧∀β s,(TV.a (lx30 x)).p β s v:=by
 obtain⟨cs,rfl,h1,h2⟩:=yem Tryz.underlying30 yf9 yfa hok
 have h1':cs.size=57:=h1
 obtain⟨f,hf⟩:=ydw (α:=Int) (n:=57) (p:=fun i n=>cs[i]? =some (.int .u8 n)∧0≤n∧n < 256) (fun i hi=>by
  obtain⟨u,hu,hu2⟩:∃u,pbT[i]? =some u∧(u=22∨u=5):=by
   refine⟨pbT[i]'hi,yGe (l:=pbT) hi,?_⟩
   have:=List.getElem_mem (l:=pbT) hi
   generalize pbT[i]'hi=u at this
   simp only [pbT,List.mem_append,List.mem_singleton,List.mem_replicate] at this
   rcases this with (((h | h) | h) | h) | h
   ·exact .inl h
   ·exact .inr h.2
   ·exact .inl h
   ·exact .inr h.2
   ·exact .inl h
  obtain⟨c,g1,g2⟩:=h2 i u hu
  have g2':Cell.okWide Tryz.prog w .any base 5 c:=by
   rcases hu2 with rfl | rfl
   ·simp only [Cell.okWide,Cell.ok,Tryz.underlying22,Tryz.underlying5] at g2 ⊢
    exact g2
   ·exact g2
  obtain⟨n,rfl,g3⟩:∃n:Int,c= .int .u8 n∧0≤n∧n < 256:=by
   simp only [Cell.okWide,Tryz.underlying5] at g2'
   cases c <;> simp_all [Cell.ok]
   rename_i k n
   obtain⟨rfl,h2⟩:=g2'
   simp [IntKind.has,IntKind.min,IntKind.max,IntKind.signed,IntKind.bits] at h2
   omega
  exact⟨n,g1,g3⟩)
 have hcs:cs=((List.range 57).map fun i=>Value.int .u8 (f i)).toArray:=by
  apply Array.ext_getElem?
  intro i
  by_cases hi:i < 57
  ·rw [(hf i hi).1];simp [hi]
  ·rw [Array.getElem?_eq_none (by omega),Array.getElem?_eq_none (by simp;omega)]
 have gr:∀o,o + 27≤57→GrIn (f o,f (o + 1),((f (o + 2),f (o + 3),f (o + 4),f (o + 5),f (o + 6)),(f (o + 7),f (o + 8),f (o + 9),f (o + 10),f (o + 11)),(f (o + 12),f (o + 13),f (o + 14),f (o + 15),f (o + 16)),(f (o + 17),f (o + 18),f (o + 19),f (o + 20),f (o + 21)),(f (o + 22),f (o + 23),f (o + 24),f (o + 25),f (o + 26)))):=fun o ho=>by
  refine⟨(hf o (by omega)).2,fun y hy=>?_⟩
  have hy2:y∈(List.range 25).map fun i=>f (o + (i + 2)):=hy
  obtain⟨i,hi,rfl⟩:=List.mem_map.1 hy2
  have:=List.mem_range.1 hi
  exact(hf (o + (i + 2)) (by omega)).2
 refine⟨((f 0,f 1,f 2,((f 3,f 4,f 5,f 6,f 7),(f 8,f 9,f 10,f 11,f 12),(f 13,f 14,f 15,f 16,f 17),(f 18,f 19,f 20,f 21,f 22),(f 23,f 24,f 25,f 26,f 27))),(f 28,f 29,f 30,((f 31,f 32,f 33,f 34,f 35),(f 36,f 37,f 38,f 39,f 40),(f 41,f 42,f 43,f 44,f 45),(f 46,f 47,f 48,f 49,f 50),(f 51,f 52,f 53,f 54,f 55))),f 56),gr 1 (by omega),gr 29 (by omega),fun β s=>?_⟩
 refine⟨((List.range 57).map fun i=>Value.int .u8 (f i)),?_,by rw [hcs]⟩
 exact y8w (cs:=(List.range 57).map fun i=>Value.int .u8 (f i)) (List.all_eq_true.2 fun x hx=>by
  obtain⟨i,_,rfl⟩:=List.mem_map.1 hx
  rfl)
end
theorem arr3 {cs:Array Value} (h:cs.size=3):∃a b c,cs= #[a,b,c]:=by
 obtain⟨l⟩:=cs
 match l,h with
 | [a,b,c],_=>exact⟨a,b,c,rfl⟩
theorem yeo :Tryz.prog.cellTypes Tryz.prog.depth 44=some [3,32,32]:=by kernel_rfl
theorem yep :Tryz.prog.cellsOf 44= [3,32,32].length:=by kernel_rfl
section
variable {H:Type} {enc:TypeId×Value→H} {w:World} {base:Nat} {v:Value} {d:DataW H} {ps:List MemPlace}
theorem yeq (hok:Value.okWide Tryz.prog w .any base 4 v):∃b,v= .bool b:=by
 simp only [Value.okWide,Tryz.underlying4] at hok
 simp only [Cell.okWide,Tryz.underlying4] at hok
 cases v <;> simp_all [Cell.ok]
/-- A witness. -/
theorem yfN (hok:Value.okWide Tryz.prog w .any base 44 v) (h:DataW.Trod enc Tryz.prog w 0 (fun _=>true) true 44 v d ps):∃x:Int×List Int×List Int,∀β,(TV.a [lI x.1,lF qI x.2.1,lF qI x.2.2]).p β ⟨w,fun _=>0⟩ v:=by
 obtain⟨cs,rfl,h1,h2⟩:=yem Tryz.underlying44 yeo yep hok
 obtain⟨x,y,z,rfl⟩:=arr3 h1
 obtain⟨fuel,hf⟩:=h
 obtain⟨c1,e1,o1⟩:=h2 1 32 rfl
 obtain⟨c2,e2,o2⟩:=h2 2 32 rfl
 cases e1
 cases e2
 obtain⟨n0,x0,g0⟩:=y9O Tryz.underlying44 hf 0 3 rfl rfl rfl ycl rfl
 obtain⟨n1,x1,g1⟩:=y9O Tryz.underlying44 hf 1 32 rfl rfl rfl yd5 rfl
 obtain⟨n2,x2,g2⟩:=y9O Tryz.underlying44 hf 2 32 rfl rfl rfl yd5 rfl
 obtain⟨a,c,xs,rfl,r0,-⟩:=ycj Tryz.underlying32 ycl yck o1 g1
 obtain⟨b,e,ys,rfl,r2,-⟩:=ycj Tryz.underlying32 ycl yck o2 g2
 obtain⟨k,hk,-⟩:=yck _ _ _ _ _ _ g0
 cases hk
 exact⟨(k,xs,ys),fun β=>⟨[_,_,_],⟨_,_,⟨rfl,rfl⟩,⟨_,_,⟨_,_,rfl,r0⟩,⟨_,_,⟨_,_,rfl,r2⟩,rfl,rfl⟩,rfl⟩,rfl⟩,rfl⟩⟩
end
theorem Tryz.own :ownKnob Tryz.prog.godebug=none:=by kernel_rfl
theorem Tryz.laidOut :laidOutB Tryz.prog=true:=by kernel_rfl
section
variable {H:Type} {enc:TypeId×Value→H}
def ycm (P:Program) (ts:List TypeId):Bool:=ts.all fun t=>P.readableRec t && decide (t < P.types.size)
theorem y9m {P:Program} (hl:laidOutB P=true) {W W':World} (hb:Below W.heap.size W W') {sp:Nat→Bool}:∀{ts:List TypeId} {vs:List Value} {ds:List (DataW H)} {ps:List MemPlace},ycm P ts=true→
  DataW.TrodAll enc P W 0 (fun _=>true) true ts vs ds ps→(∀x∈ps,x.block < W.heap.size)→(∀x∈ps,sp x.block=true)→DataW.TrodAll enc P W' 0 sp true ts vs ds ps
 | [],[],[],_,_,h,_,_=>h
 | [],_ :: _,_,_,_,h,_,_=>h.elim
 | [],[],_ :: _,_,_,h,_,_=>h.elim
 | t :: ts,[],_,_,_,h,_,_=>h.elim
 | t :: ts,_ :: _,[],_,_,h,_,_=>h.elim
 | t :: ts,v :: vs,d :: ds,ps,hc,⟨p,q,h1,h2,e⟩,hlt,hsp=>by
  subst e
  unfold ycm at hc
  rw [List.all_cons,Bool.and_eq_true,Bool.and_eq_true] at hc
  exact⟨p,q,WideElems.Trod_stays hl hc.1.1 (of_decide_eq_true hc.1.2) h1 (fun x hx=>hb.same (hlt x (List.mem_append_left _ hx))) (fun x hx=>hsp x (List.mem_append_left _ hx)),
   y9m hl hb hc.2 h2 (fun x hx=>hlt x (List.mem_append_right _ hx)) (fun x hx=>hsp x (List.mem_append_right _ hx)),rfl⟩
theorem yfb {P:Program} (hl:laidOutB P=true) {f:Func} {s:ChangeSpec} {apart fresh handsOn again:Bool} {W W':World} {args:Array Value} {ds:List (DataW H)} {before:List MemPlace} {tb:TypeId} {b:Bool}
  (hW:DataW.Whole enc P f.params.toList s.vars apart W args.toList ds [] before) (hv:s.vars= []) (hc:ycm P f.params.toList=true) (hrt:f.resultTypes= #[tb]) (ht:P.underlying tb=some .bool)
  (hr:(s.fn H (ds ++ [])).results= [.lit (.bool b)]) (ha:(s.fn H (ds ++ [])).args=ds) (hvn:(s.fn H (ds ++ [])).vars= []) (hb:Below W.heap.size W W'):
  s.post enc P f apart fresh handsOn again W args (.bool b) W':=by
 have hlt:∀p∈before,p.block < W.heap.size:=fun p hp=>hW.lt p hp
 have hWc:=hW
 obtain⟨p,q,hA,hV,rfl,hz,hn⟩:=hWc
 rw [hv] at hV
 obtain⟨-,rfl⟩:=trodVars_none hV
 rw [List.append_nil] at hlt hz hn
 have hargs:∀sp:Nat→Bool,(∀x∈p,sp x.block=true)→DataW.TrodAll enc P W' 0 sp true f.params.toList args.toList (s.fn H (ds ++ [])).args p:=fun sp hsp=>by
  rw [ha];exact y9m hl hb hc hA hlt hsp
 have hres:∀(b0:Nat) (sp:Nat→Bool) (hd:Bool),DataW.TrodAll enc P W' b0 sp hd f.resultTypes.toList ((Value.bool b).resultList f.resultTypes.size) (s.fn H (ds ++ [])).results []:=fun _ _ _=>by
  rw [hr,hrt];exact trodAll_mk1 (shut_bool ht b)
 have hvars:∀sp:Nat→Bool,DataW.TrodVars enc P W' sp s.vars (s.fn H (ds ++ [])).vars []:=fun sp=>by rw [hv,hvn];rfl
 have hold:∀x∈p,(fun b=>decide (b < W.heap.size)) x.block=true:=fun x hx=>by simpa using hlt x hx
 refine⟨ds,[],p ++ [],[],p,[],hW,hres _ _ _,hargs _ hold,hvars _,World.keptBut_mono (fun x hx=>?_) (hb.frame (· ∈p)),fun _=>?_⟩
 ·exact ⟨by rwa [List.append_nil],Or.inr (.inl hx)⟩
 ·have hok:=ok_one (f:=f) (W':=W') (by rw [hrt]) rfl (okWide_bool_mk (W':=W') ht b)
  refine⟨hok,_,_,([] ++ p) ++ [],⟨[] ++ p,[],trodAll_append (hargs _ (fun _ _=>rfl)) (hres _ _ _),hvars _,rfl,?_,?_⟩,?_⟩
  ·intro b0 off hp
   have hin:MemPlace.cell b0 off∈p:=by simpa using hp
   rw [hb.frozen (hlt _ hin)]
   exact hz b0 off hin
  ·intro hap
   simpa using hn hap
  ·intro x hx _
   simpa using hx
end
def lay24 : List (String × DataW Unit) := [("math/bits.deBruijn32tab", Rows.laid_math_bits_deBruijn32tab), ("math/bits.deBruijn64tab", Rows.laid_math_bits_deBruijn64tab), ("internal/strconv.uint64pow10", Rows.laid_internal_strconv_uint64pow10)]
theorem yer (os:Os) (args:Array Value):laidMetH Tryz.prog lay24 ((World.laidAll Tryz.prog os lay24).forCall (fun _ _=>0) ⟨#[],args,[]⟩).memory:=
 laidMetH_of_parts3 (fuel:=8) (laidMet_laidAll args (by kernel_rfl) (by kernel_rfl)) (by kernel_rfl) (by kernel_rfl)
theorem y9v (os:Os) (started:os.Started) (H:Type) (enc:TypeId×Value→H):
  ReturnsInHanded {} Tryz.checked os 8 .any (fun w args=>(Rows.scanVerifiesSpec.pre enc Tryz.prog Tryz.f8 [] false w args∧laidMetH Tryz.prog lay24 w)∧sizedMet enc Tryz.prog Tryz.f8 (OpenSpec.ofChange Rows.scanVerifiesSpec) false w args) (Rows.scanVerifiesSpec.post enc Tryz.prog Tryz.f8 false true false false):=by
 refine returnsInHanded_of_change_and (C:=Tryz.checked) (X:=fun w _=>laidMetH Tryz.prog lay24 w) (fun _ _ _ hh h=>h.of_heap hh) Tryz.own started (by kernel_rfl) Tryz.func8
  (ChangeSpec.witness_shaped (enc:=enc) (C:=Tryz.checked) (os:=os) (X:=fun w _=>laidMetH Tryz.prog lay24 w) false (World.laidAll Tryz.prog os lay24) #[.agg (Array.replicate 57 (.int .u8 0)),.agg #[.int .i64 0,.slice none 0 0,.slice none 0 0],.bool false] 8 (World.laidAll_os _ _ _) (World.shaped_of_ZipB (by kernel_rfl) (by kernel_rfl)) (by kernel_rfl) (by kernel_rfl) (by kernel_rfl) (yer os _)) ?_
 intro W base args ds gs before hval0 hW _ _ _ _
 have hval:∀(j:Nat) t v,Tryz.f8.params[j]? =some t→args[j]? =some v→Value.okWide Tryz.prog W .any base t v:=hval0
 have hW':=hW
 obtain⟨p,q,hA0,hV,rfl,hfz,hnd⟩:=hW
 have hA:DataW.TrodAll enc Tryz.prog W 0 (fun _=>true) true Tryz.f8.params.toList args.toList ds p:=hA0
 rw [Tryz.params8] at hA hval
 obtain⟨v0,v1,v2,d0,d1,d2,p0,p1,p2,rfl,rfl,rfl,h0,h1,h2⟩:=trodAll_three hA
 obtain⟨x,g1,g2,r0⟩:=yen (hval 0 30 v0 rfl rfl)
 obtain⟨y,r1⟩:=yfN (hval 1 44 v1 rfl rfl) h1
 obtain⟨b,rfl⟩:=yeq (hval 2 4 v2 rfl rfl)
 obtain⟨rfl,rfl⟩:=trodVars_none hV
 clear hA0 hval0
 refine Calls.mono ((y6Q (ydv (d:=x) ⟨g1,g2⟩ y b)).law (All3.c (r0 _ _) (All3.c (r1 _) (All3.c ⟨rfl,rfl⟩ rfl)))) fun e W' ⟨he,hbl⟩=>?_
 subst he
 exact⟨_,rfl,yfb Tryz.laidOut hW' rfl (by kernel_rfl) (by kernel_rfl) Tryz.underlying4 rfl rfl rfl hbl⟩
end Go.Proofs.YtecmobjeeonmaaaGreatDoor
namespace Go.Proofs.YtecmobjeeonmaaaGreatDoor
open Go Go.RowKit
set_option maxRecDepth 100000
theorem yfO :Tryz.prog.stopsHeard=true:=by kernel_rfl
theorem yfP :Tryz.prog.mayEnter=true:=by kernel_rfl
theorem yfQ :(laidOutB Tryz.prog && mapsRowed Tryz.prog)=true:=by kernel_rfl
theorem yfR :(Tryz.prog.stops == [])=true:=by kernel_rfl
theorem yfc :(Tryz.prog.stopKnobs == [])=true:=by kernel_rfl
theorem yfd :false=Tryz.prog.looks []:=by kernel_rfl
end Go.Proofs.YtecmobjeeonmaaaGreatDoor
namespace Go.Proofs.YtecmobjeeonmaaaGreatDoor
open Go Go.ChangeShapes Go.WideShapes Go.ChangeAt Go.RowKit Go.Deep
theorem yaL :(Rows.scanVerifiesRow.inPlace == Tryz.prog.inPlace 8)=true:=by kernel_rfl
theorem yaM :(Rows.scanVerifiesRow.unfollowed == Tryz.prog.unfollowed 8)=true:=by kernel_rfl
theorem yaN :(Rows.scanVerifiesRow.recurses == Tryz.prog.recurses 8)=true:=by kernel_rfl
theorem yaO :(Rows.scanVerifiesRow.named == Tryz.prog.varsNamed 8)=true:=by kernel_rfl
theorem yaP :(Rows.scanVerifiesRow.lifted == Tryz.prog.liftsFinal)=true:=by kernel_rfl
theorem y9w :joinedFacts Tryz.prog 8 Tryz.f8 Rows.scanVerifiesSpec Rows.scanVerifiesRow=true:=by
 have h8:=yfQ
 rw [Bool.and_eq_true] at h8
 unfold joinedFacts
 rw [h8.1,h8.2,yaL,yaM,yaN,yaO,yaP,yfO,yfP,yfR,yfc]
 change (_:Bool)=true
 kernel_rfl
theorem y9P :Rows.ScanVerifiesSaid:=
 OpenClaim.holds_of_wide 8 Tryz.f8 rfl rfl rfl rfl rfl rfl rfl ⟨rfl,rfl,rfl,rfl,rfl⟩ rfl rfl rfl rfl rfl (by kernel_rfl) Tryz.func8 y9w
  (of_decide_eq_true (by kernel_rfl)) (by unfold Func.isWrapper;first | (rw [if_pos (by decide +kernel)];kernel_rfl) | (rw [if_neg (by decide +kernel)];exact⟨rfl,rfl⟩))
  (fun os started H enc _=>y9v os started H enc)
theorem scanVerifies_k12 :false=Rows.scanVerifiesRow.goesBy Tryz.prog:=by kernel_rfl
theorem scanVerifies_k13 : Tryz.prog.funcNamed "overseer/overseerlaw54.ScanVerifies" = some 8 := by kernel_rfl
theorem scanVerifies_k14 :(Tryz.f8.params.toList.all fun u=>!(Tryz.prog.wantsStandIn u))=true:=by kernel_rfl
theorem scanVerifies_k15 :Rows.scanVerifiesRow.wfByText (OpenSpec.ofChange Rows.scanVerifiesSpec)=true:=by kernel_rfl
theorem scanVerifies_card_holds :Rows.ScanVerifiesCardSaid:=
 Claim7.holds_tied_plain_at .later [] [.data,.data,.data] true _ false
  y9P (fun _ h=>by cases h) scanVerifies_k15 (fun _ h=>by cases h) scanVerifies_row_tie rfl ⟨rfl,rfl⟩ (by kernel_rfl) rfl
  (fun f fn hf hfn=>by
   obtain rfl:f=8:=Option.some.inj (scanVerifies_k13.symm.trans hf) |>.symm
   obtain rfl:fn=Tryz.f8:=(Option.some.inj (Tryz.func8.symm.trans hfn)).symm
   exact⟨yfd,fun j t ht=>by
    have hm:t∈Tryz.f8.params:=Array.mem_of_getElem? ht
    exact(show Tryz.prog.wantsStandIn t=false by simpa using List.all_eq_true.1 scanVerifies_k14 t (Array.mem_toList_iff.2 hm))⟩)
  scanVerifies_k12
end Go.Proofs.YtecmobjeeonmaaaGreatDoor
