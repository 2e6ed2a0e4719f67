/- ScanHandles returns true for all arguments, and leaves its arguments as they were. The condition: three tables of Go's library (math/bits, internal/strconv) hold what their source text lays, and the card ties this to the text. -/
import Derived.Deep.Slices
import Derived.ChangeSame
import Derived.ProofKit
import Derived.Test.YtecmobjeeonmaaaGreatDoorProg
import Derived.Test.YtecmobjeeonmaaaGreatDoorRows
import Derived.Test.YtecmobjeeonmaaaGreatDoorTie
import Derived.Test.YtecmobjeeonmaaaGreatDoorCards
import Derived.Lay
import Derived.LaidMore
import Derived.LaidHandle
import Derived.SevenTiedAt
import Derived.Stop.Joined
import Derived.Test.YtecmobjeeonmaaaGreatDoorQa5
set_option maxRecDepth 100000
namespace Go.Proofs.YtecmobjeeonmaaaGreatDoor
open Go Go.RowKit
def stK (a:AutT) (g:List Bool) (s e:Int):Option Int:=(st1 a s e).filter fun t=>g.getD t.toNat false
theorem y8s {a:AutT} {n:Nat} (hr:Right a n) {g:List Bool} {s e t:Int}:stK a g s e=some t↔(s,e,t)∈a.2.2.2∧g.getD t.toNat false=true:=by
 unfold stK
 rw [Option.filter_eq_some_iff,y4Y hr]
theorem yck {a:AutT} {n:Nat} (hr:Right a n) (hE32:a.1.length≤32) {g:List Bool} {i s:Nat} {X:List Int} {kn:List (Int×Int)} {E:List (Int×Int×Int)} (hS:SR (stK a g) a.1 n i 0 X kn E) (hi:X[i]? =some (s:Int)) (M:List Int) {os:List (Int×Int×Int)} (hos:os=a.2.2.2.filter fun x=>x.1 == (s:Int) && g.getD x.2.2.toNat false):
  ∃kn' X' E',iter (yA ((i:Int),X,kn,M,E) os) (0,X,kn,E)=some (X',kn',E')∧SR (stK a g) a.1 n (i + 1) 0 X' kn' E'∧∃U,X'=X ++ U:=by
 have hnl:=hr.nl
 have hl3:=hr.l3
 have hil:i < X.length:=(List.getElem?_eq_some_iff.1 hi).1
 have hmem:∀x∈os,x∈a.2.2.2∧x.1=(s:Int)∧g.getD x.2.2.toNat false=true:=fun x hx=>by
  rw [hos] at hx
  have:=List.mem_filter.1 hx
  rw [Bool.and_eq_true] at this
  exact⟨this.1,by simpa using this.2.1,this.2.2⟩
 have hso:os.Pairwise fun x y=>x.2.1 < y.2.1:=by
  have h:=hr.so.filter (fun x=>x.1 == (s:Int) && g.getD x.2.2.toNat false)
  rw [←hos] at h
  refine h.imp_of_mem fun {x y} hx hy hxy=>?_
  have:=(hmem x hx).2.1
  have:=(hmem y hy).2.1
  omega
 have hol:os.length≤1000000:=by rw [hos];exact Nat.le_trans (List.length_filter_le _ _) hl3
 have hin:∀{e t:Int},stK a g (s:Int) e=some t→((s:Int),e,t)∈os:=fun {e t} h=>by
  rw [hos]
  have:=(y8s hr).1 h
  exact List.mem_filter.2 ⟨this.1,by simp only [beq_self_eq_true,Bool.true_and];exact this.2⟩
 obtain⟨o,h1,j,hS',hU,hj,hlast⟩:=yb (f:=yA ((i:Int),X,kn,M,E) os)
  (fun k s'=>s'.1=(k:Int)∧k≤os.length∧∃j,SR (stK a g) a.1 n i j s'.2.1 s'.2.2.1 s'.2.2.2∧(∃U,s'.2.1=X ++ U)∧j≤a.1.length∧
   (∀c (hc:c < a.1.length),c < j→∀k' (hk:k' < os.length),k≤k'→os[k'].2.1≠a.1[c])∧∀k' (hk:k' < os.length),k' < k→∀c (hc:c < a.1.length),j≤c→os[k'].2.1≠a.1[c])
  (fun o=>∃j,SR (stK a g) a.1 n i j o.1 o.2.1 o.2.2∧(∃U,o.1=X ++ U)∧j≤a.1.length∧∀k' (hk:k' < os.length),∀c (hc:c < a.1.length),j≤c→os[k'].2.1≠a.1[c])
  os.length 0 (by omega) (fun k s' hk ⟨e1,_,j,hS',⟨U,hU⟩,hj,hlo,hhi⟩=>by
   obtain⟨c',X1,kn',E1⟩:=s'
   dsimp only at e1 hS' hU
   subst e1
   have hx:=hmem _ (List.getElem_mem hk)
   have hxe:=hr.es _ hx.1
   obtain⟨t,ht⟩:∃t:Nat,os[k].2.2=(t:Int):=⟨os[k].2.2.toNat,by omega⟩
   have htn:t < n:=by omega
   obtain⟨b,hb,hbe⟩:=List.getElem_of_mem hxe.2.2.2.2
   have hjb:j≤b:=Nat.le_of_not_lt fun hlt=>hlo b hb hlt k hk (Nat.le_refl _) hbe.symm
   have hiX:X1[i]? =some (s:Int):=by rw [hU,List.getElem?_append_left hil];exact hi
   have hstx:stK a g (s:Int) a.1[b]=some (t:Int):=by
    rw [y8s hr,hbe,←ht]
    refine⟨?_,hx.2.2⟩
    rw [←hx.2.1]
    exact hx.1
   have hSb:=hS'.skips hiX b hjb (by omega) fun c hc h1 h2=>by
    cases hst:stK a g (s:Int) a.1[c] with
    | none=>rfl
    | some v=>
     exfalso
     obtain⟨k',hk',e'⟩:=List.getElem_of_mem (hin hst)
     have ev:os[k'].2.1=a.1[c]:=by rw [e']
     have hcb:a.1[c] < a.1[b]:=List.pairwise_iff_getElem.1 hr.ali c b hc hb h2
     by_cases h3:k' < k
     ·exact hhi k' hk' h3 c hc h1 ev
     ·by_cases h4:k'=k
      ·subst h4;omega
      ·have:=List.pairwise_iff_getElem.1 hso k k' hk hk' (by omega)
       omega
   have hpos:∀(X2:List Int) (E2:List (Int×Int×Int)) (kn2:List (Int×Int)),SR (stK a g) a.1 n i (b + 1) X2 kn2 E2→(∃U,X2=X ++ U)→
     (∃j,SR (stK a g) a.1 n i j X2 kn2 E2∧(∃U,X2=X ++ U)∧j≤a.1.length∧
   (∀c (hc:c < a.1.length),c < j→∀k' (hk:k' < os.length),k + 1≤k'→os[k'].2.1≠a.1[c])∧∀k' (hk:k' < os.length),k' < k + 1→∀c (hc:c < a.1.length),j≤c→os[k'].2.1≠a.1[c]):=fun X2 E2 kn2 g1 g3=>by
    refine⟨b + 1,g1,g3,hb,fun c hc h1 k' hk' h2 e=>?_,fun k' hk' h2 c hc h1 e=>?_⟩
    ·have h5:=List.pairwise_iff_getElem.1 hso k k' hk hk' (by omega)
     by_cases h6:c=b
     ·subst h6;omega
     ·have:=List.pairwise_iff_getElem.1 hr.ali c b hc hb (by omega)
      omega
    ·have h5:=List.pairwise_iff_getElem.1 hr.ali b c hb hc (by omega)
     by_cases h6:k'=k
     ·subst h6;omega
     ·have:=List.pairwise_iff_getElem.1 hso k' k hk' hk (by omega)
      omega
   have hXl:=hSb.len
   have hEl:=hSb.el
   have hil2:i < n:=by have:=(List.getElem?_eq_some_iff.1 hiX).1;omega
   have hj2:∀(X2:List Int) (v:Int) (kn2:List (Int×Int)),yz ((i:Int),X,kn,M,E) os[k] ((k:Int),X1,kn',E1) X2 v kn2=some (.inl (((k + 1:Nat):Int),X2,kn2,E1 ++ [((i:Int),os[k].2.1,v)])):=fun X2 v kn2=>by
    rw [yz]
    dsimp only
    rw [yE (by simp;omega),yOb,nxt (by omega)]
   left
   rw [yA]
   dsimp only
   rw [if_pos (ct_lt hk),ya hk,yOb,ht]
   cases hkg:kget kn' (t:Int) with
   | none=>
    rw [if_pos (by simp),yE (by simp;omega),yOb,hj2]
    refine⟨_,rfl,rfl,hk,?_⟩
    dsimp only
    rw [←hbe]
    exact hpos _ _ _ (hSb.new hr.ali hb hiX hstx hkg (by omega) (by omega)) ⟨U ++ [(t:Int)],by rw [hU,List.append_assoc]⟩
   | some v=>
    obtain⟨q,hv,hq⟩:=hSb.k1 _ _ hkg
    subst hv
    rw [if_neg (by simp),hj2]
    refine⟨_,rfl,rfl,hk,?_⟩
    dsimp only
    rw [←hbe,Option.getD_some]
    exact hpos _ _ _ (hSb.edge hr.ali hb hiX hstx hq) ⟨U,hU⟩) (fun s' ⟨e1,_,j,hS',hU,hj,hlo,hhi⟩=>by
   obtain⟨c',X1,kn',E1⟩:=s'
   dsimp only at e1 hS' hU
   subst e1
   refine⟨(X1,kn',E1),?_,j,hS',hU,hj,fun k' hk' c hc hjc=>hhi k' hk' hk' c hc hjc⟩
   rw [yA]
   dsimp only
   rw [if_neg ct_ge]) (Nat.zero_le _) (0,X,kn,E) ⟨rfl,Nat.zero_le _,0,hS,⟨[],(List.append_nil _).symm⟩,Nat.zero_le _,fun c hc h=>absurd h (Nat.not_lt_zero _),fun k' hk' h=>absurd h (Nat.not_lt_zero _)⟩
 obtain⟨X',kn',E'⟩:=o
 obtain⟨U,hU⟩:=hU
 dsimp only at hS' hU
 have hiX:X'[i]? =some (s:Int):=by rw [hU,List.getElem?_append_left hil];exact hi
 have hSe:=hS'.skips hiX a.1.length hj (Nat.le_refl _) fun c hc h1 _=>by
  cases hst:stK a g (s:Int) a.1[c] with
  | none=>rfl
  | some v=>
   exfalso
   obtain⟨k',hk',e'⟩:=List.getElem_of_mem (hin hst)
   exact hlast k' hk' c hc h1 (by rw [e'])
 exact⟨kn',X',E',h1,hSe.next (Nat.le_refl _) hE32,U,hU⟩
theorem yb1 {a:AutT} {n:Nat} (hr:Right a n) {g:List Bool} (hg:g.length=n) (p:AutT×List Int×List (Int×List Int)×List Bool) (hp1:p.1=a) (hp2:p.2.2.2=g):
  ∃R:List EdgL,iter (yD p) (0,List.replicate n [])=some R∧R.length=n∧∀s:Nat,s < n→R[s]? =some (a.2.2.2.filter fun x=>x.1 == (s:Int) && g.getD x.2.2.toNat false):=by
 subst hp1 hp2
 have hl3:=hr.l3
 have hnl:=hr.nl
 obtain⟨R,h1,h2,h3⟩:=yb (f:=yD p) (fun i s=>s.1=(i:Int)∧i≤p.1.2.2.2.length∧s.2.length=n∧∀t:Nat,t < n→s.2[t]? =some ((p.1.2.2.2.take i).filter fun x=>x.1 == (t:Int) && p.2.2.2.getD x.2.2.toNat false))
  (fun R=>R.length=n∧∀t:Nat,t < n→R[t]? =some (p.1.2.2.2.filter fun x=>x.1 == (t:Int) && p.2.2.2.getD x.2.2.toNat false)) p.1.2.2.2.length 0 (by omega) (fun i s hi ⟨e1,_,hl,hR⟩=>by
   obtain⟨c,R⟩:=s
   dsimp only at e1 hl hR
   subst e1
   have hx:=hr.es _ (List.getElem_mem hi)
   obtain⟨q,hq⟩:∃q:Nat,(p.1.2.2.2[i]).1=(q:Int):=⟨(p.1.2.2.2[i]).1.toNat,by omega⟩
   obtain⟨t,ht⟩:∃t:Nat,(p.1.2.2.2[i]).2.2=(t:Int):=⟨(p.1.2.2.2[i]).2.2.toNat,by omega⟩
   have hqn:q < n:=by omega
   have htn:t < p.2.2.2.length:=by omega
   have hql:q < R.length:=by omega
   have hRq:R[q]=(p.1.2.2.2.take i).filter fun x=>x.1 == (q:Int) && p.2.2.2.getD x.2.2.toNat false:=by
    have:=hR q hqn
    rw [yGe hql] at this
    exact Option.some.inj this
   have hgt:p.2.2.2.getD (p.1.2.2.2[i]).2.2.toNat false=p.2.2.2[t]:=by
    rw [ht,Int.toNat_natCast,List.getD_eq_getElem?_getD,yGe htn,Option.getD_some]
   have htake:p.1.2.2.2.take (i + 1)=p.1.2.2.2.take i ++ [p.1.2.2.2[i]]:=by rw [List.take_add_one,yGe hi];rfl
   left
   rw [yD]
   dsimp only
   rw [if_pos (ct_lt hi),ya hi,yOb,ht,ya htn,yOb]
   cases hgb:p.2.2.2[t] with
   | true=>
    have hlen:R[q].length≤1000000:=by rw [hRq];exact Nat.le_trans (List.length_filter_le _ _) (Nat.le_trans (List.length_take_le _ _) (by omega))
    rw [if_pos rfl,hq,ya hql,yOb,yE (by simp;omega),yOb,yOb,y5G hql,yOb,yC]
    dsimp only
    rw [nxt (by omega)]
    refine⟨_,rfl,rfl,hi,by dsimp only;rw [List.length_set];exact hl,fun s' hs'=>?_⟩
    dsimp only
    rw [List.getElem?_set,htake,List.filter_append]
    by_cases e:q=s'
    ·subst e
     rw [if_pos rfl,if_pos hql,hRq,List.filter_cons_of_pos (by rw [hq,hgt,hgb];simp)]
     rfl
    ·rw [if_neg e,List.filter_cons_of_neg (by rw [hq];simp;omega),List.filter_nil,List.append_nil]
     exact hR s' hs'
   | false=>
    rw [if_neg (by simp),yC]
    dsimp only
    rw [nxt (by omega)]
    refine⟨_,rfl,rfl,hi,hl,fun s' hs'=>?_⟩
    dsimp only
    rw [htake,List.filter_append,List.filter_cons_of_neg (by rw [hgt,hgb];simp),List.filter_nil,List.append_nil]
    exact hR s' hs') (fun s ⟨e1,_,hl,hR⟩=>by
   obtain⟨c,R⟩:=s
   dsimp only at e1 hl hR
   subst e1
   refine⟨R,?_,hl,fun t ht=>by have:=hR t ht;rwa [List.take_length] at this⟩
   rw [yD]
   dsimp only
   rw [if_neg ct_ge]) (Nat.zero_le _) (0,List.replicate n []) ⟨rfl,Nat.zero_le _,by simp,fun t ht=>by simp [List.getElem?_replicate,ht]⟩
 exact⟨R,h1,h2,h3⟩
theorem ycl {a:AutT} {n:Nat} (hr:Right a n) {g:List Bool} (hg:g.length=n) (p:AutT×List Int×List (Int×List Int)×List Bool) (hp1:p.1=a) (hp2:p.2.2.2=g):
  ∃r X,y1m p=some (r,X)∧CanOf (stK a g) a.1 a.2.2.1 r X∧X.length≤n∧∀s∈X,0≤s∧s < (n:Int)∧g.getD s.toNat false=true:=by
 subst hp1 hp2
 have hnn:=hr.nn
 have hnl:=hr.nl
 have hl1:=hr.l1
 have hal:p.1.1.length≤32:=Alp.len ⟨hr.ali,hr.alr⟩
 have hcl:yQ p.1.1=some p.1.1:=y6n (by omega)
 have hemp:∃r X,some ((p.1.1,(0:Int),([]:List Int),([]:List (Int×Int×Int))),([]:List Int))=some (r,X)∧CanOf (stK p.1 p.2.2.2) p.1.1 p.1.2.2.1 r X∧X.length≤n∧∀s∈X,0≤s∧s < (n:Int)∧p.2.2.2.getD s.toNat false=true:=
  ⟨_,[],rfl,⟨⟨rfl,by simp,hr.ali,hr.alr,List.Pairwise.nil,fun x hx=>(by cases hx),fun x hx=>(by cases hx),List.Pairwise.nil,hl1,by simp,by simp⟩,rfl,fun h=>absurd h (by simp),(Fnd.start (by simp)).disc List.nodup_nil List.Pairwise.nil (fun x hx=>(by cases hx)) hr.alr,fun i s hi=>by simp at hi⟩,by simp,fun s hs=>by cases hs⟩
 rw [y1m,hcl,yOb,hnn]
 by_cases h0:n=0
 ·subst h0
  rw [if_pos (by simp),yOb,if_pos rfl]
  exact hemp
 have hg0:0 < p.2.2.2.length:=by omega
 rw [if_neg (by simp;omega),show idx p.2.2.2 0=some p.2.2.2[0] from ya hg0,yOb,yOb]
 cases hb:p.2.2.2[0] with
 | false=>
  rw [if_pos (show (!false)=true from rfl)]
  exact hemp
 | true=>
 obtain⟨R,f1,f2,f3⟩:=yb1 hr hg p rfl rfl
 have hS0:SR (stK p.1 p.2.2.2) p.1.1 n 0 0 [0] (kput [] 0 0) []:=by
  refine⟨Fnd.start (by simp),fun s v hv=>?_,fun s hs=>?_,by simp,fun s hs=>?_,List.Pairwise.nil,fun x hx=>(by cases hx),fun x hx=>(by cases hx),by simp⟩
  ·rw [y3A] at hv
   split at hv
   ·rename_i e
    subst e
    cases hv
    exact⟨0,rfl,rfl⟩
   ·cases hv
  ·rw [List.mem_singleton.1 hs,y3A,if_pos rfl]
   rfl
  ·rw [List.mem_singleton.1 hs]
   omega
 obtain⟨o,g1,kn,g2,g3,g4,g5,g6⟩:=yb (f:=yB p R) (fun i s=>s.1=(i:Int)∧i≤s.2.1.length∧SR (stK p.1 p.2.2.2) p.1.1 n i 0 s.2.1 s.2.2.1 s.2.2.2.2∧Inc s.2.2.2.1∧(∀x∈s.2.2.2.1,0≤x∧x < (i:Int))∧s.2.1[0]? =some 0∧∀(c:Nat) (x:Int),c < i→s.2.1[c]? =some x→((c:Int)∈s.2.2.2.1↔x∈p.1.2.2.1))
  (fun o=>∃kn,SR (stK p.1 p.2.2.2) p.1.1 n o.1.length 0 o.1 kn o.2.2∧Inc o.2.1∧(∀x∈o.2.1,0≤x∧x < (o.1.length:Int))∧o.1[0]? =some 0∧∀(c:Nat) (x:Int),o.1[c]? =some x→((c:Int)∈o.2.1↔x∈p.1.2.2.1)) n 0 (by omega) (fun i s hi ⟨e1,hle,hS,m1,m2,x0,mk⟩=>by
   obtain⟨k,X,kn,M,E⟩:=s
   dsimp only at e1 hle hS m1 m2 x0 mk
   subst e1
   have hXl:=hS.len
   have hMl:=y3u (n:=i) (lo:=0) m1 m2 (Int.le_refl _)
   by_cases hiq:i < X.length
   ·left
    have hq:=hS.tr _ (List.getElem_mem hiq)
    obtain⟨s,hs⟩:∃s:Nat,X[i]=(s:Int):=⟨X[i].toNat,by omega⟩
    have hsn:s < n:=by omega
    have hsR:s < R.length:=by omega
    have hRs:R[s]=p.1.2.2.2.filter fun x=>x.1 == (s:Int) && p.2.2.2.getD x.2.2.toNat false:=by
     have:=f3 s hsn
     rw [yGe hsR] at this
     exact Option.some.inj this
    obtain⟨kn',X',E',w1,w2,U,hU⟩:=yck hr hal hS (by rw [yGe hiq,hs]) M hRs
    have hpre:∀c,c < X.length→X'[c]? =X[c]? :=fun c hc=>by rw [hU,List.getElem?_append_left hc]
    have hXX:X.length≤X'.length:=by rw [hU];simp
    have hiX':i < X'.length:=by omega
    have hXi:X'[i]=(s:Int):=by
     have:=hpre i hiq
     rw [yGe hiq,yGe hiX',hs] at this
     exact Option.some.inj this
    have hml:p.1.2.2.1.length < 4611686018427387904:=by have:=hr.l2;omega
    have hj1:∀M':List Int,Inc M'→(∀x∈M',0≤x∧x < ((i + 1:Nat):Int))→(∀x:Int,x≠(i:Int)→(x∈M'↔x∈M))→((i:Int)∈M'↔(s:Int)∈p.1.2.2.1)→
      ∃s',yy ((i:Int),X,kn,M,E) X' kn' M' E'=some (.inl s')∧s'.1=((i + 1:Nat):Int)∧i + 1≤s'.2.1.length∧SR (stK p.1 p.2.2.2) p.1.1 n (i + 1) 0 s'.2.1 s'.2.2.1 s'.2.2.2.2∧Inc s'.2.2.2.1∧(∀x∈s'.2.2.2.1,0≤x∧x < ((i + 1:Nat):Int))∧s'.2.1[0]? =some 0∧∀(c:Nat) (x:Int),c < i + 1→s'.2.1[c]? =some x→((c:Int)∈s'.2.2.2.1↔x∈p.1.2.2.1):=fun M' q1 q2 q3 q4=>by
     rw [yy]
     dsimp only
     rw [nxt (by omega)]
     refine⟨_,rfl,rfl,by dsimp only;omega,w2,q1,q2,?_,fun c x hc hx=>?_⟩
     ·dsimp only
      rw [hpre 0 (by omega)]
      exact x0
     ·dsimp only at hx ⊢
      rw [hpre c (by omega)] at hx
      by_cases e:c=i
      ·subst e
       rw [yGe hiq,hs] at hx
       cases hx
       exact q4
      ·rw [q3 _ (by omega)]
       exact mk c x (by omega) hx
    rw [yB]
    dsimp only
    rw [if_pos (ct_lt hiq),ya hiq,yOb,hs,ya hsR,yOb,w1,yOb]
    dsimp only
    rw [ya hiX',yOb,hXi,y6D hml,yOb]
    cases hm:hasB p.1.2.2.1 (s:Int) with
    | true=>
     rw [if_pos rfl,yE (by simp;omega),yOb]
     refine hj1 _ ?_ (fun x hx=>?_) (fun x hx=>?_) ⟨fun _=>yl.1 hm,fun _=>List.mem_append_right _ (List.mem_singleton.2 rfl)⟩
     ·unfold Inc at m1 ⊢
      rw [List.pairwise_append]
      exact⟨m1,List.pairwise_singleton _ _,fun c hc b hb=>by rw [List.mem_singleton.1 hb];exact(m2 c hc).2⟩
     ·rcases List.mem_append.1 hx with hx | hx
      ·have:=m2 x hx;omega
      ·rw [List.mem_singleton.1 hx];omega
     ·rw [List.mem_append,List.mem_singleton]
      exact⟨fun h=>h.resolve_right hx,.inl⟩
    | false=>
     rw [if_neg (by simp)]
     refine hj1 M m1 (fun x hx=>by have:=m2 x hx;omega) (fun x _=>Iff.rfl) ⟨fun hx=>by have:=m2 _ hx;omega,fun hx=>?_⟩
     rw [yl.2 hx] at hm
     cases hm
   ·right
    obtain rfl:i=X.length:=by omega
    refine⟨(X,M,E),?_,kn,hS,m1,m2,x0,fun c x hx=>mk c x (List.getElem?_eq_some_iff.1 hx).1 hx⟩
    rw [yB]
    dsimp only
    rw [if_neg ct_ge]) (fun s ⟨e1,hle,hS,m1,m2,x0,mk⟩=>by
   obtain⟨k,X,kn,M,E⟩:=s
   dsimp only at e1 hle hS m1 m2 x0 mk
   subst e1
   have hXl:=hS.len
   have hnq:n=X.length:=by omega
   refine⟨(X,M,E),?_,kn,by dsimp only;rw [←hnq];exact hnq ▸ hS,m1,by dsimp only;rw [←hnq];exact m2,x0,fun c x hx=>mk c x (by have h8:c < X.length:=(List.getElem?_eq_some_iff.1 hx).1;omega) hx⟩
   rw [yB]
   dsimp only
   rw [if_neg (by simp;omega)]) (Nat.zero_le _) (0,[0],kput [] 0 0,[],[]) ⟨rfl,by simp,hS0,List.Pairwise.nil,fun x hx=>(by cases hx),rfl,fun c x hc=>absurd hc (Nat.not_lt_zero _)⟩
 obtain⟨X,M,E⟩:=o
 dsimp only at g2 g3 g4 g5 g6
 have hXl:=g2.len
 have hEl:=g2.el
 have hMl:=y3u (n:=X.length) (lo:=0) g3 g4 (Int.le_refl _)
 have hX0:0 < X.length:=(List.getElem?_eq_some_iff.1 g5).1
 refine⟨(p.1.1,(X.length:Int),M,E),X,?_,⟨⟨rfl,by omega,hr.ali,hr.alr,g3,g4,fun x hx=>?_,g2.so,hl1,by dsimp only;omega,by dsimp only;omega⟩,rfl,fun _=>g5,g2.f.disc g2.nd g2.so g2.ea hr.alr,g6⟩,hXl,fun s hs=>?_⟩
 ·rw [if_neg (by simp),y7v (by omega) (by omega),yOb,Int.toNat_natCast,f1,yOb,g1]
  rfl
 ·obtain ⟨c,b,s,r,q1,q2,q3,q4,q5⟩:=g2.f.sn x hx
  have e3:=(List.getElem?_eq_some_iff.1 q3).1
  have e4:=(List.getElem?_eq_some_iff.1 q4).1
  exact⟨by omega,by omega,by omega,by omega,g2.ea x hx⟩
 ·refine ⟨(g2.tr s hs).1,(g2.tr s hs).2,?_⟩
  obtain⟨k,hk,rfl⟩:=List.getElem_of_mem hs
  by_cases hk0:k=0
  ·subst hk0
   rw [yGe hX0] at g5
   rw [Option.some.inj g5,Int.toNat_zero,List.getD_eq_getElem?_getD,yGe hg0,Option.getD_some,hb]
  ·obtain ⟨x,hx,e⟩:=g2.f.cov k (by omega) hk
   obtain⟨c,b,s,r,q1,q2,q3,q4,q5⟩:=g2.f.sn x hx
   obtain rfl:b=k:=by omega
   rw [yGe hk] at q4
   rw [Option.some.inj q4]
   exact((y8s hr).1 q5).2
inductive LiveG (a:AutT) (g:List Bool):Nat→Prop
 | mk {s:Nat}:g[s]? =some true→(s:Int)∈a.2.2.1→LiveG a g s
 | st {s t:Nat} {e:Int}:g[s]? =some true→((s:Int),e,(t:Int))∈a.2.2.2→LiveG a g t→LiveG a g s
structure DQs (a:AutT) (g:List Bool) (n:Nat) (Q d:List Int):Prop where
 dl:d.length=n
 qn:Q.Nodup
 qd:∀(k:Nat) (x:Int),Q[k]? =some x→∃s:Nat,x=(s:Int)∧s < n∧∃v:Int,d[s]? =some v∧0≤v∧v≤(k:Int)
 lv:∀(s:Nat) (v:Int),d[s]? =some v→0≤v→LiveG a g s
theorem DQs.len {a:AutT} {g:List Bool} {n:Nat} {Q d:List Int} (h:DQs a g n Q d):Q.length≤n:=by
 have hr:∀x∈Q,0≤x∧x < (n:Int):=fun x hx=>by
  obtain⟨k,hk,rfl⟩:=List.getElem_of_mem hx
  obtain⟨s,e,h1,_⟩:=h.qd k _ (yGe hk)
  omega
 have:=y5e n (Q.map Int.toNat) (by
  unfold List.Nodup
  rw [List.pairwise_map]
  refine h.qn.imp_of_mem fun {a b} ha hb hab=>?_
  have h1:=hr a ha
  have h2:=hr b hb
  omega) (fun x hx=>by
  obtain⟨y,hy,rfl⟩:=List.mem_map.1 hx
  have:=hr y hy
  omega)
 simpa using this
theorem DQs.add {a:AutT} {g:List Bool} {n:Nat} {Q d:List Int} (h:DQs a g n Q d) {s:Nat} (hs:s < n) {v0 v:Int} (hd:d[s]? =some v0) (hv0:v0 < 0) (v1:0≤v) (v2:v≤(Q.length:Int)) (hl:LiveG a g s):DQs a g n (Q ++ [(s:Int)]) (d.set s v):=by
 have hsd:s < d.length:=by rw [h.dl];exact hs
 refine⟨by rw [List.length_set];exact h.dl,?_,fun k x hx=>?_,fun t w hw h0=>?_⟩
 ·unfold List.Nodup
  rw [List.pairwise_append]
  refine⟨h.qn,List.pairwise_singleton _ _,fun x hx y hy e=>?_⟩
  rw [List.mem_singleton.1 hy] at e
  subst e
  obtain⟨k,hk,e⟩:=List.getElem_of_mem hx
  obtain⟨s',e1,_,w,e2,e3,_⟩:=h.qd k _ (yGe hk)
  obtain rfl:s'=s:=by omega
  rw [hd] at e2
  cases e2
  omega
 ·by_cases hk:k < Q.length
  ·rw [List.getElem?_append_left hk] at hx
   obtain⟨s',e1,e2,w,e3,e4,e5⟩:=h.qd k x hx
   refine⟨s',e1,e2,?_⟩
   rw [List.getElem?_set]
   by_cases e:s=s'
   ·subst e
    rw [hd] at e3
    cases e3
    omega
   ·rw [if_neg e]
    exact⟨w,e3,e4,e5⟩
  ·rw [List.getElem?_append_right (by omega)] at hx
   have hk2:k - Q.length=0:=by
    have:=(List.getElem?_eq_some_iff.1 hx).1
    simp at this
    omega
   rw [hk2] at hx
   cases hx
   exact⟨s,rfl,hs,v,by rw [List.getElem?_set,if_pos rfl,if_pos hsd],v1,by omega⟩
 ·rw [List.getElem?_set] at hw
  by_cases e:s=t
  ·subst e
   exact hl
  ·rw [if_neg e] at hw
   exact h.lv t w hw h0
def IncOk (a:AutT) (n:Nat) (m:List (Int×List Int)):Prop:=∀(t:Int),((kget m t).getD []).length≤a.2.2.2.length∧∀x∈(kget m t).getD [],0≤x∧x < (n:Int)∧∃e,(x,e,t)∈a.2.2.2
section
variable {a:AutT} {n:Nat} {g:List Bool} {u:List Int} {m:List (Int×List Int)}
theorem yb2 (hr:Right a n) (hg:g.length=n):∃Q d,iter (yM (a,u,m,g)) (0,[],List.replicate n (-1))=some (Q,d)∧DQs a g n Q d:=by
 have hl2:=hr.l2
 have hnl:=hr.nl
 obtain⟨o,h1,h2⟩:=yb (f:=yM (a,u,m,g)) (fun i s=>s.1=(i:Int)∧i≤a.2.2.1.length∧DQs a g n s.2.1 s.2.2∧∀(t:Nat) (v:Int),s.2.2[t]? =some v→0≤v→∃k,k < i∧a.2.2.1[k]? =some (t:Int)) (fun o=>DQs a g n o.1 o.2) a.2.2.1.length 0 (by omega) (fun i s hi ⟨e1,_,hd,hm⟩=>by
   obtain⟨c,Q,d⟩:=s
   dsimp only at e1 hd hm
   subst e1
   have hQl:=hd.len
   have hx:=hr.msr _ (List.getElem_mem hi)
   obtain⟨t,ht⟩:∃t:Nat,a.2.2.1[i]=(t:Int):=⟨(a.2.2.1[i]).toNat,by omega⟩
   have htg:t < g.length:=by omega
   have htd:t < d.length:=by rw [hd.dl];omega
   left
   rw [yM]
   dsimp only
   rw [if_pos (ct_lt hi),ya hi,yOb,ht,ya htg,yOb]
   cases hgb:g[t] with
   | true=>
    have hgt:g[t]? =some true:=by rw [yGe htg,hgb]
    have hneg:d[t] < 0:=by
     refine Int.not_le.1 fun h0=>?_
     obtain⟨k,hk,e⟩:=hm t _ (yGe htd) h0
     have hkl:k < a.2.2.1.length:=by omega
     rw [yGe hkl] at e
     have:=List.pairwise_iff_getElem.1 hr.msi k i hkl hi hk
     rw [Option.some.inj e,ht] at this
     omega
    rw [if_pos rfl,ya htd,yOb,y5G htd,yOb,yE (by simp;omega),yOb,yL]
    dsimp only
    rw [nxt (by omega)]
    refine⟨_,rfl,rfl,hi,hd.add (by omega) (yGe htd) hneg (Int.le_refl _) (by omega) (.mk hgt (by rw [←ht];exact List.getElem_mem hi)),fun s' v hv h0=>?_⟩
    dsimp only at hv
    rw [List.getElem?_set] at hv
    by_cases e:t=s'
    ·subst e
     exact⟨i,by omega,by rw [yGe hi,ht]⟩
    ·rw [if_neg e] at hv
     obtain⟨k,hk,e2⟩:=hm s' v hv h0
     exact⟨k,by omega,e2⟩
   | false=>
    rw [if_neg (by simp),yL]
    dsimp only
    rw [nxt (by omega)]
    refine⟨_,rfl,rfl,hi,hd,fun s' v hv h0=>?_⟩
    obtain⟨k,hk,e2⟩:=hm s' v hv h0
    exact⟨k,by omega,e2⟩) (fun s ⟨e1,_,hd,hm⟩=>by
   obtain⟨c,Q,d⟩:=s
   dsimp only at e1 hd
   subst e1
   refine⟨(Q,d),?_,hd⟩
   rw [yM]
   dsimp only
   rw [if_neg ct_ge]) (Nat.zero_le _) (0,[],List.replicate n (-1)) ⟨rfl,Nat.zero_le _,⟨by simp,List.nodup_nil,fun k x hx=>by simp at hx,fun s v hv h0=>by
    rw [List.getElem?_replicate] at hv
    split at hv
    ·cases hv
     omega
    ·cases hv⟩,fun s v hv h0=>by
    dsimp only at hv
    rw [List.getElem?_replicate] at hv
    split at hv
    ·cases hv
     omega
    ·cases hv⟩
 exact⟨o.1,o.2,h1,h2⟩
theorem ycV (hr:Right a n) (hg:g.length=n) (hm:IncOk a n m) {i:Nat} {Q d:List Int} (hd:DQs a g n Q d) (hi:i < Q.length) (z:List Int×List Int):
  ∃Q' d',iter (yJ (a,u,m,g) ((i:Int),z) Q[i]) (0,Q,d)=some (Q',d')∧DQs a g n Q' d'∧Q.length≤Q'.length:=by
 have hl3:=hr.l3
 have hnl:=hr.nl
 obtain⟨ml,mm⟩:=hm Q[i]
 obtain⟨q,hq,hqn,vq,hvq,hvq0,_⟩:=hd.qd i _ (yGe hi)
 have hlq:=hd.lv q vq hvq hvq0
 obtain⟨o,h1,h2,h3⟩:=yb (f:=yJ (a,u,m,g) ((i:Int),z) Q[i]) (fun k s=>s.1=(k:Int)∧k≤((kget m Q[i]).getD []).length∧DQs a g n s.2.1 s.2.2∧Q.length≤s.2.1.length) (fun o=>DQs a g n o.1 o.2∧Q.length≤o.1.length) ((kget m Q[i]).getD []).length 0 (by omega) (fun k s hk ⟨e1,_,hd1,hle⟩=>by
   obtain⟨c,Q1,d1⟩:=s
   dsimp only at e1 hd1 hle
   subst e1
   have hQl:=hd1.len
   obtain⟨x0,x1,e,hxe⟩:=mm _ (List.getElem_mem hk)
   obtain⟨t,ht⟩:∃t:Nat,((kget m Q[i]).getD [])[k]=(t:Int):=⟨(((kget m Q[i]).getD [])[k]).toNat,by omega⟩
   rw [ht] at hxe x1
   have htg:t < g.length:=by omega
   have htd:t < d1.length:=by rw [hd1.dl];omega
   have hi1:i < Q1.length:=by omega
   have hj1:∀Q2 d2,yI ((k:Int),Q1,d1) Q2 d2=some (.inl (((k + 1:Nat):Int),Q2,d2)):=fun Q2 d2=>by
    rw [yI]
    dsimp only
    rw [nxt (by omega)]
   left
   rw [yJ]
   dsimp only
   rw [if_pos (ct_lt hk),ya hk,yOb,ht,ya htg,yOb,ya htd]
   cases hgb:g[t] with
   | true=>
    have hgt:g[t]? =some true:=by rw [yGe htg,hgb]
    rw [if_pos rfl,yOb,yOb]
    by_cases hneg:d1[t] < 0
    ·obtain ⟨q1,e1,e2,v1,e3,e4,e5⟩:=hd1.qd i _ (yGe hi1)
     have hq1d:q1 < d1.length:=by rw [hd1.dl];exact e2
     have hv1:d1[q1]=v1:=by
      rw [yGe hq1d] at e3
      exact Option.some.inj e3
     rw [if_pos (by simpa using hneg),ya hi1,yOb,e1,ya hq1d,yOb,yOb,y5G htd,yOb,yE (by simp;omega),yOb,hj1]
     refine⟨_,rfl,rfl,hk,hd1.add (by omega) (yGe htd) hneg ?_ ?_ (.st (e:=e) hgt ?_ hlq),by dsimp only;simp;omega⟩
     ·rw [hv1,W_of (by omega) (by omega)];omega
     ·rw [hv1,W_of (by omega) (by omega)];omega
     ·rw [←hq]
      exact hxe
    ·rw [if_neg (by simpa using hneg),hj1]
     exact⟨_,rfl,rfl,hk,hd1,hle⟩
   | false=>
    rw [if_neg (by simp),yOb,if_neg (by simp),hj1]
    exact⟨_,rfl,rfl,hk,hd1,hle⟩) (fun s ⟨e1,_,hd1,hle⟩=>by
   obtain⟨c,Q1,d1⟩:=s
   dsimp only at e1 hd1 hle
   subst e1
   refine⟨(Q1,d1),?_,hd1,hle⟩
   rw [yJ]
   dsimp only
   rw [if_neg ct_ge]) (Nat.zero_le _) (0,Q,d) ⟨rfl,Nat.zero_le _,hd,Nat.le_refl _⟩
 exact⟨o.1,o.2,h1,h2,h3⟩
theorem yaO (hr:Right a n) (hg:g.length=n) (hm:IncOk a n m):∃d,yW (a,u,m,g)=some d∧d.length=n∧∀(s:Nat) (v:Int),d[s]? =some v→0≤v→LiveG a g s:=by
 have hnn:=hr.nn
 have hnl:=hr.nl
 have hf:iter (yN (List.replicate n 0)) (0,List.replicate n 0)=some (List.replicate n (-1)):=by
  obtain⟨o,g1,rfl⟩:=yb (f:=yN (List.replicate n 0)) (fun i s=>i≤n∧s=((i:Int),List.replicate i (-1) ++ List.replicate (n - i) 0)) (fun o=>o=List.replicate n (-1)) n 0 (by omega) (fun i s hi ⟨_,e1⟩=>by
    subst e1
    refine .inl ⟨(((i + 1:Nat):Int),List.replicate (i + 1) (-1) ++ List.replicate (n - (i + 1)) 0),?_,hi,rfl⟩
    rw [yN]
    dsimp only
    rw [if_pos (by simp;omega),ya (by simp;omega),yOb,y5G (by simp;omega),yOb,nxt (by omega)]
    rw [List.set_append_right _ _ (by simp),List.length_replicate,Nat.sub_self,show n - i=(n - (i + 1)) + 1 by omega,List.replicate_succ,List.set_cons_zero,List.replicate_succ',List.append_assoc]
    rfl) (fun s ⟨_,e1⟩=>by
    subst e1
    refine⟨_,?_,rfl⟩
    rw [yN]
    dsimp only
    rw [if_neg (by simp),Nat.sub_self]
    simp) (Nat.zero_le _) (0,List.replicate n 0) ⟨Nat.zero_le _,by simp⟩
  exact g1
 obtain⟨Q,d,h1,h2⟩:=yb2 (u:=u) (m:=m) hr hg
 obtain⟨o,h3,h4,h5⟩:=yb (f:=yK (a,u,m,g)) (fun i s=>s.1=(i:Int)∧i≤s.2.1.length∧DQs a g n s.2.1 s.2.2) (fun o=>o.length=n∧∀(s:Nat) (v:Int),o[s]? =some v→0≤v→LiveG a g s) n 0 (by omega) (fun i s hi ⟨e1,hle,hd⟩=>by
   obtain⟨c,Q,d⟩:=s
   dsimp only at e1 hd hle
   subst e1
   by_cases hiq:i < Q.length
   ·left
    obtain⟨Q',d',w1,w2,w3⟩:=ycV (u:=u) hr hg hm hd hiq (Q,d)
    rw [yK]
    dsimp only
    rw [if_pos (ct_lt hiq),ya hiq,yOb,w1,yOb,nxt (by omega)]
    exact⟨_,rfl,rfl,by dsimp only;omega,w2⟩
   ·right
    obtain rfl:i=Q.length:=by omega
    refine⟨d,?_,hd.dl,hd.lv⟩
    rw [yK]
    dsimp only
    rw [if_neg ct_ge]) (fun s ⟨e1,hle,hd⟩=>by
   obtain⟨c,Q,d⟩:=s
   dsimp only at e1 hd hle
   subst e1
   have:=hd.len
   refine⟨d,?_,hd.dl,hd.lv⟩
   rw [yK]
   dsimp only
   rw [if_neg (by simp;omega)]) (Nat.zero_le _) (0,Q,d) ⟨rfl,Nat.zero_le _,h2⟩
 refine⟨o,?_,h4,h5⟩
 rw [yW]
 dsimp only
 rw [hnn,y7v (by omega) (by omega),yOb,Int.toNat_natCast,hf,yOb,h1,yOb,h3]
 rfl
end
theorem ybF :∀{g g':List Bool},g'.length=g.length→(∀s:Nat,g'[s]? =some true→g[s]? =some true)→g'.count true≤g.count true
 | [],[],_,_=>Nat.le_refl _
 | [],_ :: _,h,_=>by simp at h
 | _ :: _,[],h,_=>by simp at h
 | x :: g,y :: g',h,hs=>by
  have ih:=ybF (g:=g) (g':=g') (by simpa using h) fun s hs'=>hs (s + 1) (by simpa using hs')
  have h0:=hs 0
  cases y with
  | true=>
   have:x=true:=by simpa using h0 rfl
   subst this
   simp [ih]
  | false=>cases x <;> simp <;> omega
theorem ybG :∀{g g':List Bool},g'.length=g.length→(∀s:Nat,g'[s]? =some true→g[s]? =some true)→∀{s:Nat},g[s]? =some true→g'[s]? ≠some true→g'.count true < g.count true
 | [],[],_,_,s,h,_=>by simp at h
 | [],_ :: _,h,_,_,_,_=>by simp at h
 | _ :: _,[],h,_,_,_,_=>by simp at h
 | x :: g,y :: g',h,hs,0,h1,h2=>by
  have:=ybF (g:=g) (g':=g') (by simpa using h) fun s hs'=>hs (s + 1) (by simpa using hs')
  have hx:x=true:=by simpa using h1
  subst hx
  cases y with
  | true=>exact absurd rfl h2
  | false=>simp;omega
 | x :: g,y :: g',h,hs,s + 1,h1,h2=>by
  have:=ybG (g:=g) (g':=g') (by simpa using h) (fun s hs'=>hs (s + 1) (by simpa using hs')) (s:=s) (by simpa using h1) (by simpa using h2)
  have h0:=hs 0
  cases y with
  | true=>
   have hx:x=true:=by simpa using h0 rfl
   subst hx
   simp
   omega
  | false=>cases x <;> simp <;> omega
theorem yb3 {L:List (Int×Int×Int×Int)} (h:∀x∈L,0≤x.1∧x.1 < 4294967296) (hl:L.length≤4294967296):∃r,y1p L=some r:=by
 unfold y1p
 by_cases h0:L= []
 ·subst h0
  rw [dif_neg (by simp),if_pos rfl]
  exact⟨_,rfl⟩
 ·rw [dif_pos ⟨h,hl,List.length_pos_iff.2 h0⟩]
  exact⟨_,rfl⟩
def RemIn (g:List Bool) (L:List (Int×Int×Int×Int)):Prop:=∀x∈L,∃s:Nat,x.1=(s:Int)∧g[s]? =some true
theorem RemIn.app {g:List Bool} {L:List (Int×Int×Int×Int)} (h:RemIn g L) {x:Int×Int×Int×Int} {s:Nat} (hx:x.1=(s:Int)) (hg:g[s]? =some true):RemIn g (L ++ [x]):=fun y hy=>by
 rcases List.mem_append.1 hy with hy | hy
 ·exact h y hy
 ·rw [List.mem_singleton.1 hy]
  exact⟨s,hx,hg⟩
section
variable {a:AutT} {n:Nat} {g:List Bool} {u:List Int} {m:List (Int×List Int)}
theorem ycW (hr:Right a n) (hg:g.length=n) (hu:u.length < 4611686018427387904) (k:Int):∃L,y2g (a,u,m,g) k=some L∧L.length≤a.2.2.2.length∧RemIn g L:=by
 have hl3:=hr.l3
 have hnl:=hr.nl
 obtain⟨o,h1,h2,h3⟩:=yb (f:=y1H (a,u,m,g) k) (fun i s=>s.1=(i:Int)∧i≤a.2.2.2.length∧s.2.length≤i∧RemIn g s.2) (fun o=>o.length≤a.2.2.2.length∧RemIn g o) a.2.2.2.length 0 (by omega) (fun i s hi ⟨e1,_,hL,hR⟩=>by
   obtain⟨c,L⟩:=s
   dsimp only at e1 hL hR
   subst e1
   have hx:=hr.es _ (List.getElem_mem hi)
   obtain⟨q,hq⟩:∃q:Nat,(a.2.2.2[i]).1=(q:Int):=⟨(a.2.2.2[i]).1.toNat,by omega⟩
   obtain⟨t,ht⟩:∃t:Nat,(a.2.2.2[i]).2.2=(t:Int):=⟨(a.2.2.2[i]).2.2.toNat,by omega⟩
   have hqg:q < g.length:=by omega
   have htg:t < g.length:=by omega
   have hj1:∀L':List (Int×Int×Int×Int),L'.length≤i + 1→RemIn g L'→∃s',yR ((i:Int),L) L'=some (.inl s')∧s'.1=((i + 1:Nat):Int)∧i + 1≤a.2.2.2.length∧s'.2.length≤i + 1∧RemIn g s'.2:=fun L' g1 g2=>by
    rw [yR]
    dsimp only
    rw [nxt (by omega)]
    exact⟨_,rfl,rfl,hi,g1,g2⟩
   have hj3:g[q]? =some true→∀b,∃s',y1d k ((i:Int),L) a.2.2.2[i] b=some (.inl s')∧s'.1=((i + 1:Nat):Int)∧i + 1≤a.2.2.2.length∧s'.2.length≤i + 1∧RemIn g s'.2:=fun hgq b=>by
    rw [y1d]
    cases b with
    | true=>
     rw [if_pos rfl]
     exact hj1 _ (by dsimp only;omega) hR
    | false=>
     rw [if_neg (by simp)]
     dsimp only
     rw [yE (by simp;omega),yOb]
     exact hj1 _ (by simp;omega) (hR.app hq hgq)
   left
   rw [y1H]
   dsimp only
   rw [if_pos (ct_lt hi),ya hi,yOb,hq,ya hqg,yOb]
   cases hgb:g[q] with
   | false=>
    rw [if_pos (show (!false)=true from rfl),yu,if_pos rfl]
    exact hj1 _ (by dsimp only;omega) hR
   | true=>
    have hgq:g[q]? =some true:=by rw [yGe hqg,hgb]
    rw [if_neg (by simp),ht,ya htg,yOb]
    cases g[t] with
    | true=>
     rw [if_pos rfl,yu,if_pos rfl]
     exact hj1 _ (by dsimp only;omega) hR
    | false=>
     rw [if_neg (by simp),y6D hu,yOb,yu]
     cases hasB u (a.2.2.2[i]).2.1 with
     | false=>
      rw [if_pos (show (!false)=true from rfl)]
      exact hj1 _ (by dsimp only;omega) hR
     | true=>
      rw [if_neg (by simp)]
      dsimp only
      by_cases hL0:0 < L.length
      ·rw [if_pos (by rw [decide_eq_true_eq];omega),show W ((L.length:Int) - 1)=((L.length - 1:Nat):Int) by rw [W_of (by omega) (by omega)];omega,ya (by omega),yOb]
       exact hj3 hgq _
      ·rw [if_neg (by rw [decide_eq_true_eq];omega)]
       exact hj3 hgq _) (fun s ⟨e1,_,hL,hR⟩=>by
   obtain⟨c,L⟩:=s
   dsimp only at e1 hL hR
   subst e1
   refine⟨L,?_,hL,hR⟩
   rw [y1H]
   dsimp only
   rw [if_neg ct_ge]) (Nat.zero_le _) (0,[]) ⟨rfl,Nat.zero_le _,Nat.zero_le _,fun x hx=>by cases hx⟩
 exact⟨o,by rw [y2g,h1];rfl,h2,h3⟩
theorem yb4 (hr:Right a n) (hg:g.length=n) (hm:IncOk a n m) (k:Int):∃L,y1I (a,u,m,g) k=some L∧L.length≤n∧RemIn g L∧(L= []→∀s:Nat,g[s]? =some true→LiveG a g s):=by
 have hnl:=hr.nl
 obtain⟨d,d1,d2,d3⟩:=yaO (u:=u) hr hg hm
 obtain⟨o,h1,h2,h3,h4⟩:=yb (f:=y1l (a,u,m,g) k d) (fun i s=>s.1=(i:Int)∧i≤n∧s.2.length≤i∧RemIn g s.2∧(s.2= []→∀t:Nat,t < i→g[t]? =some true→LiveG a g t)) (fun o=>o.length≤n∧RemIn g o∧(o= []→∀t:Nat,t < n→g[t]? =some true→LiveG a g t)) n 0 (by omega) (fun i s hi ⟨e1,_,hL,hR,hv⟩=>by
   obtain⟨c,L⟩:=s
   dsimp only at e1 hL hR hv
   subst e1
   have hid:i < d.length:=by omega
   have hig:i < g.length:=by omega
   left
   rw [y1l]
   dsimp only
   rw [if_pos (by simp;omega),ya hid,yOb,ya hig,yOb]
   by_cases hb:g[i]=true∧d[i] < 0
   ·rw [if_pos (by simp;exact hb),yE (by simp;omega),yOb,yS]
    dsimp only
    rw [nxt (by omega)]
    exact⟨_,rfl,rfl,hi,by simp;omega,hR.app rfl (by rw [yGe hig,hb.1]),fun h=>by simp at h⟩
   ·rw [if_neg (by simp;exact fun h=>Int.not_lt.1 fun h2=>hb ⟨h,h2⟩),yS]
    dsimp only
    rw [nxt (by omega)]
    refine⟨_,rfl,rfl,hi,by dsimp only;omega,hR,fun h t ht hgt=>?_⟩
    by_cases e:t=i
    ·subst e
     refine d3 t _ (yGe hid) (Int.not_lt.1 fun h2=>hb ⟨?_,h2⟩)
     rw [yGe hig] at hgt
     exact Option.some.inj hgt
    ·exact hv h t (by omega) hgt) (fun s ⟨e1,_,hL,hR,hv⟩=>by
   obtain⟨c,L⟩:=s
   dsimp only at e1 hL hR hv
   subst e1
   refine⟨L,?_,hL,hR,hv⟩
   rw [y1l]
   dsimp only
   rw [if_neg (by simp;omega)]) (Nat.zero_le _) (0,[]) ⟨rfl,Nat.zero_le _,Nat.zero_le _,fun x hx=>by(cases hx),fun _ t ht=>absurd ht (Nat.not_lt_zero _)⟩
 refine⟨o,by rw [y1I,d1,yOb,h1];rfl,h2,h3,fun h s hs=>h4 h s ?_ hs⟩
 rw [←hg]
 exact(List.getElem?_eq_some_iff.1 hs).1
theorem yad (hr:Right a n) (hg:g.length=n) (hm:IncOk a n m) (hu:u.length < 4611686018427387904) (k:Int):∃L,y2h (a,u,m,g) k true=some L∧L.length≤1000000∧RemIn g L∧(L= []→∀s:Nat,g[s]? =some true→LiveG a g s):=by
 have hl3:=hr.l3
 have hnl:=hr.nl
 obtain⟨L,h1,h2,h3⟩:=ycW (m:=m) hr hg hu k
 obtain⟨L',w1,w2,w3,w4⟩:=yb4 (u:=u) hr hg hm k
 rw [y2h,h1,yOb]
 by_cases h0:0 < L.length
 ·rw [if_pos (by rw [decide_eq_true (show (L.length:Int) > 0 by omega)];rfl)]
  exact⟨L,rfl,by omega,h3,fun h=>by rw [h] at h0;simp at h0⟩
 ·rw [if_neg (by rw [decide_eq_false (show ¬(L.length:Int) > 0 by omega)];simp),w1]
  exact⟨L',rfl,by omega,w3,w4⟩
theorem ybH (hr:Right a n) {f:List Int} (hf:∀x∈f,0≤x∧x < (n:Int)) (hfl:f.length≤1000000) (u:List Int):∃m g,y3w a f u=some (a,u,m,g)∧g.length=n∧IncOk a n m:=by
 have hnn:=hr.nn
 have hnl:=hr.nl
 have hl3:=hr.l3
 have h1:iter (y2o (List.replicate n false)) (0,List.replicate n false)=some (List.replicate n true):=by
  obtain⟨o,g1,rfl⟩:=yb (f:=y2o (List.replicate n false)) (fun i s=>i≤n∧s=((i:Int),List.replicate i true ++ List.replicate (n - i) false)) (fun o=>o=List.replicate n true) n 0 (by omega) (fun i s hi ⟨_,e1⟩=>by
    subst e1
    refine .inl ⟨(((i + 1:Nat):Int),List.replicate (i + 1) true ++ List.replicate (n - (i + 1)) false),?_,hi,rfl⟩
    rw [y2o]
    dsimp only
    rw [if_pos (by simp;omega),ya (by simp;omega),yOb,y5G (by simp;omega),yOb,nxt (by omega)]
    rw [List.set_append_right _ _ (by simp),List.length_replicate,Nat.sub_self,show n - i=(n - (i + 1)) + 1 by omega,List.replicate_succ,List.set_cons_zero,List.replicate_succ',List.append_assoc]
    rfl) (fun s ⟨_,e1⟩=>by
    subst e1
    refine⟨_,?_,rfl⟩
    rw [y2o]
    dsimp only
    rw [if_neg (by simp),Nat.sub_self]
    simp) (Nat.zero_le _) (0,List.replicate n false) ⟨Nat.zero_le _,by simp⟩
  exact g1
 obtain⟨g,h2,h3⟩:=yb (f:=y3a f) (fun i s=>s.1=(i:Int)∧i≤f.length∧s.2.length=n) (fun o=>o.length=n) f.length 0 (by omega) (fun i s hi ⟨e1,_,hl⟩=>by
   obtain⟨c,g⟩:=s
   dsimp only at e1 hl
   subst e1
   have hx:=hf _ (List.getElem_mem hi)
   obtain⟨t,ht⟩:∃t:Nat,f[i]=(t:Int):=⟨(f[i]).toNat,by omega⟩
   have htg:t < g.length:=by omega
   left
   rw [y3a]
   dsimp only
   rw [if_pos (ct_lt hi),ya hi,yOb,ht,ya htg,yOb,y5G htg,yOb,nxt (by omega)]
   exact⟨_,rfl,rfl,hi,by dsimp only;rw [List.length_set];exact hl⟩) (fun s ⟨e1,_,hl⟩=>by
   obtain⟨c,g⟩:=s
   dsimp only at e1 hl
   subst e1
   refine⟨g,?_,hl⟩
   rw [y3a]
   dsimp only
   rw [if_neg ct_ge]) (Nat.zero_le _) (0,List.replicate n true) ⟨rfl,Nat.zero_le _,by simp⟩
 obtain⟨m,h4,h5⟩:=yb (f:=y2Z a) (fun i s=>s.1=(i:Int)∧i≤a.2.2.2.length∧∀t,((kget s.2 t).getD []).length≤i∧∀x∈(kget s.2 t).getD [],0≤x∧x < (n:Int)∧∃e,(x,e,t)∈a.2.2.2) (fun o=>IncOk a n o) a.2.2.2.length 0 (by omega) (fun i s hi ⟨e1,_,hm⟩=>by
   obtain⟨c,m⟩:=s
   dsimp only at e1 hm
   subst e1
   have hx:=hr.es _ (List.getElem_mem hi)
   obtain⟨m1,m2⟩:=hm (a.2.2.2[i]).2.2
   left
   rw [y2Z]
   dsimp only
   rw [if_pos (ct_lt hi),ya hi,yOb,yE (by simp;omega),yOb,nxt (by omega)]
   refine⟨_,rfl,rfl,hi,fun t=>?_⟩
   dsimp only
   rw [y3A]
   by_cases e:t=(a.2.2.2[i]).2.2
   ·subst e
    rw [if_pos rfl,Option.getD_some]
    refine⟨by simp;omega,fun x hx'=>?_⟩
    rcases List.mem_append.1 hx' with hx' | hx'
    ·exact m2 x hx'
    ·rw [List.mem_singleton.1 hx']
     exact⟨hx.1,hx.2.1,(a.2.2.2[i]).2.1,List.getElem_mem hi⟩
   ·rw [if_neg e]
    exact⟨by have:=(hm t).1;omega,(hm t).2⟩) (fun s ⟨e1,_,hm⟩=>by
   obtain⟨c,m⟩:=s
   dsimp only at e1 hm
   subst e1
   refine⟨m,?_,hm⟩
   rw [y2Z]
   dsimp only
   rw [if_neg ct_ge]) (Nat.zero_le _) (0,[]) ⟨rfl,Nat.zero_le _,fun t=>⟨by simp [kget],fun x hx=>by simp [kget] at hx⟩⟩
 refine⟨m,g,?_,h3,h5⟩
 rw [y3w,hnn,y7v (by omega) (by omega),yOb,Int.toNat_natCast,h1,yOb,h2,yOb,h4]
 rfl
theorem ycm (hn:n≤4096) (hg:g.length=n) {L:List (Int×Int×Int×Int)} (hL:RemIn g L) (hl:L.length≤1000000):∃g',iter (y2c L) (0,g)=some g'∧g'.length=n∧(∀s:Nat,g'[s]? =some true→g[s]? =some true)∧∀(k s:Nat) (h:k < L.length),(L[k]).1=(s:Int)→g'[s]? ≠some true:=by
 obtain⟨o,h1,h2,h3,h4⟩:=yb (f:=y2c L) (fun i s=>s.1=(i:Int)∧i≤L.length∧s.2.length=n∧(∀t:Nat,s.2[t]? =some true→g[t]? =some true)∧∀(k t:Nat) (h:k < L.length),k < i→(L[k]).1=(t:Int)→s.2[t]? ≠some true) (fun o=>o.length=n∧(∀t:Nat,o[t]? =some true→g[t]? =some true)∧∀(k t:Nat) (h:k < L.length),(L[k]).1=(t:Int)→o[t]? ≠some true) L.length 0 (by omega) (fun i s hi ⟨e1,_,q1,q2,q3⟩=>by
   obtain⟨c,g1⟩:=s
   dsimp only at e1 q1 q2 q3
   subst e1
   obtain⟨t,ht,hgt⟩:=hL _ (List.getElem_mem hi)
   have htl:t < g1.length:=by
    have:=(List.getElem?_eq_some_iff.1 hgt).1
    omega
   left
   rw [y2c]
   dsimp only
   rw [if_pos (ct_lt hi),ya hi,yOb,ht,ya htl,yOb,y5G htl,yOb,nxt (by omega)]
   refine⟨_,rfl,rfl,hi,by dsimp only;rw [List.length_set];exact q1,fun s' hs'=>?_,fun k s' hk hki e=>?_⟩
   ·dsimp only at hs'
    rw [List.getElem?_set] at hs'
    by_cases e2:t=s'
    ·subst e2
     rw [if_pos rfl,if_pos htl] at hs'
     cases hs'
    ·rw [if_neg e2] at hs'
     exact q2 s' hs'
   ·dsimp only
    rw [List.getElem?_set]
    by_cases e2:t=s'
    ·subst e2
     rw [if_pos rfl,if_pos htl]
     simp
    ·rw [if_neg e2]
     by_cases e3:k=i
     ·subst e3
      omega
     ·exact q3 k s' hk (by omega) e) (fun s ⟨e1,_,q1,q2,q3⟩=>by
   obtain⟨c,g1⟩:=s
   dsimp only at e1 q1 q2 q3
   subst e1
   refine⟨g1,?_,q1,q2,fun k t h e=>q3 k t h h e⟩
   rw [y2c]
   dsimp only
   rw [if_neg ct_ge]) (Nat.zero_le _) (0,g) ⟨rfl,Nat.zero_le _,hg,fun t h=>h,fun k t h hk=>absurd hk (Nat.not_lt_zero _)⟩
 exact⟨o,h1,h2,h3,h4⟩
end
section
variable {a:AutT} {n:Nat} {u f:List Int}
structure SynOk (a:AutT) (n:Nat) (g:List Bool) (r:AutT) (X:List Int):Prop where
 gl:g.length=n
 can:CanOf (stK a g) a.1 a.2.2.1 r X
 le:X.length≤n
 kept:∀s∈X,0≤s∧s < (n:Int)∧g.getD s.toNat false=true
 live:∀s:Nat,g[s]? =some true→LiveG a g s
theorem ybI (hr:Right a n) (hn:n≤40) (hf:∀x∈f,0≤x∧x < (n:Int)) (hfl:f.length≤1000000) (hu:u.length < 4611686018427387904):
  ∃z k g r X,y3o a f u true=some (z,k,r,X)∧SynOk a n g r X:=by
 obtain⟨m,g0,s1,s2,s3⟩:=ybH hr hf hfl u
 obtain⟨o1,h1,h2,h3⟩:=yb (f:=y2N f) (fun i s=>s.1=(i:Int)∧i≤f.length∧s.2.1.length≤i∧∀x∈s.2.1,0≤x.1∧x.1 < (n:Int)) (fun o=>o.1.length≤f.length∧∀x∈o.1,0≤x.1∧x.1 < (n:Int)) f.length 0 (by omega) (fun i s hi ⟨e1,_,q1,q2⟩=>by
   obtain⟨c,L,w⟩:=s
   dsimp only at e1 q1 q2
   subst e1
   left
   rw [y2N]
   dsimp only
   rw [if_pos (ct_lt hi),ya hi,yOb,yE (by simp;omega),yOb,nxt (by omega)]
   refine⟨_,rfl,rfl,hi,by simp;omega,fun x hx=>?_⟩
   dsimp only at hx
   rcases List.mem_append.1 hx with hx | hx
   ·exact q2 x hx
   ·rw [List.mem_singleton.1 hx]
    exact hf _ (List.getElem_mem hi)) (fun s ⟨e1,_,q1,q2⟩=>by
   obtain⟨c,L,w⟩:=s
   dsimp only at e1 q1 q2
   subst e1
   refine⟨(L,w),?_,q1,q2⟩
   rw [y2N]
   dsimp only
   rw [if_neg ct_ge]) (Nat.zero_le _) (0,[],0) ⟨rfl,Nat.zero_le _,Nat.zero_le _,fun x hx=>by cases hx⟩
 obtain⟨o2,h4,h5,h6,h7,h8⟩:=yb (f:=y2M true (a,u,m,g0)) (fun i s=>s.2.1.length≤1000000 + i * 1000000∧(∀x∈s.2.1,0≤x.1∧x.1 < (n:Int))∧s.2.2.2.length=n∧i + s.2.2.2.count true≤n) (fun o=>o.1.length≤100000000∧(∀x∈o.1,0≤x.1∧x.1 < (n:Int))∧o.2.2.length=n∧∀s:Nat,o.2.2[s]? =some true→LiveG a o.2.2 s) n 0 (by omega) (fun i s hi ⟨q1,q2,q3,q4⟩=>by
   obtain⟨c,L,w,g⟩:=s
   dsimp only at q1 q2 q3 q4
   obtain⟨R,r1,r2,r3,r4⟩:=yad (u:=u) hr q3 s3 hu c
   rw [y2M]
   dsimp only
   rw [r1,yOb]
   by_cases h0:R= []
   ·right
    subst h0
    rw [if_pos (by simp)]
    exact⟨_,rfl,by dsimp only;omega,q2,q3,r4 rfl⟩
   ·left
    have hRl:0 < R.length:=List.length_pos_iff.2 h0
    obtain⟨g',w1,w2,w3,w4⟩:=ycm (n:=n) (by omega) q3 r3 r2
    rw [if_neg (by simp [h0]),w1,yOb,yE (by omega),yOb]
    obtain⟨t,ht,hgt⟩:=r3 _ (List.getElem_mem hRl)
    have hc:=ybG (by omega) w3 hgt (w4 0 t hRl ht)
    refine⟨_,rfl,by simp;omega,fun x hx=>?_,w2,by dsimp only;omega⟩
    dsimp only at hx
    rcases List.mem_append.1 hx with hx | hx
    ·exact q2 x hx
    ·obtain ⟨s',e,hs'⟩:=r3 x hx
     have:=(List.getElem?_eq_some_iff.1 hs').1
     omega) (fun s ⟨q1,q2,q3,q4⟩=>by
   obtain⟨c,L,w,g⟩:=s
   dsimp only at q1 q2 q3 q4
   obtain⟨R,r1,r2,r3,r4⟩:=yad (u:=u) hr q3 s3 hu c
   rw [y2M]
   dsimp only
   rw [r1,yOb]
   by_cases h0:R= []
   ·subst h0
    rw [if_pos (by simp)]
    exact⟨_,rfl,by dsimp only;omega,q2,q3,r4 rfl⟩
   ·exfalso
    have hRl:0 < R.length:=List.length_pos_iff.2 h0
    obtain⟨t,ht,hgt⟩:=r3 _ (List.getElem_mem hRl)
    have:0 < g.count true:=List.count_pos_iff.2 (List.mem_of_getElem? hgt)
    omega) (Nat.zero_le _) (2,o1.1,o1.2,g0) ⟨by dsimp only;omega,h3,s2,by
    dsimp only
    have:=List.count_le_length (a:=true) (l:=g0)
    omega⟩
 obtain⟨rem,hrem⟩:=yb3 (fun x hx=>by have:=h6 x hx;omega) (by omega:o2.1.length≤4294967296)
 obtain⟨d,d1,d2,d3⟩:=yaO (u:=u) hr h7 s3
 obtain⟨o3,h9⟩:∃o3,iter (y2b o2 d) (0,[],[])=some o3:=by
  obtain⟨o,w,_⟩:=yb (f:=y2b o2 d) (fun i s=>s.1=(i:Int)∧i≤n∧s.2.1.length≤i∧s.2.2.length≤i) (fun o=>True) n 0 (by omega) (fun i s hi ⟨e1,_,q1,q2⟩=>by
    obtain⟨c,A,B⟩:=s
    dsimp only at e1 q1 q2
    subst e1
    have hid:i < d.length:=by omega
    have hig:i < o2.2.2.length:=by omega
    left
    rw [y2b]
    dsimp only
    rw [if_pos (by simp;omega),ya hid,yOb,ya hig,yOb]
    cases o2.2.2[i] with
    | true=>
     rw [if_pos rfl,yE (by simp;omega),yOb,yE (by simp;omega),yOb,y2a]
     dsimp only
     rw [nxt (by omega)]
     exact⟨_,rfl,rfl,hi,by simp;omega,by simp;omega⟩
    | false=>
     rw [if_neg (by simp),y2a]
     dsimp only
     rw [nxt (by omega)]
     exact⟨_,rfl,rfl,hi,by dsimp only;omega,by dsimp only;omega⟩) (fun s ⟨e1,_,q1,q2⟩=>by
    obtain⟨c,A,B⟩:=s
    dsimp only at e1 q1 q2
    subst e1
    refine⟨(A,B),?_,trivial⟩
    rw [y2b]
    dsimp only
    rw [if_neg (by simp;omega)]) (Nat.zero_le _) (0,[],[]) ⟨rfl,Nat.zero_le _,Nat.zero_le _,Nat.zero_le _⟩
  exact⟨o,w⟩
 obtain⟨r,X,x1,x2,x3,x4⟩:=ycl hr h7 (a,u,m,o2.2.2) rfl rfl
 refine⟨(o3.1,o3.2,rem),o2.2.1,o2.2.2,r,X,?_,h7,x2,x3,x4,h8⟩
 rw [y3o,s1,yOb,h1,yOb]
 dsimp only
 rw [h4,yOb,hrem,yOb,d1,yOb,h9,yOb,x1]
 rfl
theorem ydd (hr:Right a n) (hn:n≤40) (hfi:Inc f) (hf:∀x∈f,0≤x∧x < (n:Int)) (hui:Inc u) (hur:∀x∈u,0≤x∧x < 32):
  ∃z k g r X,y1Q a f u=some ((z,k,r,X),0)∧SynOk a n g r X:=by
 have hfl:=y3u (n:=n) (lo:=0) hfi hf (Int.le_refl _)
 have hul:=Alp.len ⟨hui,hur⟩
 obtain⟨z,k,g,r,X,h1,h2⟩:=ybI hr hn hf (by omega) (u:=u) (by omega)
 refine⟨z,k,g,r,X,?_,h2⟩
 have hc:y3v a f u=some 0:=by
  rw [y3v,yal hr.l1 hr.l2 hr.l3,hr.err,yOb,if_neg (by simp),hr.nn,y5S (by omega),y5d hfi hf (fun q hq=>by cases hq),yOb,if_neg (by simp),y5S (by omega),y5d hui hur (fun q hq=>by cases hq)]
  rfl
 rw [y1Q,hc,yOb,if_neg (by simp),h1]
 rfl
theorem y7I (hr:Right a n) (s e:Int):y1N a s e=some ((st1 a s e).getD (-1)):=by
 have hl3:=hr.l3
 obtain⟨o,h1,h2⟩:=yb (f:=y2t a s e) (fun i c=>c=(i:Int)∧i≤a.2.2.2.length∧∀k (h:k < a.2.2.2.length),k < i→¬((a.2.2.2[k]).1=s∧(a.2.2.2[k]).2.1=e)) (fun o=>match o with
  | .inl _=>st1 a s e=none
  | .inr t=>st1 a s e=some t) a.2.2.2.length 0 (by omega) (fun i c hi ⟨e1,_,hk⟩=>by
   subst e1
   rw [y2t,if_pos (ct_lt hi),ya hi,yOb]
   by_cases hx:(a.2.2.2[i]).1=s∧(a.2.2.2[i]).2.1=e
   ·right
    rw [if_pos (by simpa using hx.1),yOb,yOb,if_pos (by simpa using hx.2),yOb]
    refine⟨_,rfl,?_⟩
    dsimp only
    rw [y4Y hr,←hx.1,←hx.2]
    exact List.getElem_mem hi
   ·left
    refine⟨((i + 1:Nat):Int),?_,rfl,hi,fun k h hki=>?_⟩
    ·by_cases h1:(a.2.2.2[i]).1=s
     ·rw [if_pos (by simpa using h1),yOb,yOb,if_neg (by simpa using fun h2=>hx ⟨h1,h2⟩),nxt (by omega)]
     ·rw [if_neg (by simpa using h1),yOb,if_neg (by simp),nxt (by omega)]
    ·by_cases e:k=i
     ·subst e
      exact hx
     ·exact hk k h (by omega)) (fun c ⟨e1,_,hk⟩=>by
   subst e1
   refine⟨.inl (),by rw [y2t,if_neg ct_ge],?_⟩
   dsimp only
   cases hst:st1 a s e with
   | none=>rfl
   | some t=>
    exfalso
    obtain⟨k,h,e2⟩:=List.getElem_of_mem ((y4Y hr).1 hst)
    exact hk k h h (by rw [e2];exact⟨rfl,rfl⟩)) (Nat.zero_le _) 0 ⟨rfl,Nat.zero_le _,fun k h hk=>absurd hk (Nat.not_lt_zero _)⟩
 rw [y1N,h1,yOb]
 cases o with
 | inl _=>dsimp only at h2 ⊢;rw [h2];rfl
 | inr t=>dsimp only at h2 ⊢;rw [h2];rfl
end
theorem LoopZ.few {P S p:AutT} {T:List (List Int)} {n n1 n2:Nat} (h:LoopZ P S p T n) (hP:P.2.1=(n1:Int)) (hS:S.2.1=(n2:Int)):n≤n1 * n2:=by
 rw [←h.tl]
 have hx:∀t∈T,∃x y:Nat,t= [(x:Int),(y:Int)]∧x < n1∧y < n2:=fun t ht=>by
  obtain⟨x,y,e,g1,g2,g3,g4⟩:=h.tt t ht
  exact⟨x.toNat,y.toNat,by rw [e,Int.toNat_of_nonneg g1,Int.toNat_of_nonneg g3],by omega,by omega⟩
 have:=y5e (n1 * n2) (T.map fun t=>match t with
  | [x,y]=>x.toNat * n2 + y.toNat
  | _=>0) (by
  unfold List.Nodup
  rw [List.pairwise_map]
  refine h.nd.imp_of_mem fun {s t} hs ht hst=>?_
  obtain⟨x,y,rfl,g1,g2⟩:=hx s hs
  obtain⟨x',y',rfl,g3,g4⟩:=hx t ht
  dsimp only
  rw [Int.toNat_natCast,Int.toNat_natCast,Int.toNat_natCast,Int.toNat_natCast]
  intro e
  refine hst ?_
  have e1:x=x':=by
   have a1:(x * n2 + y) / n2=x:=by rw [Nat.mul_comm,Nat.mul_add_div (by omega),Nat.div_eq_of_lt g2,Nat.add_zero]
   have a2:(x' * n2 + y') / n2=x':=by rw [Nat.mul_comm,Nat.mul_add_div (by omega),Nat.div_eq_of_lt g4,Nat.add_zero]
   rw [←a1,e,a2]
  subst e1
  have:y=y':=by omega
  rw [this]) (fun v hv=>by
  obtain⟨t,ht,rfl⟩:=List.mem_map.1 hv
  obtain⟨x,y,rfl,g1,g2⟩:=hx t ht
  dsimp only
  rw [Int.toNat_natCast,Int.toNat_natCast]
  calc x * n2 + y < x * n2 + n2:=by omega
   _=(x + 1) * n2:=by rw [Nat.succ_mul]
   _≤n1 * n2:=Nat.mul_le_mul_right _ g1)
 simpa using this
theorem ycX {q:ProbT} {n1 n:Nat} {A:AutT} {T:List (List Int)} {z:Int} (hP:Right q.1 n1) (hA:Right A n) (hu:q.2.2.length≤32) (hT:∀t∈T,∃x y,t= [x,y]) {i:Nat} (hi:i < T.length) {o:List Int} (ho:o.length≤1000000):
  ∃o',iter (y1M q (A,T,z) ((i:Int),o)) 0=some o'∧(o'=o∨o'=o ++ [(i:Int)]):=by
 obtain⟨x,y,hxy⟩:=hT _ (List.getElem_mem hi)
 obtain⟨o',h1,h2⟩:=yb (f:=y1M q (A,T,z) ((i:Int),o)) (fun j c=>c=(j:Int)∧j≤q.2.2.length) (fun o'=>o'=o∨o'=o ++ [(i:Int)]) q.2.2.length 0 (by omega) (fun j c hj ⟨e1,_⟩=>by
   subst e1
   have hj1:∀b,(∃s',y1f ((i:Int),o) (j:Int) b=some (.inl s')∧s'=((j + 1:Nat):Int)∧j + 1≤q.2.2.length)∨∃o',y1f ((i:Int),o) (j:Int) b=some (.inr o')∧(o'=o∨o'=o ++ [(i:Int)]):=fun b=>by
    rw [y1f]
    cases b with
    | true=>
     right
     rw [if_pos rfl]
     dsimp only
     rw [yE (by simp;omega)]
     exact⟨_,rfl,.inr rfl⟩
    | false=>
     left
     rw [if_neg (by simp),nxt (by omega)]
     exact⟨_,rfl,rfl,hj⟩
   rw [y1M]
   dsimp only
   rw [if_pos (ct_lt hj),ya hj,yOb,ya hi,yOb,hxy,show idx [x,y] 0=some x from rfl,yOb,y7I hP,yOb]
   split
   ·rw [y7I hA,yOb]
    exact hj1 _
   ·exact hj1 _) (fun c ⟨e1,_⟩=>by
   subst e1
   refine⟨o,?_,.inl rfl⟩
   rw [y1M]
   dsimp only
   rw [if_neg ct_ge]) (Nat.zero_le _) 0 ⟨rfl,Nat.zero_le _⟩
 exact⟨o',h1,h2⟩
theorem ycY {q:ProbT} {n1 n:Nat} {A:AutT} {T:List (List Int)} {z:Int} (hP:Right q.1 n1) (hA:Right A n) (hu:q.2.2.length≤32) (hT:∀t∈T,∃x y,t= [x,y]) (hl:T.length≤4000):
  ∃o,iter (y1g q (A,T,z)) (0,[])=some o∧Inc o∧∀x∈o,0≤x∧x < (T.length:Int):=by
 obtain⟨o,h1,h2,h3⟩:=yb (f:=y1g q (A,T,z)) (fun i s=>s.1=(i:Int)∧i≤T.length∧Inc s.2∧∀x∈s.2,0≤x∧x < (i:Int)) (fun o=>Inc o∧∀x∈o,0≤x∧x < (T.length:Int)) T.length 0 (by omega) (fun i s hi ⟨e1,_,q1,q2⟩=>by
   obtain⟨c,o⟩:=s
   dsimp only at e1 q1 q2
   subst e1
   have hol:=y3u (n:=i) (lo:=0) q1 q2 (Int.le_refl _)
   obtain⟨o',w1,w2⟩:=ycX (z:=z) hP hA hu hT hi (o:=o) (by omega)
   left
   rw [y1g]
   dsimp only
   rw [if_pos (ct_lt hi),w1,yOb,nxt (by omega)]
   refine⟨_,rfl,rfl,hi,?_⟩
   dsimp only
   rcases w2 with rfl | rfl
   ·exact ⟨q1,fun x hx=>by have:=q2 x hx;omega⟩
   ·refine ⟨?_,fun x hx=>?_⟩
    ·unfold Inc at q1 ⊢
     rw [List.pairwise_append]
     exact⟨q1,List.pairwise_singleton _ _,fun c hc b hb=>by rw [List.mem_singleton.1 hb];exact(q2 c hc).2⟩
    ·rcases List.mem_append.1 hx with hx | hx
     ·have:=q2 x hx;omega
     ·rw [List.mem_singleton.1 hx];omega) (fun s ⟨e1,_,q1,q2⟩=>by
   obtain⟨c,o⟩:=s
   dsimp only at e1 q1 q2
   subst e1
   refine⟨o,?_,q1,q2⟩
   rw [y1g]
   dsimp only
   rw [if_neg ct_ge]) (Nat.zero_le _) (0,[]) ⟨rfl,Nat.zero_le _,List.Pairwise.nil,fun x hx=>by cases hx⟩
 exact⟨o,h1,h2,h3⟩
theorem ycZ {q:ProbT} {m1 m2:Nat} (h:PbOk q m1 m2) (l1:m1≤5) (l2:m2≤5):∃A T n o z k g r X,yq [q.1,q.2.1]=some (A,T,0)∧iter (y1g q (A,T,0)) (0,[])=some o∧y1Q A o q.2.2=some ((z,k,r,X),0)∧LoopZ q.1 q.2.1 A T n∧n≤25∧SynOk A n g r X∧PbOk (q.1,r,q.2.2) m1 X.length:=by
 obtain⟨t,A,T,k1,k2,n,_,hk,hs⟩:=h.open
 have hL:=hk.loop
 have hn:n≤25:=Nat.le_trans (hL.few h.rP.nn h.rS.nn) (Nat.mul_le_mul l1 l2)
 have hul:=Alp.len ⟨h.iu,h.ur⟩
 obtain⟨o,o1,o2,o3⟩:=ycY (z:=0) h.rP hL.right hul (fun t ht=>by
  obtain⟨x,y,e,_⟩:=hL.tt t ht
  exact⟨x,y,e⟩) (by rw [hL.tl];exact hL.le)
 rw [hL.tl] at o3
 obtain⟨z,k,g,r,X,s1,s2⟩:=ydd hL.right (by omega) o2 o3 h.iu h.ur
 refine⟨A,T,n,o,z,k,g,r,X,hs,o1,s1,hL,hn,s2,h.rP,s2.can.right,h.l1,by have:=s2.le;omega,fun x hx=>?_,h.iu,h.ur⟩
 dsimp only at hx
 rw [s2.can.ale,hL.ev] at hx
 exact hx.elim id (h.sub x)
theorem yb5 {d:Des26} (hd:Des26In d) (keep:Bool):∃q n1 n2,y3b d keep=some q∧PbOk q n1 n2∧n1≤5∧n2≤25∧∀x∈q.1.1,0≤x∧x < 5:=by
 obtain⟨q,n1,n2,h1,h2,h3,h4,h5⟩:=ybE hd
 rw [y3b,h1,yOb]
 cases keep with
 | false=>
  rw [if_pos (show (!false)=true from rfl)]
  exact⟨q,n1,n2,rfl,h2,h3,by omega,h5⟩
 | true=>
  obtain⟨A,T,n,o,z,k,g,r,X,s1,s2,s3,s4,s5,s6,s7⟩:=ycZ h2 h3 h4
  rw [if_neg (by simp),s1,yOb]
  dsimp only
  rw [s2,yOb,s3]
  exact⟨_,n1,X.length,rfl,s7,h3,by have:=s6.le;omega,h5⟩
theorem yam {xs:List Int} (hl:xs.length≤1000000):y3n xs xs=some true:=by
 have h:iter (y1Z xs xs) 0=some (.inl ()):=by
  obtain⟨o,h1,rfl⟩:=yb (f:=y1Z xs xs) (fun i s=>s=(i:Int)) (fun o=>o= .inl ()) xs.length 0 (by omega) (fun i s hi e1=>by
   subst e1
   left
   rw [y1Z,if_pos (ct_lt hi),ya hi,yOb,yOb,if_neg (by simp),nxt (by omega)]
   exact⟨_,rfl,rfl⟩) (fun s e1=>by
   subst e1
   rw [y1Z,if_neg ct_ge]
   exact⟨_,rfl,rfl⟩) (Nat.zero_le _) 0 rfl
  exact h1
 rw [y3n,if_neg (by simp),h]
 rfl
theorem yan {u:List Int} (hu:u.length≤1000000):y3E u u=some true:=by
 rw [y3E,yam hu]
 rfl
theorem y8t {τ:Type} {st:τ→Int→Option τ}:∀{u:List Int} {t:τ} {e:Int},stw st t (u ++ [e])=(stw st t u).bind fun r=>st r e
 | [],t,e=>by
  rw [List.nil_append,stw,stw,yOb]
  cases st t e <;> rfl
 | x :: u,t,e=>by
  rw [List.cons_append,stw,stw]
  cases h:st t x with
  | none=>rfl
  | some r=>
   rw [yOb,yOb,y8t]
def IsRun (P:AutT) (U:List Int) (x:Int) (w:List Int) (y:Int):Prop:=stw (st1 P) x w=some y∧(∀e∈w,e∈U)∧w.Nodup
theorem IsRun.snoc {P:AutT} {U:List Int} {x y y' e:Int} {w:List Int} (h:IsRun P U x w y) (he:e∈U) (hn:e∉w) (hs:st1 P y e=some y'):IsRun P U x (w ++ [e]) y':=by
 obtain⟨h1,h2,h3⟩:=h
 refine⟨by rw [y8t,h1,yOb,hs],fun z hz=>?_,?_⟩
 ·rcases List.mem_append.1 hz with hz | hz
  ·exact h2 z hz
  ·rw [List.mem_singleton.1 hz];exact he
 ·rw [List.nodup_append]
  refine⟨h3,by simp,fun a ha b hb e=>?_⟩
  rw [List.mem_singleton.1 hb] at e
  rw [e] at ha
  exact hn ha
theorem IsRun.of_snoc {P:AutT} {U:List Int} {x y' e:Int} {w:List Int} (h:IsRun P U x (w ++ [e]) y'):∃y,IsRun P U x w y∧e∈U∧e∉w∧st1 P y e=some y':=by
 obtain⟨h1,h2,h3⟩:=h
 rw [y8t] at h1
 obtain⟨y,g1,g2⟩:=Option.bind_eq_some_iff.1 h1
 rw [List.nodup_append] at h3
 exact⟨y,⟨g1,fun z hz=>h2 z (List.mem_append_left _ hz),h3.1⟩,h2 e (by simp),fun hm=>h3.2.2 e hm e (by simp) rfl,g2⟩
theorem y7o {S:AutT} {n2:Nat} (hS:Right S n2) (s:Int) {l:List Int} (hl:l.length≤1000000):y1R S s l=some ((hdl S s l).1,((hdl S s l).2:Int)):=by
 have hal:=Alp.len ⟨hS.ali,hS.alr⟩
 obtain⟨o,h1,h2⟩:=yb (f:=y1V S l) (fun i st=>st.1=(i:Int)∧hdl S s l=((hdl S st.2 (l.drop i)).1,i + (hdl S st.2 (l.drop i)).2)) (fun o=>(match o with
   | .inl u=>(u,(l.length:Int))
   | .inr u=>(u.2,u.1))=((hdl S s l).1,((hdl S s l).2:Int))) l.length 0 (by omega) (fun i st hi ⟨e1,g1⟩=>by
   obtain⟨k,c⟩:=st
   dsimp only at e1 g1
   subst e1
   rw [List.drop_eq_getElem_cons hi,hdl] at g1
   rw [y1V]
   dsimp only
   rw [if_pos (ct_lt hi),ya hi,yOb,ycf (by omega),yOb]
   cases hb:hasB S.1 l[i]
   ·left
    rw [hb,if_neg (by simp)] at g1
    rw [if_pos (by rfl),y1q]
    dsimp only
    rw [nxt (by omega)]
    refine⟨_,rfl,rfl,?_⟩
    dsimp only
    rw [g1]
    congr 1
    omega
   ·rw [hb,if_pos rfl] at g1
    rw [if_neg (by simp),yOb,y7I hS,yOb]
    cases hs:st1 S c l[i] with
    | none=>
     right
     rw [hs] at g1
     rw [if_pos (by rfl)]
     refine⟨_,rfl,?_⟩
     dsimp only at g1 ⊢
     rw [g1]
     rfl
    | some u=>
     left
     rw [hs] at g1
     have:=y7Q hS hs
     rw [if_neg (by simp;omega),y1q]
     dsimp only [Option.getD]
     rw [nxt (by omega)]
     refine⟨_,rfl,rfl,?_⟩
     dsimp only at g1 ⊢
     rw [g1]
     congr 1
     omega) (fun st ⟨e1,g1⟩=>by
   obtain⟨k,c⟩:=st
   dsimp only at e1 g1
   subst e1
   rw [y1V]
   dsimp only
   rw [if_neg ct_ge]
   refine⟨_,rfl,?_⟩
   rw [List.drop_length,hdl] at g1
   dsimp only at g1 ⊢
   rw [g1]
   rfl) (Nat.zero_le _) (0,s) ⟨rfl,by simp⟩
 rw [y1R,h1,yOb,←h2]
 cases o <;> rfl
theorem ycn {α:Type} {xs:List α} {i:Nat} (h:i≤xs.length):slc xs (i:Int) (xs.length:Int)=some (xs.drop i):=by
 rw [slc,if_pos ⟨by omega,by omega,by omega⟩]
 simp
def pm :Nat→List Int→List (List Int)
 | 0,_=> [[]]
 | n + 1,l=>(List.range l.length).flatMap fun i=>(pm n (l.take i ++ l.drop (i + 1))).map fun r=>l.getD i 0 :: r
def fc :Nat→Nat
 | 0=>1
 | n + 1=>(n + 1) * fc n
theorem y5W {l:List Int} {i n:Nat} (hl:l.length=n + 1) (hi:i < n + 1):(l.take i ++ l.drop (i + 1)).length=n:=by
 rw [List.length_append,List.length_take,List.length_drop]
 omega
theorem y7S {α β:Type} {f:α→List β} {B:Nat}:∀{l:List α},(∀x∈l,(f x).length≤B)→(l.flatMap f).length≤l.length * B
 | [],_=>by simp
 | x :: l,h=>by
  rw [List.flatMap_cons,List.length_append,List.length_cons,Nat.succ_mul]
  have:=h x (.head _)
  have:=y7S (l:=l) fun y hy=>h y (.tail _ hy)
  omega
theorem pm_le :∀(n:Nat) (l:List Int),l.length=n→(pm n l).length≤fc n
 | 0,_,_=>Nat.le_refl _
 | n + 1,l,hl=>by
  have:=y7S (f:=fun i=>(pm n (l.take i ++ l.drop (i + 1))).map fun r=>l.getD i 0 :: r) (B:=fc n) (l:=List.range l.length) fun i hi=>by
   rw [List.length_map]
   exact pm_le n _ (y5W hl (by rw [List.mem_range] at hi;omega))
  rw [List.length_range] at this
  exact Nat.le_trans this (Nat.le_of_eq (by rw [hl];rfl))
theorem y8K :∀(n:Nat) (l:List Int),l.length=n→∀r∈pm n l,r.length=n
 | 0,_,_,r,h=>by
  have:r= []:=by simpa [pm] using h
  rw [this];rfl
 | n + 1,l,hl,r,h=>by
  obtain⟨i,hi,h2⟩:=List.mem_flatMap.1 h
  obtain⟨r',h3,rfl⟩:=List.mem_map.1 h2
  rw [List.length_cons,y8K n _ (y5W hl (by rw [List.mem_range] at hi;omega)) r' h3]
theorem fc_le {n:Nat} (h:n≤3):fc n≤6:=by
 match n,h with
 | 0,_=>decide
 | 1,_=>decide
 | 2,_=>decide
 | 3,_=>decide
theorem y8L {β:Type} {f:Nat→List β} {i:Nat}:(List.range (i + 1)).flatMap f=(List.range i).flatMap f ++ f i:=by
 rw [List.range_succ,List.flatMap_append,List.flatMap_cons,List.flatMap_nil,List.append_nil]
theorem yb6 {p:List Int} {i:Nat} (hi:i < p.length) {R acc:List (List Int)} (hR:R.length≤1000) (hr:∀r∈R,r.length≤1000) (ha:acc.length≤100000):iter (y1r p ((i:Int),acc) R) (0,acc)=some (acc ++ R.map fun r=>p.getD i 0 :: r):=by
 obtain⟨o,h1,h2⟩:=yb (f:=y1r p ((i:Int),acc) R) (fun k s=>s.1=(k:Int)∧k≤R.length∧s.2=acc ++ (R.take k).map fun r=>p.getD i 0 :: r) (fun o=>o=acc ++ R.map fun r=>p.getD i 0 :: r) R.length 0 (by omega) (fun k s hk ⟨e1,_,e2⟩=>by
  obtain⟨s1,s2⟩:=s
  dsimp only at e1 e2
  subst e1
  left
  refine⟨(((k + 1:Nat):Int),acc ++ (R.take (k + 1)).map fun r=>p.getD i 0 :: r),?_,rfl,by omega,rfl⟩
  have hl:s2.length=acc.length + k:=by rw [e2];simp;omega
  have hg:p.getD i 0=p[i]:=by rw [List.getD_eq_getElem?_getD,yGe hi,Option.getD_some]
  have:=hr _ (List.getElem_mem hk)
  rw [y1r,if_pos (ct_lt hk),ya hk,yOb,ya hi,yOb,yE (by simp;omega),yOb,yE (by simp;omega),yOb,nxt (by omega)]
  dsimp only
  rw [e2,List.take_succ_eq_append_getElem hk,List.map_append,List.append_assoc,hg]
  rfl) (fun s ⟨e1,_,e2⟩=>by
  obtain⟨s1,s2⟩:=s
  dsimp only at e1 e2
  subst e1
  exact⟨_,by rw [y1r,if_neg ct_ge],by rw [e2,List.take_length]⟩) (Nat.zero_le _) (0,acc) ⟨rfl,Nat.zero_le _,by simp⟩
 rw [h1,h2]
theorem y8M :∀(n k:Nat) (l:List Int),l.length=n→n≤3→n < k→y1b k l=some (pm n l)
 | n,0,_,_,_,h=>by omega
 | 0,k + 1,l,hl,_,_=>by
  rw [y1b,y2i,hl,if_pos (by rfl)]
  rfl
 | n + 1,k + 1,l,hl,h3,hk=>by
  rw [y1b,y2i,if_neg (by rw [hl];intro e;have e2:=eq_of_beq e;omega)]
  have hf:=fc_le (n:=n) (by omega)
  obtain⟨o,h1,h2⟩:=yb (f:=y1W l (y1b k)) (fun i s=>s.1=(i:Int)∧i≤l.length∧s.2=(List.range i).flatMap fun i=>(pm n (l.take i ++ l.drop (i + 1))).map fun r=>l.getD i 0 :: r) (fun o=>o=pm (n + 1) l) l.length 0 (by omega) (fun i s hi ⟨e1,_,e2⟩=>by
   obtain⟨s1,s2⟩:=s
   dsimp only at e1 e2
   subst e1
   left
   refine⟨(((i + 1:Nat):Int),(List.range (i + 1)).flatMap fun i=>(pm n (l.take i ++ l.drop (i + 1))).map fun r=>l.getD i 0 :: r),?_,rfl,by omega,rfl⟩
   have hd:=y5W hl (i:=i) (by omega)
   have hs:s2.length≤i * fc n:=by
    rw [e2]
    have:=y7S (f:=fun i=>(pm n (l.take i ++ l.drop (i + 1))).map fun r=>l.getD i 0 :: r) (B:=fc n) (l:=List.range i) fun i hi=>by
     rw [List.length_map]
     exact pm_le n _ (y5W hl (by rw [List.mem_range] at hi;omega))
    rwa [List.length_range] at this
   have hs2:s2.length≤3 * 6:=Nat.le_trans hs (Nat.mul_le_mul (by omega) hf)
   have hp:=pm_le n _ hd
   rw [y1W,if_pos (ct_lt hi),ycg (by omega),yOb,yE (by simp;omega),yOb,List.nil_append,nxt (by omega),ycn (by omega),yOb,yE (by simp;omega),yOb,y8M n k _ hd (by omega) (by omega),yOb,yb6 hi (by omega) (fun r hr=>by rw [y8K n _ hd r hr];omega) (by omega),yOb]
   rw [y8L,e2]) (fun s ⟨e1,_,e2⟩=>by
   obtain⟨s1,s2⟩:=s
   dsimp only at e1 e2
   subst e1
   exact⟨_,by rw [y1W,if_neg ct_ge],by rw [e2];rfl⟩) (Nat.zero_le _) (0,[]) ⟨rfl,Nat.zero_le _,by simp⟩
  rw [h1,h2]
  rfl
def okS (S:AutT) (st want:Int) (l:List Int):Bool:=((hdl S st l).2:Int) == (l.length:Int) && (hdl S st l).1 == want
theorem y8N {q:ProbT} {t:TaskT} {p:AutT} {T:List (List Int)} {n1 n2 m:Nat} (h:TaskOk q t p T n1 n2 m) (st want:Int):∀(n k:Nat) (b l:List Int) (out:List (List Int)),l.length=n→n≤3→n < k→b.length + n≤1000→out.length + fc n≤1000000→y3c k b l (some t) st want out=some (out ++ ((pm n l).map (b ++ ·)).filter (okS q.2.1 st want))
 | n,0,_,_,_,_,_,h,_,_=>by omega
 | 0,k + 1,b,l,out,hl,_,_,hb,ho=>by
  have hf:fc 0=1:=rfl
  rw [y3c,y3R,hl,if_pos (by rfl),y4T,yOb,y7H h st (by omega),yOb]
  have e:((pm 0 l).map (b ++ ·))= [b]:=by simp [pm]
  rw [e]
  by_cases hc:okS q.2.1 st want b=true
  ·have hc':=hc
   unfold okS at hc'
   rw [if_pos hc',yE (by simp;omega),yOb,yOb,List.filter_cons_of_pos hc]
   rfl
  ·have hc':=hc
   unfold okS at hc'
   rw [if_neg hc',yOb,List.filter_cons_of_neg hc]
   simp
 | n + 1,k + 1,b,l,out,hl,h3,hk,hb,ho=>by
  rw [y3c,y3R,if_neg (by rw [hl];intro e;have e2:=eq_of_beq e;omega)]
  have hf:=fc_le (n:=n) (by omega)
  have hfn:fc (n + 1)=(n + 1) * fc n:=rfl
  obtain⟨o,h1,h2⟩:=yb (f:=y3F b l (some t) st want (y3c k)) (fun i s=>s.2=(i:Int)∧i≤l.length∧s.1=out ++ (((List.range i).flatMap fun i=>(pm n (l.take i ++ l.drop (i + 1))).map fun r=>l.getD i 0 :: r).map (b ++ ·)).filter (okS q.2.1 st want)) (fun o=>o=out ++ ((pm (n + 1) l).map (b ++ ·)).filter (okS q.2.1 st want)) l.length 0 (by omega) (fun i s hi ⟨e1,_,e2⟩=>by
   obtain⟨s2,s1⟩:=s
   dsimp only at e1 e2
   subst e1
   left
   refine⟨(out ++ (((List.range (i + 1)).flatMap fun i=>(pm n (l.take i ++ l.drop (i + 1))).map fun r=>l.getD i 0 :: r).map (b ++ ·)).filter (okS q.2.1 st want),((i + 1:Nat):Int)),?_,rfl,by omega,rfl⟩
   have hd:=y5W hl (i:=i) (by omega)
   have hs:s2.length≤out.length + i * fc n:=by
    rw [e2,List.length_append]
    have h5:=List.length_filter_le (okS q.2.1 st want) (((List.range i).flatMap fun i=>(pm n (l.take i ++ l.drop (i + 1))).map fun r=>l.getD i 0 :: r).map (b ++ ·))
    rw [List.length_map] at h5
    have:=y7S (f:=fun i=>(pm n (l.take i ++ l.drop (i + 1))).map fun r=>l.getD i 0 :: r) (B:=fc n) (l:=List.range i) fun i hi=>by
     rw [List.length_map]
     exact pm_le n _ (y5W hl (by rw [List.mem_range] at hi;omega))
    rw [List.length_range] at this
    omega
   have hs2:i * fc n≤3 * 6:=Nat.mul_le_mul (by omega) hf
   have hs3:(i + 1) * fc n≤(n + 1) * fc n:=Nat.mul_le_mul_right _ (by omega)
   rw [Nat.succ_mul] at hs3
   have hg:l.getD i 0=l[i]:=by rw [List.getD_eq_getElem?_getD,yGe hi,Option.getD_some]
   have hne:l≠ []:=fun e=>by rw [e] at hl;cases hl
   have hdel:y2y l (i:Int) (((i + 1:Nat)):Int)=some (l.take i ++ l.drop (i + 1)):=by
    rw [y2y,if_pos ⟨hne,by omega,by omega,by omega⟩,Int.toNat_natCast,Int.toNat_natCast]
   rw [y3F,if_pos (ct_lt hi),ya hi,yOb,y6n (by omega),yOb,yE (by simp;omega),yOb,y6n (by omega),yOb,nxt (by omega),hdel,yOb,y8N h st want n k _ _ _ hd (by omega) (by omega) (by simp;omega) (show s2.length + fc n≤1000000 by omega),yOb]
   rw [y8L,List.map_append,List.filter_append,←List.append_assoc,←e2,List.map_map]
   rw [show (fun x=>b ++ [l[i]] ++ x)=(fun x=>b ++ x) ∘ fun r=>l.getD i 0 :: r from funext fun r=>by rw [Function.comp,hg,List.append_assoc];rfl]) (fun s ⟨e1,_,e2⟩=>by
   obtain⟨s2,s1⟩:=s
   dsimp only at e1 e2
   subst e1
   exact⟨_,by rw [y3F,if_neg ct_ge],by rw [e2];rfl⟩) (Nat.zero_le _) (out,0) ⟨rfl,Nat.zero_le _,by simp⟩
  rw [h1,h2]
  rfl
theorem y8O {S:AutT}:∀{l:List Int} {s:Int},(hdl S s l).2≤l.length
 | [],_=>Nat.le_refl _
 | e :: l,s=>by
  rw [hdl]
  split
  ·split
   ·exact Nat.zero_le _
   ·exact Nat.succ_le_succ y8O
  ·exact Nat.succ_le_succ y8O
section
variable {q:ProbT} {t:TaskT} {p:AutT} {T:List (List Int)} {n1 n2 n:Nat}
theorem ybJ (h:TaskOk q t p T n1 n2 n) (ho:y1P q=some (some t,0)) {st:Int} {im:List Int} (hl:im.length≤3) (hc:yh t st im=some 0):y2C q st im=some ((hdl q.2.1 st im).1,((hdl q.2.1 st im).2:Int),0):=by
 rw [y2C,ho,yOb,if_neg (by simp),yOb,hc,yOb,if_neg (by simp),y7H h st (by omega),yOb]
theorem yd0 (h:TaskOk q t p T n1 n2 n) (ho:y1P q=some (some t,0)) {st:Int} {im:List Int} (hl:im.length≤3) (hc:yh t st im=some 0):y3k q st im=some (if (hdl q.2.1 st im).2 < im.length then [] else(pm im.length im).filter (okS q.2.1 st (hdl q.2.1 st im).1),0):=by
 rw [y3k,ho,yOb,if_neg (by simp),yOb,hc,yOb,if_neg (by simp),yOb,y7H h st (by omega),yOb]
 dsimp only
 by_cases hlt:(hdl q.2.1 st im).2 < im.length
 ·rw [if_pos (by simpa using hlt),if_pos hlt]
 ·have hf:=fc_le hl
  rw [if_neg (by simpa using hlt),if_neg hlt,y5M,y8N h st _ im.length 1000 [] im [] rfl hl (by omega) (by simp;omega) (by simp;omega),yOb]
  simp
theorem ybK {st:Int} {im:List Int} (hS:Right q.2.1 n2) (hl:im.length≤3) (x:Int×Int×Int) (hx:((hdl q.2.1 st im).2:Int)=(im.length:Int)):
  iter (yi st im q ((pm im.length im).filter (okS q.2.1 st (hdl q.2.1 st im).1),0) ((hdl q.2.1 st im).1,((hdl q.2.1 st im).2:Int)) (pm im.length im)) (0,0)=some (.inl (((pm im.length im).filter (okS q.2.1 st (hdl q.2.1 st im).1)).length:Int)):=by
 have hp:=pm_le im.length im rfl
 have hf:=fc_le hl
 generalize hok:okS q.2.1 st (hdl q.2.1 st im).1=ok
 obtain⟨o,h1,h2⟩:=yb (f:=yi st im q ((pm im.length im).filter ok,0) ((hdl q.2.1 st im).1,((hdl q.2.1 st im).2:Int)) (pm im.length im)) (fun i s=>s.1=(i:Int)∧s.2=(((pm im.length im).take i).filter ok).length) (fun o=>o= .inl (((pm im.length im).filter ok).length:Int)) (pm im.length im).length 0 (by omega) (fun i s hi ⟨e1,e2⟩=>by
  obtain⟨s1,s2⟩:=s
  dsimp only at e1 e2
  subst e1
  left
  have hy:=y8K im.length im rfl _ (List.getElem_mem hi)
  have hz:=y8O (S:=q.2.1) (s:=st) (l:=(pm im.length im)[i])
  have htk:(pm im.length im).take (i + 1)=(pm im.length im).take i ++ [(pm im.length im)[i]]:=List.take_succ_eq_append_getElem hi
  have hfl:=List.length_filter_le ok ((pm im.length im).take i)
  rw [List.length_take] at hfl
  rw [yi,if_pos (ct_lt hi),ya hi,yOb,y7o hS st (by omega),yOb]
  dsimp only
  by_cases hg:ok (pm im.length im)[i]=true
  ·have hg2:=hg
   rw [←hok,okS,Bool.and_eq_true] at hg2
   have g1:((hdl q.2.1 st (pm im.length im)[i]).2:Int)=((pm im.length im)[i].length:Int):=by simpa using hg2.1
   have g2:(hdl q.2.1 st (pm im.length im)[i]).1=(hdl q.2.1 st im).1:=by simpa using hg2.2
   have hsplit:(pm im.length im).filter ok=((pm im.length im).take i).filter ok ++ (pm im.length im)[i] :: ((pm im.length im).drop (i + 1)).filter ok:=by
    conv=>lhs;rw [←List.take_append_drop (i + 1) (pm im.length im),htk]
    rw [List.filter_append,List.filter_append,List.filter_cons_of_pos hg,List.filter_nil,List.append_assoc]
    rfl
   have hlen:(((pm im.length im).take i).filter ok).length < ((pm im.length im).filter ok).length:=by
    rw [hsplit,List.length_append,List.length_cons]
    omega
   have hat:((pm im.length im).filter ok)[(((pm im.length im).take i).filter ok).length]'hlen=(pm im.length im)[i]:=by
    have:((pm im.length im).filter ok)[(((pm im.length im).take i).filter ok).length]? =some (pm im.length im)[i]:=by
     rw [hsplit,List.getElem?_append_right (Nat.le_refl _),Nat.sub_self]
     rfl
    rw [yGe hlen] at this
    exact Option.some.inj this
   refine⟨(((i + 1:Nat):Int),((((pm im.length im).take (i + 1)).filter ok).length:Int)),?_,rfl,rfl⟩
   rw [if_neg (by rw [g2,g1];simp;omega),e2,if_neg (by simpa using hlen),ya hlen,yOb,hat,yan (by omega),yOb,yOb,if_neg (by simp),yw,nxt (by omega),nxt (by omega)]
   rw [htk,List.filter_append,List.length_append,List.filter_cons_of_pos hg]
   rfl
  ·have hg2:=hg
   rw [←hok,okS,Bool.and_eq_true] at hg2
   refine⟨(((i + 1:Nat):Int),((((pm im.length im).take (i + 1)).filter ok).length:Int)),?_,rfl,rfl⟩
   rw [if_pos (by
    have hn:¬(((hdl q.2.1 st (pm im.length im)[i]).2:Int)=((pm im.length im)[i].length:Int)∧(hdl q.2.1 st (pm im.length im)[i]).1=(hdl q.2.1 st im).1):=fun g=>hg2 ⟨by simpa using g.1,by simpa using g.2⟩
    by_cases e:(hdl q.2.1 st (pm im.length im)[i]).1=(hdl q.2.1 st im).1
    ·have:¬(((hdl q.2.1 st (pm im.length im)[i]).2:Int)=((pm im.length im)[i].length:Int)):=fun e'=>hn ⟨e',e⟩
     rw [decide_eq_true (show ((hdl q.2.1 st (pm im.length im)[i]).2:Int) < (im.length:Int) by omega)]
     simp
    ·rw [show ((hdl q.2.1 st (pm im.length im)[i]).1 != (hdl q.2.1 st im).1)=true by simpa using e]
     simp),yw,nxt (by omega)]
   rw [htk,List.filter_append,List.length_append,List.filter_cons_of_neg hg,e2]
   rfl) (fun s ⟨e1,e2⟩=>by
  obtain⟨s1,s2⟩:=s
  dsimp only at e1 e2
  subst e1
  exact⟨_,by rw [yi,if_neg ct_ge],by rw [e2,List.take_length]⟩) (Nat.zero_le _) (0,0) ⟨rfl,by simp⟩
 rw [h1,h2]
theorem ybL {st:Int} {im:List Int} (hS:Right q.2.1 n2) (hl:im.length≤3) (r:List (List Int)×Int) {x m:Int} (hm:m < (im.length:Int)):
  iter (yi st im q r (x,m) (pm im.length im)) (0,0)=some (.inl 0):=by
 have hp:=pm_le im.length im rfl
 have hf:=fc_le hl
 obtain⟨o,h1,h2⟩:=yb (f:=yi st im q r (x,m) (pm im.length im)) (fun i s=>s=((i:Int),0)) (fun o=>o= .inl 0) (pm im.length im).length 0 (by omega) (fun i s hi e1=>by
  subst e1
  left
  have hy:=y8K im.length im rfl _ (List.getElem_mem hi)
  refine⟨_,?_,rfl⟩
  rw [yi,if_pos (ct_lt hi),ya hi,yOb,y7o hS st (by omega),yOb]
  dsimp only
  rw [decide_eq_true hm,Bool.true_or,Bool.true_or,if_pos rfl,yw,nxt (by omega)]) (fun s e1=>by
  subst e1
  exact⟨_,by rw [yi,if_neg ct_ge],rfl⟩) (Nat.zero_le _) (0,0) rfl
 rw [h1,h2]
theorem yao (ho:y1P q=some (some t,0)) {st:Int} {im:List Int} {ci:Int} (h0:ci≠0) (hc:yh t st im=some ci):y2C q st im=some (0,0,ci)∧y3k q st im=some ([],ci)∧yf st im q (0,0,ci) ([],ci) ci=some true:=by
 refine⟨?_,?_,?_⟩
 ·rw [y2C,ho,yOb,if_neg (by simp),yOb,hc,yOb,if_pos (by simpa using h0)]
 ·rw [y3k,ho,yOb,if_neg (by simp),yOb,hc,yOb,if_pos (by simpa using h0)]
 ·rw [yf,if_pos (by simpa using h0)]
  simp
theorem yae (h:TaskOk q t p T n1 n2 n) (ho:y1P q=some (some t,0)) {st:Int} {im:List Int} (hl:im.length≤3) (hc:yh t st im=some 0):∃r6 r7,y2C q st im=some r6∧y3k q st im=some r7∧yf st im q r6 r7 0=some true:=by
 refine⟨_,_,ybJ h ho hl hc,yd0 h ho hl hc,?_⟩
 rw [yf,if_neg (by simp),y7o h.rS st (by omega),yOb,if_neg (by simp),y3W,y8M im.length 1000 im rfl hl (by omega),yOb]
 by_cases hlt:(hdl q.2.1 st im).2 < im.length
 ·rw [if_pos hlt,ybL h.rS hl _ (by omega),yOb]
  rfl
 ·have:=y8O (S:=q.2.1) (s:=st) (l:=im)
  rw [if_neg hlt,ybK h.rS hl (0,0,0) (by omega),yOb]
  simp
end
theorem yap {d:Des26} (hd:Des26In d) (st:Int) (im:List Int):y2w d st im=some true:=by
 rw [y2w,ycU,yOb]
 by_cases h5:im.length > 5
 ·rw [if_pos (by simp;omega),yOb]
 rw [if_neg (by simp;omega)]
 obtain⟨q,m1,m2,hq,hP,_⟩:=yb5 hd false
 obtain⟨t,p,T,n1,n2,n,ho,h,hs⟩:=hP.open
 rw [hq,yOb]
 have e1:t.1.1=q.1:=h.g1.1
 have e2:t.2.1.1=q.2.1:=h.g2.1
 have hj1:∀(ci:Int) r6 r7,ci≠0→yg st im q r6 r7 ci=yf st im q r6 r7 ci:=fun ci r6 r7 h0=>by
  rw [yg,if_neg (by simpa using h0),yOb,if_neg (by simp)]
 have hbad:∀ci:Int,ci≠0→yh t st im=some ci→∀{X:(Int×Int×Int)→(List (List Int)×Int)→Option Bool},X (0,0,ci) ([],ci)=yf st im q (0,0,ci) ([],ci) ci→((y2C q st im).bind fun r6=>(y3k q st im).bind fun r7=>X r6 r7)=some true:=fun ci h0 hc X hX=>by
  obtain⟨g1,g2,g3⟩:=yao ho h0 hc
  rw [g1,yOb,g2,yOb,hX,g3]
 by_cases hr:(decide (st < 0) || decide (st≥q.2.1.2.1))=true
 ·refine hbad 2 (by decide) ?_ ?_
  ·rw [yh,e2,if_pos hr]
  ·rw [if_pos hr,hj1 _ _ _ (by decide)]
 have hcs:yT im 32=some (yO 32 none im):=y5S (by omega)
 by_cases he:yO 32 none im=0
 ·rw [he] at hcs
  by_cases h3:im.length > 3
  ·refine hbad 3 (by decide) ?_ ?_
   ·rw [yh,e2,if_neg hr,hcs,yOb,if_neg (by simp),if_pos (by simp;omega)]
   ·rw [if_neg hr,hcs,yOb,if_pos (by simp;omega),hj1 _ _ _ (by decide)]
  ·have hsub:=y8J (us:=im) (vs:=q.1.1) (by omega) h.rP.l1
   generalize decide ((mg (fun a b=>a && !b) im q.1.1).length=0)=sb at hsub
   have hci:yh t st im=some (if (!sb)=true then 9 else 0):=by
    rw [yh,e2,if_neg hr,hcs,yOb,if_neg (by simp),if_neg (by simp;omega),e1,hsub,yOb]
    cases sb <;> rfl
   have hX:∀r6 r7,(if (decide (st < 0) || decide (st≥q.2.1.2.1))=true then yg st im q r6 r7 2 else(yT im 32).bind fun r70=>if(r70 == 0 && decide ((im.length:Int) > 3))=true then yg st im q r6 r7 3 else yg st im q r6 r7 r70)=yf st im q r6 r7 (if (!sb)=true then 9 else 0):=fun r6 r7=>by
    rw [if_neg hr,hcs,yOb,if_neg (by simp;omega),yg,if_pos (by rfl),hsub,yOb,yOb]
    cases sb <;> rfl
   cases sb with
   | false=>exact hbad 9 (by decide) hci (hX _ _)
   | true=>
    obtain⟨r6,r7,g1,g2,g3⟩:=yae h ho (by omega) hci
    rw [g1,yOb,g2,yOb,hX]
    exact g3
 ·refine hbad _ he ?_ ?_
  ·rw [yh,e2,if_neg hr,hcs,yOb,if_pos (by simpa using he)]
  ·rw [if_neg hr,hcs,yOb,if_neg (by simp;intro e;exact absurd e he),hj1 _ _ _ he]
end Go.Proofs.YtecmobjeeonmaaaGreatDoor
namespace Go.Proofs.YtecmobjeeonmaaaGreatDoor
open Go Go.RowKit Go.ChangeShapes Go.WideShapes Go.Deep
def Op (P:Program) {α:Type} (r:Rep α) (Q:α→Prop) (t:TypeId):Prop:=
 ∀(H:Type) (enc:TypeId×Value→H) (w:World) (fuel:Nat) (cs:List Value) (x:DataW H×List MemPlace),DataW.trod enc P w 0 (fun _=>true) true fuel t cs=some x→∃y:α,r.rd ⟨w,fun _=>0⟩ cs y∧Q y
section
variable {P:Program} {α β:Type} {r:Rep α} {q:Rep β} {Q:α→Prop} {R:β→Prop} {t e:TypeId}
theorem Op.int {k:IntKind} (ht:P.underlying t=some (.int k)):Op P (rK k) (fun n=>k.min≤n∧n≤k.max) t:=by
 intro H enc w fuel cs x h
 obtain⟨n,h1,h2,h3⟩:=DataW.trod_int ht h
 refine⟨n,h1,?_⟩
 simpa [Lit.wf] using h3
theorem yco {H:Type} {enc:TypeId×Value→H} {w:World} {base fuel:Nat} {v:Value} {x:DataW H×List MemPlace} (ht:P.underlying t=some (.slice e)) (hc:P.cellsOf e=r.sz) (ho:Op P r Q e) (hok:Cell.okWide P w .any base t v)
  (h:DataW.trod enc P w 0 (fun _=>true) true fuel t [v]=some x):∃(a:Option Addr) (c:Nat) (xs:List α),v= .slice a xs.length c∧RdL r ⟨w,fun _=>0⟩ a c xs∧∀y∈xs,Q y:=by
 rcases open_slice ht h with ⟨h1,-⟩ | ⟨a,len,cap,m,n,D,Pl,h1,-,h3,h4,h5,-,h7⟩
 ·rw [List.cons.injEq] at h1
  refine⟨none,0,[],h1.1,⟨[],⟨by simp,by simp,by simp,fun _=>rfl,fun ad e=>(by cases e),fun ad e=>(by cases e)⟩,fun ad e=>(by cases e),rfl⟩,fun y hy=>(by cases hy)⟩
 ·rw [List.cons.injEq] at h1
  have hv:=h1.1
  subst hv
  rw [if_pos rfl] at h5
  subst h5
  have hsp:a.spot=none:=by
   simp only [Cell.okWide,ht,Cell.ok] at hok
   exact hok.2.2.2.1
  have hadd:∀k,a.add k=⟨a.block,a.off + k,none⟩:=fun k=>by
   obtain⟨b,o,sp⟩:=a
   dsimp only at hsp
   subst hsp
   unfold Addr.add
   split
   ·rename_i hk;subst hk;rfl
   ·rfl
  have key:∀k,k≤len→∃(xs:List α) (cs:List Value),xs.length=k∧Cells r ⟨w,fun _=>0⟩ cs xs∧(∀y∈xs,Q y)∧∀j (hj:j < cs.length),w.cell? ⟨a.block,a.off + j,none⟩=some cs[j]:=by
   intro k
   induction k with
   | zero=>intro _;exact⟨[],[],rfl,rfl,fun y hy=>(by cases hy),fun j hj=>absurd hj (Nat.not_lt_zero _)⟩
   | succ k ih=>
    intro hk
    obtain⟨xs,cs,g1,g2,g3,g4⟩:=ih (by omega)
    obtain⟨cs',k1,k2⟩:=h7 k (by omega)
    obtain⟨y,k3,k4⟩:=ho H enc w n cs' _ k2
    obtain⟨-,k5,k6⟩:=World.cells?_some k1
    have hl:=g2.len
    rw [g1] at hl
    rw [hc] at k5 k6
    refine⟨xs ++ [y],cs ++ cs',by simp [g1],g2.append ⟨cs',[],by simp,k3,rfl⟩,fun z hz=>?_,fun j hj=>?_⟩
    ·rcases List.mem_append.1 hz with hz | hz
     ·exact g3 z hz
     ·rw [List.mem_singleton.1 hz];exact k4
    ·by_cases hlt:j < cs.length
     ·rw [List.getElem_append_left hlt];exact g4 j hlt
     ·have hj2:j - cs.length < cs'.length:=by rw [List.length_append] at hj;omega
      rw [List.getElem_append_right (by omega)]
      have:=k6 (j - cs.length) (by omega)
      rw [add_add,hadd,yGe hj2] at this
      rw [←this]
      congr 2
      omega
  obtain⟨xs,cs,g1,g2,g3,g4⟩:=key len (Nat.le_refl _)
  subst g1
  refine⟨some a,m,xs,rfl,⟨cs,⟨g2.len,h3,h4,fun e=>(by cases e),fun ad e=>(by cases e;exact hsp),fun ad e j hj=>(by cases e;exact g4 j hj)⟩,fun _ _ _=>rfl,g2⟩,g3⟩
theorem yde {w:World} {base:Nat} {v:Value} {fs:Array Field} {ts:List TypeId} (ht:P.underlying t=some (.struct fs)) (hts:P.cellTypes P.depth t=some ts) (hsz:P.cellsOf t=ts.length) (hok:Value.okWide P w .any base t v):
  ∃cs,v= .agg cs∧cs.size=ts.length∧∀(i:Nat) (u:TypeId),ts[i]? =some u→∃c:Value,cs[i]? =some c∧Cell.okWide P w .any base u c:=by
 simp only [Value.okWide,ht] at hok
 obtain⟨cs,rfl,h1,ts',h2,h3,h4⟩:=hok
 rw [hts] at h2
 cases h2
 refine⟨cs,rfl,by omega,fun i u hu=>?_⟩
 have hlt:i < ts.length:=(List.getElem?_eq_some_iff.1 hu).1
 obtain⟨u',g1,g2⟩:=h4 i cs[i] (Array.getElem?_eq_getElem (by omega))
 rw [Nat.mod_eq_of_lt hlt,hu] at g1
 cases g1
 exact⟨_,Array.getElem?_eq_getElem (by omega),g2⟩
end
end Go.Proofs.YtecmobjeeonmaaaGreatDoor
namespace Go.Proofs.YtecmobjeeonmaaaGreatDoor
open Go Go.ChangeShapes Go.WideShapes Go.ChangeAt Go.RowKit Go.Deep
theorem ydf :Op Tryz.prog (rK .i64) (fun n=> -9223372036854775808≤n∧n < 9223372036854775808) 3:=by
 intro H enc w fuel cs x h
 obtain⟨y,h1,h2⟩:=(Op.int (P:=Tryz.prog) (k:= .i64) Tryz.underlying3) H enc w fuel cs x h
 refine⟨y,h1,?_⟩
 simp [IntKind.min,IntKind.max,IntKind.signed,IntKind.bits] at h2
 omega
section
variable {H:Type} {enc:TypeId×Value→H} {w:World} {base:Nat} {v:Value} {d:DataW H} {ps:List MemPlace}
/-- A list of ints. -/
theorem ycp (hok:Value.okWide Tryz.prog w .any base 32 v) (h:DataW.Trod enc Tryz.prog w 0 (fun _=>true) true 32 v d ps):∃a c xs,v= .slice a xs.length c∧RdL (rK .i64) ⟨w,fun _=>0⟩ a c xs∧∀y∈xs,-9223372036854775808≤y∧y < 9223372036854775808:=by
 obtain⟨fuel,hf⟩:=h
 simp only [Value.okWide,Tryz.underlying32] at hok
 have hv:v.cells.toList= [v]:=by
  simp only [Cell.okWide,Tryz.underlying32] at hok
  cases v <;> simp_all [Cell.ok,Value.cells]
 rw [hv] at hf
 exact yco Tryz.underlying32 (by kernel_rfl) ydf hok hf
end
theorem Fw.law {P:Program} {f:FuncId} {ts:List TV} (h:Fw P f ⟨0,[]⟩ ts [] (.b true) []) {w:World} {vs:List Value} (ha:All3 (fun _=> .bool false) ⟨w,fun _=>0⟩ ts vs):Calls P f vs.toArray w fun e w'=>e= .returned (.bool true)∧Below w.heap.size w w':=
 Calls.mono (h.is [] (fun _=> .bool false) ⟨w,fun _=>0⟩ vs rfl (Nat.le_refl _) List.nodup_nil (fun t ht=>by cases ht) ha (fun i o h=>by simp at h)) fun e W' ⟨v,s',hw,he,hm,β',_,hv,_⟩=>by
  obtain⟨hv,_⟩:=hv
  subst hw
  subst hv
  exact⟨he,(hm.weak (S':=No) fun t ⟨i,hi,_⟩=>by cases hi).below⟩
theorem All3.c {β:Nat→Value} {s:Sig} {x:TV} {xs:List TV} {v:Value} {us:List Value} (h:x.p β s v) (h2:All3 β s xs us):All3 β s (x :: xs) (v :: us):=⟨v,us,h,h2,rfl⟩
theorem yb7 {α:Type} [Inhabited α] {n:Nat} {p:Nat→α→Prop} (h:∀i,i < n→∃x,p i x):∃f:Nat→α,∀i,i < n→p i (f i):=
 ⟨fun i=>if hi:i < n then Classical.choose (h i hi) else default,fun i hi=>by
  dsimp only
  rw [dif_pos hi]
  exact Classical.choose_spec (h i hi)⟩
abbrev ydg :=(Int×y1O)×(Int×y1O)×Int
def pbT :List TypeId:=[22] ++ List.replicate 27 5 ++ [22] ++ List.replicate 27 5 ++ [22]
theorem ycq :Tryz.prog.cellTypes Tryz.prog.depth 30=some pbT:=by kernel_rfl
theorem ycr :Tryz.prog.cellsOf 30=pbT.length:=by kernel_rfl
section
variable {H:Type} {enc:TypeId×Value→H} {w:World} {base:Nat} {v:Value} {d:DataW H} {ps:List MemPlace}
/-- A described problem. -/
theorem ybM (hok:Value.okWide Tryz.prog w .any base 30 v):∃x:ydg,GrIn x.1.2∧GrIn x.2.1.2∧∀β s,(TV.a (lx30 x)).p β s v:=by
 obtain⟨cs,rfl,h1,h2⟩:=yde Tryz.underlying30 ycq ycr hok
 have h1':cs.size=57:=h1
 obtain⟨f,hf⟩:=yb7 (α:=Int) (n:=57) (p:=fun i n=>cs[i]? =some (.int .u8 n)∧0≤n∧n < 256) (fun i hi=>by
  obtain⟨u,hu,hu2⟩:∃u,pbT[i]? =some u∧(u=22∨u=5):=by
   refine⟨pbT[i]'hi,yGe (l:=pbT) hi,?_⟩
   have:=List.getElem_mem (l:=pbT) hi
   generalize pbT[i]'hi=u at this
   simp only [pbT,List.mem_append,List.mem_singleton,List.mem_replicate] at this
   rcases this with (((h | h) | h) | h) | h
   ·exact .inl h
   ·exact .inr h.2
   ·exact .inl h
   ·exact .inr h.2
   ·exact .inl h
  obtain⟨c,g1,g2⟩:=h2 i u hu
  have g2':Cell.okWide Tryz.prog w .any base 5 c:=by
   rcases hu2 with rfl | rfl
   ·simp only [Cell.okWide,Cell.ok,Tryz.underlying22,Tryz.underlying5] at g2 ⊢
    exact g2
   ·exact g2
  obtain⟨n,rfl,g3⟩:∃n:Int,c= .int .u8 n∧0≤n∧n < 256:=by
   simp only [Cell.okWide,Tryz.underlying5] at g2'
   cases c <;> simp_all [Cell.ok]
   rename_i k n
   obtain⟨rfl,h2⟩:=g2'
   simp [IntKind.has,IntKind.min,IntKind.max,IntKind.signed,IntKind.bits] at h2
   omega
  exact⟨n,g1,g3⟩)
 have hcs:cs=((List.range 57).map fun i=>Value.int .u8 (f i)).toArray:=by
  apply Array.ext_getElem?
  intro i
  by_cases hi:i < 57
  ·rw [(hf i hi).1];simp [hi]
  ·rw [Array.getElem?_eq_none (by omega),Array.getElem?_eq_none (by simp;omega)]
 have gr:∀o,o + 27≤57→GrIn (f o,f (o + 1),((f (o + 2),f (o + 3),f (o + 4),f (o + 5),f (o + 6)),(f (o + 7),f (o + 8),f (o + 9),f (o + 10),f (o + 11)),(f (o + 12),f (o + 13),f (o + 14),f (o + 15),f (o + 16)),(f (o + 17),f (o + 18),f (o + 19),f (o + 20),f (o + 21)),(f (o + 22),f (o + 23),f (o + 24),f (o + 25),f (o + 26)))):=fun o ho=>by
  refine⟨(hf o (by omega)).2,fun y hy=>?_⟩
  have hy2:y∈(List.range 25).map fun i=>f (o + (i + 2)):=hy
  obtain⟨i,hi,rfl⟩:=List.mem_map.1 hy2
  have:=List.mem_range.1 hi
  exact(hf (o + (i + 2)) (by omega)).2
 refine⟨((f 0,f 1,f 2,((f 3,f 4,f 5,f 6,f 7),(f 8,f 9,f 10,f 11,f 12),(f 13,f 14,f 15,f 16,f 17),(f 18,f 19,f 20,f 21,f 22),(f 23,f 24,f 25,f 26,f 27))),(f 28,f 29,f 30,((f 31,f 32,f 33,f 34,f 35),(f 36,f 37,f 38,f 39,f 40),(f 41,f 42,f 43,f 44,f 45),(f 46,f 47,f 48,f 49,f 50),(f 51,f 52,f 53,f 54,f 55))),f 56),gr 1 (by omega),gr 29 (by omega),fun β s=>?_⟩
 refine⟨((List.range 57).map fun i=>Value.int .u8 (f i)),?_,by rw [hcs]⟩
 exact y6H (cs:=(List.range 57).map fun i=>Value.int .u8 (f i)) (List.all_eq_true.2 fun x hx=>by
  obtain⟨i,_,rfl⟩:=List.mem_map.1 hx
  rfl)
end
section
variable {H:Type} {enc:TypeId×Value→H} {w:World} {base:Nat} {v:Value} {d:DataW H} {ps:List MemPlace}
theorem yd1 (hok:Value.okWide Tryz.prog w .any base 3 v):∃n:Int,v= .int .i64 n:=by
 simp only [Value.okWide,Tryz.underlying3] at hok
 simp only [Cell.okWide,Tryz.underlying3] at hok
 cases v <;> simp_all [Cell.ok]
end
theorem Tryz.own :ownKnob Tryz.prog.godebug=none:=by kernel_rfl
theorem Tryz.laidOut :laidOutB Tryz.prog=true:=by kernel_rfl
section
variable {H:Type} {enc:TypeId×Value→H}
def yaf (P:Program) (ts:List TypeId):Bool:=ts.all fun t=>P.readableRec t && decide (t < P.types.size)
theorem y7q {P:Program} (hl:laidOutB P=true) {W W':World} (hb:Below W.heap.size W W') {sp:Nat→Bool}:∀{ts:List TypeId} {vs:List Value} {ds:List (DataW H)} {ps:List MemPlace},yaf P ts=true→
  DataW.TrodAll enc P W 0 (fun _=>true) true ts vs ds ps→(∀x∈ps,x.block < W.heap.size)→(∀x∈ps,sp x.block=true)→DataW.TrodAll enc P W' 0 sp true ts vs ds ps
 | [],[],[],_,_,h,_,_=>h
 | [],_ :: _,_,_,_,h,_,_=>h.elim
 | [],[],_ :: _,_,_,h,_,_=>h.elim
 | t :: ts,[],_,_,_,h,_,_=>h.elim
 | t :: ts,_ :: _,[],_,_,h,_,_=>h.elim
 | t :: ts,v :: vs,d :: ds,ps,hc,⟨p,q,h1,h2,e⟩,hlt,hsp=>by
  subst e
  unfold yaf at hc
  rw [List.all_cons,Bool.and_eq_true,Bool.and_eq_true] at hc
  exact⟨p,q,WideElems.Trod_stays hl hc.1.1 (of_decide_eq_true hc.1.2) h1 (fun x hx=>hb.same (hlt x (List.mem_append_left _ hx))) (fun x hx=>hsp x (List.mem_append_left _ hx)),
   y7q hl hb hc.2 h2 (fun x hx=>hlt x (List.mem_append_right _ hx)) (fun x hx=>hsp x (List.mem_append_right _ hx)),rfl⟩
theorem ycs {P:Program} (hl:laidOutB P=true) {f:Func} {s:ChangeSpec} {apart fresh handsOn again:Bool} {W W':World} {args:Array Value} {ds:List (DataW H)} {before:List MemPlace} {tb:TypeId} {b:Bool}
  (hW:DataW.Whole enc P f.params.toList s.vars apart W args.toList ds [] before) (hv:s.vars= []) (hc:yaf P f.params.toList=true) (hrt:f.resultTypes= #[tb]) (ht:P.underlying tb=some .bool)
  (hr:(s.fn H (ds ++ [])).results= [.lit (.bool b)]) (ha:(s.fn H (ds ++ [])).args=ds) (hvn:(s.fn H (ds ++ [])).vars= []) (hb:Below W.heap.size W W'):
  s.post enc P f apart fresh handsOn again W args (.bool b) W':=by
 have hlt:∀p∈before,p.block < W.heap.size:=fun p hp=>hW.lt p hp
 have hWc:=hW
 obtain⟨p,q,hA,hV,rfl,hz,hn⟩:=hWc
 rw [hv] at hV
 obtain⟨-,rfl⟩:=trodVars_none hV
 rw [List.append_nil] at hlt hz hn
 have hargs:∀sp:Nat→Bool,(∀x∈p,sp x.block=true)→DataW.TrodAll enc P W' 0 sp true f.params.toList args.toList (s.fn H (ds ++ [])).args p:=fun sp hsp=>by
  rw [ha];exact y7q hl hb hc hA hlt hsp
 have hres:∀(b0:Nat) (sp:Nat→Bool) (hd:Bool),DataW.TrodAll enc P W' b0 sp hd f.resultTypes.toList ((Value.bool b).resultList f.resultTypes.size) (s.fn H (ds ++ [])).results []:=fun _ _ _=>by
  rw [hr,hrt];exact trodAll_mk1 (shut_bool ht b)
 have hvars:∀sp:Nat→Bool,DataW.TrodVars enc P W' sp s.vars (s.fn H (ds ++ [])).vars []:=fun sp=>by rw [hv,hvn];rfl
 have hold:∀x∈p,(fun b=>decide (b < W.heap.size)) x.block=true:=fun x hx=>by simpa using hlt x hx
 refine⟨ds,[],p ++ [],[],p,[],hW,hres _ _ _,hargs _ hold,hvars _,World.keptBut_mono (fun x hx=>?_) (hb.frame (· ∈p)),fun _=>?_⟩
 ·exact ⟨by rwa [List.append_nil],Or.inr (.inl hx)⟩
 ·have hok:=ok_one (f:=f) (W':=W') (by rw [hrt]) rfl (okWide_bool_mk (W':=W') ht b)
  refine⟨hok,_,_,([] ++ p) ++ [],⟨[] ++ p,[],trodAll_append (hargs _ (fun _ _=>rfl)) (hres _ _ _),hvars _,rfl,?_,?_⟩,?_⟩
  ·intro b0 off hp
   have hin:MemPlace.cell b0 off∈p:=by simpa using hp
   rw [hb.frozen (hlt _ hin)]
   exact hz b0 off hin
  ·intro hap
   simpa using hn hap
  ·intro x hx _
   simpa using hx
end
def lay24 : List (String × DataW Unit) := [("math/bits.deBruijn32tab", Rows.laid_math_bits_deBruijn32tab), ("math/bits.deBruijn64tab", Rows.laid_math_bits_deBruijn64tab), ("internal/strconv.uint64pow10", Rows.laid_internal_strconv_uint64pow10)]
theorem ybN (os:Os) (args:Array Value):laidMetH Tryz.prog lay24 ((World.laidAll Tryz.prog os lay24).forCall (fun _ _=>0) ⟨#[],args,[]⟩).memory:=
 laidMetH_of_parts3 (fuel:=8) (laidMet_laidAll args (by kernel_rfl) (by kernel_rfl)) (by kernel_rfl) (by kernel_rfl)
theorem y7J (os:Os) (started:os.Started) (H:Type) (enc:TypeId×Value→H):
  ReturnsInHanded {} Tryz.checked os 4 .any (fun w args=>(Rows.scanHandlesSpec.pre enc Tryz.prog Tryz.f4 [] false w args∧laidMetH Tryz.prog lay24 w)∧sizedMet enc Tryz.prog Tryz.f4 (OpenSpec.ofChange Rows.scanHandlesSpec) false w args) (Rows.scanHandlesSpec.post enc Tryz.prog Tryz.f4 false true false false):=by
 refine returnsInHanded_of_change_and (C:=Tryz.checked) (X:=fun w _=>laidMetH Tryz.prog lay24 w) (fun _ _ _ hh h=>h.of_heap hh) Tryz.own started (by kernel_rfl) Tryz.func4
  (ChangeSpec.witness_shaped (enc:=enc) (C:=Tryz.checked) (os:=os) (X:=fun w _=>laidMetH Tryz.prog lay24 w) false (World.laidAll Tryz.prog os lay24) #[.agg (Array.replicate 57 (.int .u8 0)),.int .i64 0,.slice none 0 0] 8 (World.laidAll_os _ _ _) (World.shaped_of_ZipB (by kernel_rfl) (by kernel_rfl)) (by kernel_rfl) (by kernel_rfl) (by kernel_rfl) (ybN os _)) ?_
 intro W base args ds gs before hval0 hW _ _ _ _
 have hval:∀(j:Nat) t v,Tryz.f4.params[j]? =some t→args[j]? =some v→Value.okWide Tryz.prog W .any base t v:=hval0
 have hW':=hW
 obtain⟨p,q,hA0,hV,rfl,hfz,hnd⟩:=hW
 have hA:DataW.TrodAll enc Tryz.prog W 0 (fun _=>true) true Tryz.f4.params.toList args.toList ds p:=hA0
 rw [Tryz.params4] at hA hval
 obtain⟨v0,v1,v2,d0,d1,d2,p0,p1,p2,rfl,rfl,rfl,h0,h1,h2⟩:=trodAll_three hA
 obtain⟨x,g1,g2,r0⟩:=ybM (hval 0 30 v0 rfl rfl)
 obtain⟨b,rfl⟩:=yd1 (hval 1 3 v1 rfl rfl)
 obtain⟨a,c,xs,rfl,r2,-⟩:=ycp (hval 2 32 v2 rfl rfl) h2
 obtain⟨rfl,rfl⟩:=trodVars_none hV
 clear hA0 hval0
 refine Calls.mono ((y5q (yap (d:=x) ⟨g1,g2⟩ b xs)).law (All3.c (r0 _ _) (All3.c ⟨rfl,rfl⟩ (All3.c ⟨a,c,rfl,r2⟩ rfl)))) fun e W' ⟨he,hbl⟩=>?_
 subst he
 exact⟨_,rfl,ycs Tryz.laidOut hW' rfl (by kernel_rfl) (by kernel_rfl) Tryz.underlying4 rfl rfl rfl hbl⟩
end Go.Proofs.YtecmobjeeonmaaaGreatDoor
namespace Go.Proofs.YtecmobjeeonmaaaGreatDoor
open Go Go.RowKit
set_option maxRecDepth 100000
theorem yd2 :Tryz.prog.stopsHeard=true:=by kernel_rfl
theorem yd3 :Tryz.prog.mayEnter=true:=by kernel_rfl
theorem yd4 :(laidOutB Tryz.prog && mapsRowed Tryz.prog)=true:=by kernel_rfl
theorem yd5 :(Tryz.prog.stops == [])=true:=by kernel_rfl
theorem yct :(Tryz.prog.stopKnobs == [])=true:=by kernel_rfl
theorem ycu :false=Tryz.prog.looks []:=by kernel_rfl
end Go.Proofs.YtecmobjeeonmaaaGreatDoor
namespace Go.Proofs.YtecmobjeeonmaaaGreatDoor
open Go Go.ChangeShapes Go.WideShapes Go.ChangeAt Go.RowKit Go.Deep
theorem y9k :(Rows.scanHandlesRow.inPlace == Tryz.prog.inPlace 4)=true:=by kernel_rfl
theorem y9l :(Rows.scanHandlesRow.unfollowed == Tryz.prog.unfollowed 4)=true:=by kernel_rfl
theorem y9m :(Rows.scanHandlesRow.recurses == Tryz.prog.recurses 4)=true:=by kernel_rfl
theorem y9n :(Rows.scanHandlesRow.named == Tryz.prog.varsNamed 4)=true:=by kernel_rfl
theorem y9o :(Rows.scanHandlesRow.lifted == Tryz.prog.liftsFinal)=true:=by kernel_rfl
theorem y7K :joinedFacts Tryz.prog 4 Tryz.f4 Rows.scanHandlesSpec Rows.scanHandlesRow=true:=by
 have h8:=yd4
 rw [Bool.and_eq_true] at h8
 unfold joinedFacts
 rw [h8.1,h8.2,y9k,y9l,y9m,y9n,y9o,yd2,yd3,yd5,yct]
 change (_:Bool)=true
 kernel_rfl
theorem y7V :Rows.ScanHandlesSaid:=
 OpenClaim.holds_of_wide 4 Tryz.f4 rfl rfl rfl rfl rfl rfl rfl ⟨rfl,rfl,rfl,rfl,rfl⟩ rfl rfl rfl rfl rfl (by kernel_rfl) Tryz.func4 y7K
  (of_decide_eq_true (by kernel_rfl)) (by unfold Func.isWrapper;first | (rw [if_pos (by decide +kernel)];kernel_rfl) | (rw [if_neg (by decide +kernel)];exact⟨rfl,rfl⟩))
  (fun os started H enc _=>y7J os started H enc)
theorem scanHandles_k12 :false=Rows.scanHandlesRow.goesBy Tryz.prog:=by kernel_rfl
theorem scanHandles_k13 : Tryz.prog.funcNamed "overseer/overseerlaw54.ScanHandles" = some 4 := by kernel_rfl
theorem scanHandles_k14 :(Tryz.f4.params.toList.all fun u=>!(Tryz.prog.wantsStandIn u))=true:=by kernel_rfl
theorem scanHandles_k15 :Rows.scanHandlesRow.wfByText (OpenSpec.ofChange Rows.scanHandlesSpec)=true:=by kernel_rfl
theorem scanHandles_card_holds :Rows.ScanHandlesCardSaid:=
 Claim7.holds_tied_plain_at .later [] [.data,.data,.data] true _ false
  y7V (fun _ h=>by cases h) scanHandles_k15 (fun _ h=>by cases h) scanHandles_row_tie rfl ⟨rfl,rfl⟩ (by kernel_rfl) rfl
  (fun f fn hf hfn=>by
   obtain rfl:f=4:=Option.some.inj (scanHandles_k13.symm.trans hf) |>.symm
   obtain rfl:fn=Tryz.f4:=(Option.some.inj (Tryz.func4.symm.trans hfn)).symm
   exact⟨ycu,fun j t ht=>by
    have hm:t∈Tryz.f4.params:=Array.mem_of_getElem? ht
    exact(show Tryz.prog.wantsStandIn t=false by simpa using List.all_eq_true.1 scanHandles_k14 t (Array.mem_toList_iff.2 hm))⟩)
  scanHandles_k12
end Go.Proofs.YtecmobjeeonmaaaGreatDoor
