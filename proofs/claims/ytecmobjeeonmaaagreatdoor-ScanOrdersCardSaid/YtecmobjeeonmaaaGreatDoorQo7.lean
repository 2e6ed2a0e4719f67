/- ScanOrders returns true for all arguments, and leaves its arguments as they were. The condition: three tables of Go's library (math/bits, internal/strconv) hold what their source text lays, and the card ties this to the text. -/
import Derived.Deep.Slices
import Derived.ChangeSame
import Derived.ProofKit
import Derived.Test.YtecmobjeeonmaaaGreatDoorRows
import Derived.Test.YtecmobjeeonmaaaGreatDoorTie
import Derived.Test.YtecmobjeeonmaaaGreatDoorCards
import Derived.Test.YtecmobjeeonmaaaGreatDoorProg
import Derived.Lay
import Derived.LaidMore
import Derived.LaidHandle
import Derived.SevenTiedAt
import Derived.Stop.Joined
import Derived.Test.YtecmobjeeonmaaaGreatDoorQo6
set_option maxRecDepth 100000
namespace Go.Proofs.YtecmobjeeonmaaaGreatDoor
open Go Go.RowKit
theorem ya6 {S:AutT} {n2:Nat} (hS:Right S n2) (s:Int) {l:List Int} (hl:l.length≤1000000):y2o S s l=some ((hdl S s l).1,((hdl S s l).2:Int)):=by
 have hal:=Alp.len ⟨hS.ali,hS.alr⟩
 obtain⟨o,h1,h2⟩:=yb (f:=y2t S l) (fun i st=>st.1=(i:Int)∧hdl S s l=((hdl S st.2 (l.drop i)).1,i + (hdl S st.2 (l.drop i)).2)) (fun o=>(match o with
   | .inl u=>(u,(l.length:Int))
   | .inr u=>(u.2,u.1))=((hdl S s l).1,((hdl S s l).2:Int))) l.length 0 (by omega) (fun i st hi ⟨e1,g1⟩=>by
   obtain⟨k,c⟩:=st
   dsimp only at e1 g1
   subst e1
   rw [List.drop_eq_getElem_cons hi,hdl] at g1
   rw [y2t]
   dsimp only
   rw [if_pos (ct_lt hi),ya hi,yOb,y9L (by omega),yOb]
   cases hb:hasB S.1 l[i]
   ·left
    rw [hb,if_neg (by simp)] at g1
    rw [if_pos (by rfl),y1C]
    dsimp only
    rw [nxt (by omega)]
    refine⟨_,rfl,rfl,?_⟩
    dsimp only
    rw [g1]
    congr 1
    omega
   ·rw [hb,if_pos rfl] at g1
    rw [if_neg (by simp),yOb,y7A hS,yOb]
    cases hs:st1 S c l[i] with
    | none=>
     right
     rw [hs] at g1
     rw [if_pos (by rfl)]
     refine⟨_,rfl,?_⟩
     dsimp only at g1 ⊢
     rw [g1]
     rfl
    | some u=>
     left
     rw [hs] at g1
     have:=y5s hS hs
     rw [if_neg (by simp;omega),y1C]
     dsimp only [Option.getD]
     rw [nxt (by omega)]
     refine⟨_,rfl,rfl,?_⟩
     dsimp only at g1 ⊢
     rw [g1]
     congr 1
     omega) (fun st ⟨e1,g1⟩=>by
   obtain⟨k,c⟩:=st
   dsimp only at e1 g1
   subst e1
   rw [y2t]
   dsimp only
   rw [if_neg ct_ge]
   refine⟨_,rfl,?_⟩
   rw [List.drop_length,hdl] at g1
   dsimp only at g1 ⊢
   rw [g1]
   rfl) (Nat.zero_le _) (0,s) ⟨rfl,by simp⟩
 rw [y2o,h1,yOb,←h2]
 cases o <;> rfl
theorem ydV {p:List Int} {l:List Int} {i:Nat} (hi:i < p.length) (hl:l.length≤1000000) (hs:l.Pairwise (· ≤ ·)):∃k:Nat,k≤l.length∧iter (y1E p ((i:Int),l)) (l.length:Int)=some (k:Int)∧(∀x∈l.take k,x≤p[i])∧∀x∈l.drop k,p[i]≤x:=by
 obtain⟨o,h1,k,rfl,h2,h3,h4⟩:=yb (f:=y1E p ((i:Int),l)) (fun j s=>j≤l.length∧s=((l.length - j:Nat):Int)∧∀x∈l.drop (l.length - j),p[i]≤x) (fun o=>∃k:Nat,o=(k:Int)∧k≤l.length∧(∀x∈l.take k,x≤p[i])∧∀x∈l.drop k,p[i]≤x) l.length 0 (by omega) (fun j s hj ⟨h0,e1,g1⟩=>by
   subst e1
   have hk:l.length - (j + 1) < l.length:=by omega
   have hW:W (((l.length - j:Nat):Int) - 1)=((l.length - (j + 1):Nat):Int):=by rw [W_of (by omega) (by omega)];omega
   rw [y1E,if_pos (by simp;omega)]
   dsimp only
   rw [hW,ya hk,yOb,ya hi,yOb,y1D]
   by_cases h:l[l.length - (j + 1)] > p[i]
   ·left
    rw [if_pos (by simpa using h),hW]
    refine⟨_,rfl,hj,rfl,fun x hx=>?_⟩
    rw [List.drop_eq_getElem_cons hk,List.mem_cons] at hx
    rcases hx with rfl | hx
    ·omega
    ·rw [show l.length - (j + 1) + 1=l.length - j by omega] at hx
     exact g1 x hx
   ·right
    rw [if_neg (by simpa using h)]
    refine⟨_,rfl,l.length - j,rfl,by omega,fun x hx=>?_,g1⟩
    rw [show l.length - j=l.length - (j + 1) + 1 by omega,List.take_succ_eq_append_getElem hk] at hx
    rcases List.mem_append.1 hx with hx | hx
    ·obtain ⟨q,hq,e⟩:=List.getElem_of_mem hx
     rw [List.length_take] at hq
     rw [List.getElem_take] at e
     have:=List.pairwise_iff_getElem.1 hs q (l.length - (j + 1)) (by omega) hk (by omega)
     omega
    ·rw [List.mem_singleton.1 hx];omega) (fun s ⟨h0,e1,g1⟩=>by
   subst e1
   rw [y1E,if_neg (by simp),y1D,if_neg (by simp)]
   exact⟨_,rfl,0,by simp,Nat.zero_le _,fun x hx=>(by cases hx),by simpa using g1⟩) (Nat.zero_le _) (l.length:Int) ⟨Nat.zero_le _,by simp,by simp⟩
 exact⟨k,h2,h1,h3,h4⟩
theorem ydW {α:Type} {xs:List α} {i:Nat} (h:i≤xs.length):slc xs (i:Int) (xs.length:Int)=some (xs.drop i):=by
 rw [slc,if_pos ⟨by omega,by omega,by omega⟩]
 simp
theorem ycr {p:List Int} (hl:p.length≤100000):y3j p=some (isL p):=by
 obtain⟨o,h1,h2,h3⟩:=yb (f:=y2u p) (fun i s=>s.1=(i:Int)∧i≤p.length∧s.2.Perm (p.take i)∧s.2.Pairwise (· ≤ ·)) (fun o=>o.Perm p∧o.Pairwise (· ≤ ·)) p.length 0 (by omega) (fun i s hi ⟨e1,_,g1,g2⟩=>by
   obtain⟨c,l⟩:=s
   dsimp only at e1 g1 g2
   subst e1
   have hll:l.length=i:=by rw [g1.length_eq,List.length_take];omega
   obtain⟨k,k1,k2,k3,k4⟩:=ydV hi (l:=l) (by omega) g2
   left
   rw [y2u]
   dsimp only
   rw [if_pos (ct_lt hi),k2,yOb,show slc3 l 0 (k:Int) (k:Int)=some (l.take k) from by rw [slc3];first | (rw [if_pos ⟨by omega,by omega,by omega⟩];simp) | (simp;omega),yOb,ya hi,yOb,ydW k1,yOb,yp (by simp;omega),yOb,yp (by simp;omega),yOb,nxt (by omega)]
   refine⟨_,rfl,rfl,hi,?_,?_⟩
   ·dsimp only
    rw [List.take_succ_eq_append_getElem hi]
    have e:l=l.take k ++ l.drop k:=(List.take_append_drop k l).symm
    have h9:(l.take k ++ ([p[i]] ++ l.drop k)).Perm (l ++ [p[i]]):=by
     conv=>rhs;rw [e]
     rw [List.append_assoc]
     exact(List.perm_append_comm).append_left _
    exact h9.trans (g1.append_right _)
   ·dsimp only
    rw [List.pairwise_append]
    refine⟨g2.sublist (List.take_sublist _ _),?_,fun a ha b hb=>?_⟩
    ·exact List.pairwise_cons.2 ⟨fun b hb=>k4 b hb,g2.sublist (List.drop_sublist _ _)⟩
    ·have:=k3 a ha
     rcases List.mem_cons.1 hb with rfl | hb
     ·exact this
     ·exact Int.le_trans this (k4 b hb)) (fun s ⟨e1,_,g1,g2⟩=>by
   obtain⟨c,l⟩:=s
   dsimp only at e1 g1 g2
   subst e1
   refine⟨l,?_,by simpa using g1,g2⟩
   rw [y2u]
   dsimp only
   rw [if_neg ct_ge]) (Nat.zero_le _) (0,[]) ⟨rfl,Nat.zero_le _,by simp,List.Pairwise.nil⟩
 rw [y3j,h1,yOb]
 congr 1
 exact List.Perm.eq_of_pairwise (le:=(· ≤ ·)) (fun a b _ _ h1 h2=>Int.le_antisymm h1 h2) h3 (ybd p) (h2.trans (y6A p).symm)
theorem ycs {q:ProbT} {n2:Nat} (hS:Right q.2.1 n2) {x y:Int} {l:List Int} (hl:l.length≤100000):y3k q [x,y] l=some (!okB q.2.1 y l):=by
 have hlen:(isL l).length=l.length:=(y6A l).length_eq
 have hd:∀(m:List Int) (s:Int),(hdl q.2.1 s m).2≤m.length:=by
  intro m
  induction m with
  | nil=>intro s;exact Nat.le_refl _
  | cons e m ih=>
   intro s
   rw [hdl]
   split
   ·split
    ·exact Nat.zero_le _
    ·have:=ih ‹_›
     rw [List.length_cons];omega
   ·have:=ih s
    rw [List.length_cons];omega
 have h1:=hd l y
 have h2:=hd (isL l) y
 rw [y3k,show idx [x,y] 1=some y from rfl,yOb,ya6 hS y (by omega),yOb,yOb,ycr hl,yOb,ya6 hS y (by omega),yOb]
 congr 1
 unfold okB
 rw [Bool.eq_iff_iff]
 simp only [Bool.or_eq_true,decide_eq_true_eq,Bool.not_eq_true',Bool.and_eq_false_iff,bne_iff_ne,beq_eq_false_iff_ne,ne_eq]
 omega
def brn (P:AutT) (u:List Int):List Int→Int→List Int→Option Int
 | _,s,[]=>some s
 | d,s,e :: w=>if(hasB u e && !hasB d e)=true then(st1 P s e).bind fun r=>brn P u (d ++ [e]) r w else none
theorem y6F {P:AutT} {u:List Int}:∀{w d:List Int} {s v:Int},brn P u d s w=some v↔stw (st1 P) s w=some v∧(∀e∈w,e∈u)∧w.Nodup∧∀e∈w,e∉d
 | [],d,s,v=>by
  rw [brn,stw]
  exact⟨fun h=>⟨h,(fun e he=>by cases he),List.Pairwise.nil,fun e he=>by cases he⟩,fun h=>h.1⟩
 | e :: w,d,s,v=>by
  rw [brn,stw]
  by_cases hc:(hasB u e && !hasB d e)=true
  ·rw [if_pos hc]
   rw [Bool.and_eq_true,yf,Bool.not_eq_true'] at hc
   have hed:e∉d:=fun hm=>by rw [yf.2 hm] at hc;exact absurd hc.2 (by simp)
   cases hs:st1 P s e with
   | none=>exact⟨(fun h=>by cases h),fun h=>by cases h.1⟩
   | some r=>
    rw [yOb,yOb,y6F]
    constructor
    ·rintro ⟨h1,h2,h3,h4⟩
     refine⟨h1,fun x hx=>?_,List.nodup_cons.2 ⟨fun hm=>h4 e hm (by simp),h3⟩,fun x hx=>?_⟩
     ·rcases List.mem_cons.1 hx with rfl | hx
      ·exact hc.1
      ·exact h2 x hx
     ·rcases List.mem_cons.1 hx with rfl | hx
      ·exact hed
      ·exact fun hm=>h4 x hx (List.mem_append_left _ hm)
    ·rintro ⟨h1,h2,h3,h4⟩
     obtain⟨n1,n2⟩:=List.nodup_cons.1 h3
     refine⟨h1,fun x hx=>h2 x (List.mem_cons_of_mem _ hx),n2,fun x hx hm=>?_⟩
     rcases List.mem_append.1 hm with hm | hm
     ·exact h4 x (List.mem_cons_of_mem _ hx) hm
     ·rw [List.mem_singleton.1 hm] at hx
      exact n1 hx
  ·rw [if_neg hc]
   refine⟨(fun h=>by cases h),fun⟨h1,h2,h3,h4⟩=>absurd ?_ hc⟩
   have:hasB d e=false:=by
    cases hb:hasB d e with
    | false=>rfl
    | true=>exact absurd (yf.1 hb) (h4 e (List.mem_cons_self ..))
   rw [this,yf.2 (h2 e (List.mem_cons_self ..))]
   rfl
theorem yct {q:ProbT} {n1:Nat} (hP:Right q.1 n1) (hu:q.2.2.length≤1000) {x y:Int} {l:List Int} (hl:l.length≤100000):y2X q [x,y] l=some ((brn q.1 q.2.2 [] x l).isSome && decide (2≤l.length)):=by
 obtain⟨o,h1,h2⟩:=yb (f:=y2j q l) (fun i s=>s.1=(i:Int)∧brn q.1 q.2.2 [] x l=brn q.1 q.2.2 (l.take i) s.2 (l.drop i)) (fun o=>(match o with
   | .inl _=>true
   | .inr _=>false)=(brn q.1 q.2.2 [] x l).isSome) l.length 0 (by omega) (fun i s hi ⟨e1,g1⟩=>by
   obtain⟨c,z⟩:=s
   dsimp only at e1 g1
   subst e1
   rw [List.drop_eq_getElem_cons hi,brn] at g1
   rw [y2j]
   dsimp only
   rw [if_pos (ct_lt hi),ya hi,yOb,y9L (by omega),yOb]
   cases hb:hasB q.2.2 l[i]
   ·right
    rw [hb,if_neg (by simp)] at g1
    rw [if_pos (by rfl),y1s,if_pos rfl]
    exact⟨_,rfl,by rw [g1];rfl⟩
   ·rw [if_neg (by simp),y9M (by omega),yOb,yOb,y9L (by simp;omega),yOb,y1s]
    cases hd:hasB (l.take i) l[i]
    ·rw [hb,hd,if_pos (by rfl)] at g1
     rw [if_neg (by simp)]
     dsimp only
     rw [ya hi,yOb,y7A hP,yOb]
     cases hs:st1 q.1 z l[i] with
     | none=>
      right
      rw [hs] at g1
      rw [if_pos (by rfl)]
      exact⟨_,rfl,by rw [g1];rfl⟩
     | some v=>
      left
      rw [hs,yOb] at g1
      have:=y5s hP hs
      rw [Option.getD_some,if_neg (by simp;omega),nxt (by omega)]
      refine⟨_,rfl,rfl,?_⟩
      dsimp only
      rw [g1,List.take_succ_eq_append_getElem hi]
    ·right
     rw [hb,hd,if_neg (by simp)] at g1
     rw [if_pos rfl]
     exact⟨_,rfl,by rw [g1];rfl⟩) (fun s ⟨e1,g1⟩=>by
   obtain⟨c,z⟩:=s
   dsimp only at e1 g1
   subst e1
   rw [y2j]
   dsimp only
   rw [if_neg ct_ge]
   refine⟨_,rfl,?_⟩
   rw [g1,List.drop_length,brn]
   rfl) (Nat.zero_le _) (0,x) ⟨rfl,rfl⟩
 rw [y2X,show idx [x,y] 0=some x from rfl,yOb,h1,yOb,←h2]
 cases o with
 | inl u=>
  dsimp only
  rw [Bool.true_and]
  congr 1
  rw [Bool.eq_iff_iff]
  simp
  omega
 | inr u=>rfl
section
variable {q:ProbT} {t:TaskT} {p:AutT} {T:List (List Int)} {n1 n2 n:Nat}
theorem y9Q {q:ProbT} {x y:Int} {z:Nat} {l:List Int}:oI q x y z l↔((brn q.1 q.2.2 [] x l).isSome && decide (2≤l.length))=true∧l.length≤z∧okB q.2.1 y l=false:=by
 unfold oI IsRun
 rw [Bool.and_eq_true,Option.isSome_iff_exists,decide_eq_true_eq]
 constructor
 ·rintro ⟨⟨v,h1,h2,h3⟩,h4,h5,h6⟩
  exact⟨⟨⟨v,y6F.2 ⟨h1,h2,h3,fun e _ he=>by cases he⟩⟩,h4⟩,h5,h6⟩
 ·rintro ⟨⟨⟨v,h1⟩,h4⟩,h5,h6⟩
  obtain⟨g1,g2,g3,_⟩:=y6F.1 h1
  exact⟨⟨v,g1,g2,g3⟩,h4,h5,h6⟩
end
theorem ydd {xs ys:List Int} (hl:xs.length≤1000000):y1Y xs ys=some (decide (xs=ys)):=by
 rw [y1Y]
 by_cases hn:xs.length=ys.length
 case neg=>
  rw [if_pos (by simp;omega),decide_eq_false (fun e=>hn (by rw [e]))]
 rw [if_neg (by simp;omega)]
 obtain⟨o,h1,h2⟩:=yb (f:=yT xs ys) (fun i s=>s=(i:Int)∧i≤xs.length∧xs.take i=ys.take i) (fun o=>(match o with
   | .inl _=>true
   | .inr _=>false)=decide (xs=ys)) xs.length 0 (by omega) (fun i s hi ⟨e1,_,e2⟩=>by
   subst e1
   have hi2:i < ys.length:=by omega
   rw [yT,if_pos (ct_lt hi),ya hi,yOb,ya hi2,yOb]
   by_cases h:xs[i]=ys[i]
   ·left
    rw [if_neg (by simpa using h),nxt (by omega)]
    exact⟨_,rfl,rfl,hi,by rw [List.take_succ_eq_append_getElem hi,List.take_succ_eq_append_getElem hi2,e2,h]⟩
   ·right
    rw [if_pos (by simpa using h)]
    refine⟨_,rfl,?_⟩
    rw [decide_eq_false (fun e=>h (by subst e;rfl))]) (fun s ⟨e1,_,e2⟩=>by
   subst e1
   rw [yT,if_neg ct_ge]
   refine⟨_,rfl,?_⟩
   rw [List.take_length,hn,List.take_length] at e2
   rw [decide_eq_true e2]) (Nat.zero_le _) 0 ⟨rfl,Nat.zero_le _,rfl⟩
 rw [h1,yOb,←h2]
 cases o <;> rfl
section
variable {q:ProbT} {t:TaskT} {p:AutT} {T:List (List Int)} {n1 n2 n:Nat}
theorem ydX (h:TaskOk q t p T n1 n2 n) {k:Nat} {x y:Int} (hk:T[k]? =some [x,y]) {l:List Int} (hl:l.length≤1000):y4z t (k:Int) l=some ((brn q.1 q.2.2 [] x l).isSome && decide (2≤l.length) && decide (l.length≤3)):=by
 rw [y4z]
 by_cases hz:2≤l.length∧l.length≤3
 case neg=>
  rw [if_pos (by simp;omega)]
  congr 1
  symm
  rw [Bool.and_assoc,show(decide (2≤l.length) && decide (l.length≤3))=false from by simp;omega,Bool.and_false]
 obtain⟨z2,z3⟩:=hz
 rw [if_neg (by simp;omega)]
 obtain⟨bs,b1,b2,b3⟩:=ya5 h hk (z:=l.length) z3
 rw [b1,yOb]
 obtain⟨o,g1,g2⟩:=yas (xs:=bs) (f:=y2p l) (g:=fun b=>decide (b=l)) (fun b hb=>by
  have:=((b3.mem b).1 hb).2.2
  rw [y2p,ydd (by omega),yOb]) (by omega)
 have g1:iter (y3Z bs (y2p l)) 0=some o:=g1
 have hm:l∈bs↔(brn q.1 q.2.2 [] x l).isSome=true:=by
  rw [b3.mem,Option.isSome_iff_exists]
  constructor
  ·rintro ⟨⟨v,hv⟩,_⟩
   obtain⟨h1,h2,h3⟩:=h.isrun.1 hv
   exact⟨v,y6F.2 ⟨h1,h2,h3,fun e _ he=>by cases he⟩⟩
  ·rintro ⟨v,hv⟩
   obtain⟨h1,h2,h3,_⟩:=y6F.1 hv
   exact⟨⟨v,h.isrun.2 ⟨h1,h2,h3⟩⟩,z2,Nat.le_refl _⟩
 rw [y2D,y3l,g1,yOb]
 rw [decide_eq_true z2,decide_eq_true z3,Bool.and_true,Bool.and_true]
 rcases g2 with ⟨rfl,g3⟩ | ⟨i,hi,rfl,g3,_⟩
 ·have:(brn q.1 q.2.2 [] x l).isSome=false:=by
   cases hb:(brn q.1 q.2.2 [] x l).isSome with
   | false=>rfl
   | true=>
    have:=g3 l (hm.2 hb)
    simp at this
  rw [this]
  rfl
 ·have:(brn q.1 q.2.2 [] x l).isSome=true:=hm.1 (by
   have:=of_decide_eq_true g3
   rw [←this]
   exact List.getElem_mem hi)
  rw [this]
  simp
end
def cmpL :List Int→List Int→Int
 | a :: u,b :: v=>if a < b then -1 else if a > b then 1 else cmpL u v
 | _,_=>0
theorem yc6 (a b:Int):y3W a b=some (if a < b then -1 else if a > b then 1 else 0):=by
 have hn:∀x,y1W x=some false:=fun x=>by rw [y1W];simp
 rw [y3W,hn,yOb,hn,yOb,if_neg (by simp),if_neg (by simp)]
 by_cases h1:a < b
 ·rw [if_pos (by simpa using h1),if_pos h1]
 ·rw [if_neg (by simpa using h1),if_neg h1]
  by_cases h2:a > b
  ·rw [if_pos (by simpa using h2),if_pos h2]
  ·rw [if_neg (by simpa using h2),if_neg h2]
theorem yeE {u v:List Int} (hl:u.length=v.length) (hb:u.length≤1000):y3U u v=some (cmpL u v):=by
 obtain⟨o,h1,h2⟩:=yb (f:=y2Y u v) (fun i s=>s=(i:Int)∧i≤u.length∧cmpL u v=cmpL (u.drop i) (v.drop i)) (fun o=>(match o with
   | .inl _=>0
   | .inr r=>r)=cmpL u v) u.length 0 (by omega) (fun i s hi ⟨e1,_,g1⟩=>by
   subst e1
   have hi2:i < v.length:=by omega
   rw [List.drop_eq_getElem_cons hi,List.drop_eq_getElem_cons hi2,cmpL] at g1
   rw [y2Y,if_pos (ct_lt hi),ya hi,yOb,if_neg (by simp;omega),ya hi2,yOb,yc6,yOb]
   by_cases h1:u[i] < v[i]
   ·rw [if_pos h1] at g1 ⊢
    rw [if_pos (by rfl)]
    exact .inr ⟨_,rfl,g1.symm⟩
   ·rw [if_neg h1] at g1 ⊢
    by_cases h2:u[i] > v[i]
    ·rw [if_pos h2] at g1 ⊢
     rw [if_pos (by rfl)]
     exact .inr ⟨_,rfl,g1.symm⟩
    ·rw [if_neg h2] at g1 ⊢
     rw [if_neg (by simp),nxt (by omega)]
     exact .inl ⟨_,rfl,rfl,hi,g1⟩) (fun s ⟨e1,_,g1⟩=>by
   subst e1
   rw [y2Y,if_neg ct_ge]
   refine⟨_,rfl,?_⟩
   rw [g1,List.drop_length]
   rfl) (Nat.zero_le _) 0 ⟨rfl,Nat.zero_le _,rfl⟩
 rw [y3U,h1,yOb,←h2]
 cases o with
 | inl _=>rw [if_neg (by simp;omega)]
 | inr r=>rfl
theorem yeF {u v:List Int} (hl:u.length=v.length) (hb:u.length≤1000):y5j u v=some (cmpL u v):=by
 rw [y5j,yc6,yOb,if_neg (by omega),if_neg (by omega),yeE hl hb,yOb,y6t]
 have h1:iter (y3a [0,cmpL u v]) 0=some (if cmpL u v=0 then .inl () else .inr (cmpL u v)):=by
  by_cases h0:cmpL u v=0
  ·rw [if_pos h0]
   refine y3X (n:=3) (by omega) ?_
   rw [yc,y3a,if_pos (by simp),show idx [0,cmpL u v] 0=some 0 from rfl,yOb,if_neg (by simp)]
   dsimp only
   rw [yc,y3a,show W (0 + 1)=1 from rfl,if_pos (by simp),show idx [0,cmpL u v] 1=some (cmpL u v) from rfl,yOb,if_neg (by simpa using h0)]
   dsimp only
   rw [yc,y3a,show W (1 + 1)=2 from rfl,if_neg (by simp)]
  ·rw [if_neg h0]
   refine y3X (n:=2) (by omega) ?_
   rw [yc,y3a,if_pos (by simp),show idx [0,cmpL u v] 0=some 0 from rfl,yOb,if_neg (by simp)]
   dsimp only
   rw [yc,y3a,show W (0 + 1)=1 from rfl,if_pos (by simp),show idx [0,cmpL u v] 1=some (cmpL u v) from rfl,yOb,if_pos (by simpa using h0)]
 rw [h1,yOb]
 by_cases h0:cmpL u v=0
 ·rw [if_pos h0,h0]
  rfl
 ·rw [if_neg h0]
  rfl
theorem yde {u v:List Int} (hl:u.length=v.length) (h3:u.length≤3) (hu:Evs u) (hv:Evs v):cmpL u v < 0↔wval u < wval v:=by
 match u,v,hl,h3 with
 | [],[],_,_=>simp [cmpL]
 | [a],[b],_,_=>
  have:=hu a (by simp)
  have:=hv b (by simp)
  simp only [cmpL,wval,List.foldl]
  split
  ·omega
  ·split <;> omega
 | [a,b],[c,d],_,_=>
  have:=hu a (by simp)
  have:=hu b (by simp)
  have:=hv c (by simp)
  have:=hv d (by simp)
  simp only [cmpL,wval,List.foldl]
  split
  ·omega
  ·split
   ·omega
   ·split
    ·omega
    ·split <;> omega
 | [a,b,e],[c,d,f],_,_=>
  have:=hu a (by simp)
  have:=hu b (by simp)
  have:=hu e (by simp)
  have:=hv c (by simp)
  have:=hv d (by simp)
  have:=hv f (by simp)
  simp only [cmpL,wval,List.foldl]
  split
  ·omega
  ·split
   ·omega
   ·split
    ·omega
    ·split
     ·omega
     ·split
      ·omega
      ·split <;> omega
def Bst (G:List Int→Prop) (best:List Int):Prop:=(best= []∧∀l,¬G l)∨(best≠ []∧G best∧∀l,G l→wval best≤wval l)
theorem Bst.congr {G G':List Int→Prop} {best:List Int} (h:Bst G best) (hg:∀l,G l↔G' l):Bst G' best:=by
 rcases h with ⟨h1,h2⟩ | ⟨h1,h2,h3⟩
 ·exact .inl ⟨h1,fun l hl=>h2 l ((hg l).2 hl)⟩
 ·exact .inr ⟨h1,(hg _).1 h2,fun l hl=>h3 l ((hg l).2 hl)⟩
section
variable {q:ProbT} {t:TaskT} {p:AutT} {T:List (List Int)} {n1 n2 n:Nat}
def gB (q:ProbT) (x y:Int) (l:List Int):Prop:=((brn q.1 q.2.2 [] x l).isSome && decide (2≤l.length))=true∧okB q.2.1 y l=false
theorem gB.evs (hur:∀x∈q.2.2,0≤x∧x < 32) {x y:Int} {l:List Int} (h:gB q x y l):Evs l:=fun e he=>by
 obtain⟨h1,_⟩:=h
 rw [Bool.and_eq_true,Option.isSome_iff_exists] at h1
 obtain⟨⟨v,hv⟩,_⟩:=h1
 exact hur e ((y6F.1 hv).2.1 e he)
def l3 (u:List Int) (m a b c:Nat):List Int:=[u.getD a 0,u.getD b 0,u.getD c 0].take m
theorem y8Y (u:List Int) {m:Nat} (hm:m≤3) (a b c:Nat):(l3 u m a b c).length=m:=by
 unfold l3
 rw [List.length_take]
 show min m 3=m
 omega
theorem gd {u:List Int} {i:Nat} (hi:i < u.length):u.getD i 0=u[i]:=by rw [List.getD_eq_getElem?_getD,yGe hi,Option.getD_some]
theorem yeX (h:TaskOk q t p T n1 n2 n) {x y:Int} {m a b:Nat} (m2:2≤m) (m3:m≤3) (ha:a < q.2.2.length) (hb:b < q.2.2.length) {G:List Int→Prop} {best:List Int} (hB:Bst G best) (hG:∀l,G l→gB q x y l∧l.length=m):
  ∃o,iter (y1j q [x,y] (m:Int) ((a:Int),best) ((b:Int),best)) (0,best)=some o∧Bst (fun l=>G l∨(gB q x y l∧∃c,c < q.2.2.length∧l=l3 q.2.2 m a b c)) o:=by
 have hul:=Alp.len ⟨h.iu,h.ur⟩
 generalize hb0:best=best0
 rw [hb0] at hB
 obtain⟨o,h1,h2⟩:=yb (f:=y1j q [x,y] (m:Int) ((a:Int),best0) ((b:Int),best0)) (fun i s=>s.1=(i:Int)∧i≤q.2.2.length∧Bst (fun l=>G l∨(gB q x y l∧∃c,c < i∧l=l3 q.2.2 m a b c)) s.2) (fun o=>Bst (fun l=>G l∨(gB q x y l∧∃c,c < q.2.2.length∧l=l3 q.2.2 m a b c)) o) q.2.2.length 0 (by omega) (fun i s hi ⟨e1,_,hs⟩=>by
   obtain⟨c,bs⟩:=s
   dsimp only at e1 hs
   subst e1
   have hll:=y8Y q.2.2 m3 a b i
   have hsl:slc ([q.2.2[a],q.2.2[b],q.2.2[i]]:List Int) 0 (m:Int)=some (l3 q.2.2 m a b i):=by
    rw [y9M (by show m≤3;omega),l3,gd ha,gd hb,gd hi]
   have hj:∀bs',y1i ((i:Int),bs) bs'=some (.inl (((i + 1:Nat):Int),bs')):=fun bs'=>by
    rw [y1i];dsimp only;rw [nxt (by omega)]
   have hsame:¬gB q x y (l3 q.2.2 m a b i)→∃s',y1i ((i:Int),bs) bs=some (.inl s')∧s'.1=((i + 1:Nat):Int)∧i + 1≤q.2.2.length∧Bst (fun l=>G l∨(gB q x y l∧∃c,c < i + 1∧l=l3 q.2.2 m a b c)) s'.2:=fun hn=>by
    rw [hj]
    refine⟨_,rfl,rfl,hi,hs.congr fun l=>?_⟩
    constructor
    ·rintro (h | ⟨h1,c,h2,h3⟩)
     ·exact .inl h
     ·exact .inr ⟨h1,c,by omega,h3⟩
    ·rintro (h | ⟨h1,c,h2,h3⟩)
     ·exact .inl h
     ·by_cases e:c=i
      ·subst e
       exact absurd (h3 ▸ h1) hn
      ·exact .inr ⟨h1,c,by omega,h3⟩
   left
   rw [y1j]
   dsimp only
   rw [if_pos (ct_lt hi),ya ha,yOb,ya hb,yOb,ya hi,yOb,hsl,yOb,yct h.rP (by omega) (by omega),yOb]
   cases hbu:(brn q.1 q.2.2 [] x (l3 q.2.2 m a b i)).isSome && decide (2≤(l3 q.2.2 m a b i).length) with
   | false=>
    rw [if_neg (by simp),yOb,if_neg (by simp),yOb,if_neg (by simp)]
    exact hsame fun hg=>by rw [gB,hbu] at hg;exact absurd hg.1 (by simp)
   | true=>
    rw [if_pos rfl,ycs h.rS (by omega),yOb,yOb]
    cases hok:okB q.2.1 y (l3 q.2.2 m a b i) with
    | true=>
     rw [if_neg (by simp),yOb,if_neg (by simp)]
     exact hsame fun hg=>by rw [gB,hok] at hg;exact absurd hg.2 (by simp)
    | false=>
     have hg:gB q x y (l3 q.2.2 m a b i):=⟨hbu,hok⟩
     have hne:l3 q.2.2 m a b i≠ []:=fun e=>by rw [e] at hll;simp at hll;omega
     have hnz:nzl (l3 q.2.2 m a b i)=some ():=by
      cases hq:l3 q.2.2 m a b i with
      | nil=>exact absurd hq hne
      | cons _ _=>rfl
     rw [if_pos (by rfl)]
     -- the new list is the best one
     have hnew:(∀l,(G l∨(gB q x y l∧∃c,c < i∧l=l3 q.2.2 m a b c))→wval (l3 q.2.2 m a b i)≤wval l)→Bst (fun l=>G l∨(gB q x y l∧∃c,c < i + 1∧l=l3 q.2.2 m a b c)) (l3 q.2.2 m a b i):=fun hmin=>by
      refine .inr ⟨hne,.inr ⟨hg,i,by omega,rfl⟩,fun l hl=>?_⟩
      rcases hl with hl | ⟨h1,c,h2,h3⟩
      ·exact hmin l (.inl hl)
      ·by_cases e:c=i
       ·subst e;rw [h3];exact Int.le_refl _
       ·exact hmin l (.inr ⟨h1,c,by omega,h3⟩)
     rcases hs with ⟨rfl,hs⟩ | ⟨hbn,hs1,hs2⟩
     ·rw [if_pos (by rfl),yOb,yOb,if_pos rfl,hnz,yOb,hj]
      exact⟨_,rfl,rfl,hi,hnew fun l hl=>absurd hl (hs l)⟩
     ·have hbe:bs.isEmpty=false:=by cases bs with | nil=>exact absurd rfl hbn | cons _ _=>rfl
      have hbg:gB q x y bs∧bs.length=m:=by
       rcases hs1 with h | ⟨h1,c,_,h3⟩
       ·exact hG _ h
       ·exact ⟨h1,by rw [h3,y8Y _ m3]⟩
      rw [hbe,if_neg (by simp),yeF (by omega) (by omega),yOb,yOb,yOb]
      have hcw:=yde (u:=l3 q.2.2 m a b i) (v:=bs) (by omega) (by omega) (hg.evs h.ur) (hbg.1.evs h.ur)
      by_cases hlt:cmpL (l3 q.2.2 m a b i) bs < 0
      ·rw [if_pos (by simpa using hlt),hnz,yOb,hj]
       have:=hcw.1 hlt
       exact⟨_,rfl,rfl,hi,hnew fun l hl=>by have:=hs2 l hl;omega⟩
      ·rw [if_neg (by simpa using hlt),hj]
       have:¬wval (l3 q.2.2 m a b i) < wval bs:=fun h=>hlt (hcw.2 h)
       refine⟨_,rfl,rfl,hi,.inr ⟨hbn,?_,fun l hl=>?_⟩⟩
       ·rcases hs1 with h | ⟨h1,c,h2,h3⟩
        ·exact .inl h
        ·exact .inr ⟨h1,c,by omega,h3⟩
       ·rcases hl with hl | ⟨h1,c,h2,h3⟩
        ·exact hs2 l (.inl hl)
        ·by_cases e:c=i
         ·subst e;rw [h3];dsimp only;omega
         ·exact hs2 l (.inr ⟨h1,c,by omega,h3⟩)) (fun s ⟨e1,_,hs⟩=>by
   obtain⟨c,bs⟩:=s
   dsimp only at e1 hs
   subst e1
   refine⟨bs,?_,hs⟩
   rw [y1j]
   dsimp only
   rw [if_neg ct_ge]) (Nat.zero_le _) (0,best0) ⟨rfl,Nat.zero_le _,hB.congr fun l=>⟨.inl,fun h=>h.elim id fun⟨_,c,hc,_⟩=>absurd hc (Nat.not_lt_zero _)⟩⟩
 exact⟨o,h1,h2⟩
end
section
variable {q:ProbT} {t:TaskT} {p:AutT} {T:List (List Int)} {n1 n2 n:Nat}
theorem yeY (h:TaskOk q t p T n1 n2 n) {x y:Int} {m a:Nat} (m2:2≤m) (m3:m≤3) (ha:a < q.2.2.length) {G:List Int→Prop} {best:List Int} (hB:Bst G best) (hG:∀l,G l→gB q x y l∧l.length=m):
  ∃o,iter (y1U q [x,y] (m:Int) ((a:Int),best)) (0,best)=some o∧Bst (fun l=>G l∨(gB q x y l∧∃b,b < q.2.2.length∧∃c,c < q.2.2.length∧l=l3 q.2.2 m a b c)) o:=by
 have hul:=Alp.len ⟨h.iu,h.ur⟩
 generalize hb0:best=best0
 rw [hb0] at hB
 obtain⟨o,h1,h2⟩:=yb (f:=y1U q [x,y] (m:Int) ((a:Int),best0)) (fun i s=>s.1=(i:Int)∧i≤q.2.2.length∧Bst (fun l=>G l∨(gB q x y l∧∃b,b < i∧∃c,c < q.2.2.length∧l=l3 q.2.2 m a b c)) s.2) (fun o=>Bst (fun l=>G l∨(gB q x y l∧∃b,b < q.2.2.length∧∃c,c < q.2.2.length∧l=l3 q.2.2 m a b c)) o) q.2.2.length 0 (by omega) (fun i s hi ⟨e1,_,hs⟩=>by
   obtain⟨b,bs⟩:=s
   dsimp only at e1 hs
   subst e1
   obtain⟨o,w1,w2⟩:=yeX h m2 m3 ha hi hs (fun l hl=>by
    rcases hl with hl | ⟨g1,b,_,c,_,g2⟩
    ·exact hG l hl
    ·exact ⟨g1,by rw [g2,y8Y _ m3]⟩)
   have w1:iter (y1j q [x,y] (m:Int) ((a:Int),best0) ((i:Int),bs)) (0,bs)=some o:=w1
   left
   rw [y1U]
   dsimp only
   rw [if_pos (ct_lt hi),w1,yOb,nxt (by omega)]
   refine⟨_,rfl,rfl,hi,w2.congr fun l=>?_⟩
   constructor
   ·rintro ((h | ⟨g1,b,g2,g3⟩) | ⟨g1,g2⟩)
    ·exact .inl h
    ·exact .inr ⟨g1,b,by omega,g3⟩
    ·exact .inr ⟨g1,i,by omega,g2⟩
   ·rintro (h | ⟨g1,b,g2,g3⟩)
    ·exact .inl (.inl h)
    ·by_cases e:b=i
     ·subst e
      exact .inr ⟨g1,g3⟩
     ·exact .inl (.inr ⟨g1,b,by omega,g3⟩)) (fun s ⟨e1,_,hs⟩=>by
   obtain⟨b,bs⟩:=s
   dsimp only at e1 hs
   subst e1
   refine⟨bs,?_,hs⟩
   rw [y1U]
   dsimp only
   rw [if_neg ct_ge]) (Nat.zero_le _) (0,best0) ⟨rfl,Nat.zero_le _,hB.congr fun l=>⟨.inl,fun h=>h.elim id fun⟨_,c,hc,_⟩=>absurd hc (Nat.not_lt_zero _)⟩⟩
 exact⟨o,h1,h2⟩
theorem yeZ (h:TaskOk q t p T n1 n2 n) {x y:Int} {m:Nat} (m2:2≤m) (m3:m≤3):
  ∃o,iter (y1V q [x,y] (m:Int)) (0,([]:List Int))=some o∧Bst (fun l=>gB q x y l∧l.length=m) o:=by
 have hul:=Alp.len ⟨h.iu,h.ur⟩
 obtain⟨o,h1,h2⟩:=yb (f:=y1V q [x,y] (m:Int)) (fun i s=>s.1=(i:Int)∧i≤q.2.2.length∧Bst (fun l=>gB q x y l∧∃a,a < i∧∃b,b < q.2.2.length∧∃c,c < q.2.2.length∧l=l3 q.2.2 m a b c) s.2) (fun o=>Bst (fun l=>gB q x y l∧∃a,a < q.2.2.length∧∃b,b < q.2.2.length∧∃c,c < q.2.2.length∧l=l3 q.2.2 m a b c) o) q.2.2.length 0 (by omega) (fun i s hi ⟨e1,_,hs⟩=>by
   obtain⟨a,bs⟩:=s
   dsimp only at e1 hs
   subst e1
   obtain⟨o,w1,w2⟩:=yeY h m2 m3 hi hs (fun l ⟨g1,a,_,b,_,c,_,g2⟩=>⟨g1,by rw [g2,y8Y _ m3]⟩)
   left
   rw [y1V]
   dsimp only
   rw [if_pos (ct_lt hi),w1,yOb,nxt (by omega)]
   refine⟨_,rfl,rfl,hi,w2.congr fun l=>?_⟩
   constructor
   ·rintro (⟨g1,a,g2,g3⟩ | ⟨g1,g2⟩)
    ·exact ⟨g1,a,by omega,g3⟩
    ·exact ⟨g1,i,by omega,g2⟩
   ·rintro ⟨g1,a,g2,g3⟩
    by_cases e:a=i
    ·subst e
     exact .inr ⟨g1,g3⟩
    ·exact .inl ⟨g1,a,by omega,g3⟩) (fun s ⟨e1,_,hs⟩=>by
   obtain⟨b,bs⟩:=s
   dsimp only at e1 hs
   subst e1
   refine⟨bs,?_,hs⟩
   rw [y1V]
   dsimp only
   rw [if_neg ct_ge]) (Nat.zero_le _) (0,[]) ⟨rfl,Nat.zero_le _,.inl ⟨rfl,fun l ⟨_,a,ha,_⟩=>absurd ha (Nat.not_lt_zero _)⟩⟩
 refine⟨o,h1,h2.congr fun l=>?_⟩
 constructor
 ·rintro ⟨g1,a,_,b,_,c,_,g2⟩
  exact⟨g1,by rw [g2,y8Y _ m3]⟩
 ·rintro ⟨g1,g2⟩
  refine⟨g1,?_⟩
  have hin:∀e∈l,e∈q.2.2:=by
   have g3:=g1.1
   rw [Bool.and_eq_true,Option.isSome_iff_exists] at g3
   obtain⟨⟨v,hv⟩,_⟩:=g3
   exact(y6F.1 hv).2.1
  have hat:∀e∈l,∃i,i < q.2.2.length∧q.2.2.getD i 0=e:=fun e he=>by
   obtain⟨i,hi,e2⟩:=List.getElem_of_mem (hin e he)
   exact⟨i,hi,by rw [gd hi,e2]⟩
  match l,m,g2,m2,m3 with
  | [a,b],_,rfl,_,_=>
   obtain⟨i,hi,e1⟩:=hat a (by simp)
   obtain⟨j,hj,e2⟩:=hat b (by simp)
   exact⟨i,hi,j,hj,i,hi,by rw [l3,e1,e2];rfl⟩
  | [a,b,c],_,rfl,_,_=>
   obtain⟨i,hi,e1⟩:=hat a (by simp)
   obtain⟨j,hj,e2⟩:=hat b (by simp)
   obtain⟨k,hk,e3⟩:=hat c (by simp)
   exact⟨i,hi,j,hj,k,hk,by rw [l3,e1,e2,e3];rfl⟩
theorem ydY (h:TaskOk q t p T n1 n2 n) {k:Nat} {x y:Int} (hk:T[k]? =some [x,y]) {z:Nat} (z2:2≤z) (z3:z≤3):∃o,FB (oK q T z (k:Int)) o∧(∀b,o=some b→2≤b.length)∧y1m q [x,y] (z:Int)=some (match o with
  | none=> []
  | some b=>b):=by
 have hoK:∀b,oK q T z (k:Int) b↔gB q x y b∧b.length≤z:=fun b=>by
  constructor
  ·rintro ⟨x',y',e',hI⟩
   rw [Int.toNat_natCast,hk] at e'
   cases e'
   obtain⟨h1,h2,h3⟩:=y9Q.1 hI
   exact⟨⟨h1,h3⟩,h2⟩
  ·rintro ⟨⟨h1,h3⟩,h2⟩
   exact⟨x,y,by rw [Int.toNat_natCast,hk],y9Q.2 ⟨h1,h2,h3⟩⟩
 have hlow:∀l,gB q x y l→2≤l.length:=fun l hl=>by
  have:=hl.1
  rw [Bool.and_eq_true,decide_eq_true_eq] at this
  exact this.2
 obtain⟨o,h1,h2⟩:=yb (f:=y2M q [x,y] (z:Int)) (fun i s=>s=((i + 2:Nat):Int)∧i + 2≤z + 1∧∀l,gB q x y l→i + 2≤l.length) (fun o=>(o= .inl ()∧∀l,gB q x y l→¬l.length≤z)∨∃b,o= .inr b∧gB q x y b∧b.length≤z∧∀l,gB q x y l→wval b≤wval l) (z - 1) 0 (by omega) (fun i s hi ⟨e1,_,g1⟩=>by
   subst e1
   obtain⟨bs,w1,w2⟩:=yeZ h (x:=x) (y:=y) (m:=i + 2) (by omega) (by omega)
   rw [y2M,if_pos (by simp;omega),w1,yOb]
   rcases w2 with ⟨rfl,w2⟩ | ⟨w2,⟨w3,w4⟩,w5⟩
   ·left
    rw [if_neg (by simp),nxt (by omega)]
    refine⟨_,rfl,rfl,by omega,fun l hl=>?_⟩
    have:=g1 l hl
    have:l.length≠i + 2:=fun e=>w2 l ⟨hl,e⟩
    omega
   ·right
    have hbe:bs.isEmpty=false:=by cases bs with | nil=>exact absurd rfl w2 | cons _ _=>rfl
    rw [hbe,if_pos (by rfl)]
    refine⟨_,rfl,.inr ⟨bs,rfl,w3,by omega,fun l hl=>?_⟩⟩
    by_cases e:l.length=i + 2
    ·exact w5 l ⟨hl,e⟩
    ·have:=g1 l hl
     refine Int.le_of_lt (Int.not_le.1 fun hle=>?_)
     have:=y9H (hl.evs h.ur) (w3.evs h.ur) hle
     omega) (fun s ⟨e1,_,g1⟩=>by
   subst e1
   rw [y2M,if_neg (by simp;omega)]
   exact⟨_,rfl,.inl ⟨rfl,fun l hl hz=>by have:=g1 l hl;omega⟩⟩) (Nat.zero_le _) 2 ⟨rfl,by omega,hlow⟩
 rcases h2 with ⟨rfl,h3⟩ | ⟨b,rfl,h3,h4,h5⟩
 ·refine ⟨none,fun b hb=>?_,fun b hb=>(by cases hb),?_⟩
  ·have:=(hoK b).1 hb
   exact h3 b this.1 this.2
  ·rw [y1m,h1]
   rfl
 ·refine ⟨some b,⟨(hoK b).2 ⟨h3,h4⟩,fun b' hb'=>h5 b' ((hoK b').1 hb').1⟩,fun b' hb'=>?_,?_⟩
  ·cases hb'
   exact hlow b h3
  ·rw [y1m,h1]
   rfl
def oNo (q:ProbT) (T:List (List Int)) (z:Nat) (s:Int):Prop:=FB (oK q T z s) none
theorem ybs (h:TaskOk q t p T n1 n2 n) {k:Nat} (hk:k < T.length) {z:Nat} (z2:2≤z) (z3:z≤3):∃w o,T[k]? =some w∧FB (oK q T z (k:Int)) o∧(∀b,o=some b→2≤b.length)∧y1m q w (z:Int)=some (match o with
  | none=> []
  | some b=>b):=by
 obtain⟨x,y,e,_⟩:=h.pair hk
 obtain⟨o,h1,h2,h3⟩:=ydY h e z2 z3
 exact⟨_,o,e,h1,h2,h3⟩
theorem ycu (h:TaskOk q t p T n1 n2 n) {z:Nat} (z2:2≤z) (z3:z≤3):∃b,iter (y1a q (z:Int) (p,T,0)) (0,false)=some b∧(b=false↔ ∀k,k < T.length→oNo q T z (k:Int)):=by
 have htl:=h.loop.tl
 have hle:=h.loop.le
 obtain⟨b,h1,h2⟩:=yb (f:=y1a q (z:Int) (p,T,0)) (fun i s=>s.1=(i:Int)∧i≤T.length∧(s.2=false↔ ∀k,k < i→oNo q T z (k:Int))) (fun b=>b=false↔ ∀k,k < T.length→oNo q T z (k:Int)) T.length 0 (by omega) (fun i s hi ⟨e1,_,hz⟩=>by
   obtain⟨c,b⟩:=s
   dsimp only at e1 hz
   subst e1
   left
   rw [y1a]
   dsimp only
   rw [if_pos (ct_lt hi)]
   cases b with
   | true=>
    rw [if_pos rfl,yZ]
    dsimp only
    rw [nxt (by omega)]
    refine⟨_,rfl,rfl,hi,⟨fun hb=>(by simp at hb),fun hh=>?_⟩⟩
    exact hz.2 fun k hk=>hh k (by omega)
   | false=>
    obtain⟨w,o,ew,hf,hlo,h3⟩:=ybs h hi z2 z3
    rw [if_neg (by simp),y5Y,ew,yOb,h3,yOb,yZ]
    dsimp only
    rw [nxt (by omega)]
    refine⟨_,rfl,rfl,hi,fun hb k hk=>?_,fun hh=>?_⟩
    ·by_cases e:k=i
     ·subst e
      cases o with
      | none=>exact hf
      | some b=>
       have:=hlo b rfl
       simp at hb
       rw [hb] at this
       simp at this
     ·exact hz.1 rfl k (by omega)
    ·have:=FB.unique h.oEvs (hh i (Nat.lt_succ_self i)) hf
     subst this
     rfl) (fun s ⟨e1,_,hz⟩=>by
   obtain⟨c,b⟩:=s
   dsimp only at e1 hz
   subst e1
   refine⟨b,?_,hz⟩
   rw [y1a]
   dsimp only
   rw [if_neg ct_ge]) (Nat.zero_le _) (0,false) ⟨rfl,Nat.zero_le _,fun _ k hk=>absurd hk (Nat.not_lt_zero _),fun _=>rfl⟩
 exact⟨b,h1,h2⟩
theorem y8x (h:TaskOk q t p T n1 n2 n) {z:Nat} (z2:2≤z) (z3:z≤3) (hn:0 < n) {L:List (List Int×Int)} (hL:AllW (edsOf p) 3 L) (hl:L.length≤4000000) (r:(Int×List Int×List Int)×Bool×Int)
  (hw:(∀x∈L,oNo q T z x.2)∨∃(i:Nat) (x:List Int×Int) (b:List Int),L[i]? =some x∧FB (oK q T z x.2) (some b)∧(∀j y,j < i→L[j]? =some y→oNo q T z y.2)∧r.1.2.1=x.1∧r.1.2.2=b):
  ∃o,iter (yt q (z:Int) r (p,T,0) (L.map Prod.fst,0)) 0=some o∧((o= .inl ()∧∀x∈L,oNo q T z x.2)∨o= .inr true):=by
 have htl:=h.loop.tl
 have hR:=h.loop.right
 have hE:EvEs (edsOf p):=fun x hx=>by
  obtain⟨y,hy,rfl⟩:=List.mem_map.1 hx
  exact hR.alr _ (hR.es y hy).2.2.2.2
 obtain⟨o,h1,h2⟩:=yb (f:=yt q (z:Int) r (p,T,0) (L.map Prod.fst,0)) (fun i c=>c=(i:Int)∧i≤L.length∧∀j y,j < i→L[j]? =some y→oNo q T z y.2) (fun o=>(o= .inl ()∧∀x∈L,oNo q T z x.2)∨o= .inr true) L.length 0 (by omega) (fun i c hi ⟨e1,_,hz⟩=>by
   subst e1
   have hx:=List.getElem_mem hi
   have hled:=hL.lead _ hx
   have hlen:=hL.len _ hx
   have hst:=Leads.in (n:=n) (fun x hx=>by
    obtain⟨y,hy,rfl⟩:=List.mem_map.1 hx
    have:=hR.es y hy
    exact⟨this.2.2.1,this.2.2.2.1⟩) hled (Int.le_refl _) (by omega)
   obtain⟨s,hs⟩:∃s:Nat,(L[i]).2=(s:Int):=⟨(L[i]).2.toNat,by omega⟩
   have hrun:=ydT hR hn (u:=(L[i]).1) (by omega) (y8X hR hled)
   have hsT:s < T.length:=by omega
   obtain⟨w,o,ew,hf,hlo,h3⟩:=ybs h hsT z2 z3
   have hmi:idx (L.map Prod.fst) (i:Int)=some (L[i]).1:=by rw [y5Y,List.getElem?_map,yGe hi];rfl
   rw [yt]
   dsimp only
   rw [List.length_map,if_pos (ct_lt hi),hmi,yOb,hrun,yOb]
   dsimp only
   rw [hs,y5Y,ew,yOb,h3,yOb]
   cases o with
   | none=>
    left
    dsimp only
    rw [if_neg (by simp),nxt (by omega)]
    refine⟨_,rfl,rfl,hi,fun j y hj hy=>?_⟩
    by_cases e:j=i
    ·subst e
     rw [yGe hi] at hy
     cases hy
     rw [oNo,hs]
     exact hf
    ·exact hz j y (by omega) hy
   | some b=>
    right
    refine⟨_,?_,.inr rfl⟩
    rcases hw with hw | ⟨i0,x,b0,g1,g2,g3,g4,g5⟩
    ·have:=FB.unique h.oEvs (hw _ hx) (hs.symm ▸ hf)
     cases this
    ·obtain rfl:i=i0:=by
      rcases Nat.lt_trichotomy i i0 with hlt | e | hlt
      ·have:=FB.unique h.oEvs (g3 i _ hlt (yGe hi)) (hs.symm ▸ hf)
       cases this
      ·exact e
      ·have:=FB.unique h.oEvs (hz i0 x hlt g1) g2
       cases this
     rw [yGe hi] at g1
     cases g1
     have hbb:=FB.unique h.oEvs g2 (hs.symm ▸ hf)
     cases hbb
     have hb2:=hlo b rfl
     have hb3:b.length≤z:=by
      obtain⟨⟨_,_,_,hI⟩,_⟩:=hf
      exact hI.2.2.1
     dsimp only
     rw [if_pos (by simp;omega),yOb,g4,y9p (by omega),yOb,if_pos rfl,g5,y9p (by omega),yOb,y1G]) (fun c ⟨e1,_,hz⟩=>by
   subst e1
   refine⟨.inl (),?_,.inl ⟨rfl,fun x hx=>?_⟩⟩
   ·rw [yt]
    dsimp only
    rw [List.length_map,if_neg ct_ge]
   ·obtain ⟨j,hj,rfl⟩:=List.getElem_of_mem hx
    exact hz j _ hj (yGe hj)) (Nat.zero_le _) 0 ⟨rfl,Nat.zero_le _,fun j y hj=>absurd hj (Nat.not_lt_zero _)⟩
 exact⟨o,h1,h2⟩
theorem ybt (h:TaskOk q t p T n1 n2 n) (ho:y3I q=some (some t,0)) {z:Nat} (z3:z≤3) {k:Nat} (hk:k < T.length) {b:List Int} (hf:FB (oK q T z (k:Int)) (some b)):y5o q [] (1,wN (edsOf p) (k:Int),b)=some 0:=by
 obtain⟨⟨x,y,hT,hI⟩,_⟩:=hf
 rw [Int.toNat_natCast] at hT
 obtain⟨i1,i2,i3⟩:=y9Q.1 hI
 have hkn:k < n:=by rw [←h.loop.tl];exact hk
 have hle:=h.loop.le
 have hwl:=yeD h.loop.num k hkn
 have hst:=y8X h.loop.right (h.loop.num.leads k hkn)
 have hr3:y2L t.2.2.1 (wN (edsOf p) (k:Int))=some (k:Int):=by
  rw [ydU h.g3 h.loop.right (by omega),if_neg (by omega),hst]
  rfl
 rw [y5o,yew h ho (by simp),if_pos (show priE q.1.1 q.2.2 [] []=0 from rfl),yOb,if_neg (by simp),yOb]
 dsimp only
 rw [hr3,yOb,if_pos (show ((1:Int) == 1)=true from rfl),if_pos (by simp),ydX h hT (by omega),i1,decide_eq_true (show b.length≤3 by omega),yOb,yOb,if_pos (by rfl),ya4 h hT (by omega),i3]
 rfl
end
theorem ycv {d:Des26} (hd:Des26In d) (keep three:Bool):y3m d keep three=some true:=by
 rw [y3m,yex,yOb,if_neg (by simp)]
 obtain⟨q,m1,m2,hq,hP,_⟩:=ycp hd keep
 rw [hq,yOb]
 have key:∀z:Nat,2≤z→z≤3→y1b q (z:Int)=some true:=fun z z2 z3=>by
  obtain⟨t,p,T,n1,n2,n,ho,h,hs⟩:=hP.open
  obtain⟨r,hr,hc⟩:=ydc h ho z2 z3
  obtain⟨b,hb1,hb2⟩:=ycu h z2 z3
  have htl:=h.loop.tl
  have hle:=h.loop.le
  rw [y1b,hr,yOb]
  -- the words
  have hwords:(n=0∧y1o p 3 false=some ([],0))∨0 < n∧(y1o p 3 false=some ([],3)∨∃L,AllW (edsOf p) 3 L∧y1o p 3 false=some (L.map Prod.fst,0)∧L.length≤1024):=by
   by_cases h0:n=0
   ·subst h0
    exact .inl ⟨rfl,ycq (most:=3) h.loop.right (by omega)⟩
   ·refine .inr ⟨by omega,?_⟩
    obtain⟨l,g,hw,⟨L,g1,rfl,rfl,g2⟩ | ⟨rfl,rfl⟩⟩:=ydR (most:=3) h.loop.right (by omega) (by omega)
    ·exact .inr ⟨L,g1,hw,g2⟩
    ·exact .inl hw
  rcases hc with ⟨rfl,hno⟩ | ⟨k,bw,hk,hf,hbef,rfl⟩
  ·have hb:b=false:=hb2.2 hno
   subst hb
   dsimp only
   rw [if_neg (by simp),if_pos rfl,yeV,yOb,yOb,yOb,if_neg (by simp),if_neg (by simp),yOb,yOb,if_neg (by simp),hs,yOb,if_neg (by simp),hb1,yOb,if_neg (by simp)]
   rcases hwords with ⟨h0,hw⟩ | ⟨h0,hw | ⟨L,g1,hw,g2⟩⟩
   ·rw [hw,yOb,if_neg (by simp),show iter (yt q (z:Int) ((0,[],[]),true,0) (p,T,0) ([],0)) 0=some (.inl ()) from y3X (n:=1) (by omega) (by rw [yc,yt,if_neg (by simp)])]
    rfl
   ·rw [hw,yOb,if_pos (by simp)]
    rfl
   ·rw [hw,yOb,if_neg (by simp)]
    obtain⟨o,w1,w2⟩:=y8x h z2 z3 h0 g1 (by omega) ((0,[],[]),true,0) (.inl fun x hx=>by
     have hst:=Leads.in (n:=n) (fun x hx=>by
      obtain⟨y,hy,rfl⟩:=List.mem_map.1 hx
      have:=h.loop.right.es y hy
      exact⟨this.2.2.1,this.2.2.2.1⟩) (g1.lead x hx) (Int.le_refl _) (by omega)
     obtain⟨s,hs⟩:∃s:Nat,x.2=(s:Int):=⟨x.2.toNat,by omega⟩
     rw [hs]
     exact hno s (by omega))
    rw [w1,yOb]
    rcases w2 with ⟨rfl,_⟩ | rfl <;> rfl
  ·have hkn:k < n:=by omega
   have hbz:bw.length≤z:=by
    obtain⟨⟨_,_,_,hI⟩,_⟩:=hf
    exact hI.2.2.1
   have hb:b=true:=by
    cases b with
    | true=>rfl
    | false=>
     have:=FB.unique h.oEvs (hb2.1 rfl k hk) hf
     cases this
   subst hb
   dsimp only
   have hgd:¬(((1:Int) != 1) || decide ((bw.length:Int) > (z:Int)))=true:=by simp;omega
   rw [if_neg (by simp),if_neg (by simp),yOb,yOb,if_neg (by simp),if_pos (by rfl),if_neg hgd,ybt h ho z3 hk hf,yOb,yOb,yOb,yOb,if_neg (by simp),hs,yOb,if_neg (by simp),hb1,yOb,if_neg (by simp)]
   rcases hwords with ⟨h0,hw⟩ | ⟨h0,hw | ⟨L,g1,hw,g2⟩⟩
   ·omega
   ·rw [hw,yOb,if_pos (by simp)]
    rfl
   ·rw [hw,yOb,if_neg (by simp)]
    have hcl:∃good:Int→Bool,∀s,good s=false↔oNo q T z s:=⟨fun s=>@decide (¬oNo q T z s) (Classical.propDecidable _),fun s=>by simp⟩
    obtain⟨good,hgood⟩:=hcl
    have hgk:good (k:Int)=true:=by
     cases hg:good (k:Int) with
     | true=>rfl
     | false=>
      have:=FB.unique h.oEvs ((hgood _).1 hg) hf
      cases this
    obtain⟨e1,e2⟩:=h.loop.num.earliest g1 hkn hgk (fun j hj=>(hgood _).2 (hbef j hj))
    by_cases hlen:(wN (edsOf p) (k:Int)).length≤3
    ·obtain ⟨i,hi,e3,e4⟩:=e1 hlen
     obtain⟨o,w1,w2⟩:=y8x h z2 z3 h0 g1 (by omega) ((1,wN (edsOf p) (k:Int),bw),false,0) (.inr ⟨i,_,bw,yGe hi,by rw [e3];exact hf,fun j y hj hy=>by
      obtain⟨hj1,hj2⟩:=List.getElem?_eq_some_iff.1 hy
      rw [←hj2]
      exact(hgood _).1 (e4 j hj1 hj),by rw [e3],rfl⟩)
     rw [w1,yOb]
     rcases w2 with ⟨rfl,w3⟩ | rfl
     ·have:=w3 _ (List.getElem_mem hi)
      rw [e3] at this
      have:=FB.unique h.oEvs this hf
      cases this
     ·rfl
    ·obtain ⟨o,w1,w2⟩:=y8x h z2 z3 h0 g1 (by omega) ((1,wN (edsOf p) (k:Int),bw),false,0) (.inl fun x hx=>(hgood _).1 (e2 (by omega) x hx))
     rw [w1,yOb]
     rcases w2 with ⟨rfl,_⟩ | rfl
     ·dsimp only
      rw [Bool.false_or,decide_eq_true (by omega)]
     ·rfl
 cases three with
 | true=>rw [if_pos rfl];exact key 3 (by omega) (by omega)
 | false=>rw [if_neg (by simp)];exact key 2 (by omega) (by omega)
end Go.Proofs.YtecmobjeeonmaaaGreatDoor
namespace Go.Proofs.YtecmobjeeonmaaaGreatDoor
open Go Go.RowKit Go.ChangeShapes Go.WideShapes Go.Deep
def Op (P:Program) {α:Type} (r:Rep α) (Q:α→Prop) (t:TypeId):Prop:=
 ∀(H:Type) (enc:TypeId×Value→H) (w:World) (fuel:Nat) (cs:List Value) (x:DataW H×List MemPlace),DataW.trod enc P w 0 (fun _=>true) true fuel t cs=some x→∃y:α,r.rd ⟨w,fun _=>0⟩ cs y∧Q y
section
variable {P:Program} {α β:Type} {r:Rep α} {q:Rep β} {Q:α→Prop} {R:β→Prop} {t e:TypeId}
theorem yf0 {w:World} {base:Nat} {v:Value} {fs:Array Field} {ts:List TypeId} (ht:P.underlying t=some (.struct fs)) (hts:P.cellTypes P.depth t=some ts) (hsz:P.cellsOf t=ts.length) (hok:Value.okWide P w .any base t v):
  ∃cs,v= .agg cs∧cs.size=ts.length∧∀(i:Nat) (u:TypeId),ts[i]? =some u→∃c:Value,cs[i]? =some c∧Cell.okWide P w .any base u c:=by
 simp only [Value.okWide,ht] at hok
 obtain⟨cs,rfl,h1,ts',h2,h3,h4⟩:=hok
 rw [hts] at h2
 cases h2
 refine⟨cs,rfl,by omega,fun i u hu=>?_⟩
 have hlt:i < ts.length:=(List.getElem?_eq_some_iff.1 hu).1
 obtain⟨u',g1,g2⟩:=h4 i cs[i] (Array.getElem?_eq_getElem (by omega))
 rw [Nat.mod_eq_of_lt hlt,hu] at g1
 cases g1
 exact⟨_,Array.getElem?_eq_getElem (by omega),g2⟩
end
end Go.Proofs.YtecmobjeeonmaaaGreatDoor
namespace Go.Proofs.YtecmobjeeonmaaaGreatDoor
open Go Go.ChangeShapes Go.WideShapes Go.ChangeAt Go.RowKit Go.Deep
theorem Fw.law {P:Program} {f:FuncId} {ts:List TV} (h:Fw P f ⟨0,[]⟩ ts [] (.b true) []) {w:World} {vs:List Value} (ha:All3 (fun _=> .bool false) ⟨w,fun _=>0⟩ ts vs):Calls P f vs.toArray w fun e w'=>e= .returned (.bool true)∧Below w.heap.size w w':=
 Calls.mono (h.is [] (fun _=> .bool false) ⟨w,fun _=>0⟩ vs rfl (Nat.le_refl _) List.nodup_nil (fun t ht=>by cases ht) ha (fun i o h=>by simp at h)) fun e W' ⟨v,s',hw,he,hm,β',_,hv,_⟩=>by
  obtain⟨hv,_⟩:=hv
  subst hw
  subst hv
  exact⟨he,(hm.weak (S':=No) fun t ⟨i,hi,_⟩=>by cases hi).below⟩
theorem All3.c {β:Nat→Value} {s:Sig} {x:TV} {xs:List TV} {v:Value} {us:List Value} (h:x.p β s v) (h2:All3 β s xs us):All3 β s (x :: xs) (v :: us):=⟨v,us,h,h2,rfl⟩
theorem ycw {α:Type} [Inhabited α] {n:Nat} {p:Nat→α→Prop} (h:∀i,i < n→∃x,p i x):∃f:Nat→α,∀i,i < n→p i (f i):=
 ⟨fun i=>if hi:i < n then Classical.choose (h i hi) else default,fun i hi=>by
  dsimp only
  rw [dif_pos hi]
  exact Classical.choose_spec (h i hi)⟩
abbrev yf1 :=(Int×y2h)×(Int×y2h)×Int
def pbT :List TypeId:=[22] ++ List.replicate 27 5 ++ [22] ++ List.replicate 27 5 ++ [22]
theorem ydZ :Tryz.prog.cellTypes Tryz.prog.depth 30=some pbT:=by kernel_rfl
theorem ye0 :Tryz.prog.cellsOf 30=pbT.length:=by kernel_rfl
section
variable {H:Type} {enc:TypeId×Value→H} {w:World} {base:Nat} {v:Value} {d:DataW H} {ps:List MemPlace}
/-- A described problem. -/
theorem ydf (hok:Value.okWide Tryz.prog w .any base 30 v):∃x:yf1,GrIn x.1.2∧GrIn x.2.1.2∧∀β s,(TV.a (lx30 x)).p β s v:=by
 obtain⟨cs,rfl,h1,h2⟩:=yf0 Tryz.underlying30 ydZ ye0 hok
 have h1':cs.size=57:=h1
 obtain⟨f,hf⟩:=ycw (α:=Int) (n:=57) (p:=fun i n=>cs[i]? =some (.int .u8 n)∧0≤n∧n < 256) (fun i hi=>by
  obtain⟨u,hu,hu2⟩:∃u,pbT[i]? =some u∧(u=22∨u=5):=by
   refine⟨pbT[i]'hi,yGe (l:=pbT) hi,?_⟩
   have:=List.getElem_mem (l:=pbT) hi
   generalize pbT[i]'hi=u at this
   simp only [pbT,List.mem_append,List.mem_singleton,List.mem_replicate] at this
   rcases this with (((h | h) | h) | h) | h
   ·exact .inl h
   ·exact .inr h.2
   ·exact .inl h
   ·exact .inr h.2
   ·exact .inl h
  obtain⟨c,g1,g2⟩:=h2 i u hu
  have g2':Cell.okWide Tryz.prog w .any base 5 c:=by
   rcases hu2 with rfl | rfl
   ·simp only [Cell.okWide,Cell.ok,Tryz.underlying22,Tryz.underlying5] at g2 ⊢
    exact g2
   ·exact g2
  obtain⟨n,rfl,g3⟩:∃n:Int,c= .int .u8 n∧0≤n∧n < 256:=by
   simp only [Cell.okWide,Tryz.underlying5] at g2'
   cases c <;> simp_all [Cell.ok]
   rename_i k n
   obtain⟨rfl,h2⟩:=g2'
   simp [IntKind.has,IntKind.min,IntKind.max,IntKind.signed,IntKind.bits] at h2
   omega
  exact⟨n,g1,g3⟩)
 have hcs:cs=((List.range 57).map fun i=>Value.int .u8 (f i)).toArray:=by
  apply Array.ext_getElem?
  intro i
  by_cases hi:i < 57
  ·rw [(hf i hi).1];simp [hi]
  ·rw [Array.getElem?_eq_none (by omega),Array.getElem?_eq_none (by simp;omega)]
 have gr:∀o,o + 27≤57→GrIn (f o,f (o + 1),((f (o + 2),f (o + 3),f (o + 4),f (o + 5),f (o + 6)),(f (o + 7),f (o + 8),f (o + 9),f (o + 10),f (o + 11)),(f (o + 12),f (o + 13),f (o + 14),f (o + 15),f (o + 16)),(f (o + 17),f (o + 18),f (o + 19),f (o + 20),f (o + 21)),(f (o + 22),f (o + 23),f (o + 24),f (o + 25),f (o + 26)))):=fun o ho=>by
  refine⟨(hf o (by omega)).2,fun y hy=>?_⟩
  have hy2:y∈(List.range 25).map fun i=>f (o + (i + 2)):=hy
  obtain⟨i,hi,rfl⟩:=List.mem_map.1 hy2
  have:=List.mem_range.1 hi
  exact(hf (o + (i + 2)) (by omega)).2
 refine⟨((f 0,f 1,f 2,((f 3,f 4,f 5,f 6,f 7),(f 8,f 9,f 10,f 11,f 12),(f 13,f 14,f 15,f 16,f 17),(f 18,f 19,f 20,f 21,f 22),(f 23,f 24,f 25,f 26,f 27))),(f 28,f 29,f 30,((f 31,f 32,f 33,f 34,f 35),(f 36,f 37,f 38,f 39,f 40),(f 41,f 42,f 43,f 44,f 45),(f 46,f 47,f 48,f 49,f 50),(f 51,f 52,f 53,f 54,f 55))),f 56),gr 1 (by omega),gr 29 (by omega),fun β s=>?_⟩
 refine⟨((List.range 57).map fun i=>Value.int .u8 (f i)),?_,by rw [hcs]⟩
 exact y7R (cs:=(List.range 57).map fun i=>Value.int .u8 (f i)) (List.all_eq_true.2 fun x hx=>by
  obtain⟨i,_,rfl⟩:=List.mem_map.1 hx
  rfl)
end
section
variable {H:Type} {enc:TypeId×Value→H} {w:World} {base:Nat} {v:Value} {d:DataW H} {ps:List MemPlace}
theorem yaQ (hok:Value.okWide Tryz.prog w .any base 4 v):∃b,v= .bool b:=by
 simp only [Value.okWide,Tryz.underlying4] at hok
 simp only [Cell.okWide,Tryz.underlying4] at hok
 cases v <;> simp_all [Cell.ok]
end
theorem Tryz.own :ownKnob Tryz.prog.godebug=none:=by kernel_rfl
theorem Tryz.laidOut :laidOutB Tryz.prog=true:=by kernel_rfl
section
variable {H:Type} {enc:TypeId×Value→H}
def ybu (P:Program) (ts:List TypeId):Bool:=ts.all fun t=>P.readableRec t && decide (t < P.types.size)
theorem y8B {P:Program} (hl:laidOutB P=true) {W W':World} (hb:Below W.heap.size W W') {sp:Nat→Bool}:∀{ts:List TypeId} {vs:List Value} {ds:List (DataW H)} {ps:List MemPlace},ybu P ts=true→
  DataW.TrodAll enc P W 0 (fun _=>true) true ts vs ds ps→(∀x∈ps,x.block < W.heap.size)→(∀x∈ps,sp x.block=true)→DataW.TrodAll enc P W' 0 sp true ts vs ds ps
 | [],[],[],_,_,h,_,_=>h
 | [],_ :: _,_,_,_,h,_,_=>h.elim
 | [],[],_ :: _,_,_,h,_,_=>h.elim
 | t :: ts,[],_,_,_,h,_,_=>h.elim
 | t :: ts,_ :: _,[],_,_,h,_,_=>h.elim
 | t :: ts,v :: vs,d :: ds,ps,hc,⟨p,q,h1,h2,e⟩,hlt,hsp=>by
  subst e
  unfold ybu at hc
  rw [List.all_cons,Bool.and_eq_true,Bool.and_eq_true] at hc
  exact⟨p,q,WideElems.Trod_stays hl hc.1.1 (of_decide_eq_true hc.1.2) h1 (fun x hx=>hb.same (hlt x (List.mem_append_left _ hx))) (fun x hx=>hsp x (List.mem_append_left _ hx)),
   y8B hl hb hc.2 h2 (fun x hx=>hlt x (List.mem_append_right _ hx)) (fun x hx=>hsp x (List.mem_append_right _ hx)),rfl⟩
theorem ye1 {P:Program} (hl:laidOutB P=true) {f:Func} {s:ChangeSpec} {apart fresh handsOn again:Bool} {W W':World} {args:Array Value} {ds:List (DataW H)} {before:List MemPlace} {tb:TypeId} {b:Bool}
  (hW:DataW.Whole enc P f.params.toList s.vars apart W args.toList ds [] before) (hv:s.vars= []) (hc:ybu P f.params.toList=true) (hrt:f.resultTypes= #[tb]) (ht:P.underlying tb=some .bool)
  (hr:(s.fn H (ds ++ [])).results= [.lit (.bool b)]) (ha:(s.fn H (ds ++ [])).args=ds) (hvn:(s.fn H (ds ++ [])).vars= []) (hb:Below W.heap.size W W'):
  s.post enc P f apart fresh handsOn again W args (.bool b) W':=by
 have hlt:∀p∈before,p.block < W.heap.size:=fun p hp=>hW.lt p hp
 have hWc:=hW
 obtain⟨p,q,hA,hV,rfl,hz,hn⟩:=hWc
 rw [hv] at hV
 obtain⟨-,rfl⟩:=trodVars_none hV
 rw [List.append_nil] at hlt hz hn
 have hargs:∀sp:Nat→Bool,(∀x∈p,sp x.block=true)→DataW.TrodAll enc P W' 0 sp true f.params.toList args.toList (s.fn H (ds ++ [])).args p:=fun sp hsp=>by
  rw [ha];exact y8B hl hb hc hA hlt hsp
 have hres:∀(b0:Nat) (sp:Nat→Bool) (hd:Bool),DataW.TrodAll enc P W' b0 sp hd f.resultTypes.toList ((Value.bool b).resultList f.resultTypes.size) (s.fn H (ds ++ [])).results []:=fun _ _ _=>by
  rw [hr,hrt];exact trodAll_mk1 (shut_bool ht b)
 have hvars:∀sp:Nat→Bool,DataW.TrodVars enc P W' sp s.vars (s.fn H (ds ++ [])).vars []:=fun sp=>by rw [hv,hvn];rfl
 have hold:∀x∈p,(fun b=>decide (b < W.heap.size)) x.block=true:=fun x hx=>by simpa using hlt x hx
 refine⟨ds,[],p ++ [],[],p,[],hW,hres _ _ _,hargs _ hold,hvars _,World.keptBut_mono (fun x hx=>?_) (hb.frame (· ∈p)),fun _=>?_⟩
 ·exact ⟨by rwa [List.append_nil],Or.inr (.inl hx)⟩
 ·have hok:=ok_one (f:=f) (W':=W') (by rw [hrt]) rfl (okWide_bool_mk (W':=W') ht b)
  refine⟨hok,_,_,([] ++ p) ++ [],⟨[] ++ p,[],trodAll_append (hargs _ (fun _ _=>rfl)) (hres _ _ _),hvars _,rfl,?_,?_⟩,?_⟩
  ·intro b0 off hp
   have hin:MemPlace.cell b0 off∈p:=by simpa using hp
   rw [hb.frozen (hlt _ hin)]
   exact hz b0 off hin
  ·intro hap
   simpa using hn hap
  ·intro x hx _
   simpa using hx
end
def lay24 : List (String × DataW Unit) := [("math/bits.deBruijn32tab", Rows.laid_math_bits_deBruijn32tab), ("math/bits.deBruijn64tab", Rows.laid_math_bits_deBruijn64tab), ("internal/strconv.uint64pow10", Rows.laid_internal_strconv_uint64pow10)]
theorem ydg (os:Os) (args:Array Value):laidMetH Tryz.prog lay24 ((World.laidAll Tryz.prog os lay24).forCall (fun _ _=>0) ⟨#[],args,[]⟩).memory:=
 laidMetH_of_parts3 (fuel:=8) (laidMet_laidAll args (by kernel_rfl) (by kernel_rfl)) (by kernel_rfl) (by kernel_rfl)
theorem y9i (os:Os) (started:os.Started) (H:Type) (enc:TypeId×Value→H):
  ReturnsInHanded {} Tryz.checked os 6 .any (fun w args=>(Rows.scanOrdersSpec.pre enc Tryz.prog Tryz.f6 [] false w args∧laidMetH Tryz.prog lay24 w)∧sizedMet enc Tryz.prog Tryz.f6 (OpenSpec.ofChange Rows.scanOrdersSpec) false w args) (Rows.scanOrdersSpec.post enc Tryz.prog Tryz.f6 false true false false):=by
 refine returnsInHanded_of_change_and (C:=Tryz.checked) (X:=fun w _=>laidMetH Tryz.prog lay24 w) (fun _ _ _ hh h=>h.of_heap hh) Tryz.own started (by kernel_rfl) Tryz.func6
  (ChangeSpec.witness_shaped (enc:=enc) (C:=Tryz.checked) (os:=os) (X:=fun w _=>laidMetH Tryz.prog lay24 w) false (World.laidAll Tryz.prog os lay24) #[.agg (Array.replicate 57 (.int .u8 0)),.bool false,.bool false] 8 (World.laidAll_os _ _ _) (World.shaped_of_ZipB (by kernel_rfl) (by kernel_rfl)) (by kernel_rfl) (by kernel_rfl) (by kernel_rfl) (ydg os _)) ?_
 intro W base args ds gs before hval0 hW _ _ _ _
 have hval:∀(j:Nat) t v,Tryz.f6.params[j]? =some t→args[j]? =some v→Value.okWide Tryz.prog W .any base t v:=hval0
 have hW':=hW
 obtain⟨p,q,hA0,hV,rfl,hfz,hnd⟩:=hW
 have hA:DataW.TrodAll enc Tryz.prog W 0 (fun _=>true) true Tryz.f6.params.toList args.toList ds p:=hA0
 rw [Tryz.params6] at hA hval
 obtain⟨v0,v1,v2,d0,d1,d2,p0,p1,p2,rfl,rfl,rfl,h0,h1,h2⟩:=trodAll_three hA
 obtain⟨x,g1,g2,r0⟩:=ydf (hval 0 30 v0 rfl rfl)
 obtain⟨b,rfl⟩:=yaQ (hval 1 4 v1 rfl rfl)
 obtain⟨c,rfl⟩:=yaQ (hval 2 4 v2 rfl rfl)
 obtain⟨rfl,rfl⟩:=trodVars_none hV
 clear hA0 hval0
 refine Calls.mono ((y6C (ycv (d:=x) ⟨g1,g2⟩ b c)).law (All3.c (r0 _ _) (All3.c ⟨rfl,rfl⟩ (All3.c ⟨rfl,rfl⟩ rfl)))) fun e W' ⟨he,hbl⟩=>?_
 subst he
 exact⟨_,rfl,ye1 Tryz.laidOut hW' rfl (by kernel_rfl) (by kernel_rfl) Tryz.underlying4 rfl rfl rfl hbl⟩
end Go.Proofs.YtecmobjeeonmaaaGreatDoor
namespace Go.Proofs.YtecmobjeeonmaaaGreatDoor
open Go Go.RowKit
set_option maxRecDepth 100000
theorem yeG :Tryz.prog.stopsHeard=true:=by kernel_rfl
theorem yeH :Tryz.prog.mayEnter=true:=by kernel_rfl
theorem yeI :(laidOutB Tryz.prog && mapsRowed Tryz.prog)=true:=by kernel_rfl
theorem yeJ :(Tryz.prog.stops == [])=true:=by kernel_rfl
theorem ye2 :(Tryz.prog.stopKnobs == [])=true:=by kernel_rfl
theorem ye3 :false=Tryz.prog.looks []:=by kernel_rfl
end Go.Proofs.YtecmobjeeonmaaaGreatDoor
namespace Go.Proofs.YtecmobjeeonmaaaGreatDoor
open Go Go.ChangeShapes Go.WideShapes Go.ChangeAt Go.RowKit Go.Deep
theorem yaR :(Rows.scanOrdersRow.inPlace == Tryz.prog.inPlace 6)=true:=by kernel_rfl
theorem yaS :(Rows.scanOrdersRow.unfollowed == Tryz.prog.unfollowed 6)=true:=by kernel_rfl
theorem yaT :(Rows.scanOrdersRow.recurses == Tryz.prog.recurses 6)=true:=by kernel_rfl
theorem yaU :(Rows.scanOrdersRow.named == Tryz.prog.varsNamed 6)=true:=by kernel_rfl
theorem yaV :(Rows.scanOrdersRow.lifted == Tryz.prog.liftsFinal)=true:=by kernel_rfl
theorem y9j :joinedFacts Tryz.prog 6 Tryz.f6 Rows.scanOrdersSpec Rows.scanOrdersRow=true:=by
 have h8:=yeI
 rw [Bool.and_eq_true] at h8
 unfold joinedFacts
 rw [h8.1,h8.2,yaR,yaS,yaT,yaU,yaV,yeG,yeH,yeJ,ye2]
 change (_:Bool)=true
 kernel_rfl
theorem y9R :Rows.ScanOrdersSaid:=
 OpenClaim.holds_of_wide 6 Tryz.f6 rfl rfl rfl rfl rfl rfl rfl ⟨rfl,rfl,rfl,rfl,rfl⟩ rfl rfl rfl rfl rfl (by kernel_rfl) Tryz.func6 y9j
  (of_decide_eq_true (by kernel_rfl)) (by unfold Func.isWrapper;first | (rw [if_pos (by decide +kernel)];kernel_rfl) | (rw [if_neg (by decide +kernel)];exact⟨rfl,rfl⟩))
  (fun os started H enc _=>y9i os started H enc)
theorem scanOrders_k12 :false=Rows.scanOrdersRow.goesBy Tryz.prog:=by kernel_rfl
theorem scanOrders_k13 : Tryz.prog.funcNamed "overseer/overseerlaw54.ScanOrders" = some 6 := by kernel_rfl
theorem scanOrders_k14 :(Tryz.f6.params.toList.all fun u=>!(Tryz.prog.wantsStandIn u))=true:=by kernel_rfl
theorem scanOrders_k15 :Rows.scanOrdersRow.wfByText (OpenSpec.ofChange Rows.scanOrdersSpec)=true:=by kernel_rfl
theorem scanOrders_card_holds :Rows.ScanOrdersCardSaid:=
 Claim7.holds_tied_plain_at .later [] [.data,.data,.data] true _ false
  y9R (fun _ h=>by cases h) scanOrders_k15 (fun _ h=>by cases h) scanOrders_row_tie rfl ⟨rfl,rfl⟩ (by kernel_rfl) rfl
  (fun f fn hf hfn=>by
   obtain rfl:f=6:=Option.some.inj (scanOrders_k13.symm.trans hf) |>.symm
   obtain rfl:fn=Tryz.f6:=(Option.some.inj (Tryz.func6.symm.trans hfn)).symm
   exact⟨ye3,fun j t ht=>by
    have hm:t∈Tryz.f6.params:=Array.mem_of_getElem? ht
    exact(show Tryz.prog.wantsStandIn t=false by simpa using List.all_eq_true.1 scanOrders_k14 t (Array.mem_toList_iff.2 hm))⟩)
  scanOrders_k12
end Go.Proofs.YtecmobjeeonmaaaGreatDoor
