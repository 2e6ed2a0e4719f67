/- Parts of the proof, without what nothing here names. -/
import Derived.Deep.DeepCutAuto
import Derived.StillTailTactics
import Derived.Shelf.Strings.Builder1
import Derived.Shelf.Strings.BuilderF
import Derived.Shelf.Strings.BuilderK
import Derived.Shelf.Strconv.Itoa0
import Derived.Shelf.Strconv.Itoa1
import Derived.Shelf.LaysM
import Derived.Shelf.Strconv.Itoa2
import Derived.Shelf.Strconv.Itoa3
import Derived.Test.YtfdeiphkmjdifaaGreatDoorProg
import Derived.Shelf.Sort.Plain
import Derived.Shelf.Slices.In.SortNone
import Derived.Shelf.SlSortCmp.NoneTotal
import Derived.Ground.SlsfProg
import Derived.Test.YtfdeiphkmjdifaaGreatDoorKt2
set_option maxRecDepth 100000
namespace Go.Proofs.YtfdeiphkmjdifaaGreatDoor
section
open Go.Proofs.Tryz Go.RowKit Go.Shelf
attribute [local go_sem] Oper.semAt_some
def ygY(B:Nat):Option LI→Value→World→Prop
 | some xs,u,w'=>∃v,u= .tuple #[v,.bool true]∧RdI w' v xs∧y8u B v
 | none,u,_=>u= .tuple #[.slice none 0 0,.bool false]
def ygZ(n:Nat)(a:Act)(w:World):Nat:=match a.tmps.getD 12 undef with
 | .pointer (some ad)=>n-(intOf ((w.cell? ad).getD undef)).toNat
 | _=>0
theorem yinfo_step :(prog.info? 350).map (fun i=>(i.zero,i.size,i.bytes))=some (some (.agg #[.int .i64 0,.int .i64 0,.int .i64 0]),3,24):=by kernel_rfl
set_option maxHeartbeats 4000000 in
theorem yh0(aa am ae af:Option Addr)(la lm ca cm ce cf:Nat)(n from_:Nat)(es:List Ed)(fw fp:FuncId)(capw capp:Array Value)(want:Int→Bool)(perm:Ed→Bool)(w:World)
  (hre:RdS w 3 ae es.length ce (y7h es)) (hrf:RdS w 1 af (n+1) cf (ints (y8B n es))) (hl:es.length≤1000000) (hn:n≤1000000) (hfrom:from_<n) (hin:∀x∈es,0≤x.t∧x.t<n)
  (hew:Enters prog fw) (hep:Enters prog fp)
  (hw:∀(s:Int) (W:World),0≤s→s<n→Below w.heap.size w W→Calls prog fw (#[.int .i64 s]++capw) W fun e w'=>e= .returned (.bool (want s))∧Below W.heap.size W w')
  (hp:∀(x:Ed) (W:World),x∈es→Below w.heap.size w W→Calls prog fp (#[x.val]++capp) W fun e w'=>e= .returned (.bool (perm x))∧Below W.heap.size W w'):
  Calls prog 237 #[.agg #[.slice aa la ca,.int .i64 n,.slice am lm cm,.slice ae es.length ce,.slice af (n+1) cf],.int .i64 from_,.func (.func fw) #[] capw,.func (.func fp) #[] capp] w
   (Ret w fun u w'=>ygY w.heap.size (pathF n es want perm from_) u w'):=by
 obtain⟨bf,offf,rfl,hcf⟩:=hrf.at_elem 0 (by omega);obtain⟨i0,hi,hz0,hz1,hz2⟩:=info_parts yinfo_bool;have hmk:=fun W:World=>run_make (P:=prog) W 177 4 i0 (.bool false) underlying177 hi hz0 .i64 .i64 (n:Int) (n:Int) (by omega) (by omega) (by rw [hz2];omega) (by omega);rw [hz1] at hmk;simp only [yTn,Nat.mul_one,Value.cells] at hmk;have hmc:(madeCells #[Value.bool false] n)[from_]? =some (.bool false):=by
  rw [←Array.getElem?_toList,toList_madeCells_one,List.getElem?_replicate,iP hfrom]
 have Hcf:=Lib.hid hcf;clear hcf;have Hw:=Lib.hid hw;have Hp:=Lib.hid hp;have Hin:=Lib.hid hin;have Hew:=Lib.hid hew;have Hep:=Lib.hid hep;clear hw hp hin hew hep;refine ycQ func237 rfl ?_;simp only [ntmps237,List.size_toArray,yLc,List.length_nil,Nat.reduceAdd,Nat.reduceSub,Array.replicate_succ,Array.replicate_zero,List.push_toArray,List.append_toArray,List.nil_append,List.cons_append]
 go_wp2_with fail
 clear hmk hmc;refine wp_loop (fun a' wr=>∃(v12 v13 v14 v15 v26 v27 v28 v29 v30 v31 v32 v33 v34 v35 v36 v37 v38 v39 v40 v41 v42 v43 v44 v45 v46 v47 v48 v49 v50 v51 v52 v53 v54 v55 v56 v57 v58 v59 v60 v61 v62 v63 v64 v65 v66 v67 v68 v69 v70 v71 v72 v73 v74 v75 v76 v77 v78 v79 v80 v81 v82 v83 v84 v85 v86 v87 v88 v89 v90 v91 v92 v93 v94:Value) (ds:List Deferred) (tag:Nat→Nat) (bi i:Nat) (vs:Value) (seen:List Bool) (steps:List St),v12= .pointer (some ⟨bi,0,none⟩)∧
   PInv w #[.slice aa la ca,.int .i64 n,.slice am lm cm,.slice ae es.length ce,.slice (some ⟨bf,offf,none⟩) (n+1) cf] (.func (.func fp) #[] capp) n ds wr tag bi i vs seen steps∧POk n seen steps∧i≤steps.length∧
   Hid (bfs (subOf es) want perm (n+1) 0 ((List.replicate n false).set from_ true) [⟨from_,-1,-1⟩]=bfs (subOf es) want perm (n+1-i) i seen steps)∧
   a'= { tmps:= #[Value.agg #[.slice aa la ca,.int .i64 n,.slice am lm cm,.slice ae es.length ce,.slice (some ⟨bf,offf,none⟩) (n+1) cf],Value.int .i64 from_,Value.func (.func fw) #[] capw,Value.func (.func fp) #[] capp,Value.pointer (some ⟨w.heap.size,0,none⟩),undef,undef,Value.pointer (some ⟨w.heap.size+1,0,none⟩),Value.slice none 0 0,Value.bool false,Value.pointer (some ⟨w.heap.size+1+1+1,0,none⟩),Value.pointer (some ⟨w.heap.size+1+1+1+1+1,0,none⟩),v12,v13,v14,v15,Value.int .i64 from_,Value.agg #[.int .i64 from_,.int .i64 (-1),.int .i64 (-1)],Value.slice (some ⟨w.heap.size+1+1,0,none⟩) 1 1,Value.pointer (some ⟨w.heap.size,0,none⟩),Value.pointer (some ⟨w.heap.size,1,none⟩),Value.int .i64 n,Value.slice (some ⟨w.heap.size+1+1+1+1,0,none⟩) n n,Value.slice (some ⟨w.heap.size+1+1+1+1,0,none⟩) n n,Value.int .i64 from_,Value.pointer (some ⟨w.heap.size+1+1+1+1,from_,none⟩),v26,v27,v28,v29,v30,v31,v32,v33,v34,v35,v36,v37,v38,v39,v40,v41,v42,v43,v44,v45,v46,v47,v48,v49,v50,v51,v52,v53,v54,v55,v56,v57,v58,v59,v60,v61,v62,v63,v64,v65,v66,v67,v68,v69,v70,v71,v72,v73,v74,v75,v76,v77,v78,v79,v80,v81,v82,v83,v84,v85,v86,v87,v88,v89,v90,v91,v92,v93,v94],defers:=ds }) (fun a' wr=>ygZ n a' wr) ?_ ?_
 ·repeat apply Exists.intro
  refine⟨rfl,(?_:PInv _ _ _ _ _ _ (fun b=>if b=w.heap.size+1+1 then 2 else if b=w.heap.size+1+1+1 then 3 else if b=w.heap.size+1+1+1+1 then 1 else if b=w.heap.size+1+1+1+1+1+1 then 4 else 0) _ 0 _ ((List.replicate n false).set from_ true) [⟨from_,-1,-1⟩]),POk.start n from_ hfrom,yZl _,rfl,rfl⟩;refine⟨(by (repeat (first | with_reducible exact Below.refl _ _|with_reducible exact hre|(with_reducible refine yR ?_ hre (by first | omega|(simp;done)|(simp;omega)|(simp at *;omega)))|(with_reducible refine Below.alloc ?_ (by first | omega|(simp;done)|(simp;omega)|(simp at *;omega)) _)|(with_reducible refine Below.drew ?_)|(with_reducible refine Below.setCell ?_ (by first | omega|(simp;done)|(simp;omega)|(simp at *;omega)) _)))),Marks.nil _ _,⟨(by repeat (first | with_reducible assumption|(refine y1f ?_)|(refine y4b ?_;(first | rfl|(simp;done)|(simp;omega)))|(refine y1E ?_ ?_;(next=>first | omega|(simp;done)|(simp;omega))))),(by (try dsimp only);(repeat' split);all_goals omega),by omega⟩,⟨(by repeat (first | with_reducible assumption|(refine y1f ?_)|(refine y4b ?_;(first | rfl|(simp;done)|(simp;omega)))|(refine y1E ?_ ?_;(next=>first | omega|(simp;done)|(simp;omega))))),(by (try dsimp only);(repeat' split);all_goals omega),by omega⟩,⟨(by repeat (first | with_reducible assumption|(refine y1f ?_)|(refine y4b ?_;(first | rfl|(simp;done)|(simp;omega)))|(refine y1E ?_ ?_;(next=>first | omega|(simp;done)|(simp;omega))))),(by (try dsimp only);(repeat' split);all_goals omega),by omega⟩,⟨by simp [y7j,St.cells],.inr ⟨_,0,1,_,rfl,⟨(by repeat (first | with_reducible assumption|(refine y1f ?_)|(refine y4b ?_;(first | rfl|(simp;done)|(simp;omega)))|(refine y1E ?_ ?_;(next=>first | omega|(simp;done)|(simp;omega))))),(by (try dsimp only);(repeat' split);all_goals omega),by omega⟩,yNr _,by simp [maxLen],by simp,by simp [y7j,St.cells]⟩⟩,⟨(by repeat (first | with_reducible assumption|(refine y1f ?_)|(refine y4b ?_;(first | rfl|(simp;done)|(simp;omega)))|(refine y1E ?_ ?_;(next=>first | omega|(simp;done)|(simp;omega))))),(by (try dsimp only);(repeat' split);all_goals omega),by omega⟩,⟨by simp,.inr ⟨_,0,n,_,rfl,⟨(by repeat (first | with_reducible assumption|(refine y1f ?_)|(refine y4b ?_;(first | rfl|(simp;done)|(simp;omega)))|(refine y1E ?_ ?_;(next=>first | omega|(simp;done)|(simp;omega))))),(by (try dsimp only);(repeat' split);all_goals omega),by omega⟩,yNr _,by unfold maxLen;omega,by simp [size_madeCells],?_⟩⟩,⟨(by repeat (first | with_reducible assumption|(refine y1f ?_)|(refine y4b ?_;(first | rfl|(simp;done)|(simp;omega)))|(refine y1E ?_ ?_;(next=>first | omega|(simp;done)|(simp;omega))))),(by (try dsimp only);(repeat' split);all_goals omega),by omega⟩⟩;rw [List.drop_zero,Nat.mul_one,List.take_of_length_le (by simp [size_madeCells]),Array.toList_setIfInBounds,toList_madeCells_one];simp
 ·intro _ wr h;obtain⟨v12,h⟩:=h;obtain⟨v13,h⟩:=h;obtain⟨v14,h⟩:=h;obtain⟨v15,h⟩:=h;obtain⟨v26,h⟩:=h;obtain⟨v27,h⟩:=h;obtain⟨v28,h⟩:=h;obtain⟨v29,h⟩:=h;obtain⟨v30,h⟩:=h;obtain⟨v31,h⟩:=h;obtain⟨v32,h⟩:=h;obtain⟨v33,h⟩:=h;obtain⟨v34,h⟩:=h;obtain⟨v35,h⟩:=h;obtain⟨v36,h⟩:=h;obtain⟨v37,h⟩:=h;obtain⟨v38,h⟩:=h;obtain⟨v39,h⟩:=h;obtain⟨v40,h⟩:=h;obtain⟨v41,h⟩:=h;obtain⟨v42,h⟩:=h;obtain⟨v43,h⟩:=h;obtain⟨v44,h⟩:=h;obtain⟨v45,h⟩:=h;obtain⟨v46,h⟩:=h;obtain⟨v47,h⟩:=h;obtain⟨v48,h⟩:=h;obtain⟨v49,h⟩:=h;obtain⟨v50,h⟩:=h;obtain⟨v51,h⟩:=h;obtain⟨v52,h⟩:=h;obtain⟨v53,h⟩:=h;obtain⟨v54,h⟩:=h;obtain⟨v55,h⟩:=h;obtain⟨v56,h⟩:=h;obtain⟨v57,h⟩:=h;obtain⟨v58,h⟩:=h;obtain⟨v59,h⟩:=h;obtain⟨v60,h⟩:=h;obtain⟨v61,h⟩:=h;obtain⟨v62,h⟩:=h;obtain⟨v63,h⟩:=h;obtain⟨v64,h⟩:=h;obtain⟨v65,h⟩:=h;obtain⟨v66,h⟩:=h;obtain⟨v67,h⟩:=h;obtain⟨v68,h⟩:=h;obtain⟨v69,h⟩:=h;obtain⟨v70,h⟩:=h;obtain⟨v71,h⟩:=h;obtain⟨v72,h⟩:=h;obtain⟨v73,h⟩:=h;obtain⟨v74,h⟩:=h;obtain⟨v75,h⟩:=h;obtain⟨v76,h⟩:=h;obtain⟨v77,h⟩:=h;obtain⟨v78,h⟩:=h;obtain⟨v79,h⟩:=h;obtain⟨v80,h⟩:=h;obtain⟨v81,h⟩:=h;obtain⟨v82,h⟩:=h;obtain⟨v83,h⟩:=h;obtain⟨v84,h⟩:=h;obtain⟨v85,h⟩:=h;obtain⟨v86,h⟩:=h;obtain⟨v87,h⟩:=h;obtain⟨v88,h⟩:=h;obtain⟨v89,h⟩:=h;obtain⟨v90,h⟩:=h;obtain⟨v91,h⟩:=h;obtain⟨v92,h⟩:=h;obtain⟨v93,h⟩:=h;obtain⟨v94,h⟩:=h;obtain⟨ds,tag,bi,i,vs,seen,steps,rfl,hI,hok,hi0,hbfs,rfl⟩:=h;have hsz:=hI.size;have k0:wr.cell? ⟨bi,0,none⟩=some (.int .i64 i):=hI.ib.cell 0;have k1:wr.cell? ⟨w.heap.size+1+1+1,0,none⟩=some vs:=hI.sb.cell 0;have Hk0:=Lib.hid k0;by_cases hlt:i<steps.length
  ·obtain ⟨bs,os,cs,rfl,hbs,s0,s1,s2⟩:=hI.st.at_step i hlt;have hen:∀args W,(callFunc fw args).run prog W= .ok (.enter fw args) W:=Hew.out;have hHen:=Lib.hid hen;clear hen;have hsr:=hok.range steps[i] (yGm hlt);cases hwant:want steps[i].s
   ·have Hwant:=Lib.hid hwant;clear hwant
    go_wp2_with fail
    rw [hHen.out,Oper.upon_enter];refine(Hw.out steps[i].s wr hsr.1 hsr.2 hI.below).mono ?_;rintro e w1 ⟨he,hb1⟩;rw [Hwant.out] at he;subst he;dsimp only;have hI1:=hI.call hb1;clear k0 k1 s0 s1 s2;have hsz1:=hI1.size;have k0:w1.cell? ⟨bi,0,none⟩=some (.int .i64 i):=hI1.ib.cell 0;obtain⟨bs',os',cs',e1,hbs',s0,s1,s2⟩:=hI1.st.at_step i hlt;cases e1;have k1:w1.cell? ⟨w.heap.size+1+1+1,0,none⟩=some (.slice (some ⟨bs,os,none⟩) steps.length cs):=hI1.sb.cell 0;have g0:w1.cell? ⟨w.heap.size,0,none⟩=some (Value.slice aa la ca):=hI1.g.cell 0;have g1:w1.cell? ⟨w.heap.size,1,none⟩=some (Value.int .i64 n):=hI1.g.cell 1;have g2:w1.cell? ⟨w.heap.size,2,none⟩=some (Value.slice am lm cm):=hI1.g.cell 2;have g3:w1.cell? ⟨w.heap.size,3,none⟩=some (Value.slice ae es.length ce):=hI1.g.cell 3;have g4:w1.cell? ⟨w.heap.size,4,none⟩=some (Value.slice (some ⟨bf,offf,none⟩) (n+1) cf):=hI1.g.cell 4
    go_wp2_with fail
    go_still_tail 6,(by kernel_rfl)
    change wpList _ _ _ _ _ w1.drew;have hI2:=hI1.call (y5G w1);clear g0 g1 g2 g3 g4 k0 k1 s0 s1 s2 hI1 hsz1 hb1 hbs' hbs hI;generalize w1.drew=w2 at *
    go_wp2_with (go_at_call 278;refine(ygS _ _ _ _ _ _ _ _ _ _ _ _ _ _ _).mono ?_;rintro e w3 ⟨rfl,rfl⟩)
    have hI3:=(hI2.call (y1F w2 (.cells #[.slice aa la ca,.int .i64 n,.slice am lm cm,.slice ae es.length ce,.slice (some ⟨bf,offf,none⟩) (n+1) cf] 315))).call (y1F _ (.cells #[.int .i64 steps[i].s] 3));have hg3:((w2.alloc (.cells #[.slice aa la ca,.int .i64 n,.slice am lm cm,.slice ae es.length ce,.slice (some ⟨bf,offf,none⟩) (n+1) cf] 315)).alloc (.cells #[.int .i64 steps[i].s] 3)).cell? ⟨w2.heap.size,3,none⟩=some (.slice ae es.length ce):=by simp [go_sem]
    have hg4:((w2.alloc (.cells #[.slice aa la ca,.int .i64 n,.slice am lm cm,.slice ae es.length ce,.slice (some ⟨bf,offf,none⟩) (n+1) cf] 315)).alloc (.cells #[.int .i64 steps[i].s] 3)).cell? ⟨w2.heap.size,4,none⟩=some (.slice (some ⟨bf,offf,none⟩) (n+1) cf):=by simp [go_sem]
    have hg5:((w2.alloc (.cells #[.slice aa la ca,.int .i64 n,.slice am lm cm,.slice ae es.length ce,.slice (some ⟨bf,offf,none⟩) (n+1) cf] 315)).alloc (.cells #[.int .i64 steps[i].s] 3)).cell? ⟨w2.heap.size+1,0,none⟩=some (.int .i64 steps[i].s):=by simp [go_sem]
    clear hI2;generalize (w2.alloc (.cells #[.slice aa la ca,.int .i64 n,.slice am lm cm,.slice ae es.length ce,.slice (some ⟨bf,offf,none⟩) (n+1) cf] 315)).alloc (.cells #[.int .i64 steps[i].s] 3)=w3 at *;have hfc:∀s:Nat,s≤n→w3.cell? ⟨bf,offf+s,none⟩=some (.int .i64 (fstN es s)):=by
     intro s hs;have h1:=Hcf.out s (by simp [y8B];omega);have h2:=yg9 n es s hs;rw [yGe (by simp [y8B];omega)] at h2;rw [ySi h2] at h1;exact keep0 hI3.below h1
    have hseq:=yf9 w2.heap.size (w2.heap.size+1) w.heap.size ae (some ⟨bf,offf,none⟩) ce (n+1) cf steps[i].s es (fstN es steps[i].s) (fstN es (steps[i].s+1)) (ygU es _ _ (by omega)) (yjs es _) hl w3 hI3.below.size hg3 hg4 hg5 hsr.1 (by omega) bf offf rfl (by omega)
     (by have:=hfc steps[i].s.toNat (by omega);rwa [Int.toNat_of_nonneg hsr.1] at this) (by have:=hfc (steps[i].s+1).toNat (by omega);rwa [Int.toNat_of_nonneg (by omega)] at this) (hre.mono hI3.below) (fun h0 ad e=>World.block_lt_of_cell? w ⟨ad.block,ad.off+0,none⟩ (hre.cell ad e 0 (by rw [hre.hlen];omega)))
    clear hg3 hg4 hg5 hfc;refine yi7 (bg:=w2.heap.size) (bs:=w2.heap.size+1) (n₀:=w.heap.size) rfl hseq (Below.refl _ _) hI3.below.size rfl
     (fun pre W=>(∀y∈pre,y∈subOf es steps[i].s)∧∃tag vs,PInv w #[.slice aa la ca,.int .i64 n,.slice am lm cm,.slice ae es.length ce,.slice (some ⟨bf,offf,none⟩) (n+1) cf] (.func (.func fp) #[] capp) n ds W tag bi i vs (pre.foldl (pStep perm i) (seen,steps)).1 (pre.foldl (pStep perm i) (seen,steps)).2)
     ?hI ⟨by simp,tag,_,hI3⟩
     (fun x a' W=>∃Bx,w.heap.size≤Bx∧W.heap[Bx]? =some (.cells #[.int .i64 x.f,.int .i64 x.e,.int .i64 x.t] 112 (0,0))∧a'= { tmps:= #[Value.agg #[.slice aa la ca,.int .i64 n,.slice am lm cm,.slice ae es.length ce,.slice (some ⟨bf,offf,none⟩) (n+1) cf],Value.int .i64 from_,Value.func (.func fw) #[] capw,Value.func (.func fp) #[] capp,Value.pointer (some ⟨w.heap.size,0,none⟩),undef,undef,Value.pointer (some ⟨w.heap.size+1,0,none⟩),Value.slice none 0 0,Value.bool false,Value.pointer (some ⟨w.heap.size+1+1+1,0,none⟩),Value.pointer (some ⟨w.heap.size+1+1+1+1+1,0,none⟩),Value.pointer (some ⟨bi,0,none⟩),v13,v14,Value.pointer (some ⟨Bx,0,none⟩),Value.int .i64 from_,Value.agg #[.int .i64 from_,.int .i64 (-1),.int .i64 (-1)],Value.slice (some ⟨w.heap.size+1+1,0,none⟩) 1 1,Value.pointer (some ⟨w.heap.size,0,none⟩),Value.pointer (some ⟨w.heap.size,1,none⟩),Value.int .i64 n,Value.slice (some ⟨w.heap.size+1+1+1+1,0,none⟩) n n,Value.slice (some ⟨w.heap.size+1+1+1+1,0,none⟩) n n,Value.int .i64 from_,Value.pointer (some ⟨w.heap.size+1+1+1+1,from_,none⟩),Value.int .i64 i,Value.slice (some ⟨bs,os,none⟩) steps.length cs,Value.int .i64 steps.length,Value.bool true,v30,v31,Value.func (.func fw) #[] capw,Value.slice (some ⟨bs,os,none⟩) steps.length cs,Value.int .i64 i,Value.pointer (some ⟨bs,os+i*3,none⟩),Value.pointer (some ⟨bs,os+i*3,none⟩),Value.int .i64 steps[i].s,Value.bool false,v39,v40,v41,v42,v43,v44,v45,v46,v47,v48,v49,v50,v51,v52,v53,v54,v55,v56,v57,v58,v59,v60,v61,Value.agg #[.slice aa la ca,.int .i64 n,.slice am lm cm,.slice ae es.length ce,.slice (some ⟨bf,offf,none⟩) (n+1) cf],Value.slice (some ⟨bs,os,none⟩) steps.length cs,Value.int .i64 i,Value.pointer (some ⟨bs,os+i*3,none⟩),Value.pointer (some ⟨bs,os+i*3,none⟩),Value.int .i64 steps[i].s,Value.func (.func 307) #[] #[.pointer (some ⟨w2.heap.size,0,none⟩),.pointer (some ⟨w2.heap.size+1,0,none⟩)],Value.agg #[.int .i64 x.f,.int .i64 x.e,.int .i64 x.t],v70,v71,v72,v73,v74,v75,v76,v77,v78,v79,v80,v81,v82,v83,v84,v85,v86,v87,v88,v89,v90,v91,v92,v93,v94],defers:=[] })
     ?hAx ?assign ?body ?done
    case hI=>
     intro pre W W' row h1 hg hr;obtain⟨h1,tag,vs,h2⟩:=h1;exact⟨h1,tag,vs,h2.others hg (fun D hD=>hI3.marks.lt hD) hI3.below.size hr⟩
    case hAx=>
     intro x a' u W W' row h1 hg hr;obtain⟨Bx,h1,h2,h3⟩:=h1;refine⟨Bx,h1,(hg.block Bx (yAs.1 h2).1 (fun e=>?_)).trans h2,h3⟩;obtain⟨o,ho,hc⟩:=(hr Bx e.symm).2;rw [h2] at ho;cases ho;cases hc
    case assign=>
     intro l pre x W K hx hiW hK;dsimp only [Ed.val]
     gi_wp2
     refine hK _ _ ((KeepsOthers.alloc _ _).from _) ((Below.refl _ W).alloc ?_ _) ?_ ⟨W.heap.size,?_,(by repeat (first | with_reducible assumption|(refine y1f ?_)|(refine y4b ?_;(first | rfl|(simp;done)|(simp;omega)))|(refine y1E ?_ ?_;(next=>first | omega|(simp;done)|(simp;omega))))),rfl⟩
     ·obtain ⟨_,_,_,h2⟩:=hiW;exact h2.below.size
     ·obtain ⟨h1,tag,vs,h2⟩:=hiW;exact⟨h1,tag,vs,h2.call (y1F _ _)⟩
     ·obtain ⟨_,_,_,h2⟩:=hiW;exact h2.below.size
    case body=>
     rintro l pre x a' W hx hl ⟨hpre,tag,vs,hJ⟩ ⟨Bx,hBx,hbx,rfl⟩;have hJ2:=hJ.retag hbx;have hOx:Own W w.heap.size (tagUp tag Bx 5) 5 Bx #[.int .i64 x.f,.int .i64 x.e,.int .i64 x.t] 112:=⟨hbx,y4R _ _ _,hBx⟩;have hxe:=yaL hx;have hxr:=Hin.out x hxe;obtain⟨hok',hi'⟩:=POk.fold (perm:=perm) pre hok hlt (fun y hy=>Hin.out y (yaL (hpre y hy)));have Hmem:Hid (∀y∈pre++[x],y∈subOf es steps[i].s):=by
      intro y hy;rcases yMa.1 hy with h1|h1
      ·exact hpre y h1
      ·rw [yMs.1 h1];exact hx
     have Hacc:Hid ((pre++[x]).foldl (pStep perm i) (seen,steps)=pStep perm i (pre.foldl (pStep perm i) (seen,steps)) x):=by
      show _=_;rw [List.foldl_append];rfl
     clear hpre hx hJ;generalize pre.foldl (pStep perm i) (seen,steps)=acc at *;obtain⟨se,st⟩:=acc;dsimp only at hJ2 hok' hi';have hszW:=hJ2.size;have hBW:=hJ2.below.size;have hBxl:=hOx.lt;have x0:W.cell? ⟨Bx,0,none⟩=some (.int .i64 x.f):=hOx.cell 0;have x1:W.cell? ⟨Bx,1,none⟩=some (.int .i64 x.e):=hOx.cell 1;have x2:W.cell? ⟨Bx,2,none⟩=some (.int .i64 x.t):=hOx.cell 2;have e0:W.cell? ⟨w.heap.size+1+1+1+1+1,0,none⟩=some (.slice (some ⟨w.heap.size+1+1+1+1,0,none⟩) n n):=hJ2.eb.cell 0;have hlen:=hok'.len;have e1:=hJ2.se.cellAt x.t.toNat (by omega);have hq:x.t.toNat<se.length:=by omega
     clear hlen;rw [List.getElem?_map,yGe hq,yNz,Option.map_some] at e1;cases hb:se[x.t.toNat]
     ·rw [hb] at e1;have e2:W.cell? ⟨w.heap.size+1,0,none⟩=some (.func (.func fp) #[] capp):=hJ2.fp.cell 0;have Hb:=Lib.hid hb;clear hb;have hHep:Hid (∀args W,(callFunc fp args).run prog W= .ok (.enter fp args) W):=Hep.out;cases hpx:perm x
      ·have Hpx:=Lib.hid hpx;clear hpx
       gi_wp2_with fail
       refine⟨trivial,?_⟩;rw [hHep.out,Oper.uponIn_enter];refine⟨fun _=>by decide,?_⟩;refine(CallsIn.inRound l (callsIn_wide.2 (Hp.out x W hxe hJ2.below))).mono ?_;rintro e w4 ⟨he,hb4⟩;rw [Hpx.out] at he;subst he;dsimp only
       gi_wp2
       refine⟨(ya2 hb4),yR (Below.refl _ _) hb4 hJ2.below.size,Hmem.out,tagUp tag Bx 5,vs,?_⟩;rw [Hacc.out,show pStep perm i (se,st) x=(se,st) from ?_]
       ·exact hJ2.call hb4
       ·unfold pStep;rw [iN];rw [Hpx.out];simp
      ·have Hpx:=Lib.hid hpx;clear hpx
       gi_wp2_with fail
       refine⟨trivial,?_⟩;rw [hHep.out,Oper.uponIn_enter];refine⟨fun _=>by decide,?_⟩;refine(CallsIn.inRound l (callsIn_wide.2 (Hp.out x W hxe hJ2.below))).mono ?_;rintro e w4 ⟨he,hb4⟩;rw [Hpx.out] at he;subst he;dsimp only;have hJ4:=hJ2.call hb4;have hO4:=hOx.below hb4;obtain⟨avs,cvs,rfl⟩:=hJ4.st.val;clear x0 x1 x2 e0 e1 e2 hJ2 hOx;have hle:=hok'.le;have hszW4:=hJ4.size;have hBxl4:=hO4.lt;have x2:w4.cell? ⟨Bx,2,none⟩=some (.int .i64 x.t):=hO4.cell 2;have e0:w4.cell? ⟨w.heap.size+1+1+1+1+1,0,none⟩=some (.slice (some ⟨w.heap.size+1+1+1+1,0,none⟩) n n):=hJ4.eb.cell 0;have e1:=hJ4.se.cellAt x.t.toNat (by omega);rw [List.getElem?_map,yGe hq,yNz,Option.map_some] at e1;have e2:=hJ4.se.frozenAt x.t.toNat;obtain⟨hJ5,t5⟩:=hJ4.setSeen x.t.toNat;have hO5:=hO4.turn t5 (by decide);have y1:(w4.setCell ⟨w.heap.size+1+1+1+1,x.t.toNat,none⟩ (.bool true)).cell? ⟨Bx,1,none⟩=some (.int .i64 x.e):=hO5.cell 1;have y2:(w4.setCell ⟨w.heap.size+1+1+1+1,x.t.toNat,none⟩ (.bool true)).cell? ⟨Bx,2,none⟩=some (.int .i64 x.t):=hO5.cell 2;have y3:(w4.setCell ⟨w.heap.size+1+1+1+1,x.t.toNat,none⟩ (.bool true)).cell? ⟨w.heap.size+1+1+1,0,none⟩=some (.slice avs st.length cvs):=hJ5.sb.cell 0;have y4:(w4.setCell ⟨w.heap.size+1+1+1+1,x.t.toNat,none⟩ (.bool true)).cell? ⟨bi,0,none⟩=some (.int .i64 i):=hJ5.ib.cell 0;have T5:=Lib.hid t5;clear t5 hO5 hJ4 hO4;obtain⟨i1,hi1,hw0,hw1,hw2⟩:=info_parts yinfo_step;have hJ6:=hJ5.call (y1F _ (.cells #[.int .i64 x.t,.int .i64 i,.int .i64 x.e] 350))
       gi_wp2_with (gi_at_builtin;(refine yaw rfl _ _ 351 rfl 350 i1 (.agg #[.int .i64 0,.int .i64 0,.int .i64 0]) 24 underlying351 hi1 hw0 hw1 hw2 rfl rfl hJ6.st (some ⟨_,0,none⟩) 1 1 [.int .i64 x.t,.int .i64 i,.int .i64 x.e] rfl rfl (by simp) (fun ad e=>by cases e;exact y8A _ _ (by simp)) (by simp [Value.oneCell']) (by unfold maxLen;omega) (by omega) hJ6.below.size ?_);intro v6 w6 tag6 hr6 ht6;have hJ7:=hJ6.push (x:=⟨x.t,i,x.e⟩) hr6 ht6;have s6:=hJ6.sb.turn ht6 (by decide);obtain⟨a6,c6,rfl⟩:=hr6.val;have z0:=s6.cell 0;have z1:=s6.frozen 0;have z2:w6.cell? ⟨w.heap.size+1+1+1,0,none⟩=some (.slice avs st.length cvs):=z0;clear z0)
       refine⟨(ya2 hb4).trans ((yaK T5.out).trans ((ya2 (y1F _ (.cells #[.int .i64 x.t,.int .i64 i,.int .i64 x.e] 350))).trans ((yaK ht6).trans (yaK (Turn.setCell s6 0 (.slice a6 (st.length+1) c6)))))),?_,Hmem.out,tag6,.slice a6 (st.length+1) c6,?_⟩
       ·have q1:=yR (Below.refl w.heap.size W) hb4 hBW;have q2:=y2A q1 T5.out (Nat.le_trans hBW hb4.size);have q3:=yR q2 (y1F _ (.cells #[.int .i64 x.t,.int .i64 i,.int .i64 x.e] 350)) (Nat.le_trans hBW q2.size);have q4:=y2A q3 ht6 (Nat.le_trans hBW q3.size);exact y2A q4 (Turn.setCell s6 0 (.slice a6 (st.length+1) c6)) (Nat.le_trans hBW q4.size)
       ·rw [Hacc.out,show pStep perm i (se,st) x=(se.set x.t.toNat true,st++[⟨x.t,i,x.e⟩]) from ?_]
        ·exact hJ7
        ·unfold pStep;rw [iP];dsimp only;rw [yGe hq,Hb.out,Hpx.out];exact⟨rfl,rfl⟩
     ·rw [hb] at e1;have Hb:=Lib.hid hb;clear hb
      gi_wp2
      refine⟨fun _ h=>(by cases h),?_⟩
      gi_wp2
      refine⟨KeepsFrom.refl _ _,Below.refl _ _,Hmem.out,tagUp tag Bx 5,vs,?_⟩;rw [Hacc.out,show pStep perm i (se,st) x=(se,st) from ?_]
      ·exact hJ2
      ·unfold pStep;rw [iN];dsimp only;rw [yGe hq,Hb.out];simp
    case done=>
     rintro D W hD ⟨hpre,tag',vs',hW⟩ hd;have hW2:=hW.mark (fun D' hD'=>hI3.marks.lt hD') hD hI3.below.size hd;have hszW:=hW2.size;have hibl:=hW2.ib.lt;have k2:W.cell? ⟨bi,0,none⟩=some (.int .i64 i):=hW2.ib.cell 0;have hile:=hok.le;have Hfin:=Lib.hid (hW2.newI (i+1));obtain⟨hok',hi'⟩:=POk.fold (perm:=perm) (subOf es steps[i].s) hok hlt (fun y hy=>Hin.out y (yaL hy));have Hb2:Hid (bfs (subOf es) want perm (n+1-i) i seen steps=bfs (subOf es) want perm (n+1-(i+1)) (i+1) ((subOf es steps[i].s).foldl (pStep perm i) (seen,steps)).1 ((subOf es steps[i].s).foldl (pStep perm i) (seen,steps)).2):=by
      show _=_;rw [show n+1-i=n-i+1 by omega,yeb hlt Hwant.out,show n+1-(i+1)=n-i by omega]
     clear hpre hseq hd hW hW2
     go_wp2_with fail
     refine⟨?_,?_⟩
     ·repeat apply Exists.intro
      exact⟨rfl,Hfin.out,hok',hi',hbfs.out.trans Hb2.out,rfl⟩
     ·unfold ygZ;have Hk:=Hk0.out;simp [Hk,intOf];omega
   ·have Hwant:=Lib.hid hwant;clear hwant
    go_wp2_with fail
    rw [hHen.out,Oper.upon_enter];refine(Hw.out steps[i].s wr hsr.1 hsr.2 hI.below).mono ?_;rintro e w1 ⟨he,hb1⟩;rw [Hwant.out] at he;subst he;dsimp only;have hI1:=hI.call hb1;clear k0 k1 s0 s1 s2 hI hb1 hbs;have hsz1:=hI1.size;have k0:w1.cell? ⟨bi,0,none⟩=some (.int .i64 i):=hI1.ib.cell 0;have hile:=hok.le;have Hpath:Hid (pathF n es want perm from_=some (back steps (i+1) i).reverse):=by
     show _=_;unfold pathF;rw [hbfs.out,show n+1-i=n-i+1 by omega,ydk hlt Hwant.out];rfl
    obtain⟨i2,hi2,hy0,hy1,hy2⟩:=info_parts yinfo_int
    go_wp2_with fail
    go_loopw [13,14] (fun v k wr'=>∃(xs:LI) (kk f:Nat) (tag':Nat→Nat),k= .int .i64 kk∧Row wr' w.heap.size tag' 6 3 1 v xs.length (ints xs)∧xs.length+kk≤i∧kk<f∧Hid (back steps (i+1) i=xs++back steps f kk)∧
     PInv w #[.slice aa la ca,.int .i64 n,.slice am lm cm,.slice ae es.length ce,.slice (some ⟨bf,offf,none⟩) (n+1) cf] (.func (.func fp) #[] capp) n ds wr' tag' bi i (.slice (some ⟨bs,os,none⟩) steps.length cs) seen steps) (fun _ k _=>(intOf k).toNat)
    case atStart=>exact⟨[],i,i+1,tag,rfl,Row.nil _ _ _ _ _ _,by simp,by omega,by simp [Hid],hI1⟩
    case round=>
     clear hI1 hsz1 k0;obtain⟨xs,kk,f,tag',rfl,hv,hxk,hkf,hbk,hI4⟩:=hrel;obtain⟨bs',os',cs',e1,hbs',s0,s1,s2⟩:=hI4.st.at_step kk (by omega);cases e1;have hsz4:=hI4.size;have k1:wr.cell? ⟨w.heap.size+1+1+1,0,none⟩=some (.slice (some ⟨bs,os,none⟩) steps.length cs):=hI4.sb.cell 0;have hpar:=hok.parent kk (by omega);obtain⟨av,cv,rfl⟩:=hv.val;by_cases hp:0≤steps[kk].p
     ·obtain ⟨kp,hkp⟩:=Int.eq_ofNat_of_zero_le hp;have Hnext:Hid (back steps f kk=steps[kk].e::back steps (f-1) kp):=by
       show _=_;obtain⟨f',rfl⟩:∃f',f=f'+1:=⟨f-1,by omega⟩;rw [ygV (by omega) hp,hkp];rfl
      have hkk:kp<kk:=by omega
      rw [hkp] at s1;have Hkp:=Lib.hid hkp;clear hkp hp hpar;generalize steps[kk].e=ev at *;have hv2:=hv.below (y1F wr (.cells #[.int .i64 ev] 3));have hI5:=hI4.call (y1F wr (.cells #[.int .i64 ev] 3))
      go_wp2_with (at_builtin;refine ybf rfl _ _ 26 rfl 3 i2 (.int .i64 0) 8 underlying26 hi2 hy0 hy1 hy2 rfl rfl hv2 (some ⟨_,0,none⟩) 1 1 [.int .i64 ev] rfl rfl (by simp) (fun ad e=>by cases e;exact y8A _ _ rfl) (by simp [Value.oneCell']) (by unfold maxLen;omega) (by omega) hI5.below.size ?_;intro v6 w6 tag6 hr6 ht6;have hI6:=hI5.turn ht6 (by decide);have q1:w6.cell? ⟨w.heap.size+1+1+1,0,none⟩=some (.slice (some ⟨bs,os,none⟩) steps.length cs):=hI6.sb.cell 0;obtain⟨bs6,os6,cs6,e6,hbs6,r0,r1,r2⟩:=hI6.st.at_step kk (by omega);cases e6;rw [Hkp.out] at r1;clear r0 r2)
      go_roundw
      case rel=>
       refine⟨xs++[ev],kp,f-1,tag6,rfl,?_,by simp;omega,by omega,?_,hI6⟩
       ·have h1:=hr6;rw [yLa];simpa [ints] using h1
       ·show _=_;rw [hbk.out,Hnext.out];simp
      case measure=>simp [intOf];omega
     ·have Hend:Hid (back steps f kk= []):=by
       show _=_;obtain⟨f',rfl⟩:∃f',f=f'+1:=⟨f-1,by omega⟩;exact yi8 (by omega) (by omega)
      have hp':steps[kk].p<0:=by omega
      go_wp2_with (go_at_call 205;refine(yfa _ xs _ w.heap.size tag' 6 hv (by omega)).mono ?_;rintro e w7 ⟨⟨r,rfl⟩,hv7,ht7⟩)
      refine yat (hI4.turn ht7 (by decide)).marks (fun w' hq=>⟨.tuple #[.slice av xs.length cv,.bool true],by simp [results,results237,go_sem],_,rfl,?_,(hI4.turn ht7 (by decide)).below.trans hq.below⟩);rw [Hpath.out,hbk.out,Hend.out,List.append_nil];have h9:=hq.row hv7;have h10:Row w' w.heap.size tag' 6 3 1 (.slice av xs.length cv) xs.reverse.length (ints xs.reverse):=by rw [List.length_reverse];exact h9
      exact⟨_,rfl,h10.rdI,h10.frs⟩
  ·have hie:i=steps.length:=by omega
   have Hpath:Hid (pathF n es want perm from_=none):=by
    show _=_;have:=hok.le;unfold pathF;rw [hbfs.out,show n+1-i=n-i+1 by omega,yft (by omega)];rfl
   clear hie;obtain⟨av,cv,rfl⟩:=hI.st.val
   go_wp2_with fail
   refine yat hI.marks (fun w' hq=>⟨.tuple #[.slice none 0 0,.bool false],by simp [results,results237,go_sem],_,rfl,?_,hI.below.trans hq.below⟩);rw [Hpath.out];rfl
end
section
open Go.Proofs.Tryz
def inL(es:List Ed)(s:Nat):LI:=(es.filter fun x=>decide (x.t=(s:Int))).map Ed.f
theorem ya3(es:List Ed)(x:Ed)(s:Nat)(h:x.t=(s:Int)):inL (es++[x]) s=inL es s++[x.f]:=by simp [inL,h]
theorem ydl(es:List Ed)(x:Ed)(s:Nat)(h:¬x.t=(s:Int)):inL (es++[x]) s=inL es s:=by simp [inL,h]
theorem ykl(es:List Ed)(s:Nat):(inL es s).length≤es.length:=by
 unfold inL;rw [yLm];exact List.length_filter_le _ _
theorem yfu{es:List Ed}{s:Nat}{p:Int}(h:p∈inL es s):∃x∈es,x.f=p∧x.t=(s:Int):=by
 unfold inL at h;obtain⟨x,hx,rfl⟩:=yMp.1 h;obtain⟨h1,h2⟩:=List.mem_filter.1 hx;exact⟨x,h1,rfl,by simpa using h2⟩
def bStep(s:Nat)(acc:LI×LI)(p:Int):LI×LI:=
 if acc.1.getD p.toNat 0<0 then(acc.1.set p.toNat (acc.1.getD s 0+1),acc.2++[p]) else acc
def bwd(inn:Nat→LI):Nat→LI→LI→LI
 | 0,ds,_=>ds
 | _+1,ds,[]=>ds
 | f+1,ds,s::q=>bwd inn f ((inn s.toNat).foldl (bStep s.toNat) (ds,q)).1 ((inn s.toNat).foldl (bStep s.toNat) (ds,q)).2
def negs(ds:LI):Nat:=ds.countP fun d=>decide (d<0)
structure BOk (n:Nat) (ds q:LI):Prop where
 len:ds.length=n
 lo:∀d∈ds,-1≤d∧d≤1000000-negs ds
 qr:∀s∈q,0≤s∧s<n
 nn:∀s∈q,0≤ds.getD s.toNat 0
theorem yee{ds:LI}{p:Nat}{d:Int}(hp:p<ds.length)(h:ds[p]<0)(hd:0≤d):negs (ds.set p d)+1=negs ds:=by
 unfold negs
 induction ds generalizing p with
 | nil=>simp at hp
 | cons a l ih=>
  cases p with
  | zero=>
   simp only [List.set_cons_zero,List.countP_cons,List.getElem_cons_zero] at h ⊢;rw [decide_eq_true h,decide_eq_false (by omega)];simp
  | succ p=>
   simp only [List.set_cons_succ,List.countP_cons];have:=ih (p:=p) (by simpa using hp) (by simpa using h);omega
theorem y7J{ds:LI}{p s:Nat}{d:Int}(h:p≠s):(ds.set p d).getD s 0=ds.getD s 0:=by
 simp [yGd,List.getElem?_set_ne h]
theorem BOk.step{n s:Nat}{ds q:LI}(h:BOk n ds q)(hs:s<n)(h0:0≤ds.getD s 0)(p:Int)(hp0:0≤p)(hp1:p<n):
  BOk n (bStep s (ds,q) p).1 (bStep s (ds,q) p).2∧0≤(bStep s (ds,q) p).1.getD s 0∧2*negs (bStep s (ds,q) p).1+(bStep s (ds,q) p).2.length≤2*negs ds+q.length:=by
 unfold bStep;dsimp only;have hpl:p.toNat<ds.length:=by rw [h.len];omega
 split
 ·rename_i hc;rw [yGd,yGe hpl,Option.getD_some] at hc;have hsl:s<ds.length:=by rw [h.len];exact hs
  have hds:ds.getD s 0∈ds:=by rw [yGd,yGe hsl];exact yGm _
  have hn:=yee hpl hc (d:=ds.getD s 0+1) (by omega);have hne:p.toNat≠s:=by
   rintro rfl;rw [yGd,yGe hpl,Option.getD_some] at h0;omega
  have hset:∀t:Nat,t<ds.length→0≤ds.getD t 0∨t=p.toNat→0≤(ds.set p.toNat (ds.getD s 0+1)).getD t 0:=by
   intro t ht h2;by_cases e:p.toNat=t
   ·subst e;rw [yGd,List.getElem?_set_self hpl,Option.getD_some];omega
   ·rw [y7J e];exact h2.resolve_right (fun h3=>e h3.symm)
  refine⟨⟨by simp [h.len],fun d hd=>?_,fun t ht=>?_,fun t ht=>?_⟩,?_,?_⟩
  ·dsimp only at hd ⊢;rcases List.mem_or_eq_of_mem_set hd with h1|h1
   ·have:=h.lo d h1;omega
   ·have:=h.lo _ hds;omega
  ·dsimp only at ht;rcases yMa.1 ht with h1|h1
   ·exact h.qr t h1
   ·rw [yMs.1 h1];exact⟨hp0,hp1⟩
  ·dsimp only at ht ⊢;rcases yMa.1 ht with h1|h1
   ·exact hset _ (by have:=h.qr t h1;rw [h.len];omega) (.inl (h.nn t h1))
   ·rw [yMs.1 h1];exact hset _ hpl (.inr rfl)
  ·dsimp only;rw [y7J hne];exact h0
  ·dsimp only;rw [yLa,List.length_singleton];omega
 ·exact ⟨h,h0,yNr _⟩
theorem BOk.fold{n s:Nat}(hs:s<n):∀(l:LI) {ds q:LI},BOk n ds q→0≤ds.getD s 0→(∀p∈l,0≤p∧p<(n:Int))→
  BOk n (l.foldl (bStep s) (ds,q)).1 (l.foldl (bStep s) (ds,q)).2∧0≤(l.foldl (bStep s) (ds,q)).1.getD s 0∧2*negs (l.foldl (bStep s) (ds,q)).1+(l.foldl (bStep s) (ds,q)).2.length≤2*negs ds+q.length
 | [],_,_,h,h0,_=>⟨h,h0,yNr _⟩
 | p::l,ds,q,h,h0,hp=>by
  obtain⟨h1,h2,h3⟩:=h.step hs h0 p (hp p (yMc ..)).1 (hp p (yMc ..)).2;obtain⟨g1,g2,g3⟩:=BOk.fold hs l h1 h2 (fun y hy=>hp y (yMm _ hy));exact⟨g1,g2,Nat.le_trans g3 h3⟩
def y1w(n:Nat)(tg:LI):LI:=tg.foldl (fun ds (s:Int)=>ds.set s.toNat 0) (List.replicate n (-1))
def y2V(n:Nat)(es:List Ed)(tg:LI):LI:=bwd (inL es) (2*negs (y1w n tg)+tg.length+1) (y1w n tg) tg
theorem ybk :∀(l:LI) (ds:LI) (i:Nat),i<ds.length→(∀s∈l,0≤s)→(l.foldl (fun ds (s:Int)=>ds.set s.toNat 0) ds).getD i 0=if(i:Int)∈l then 0 else ds.getD i 0
 | [],ds,i,_,_=>by simp
 | s::l,ds,i,hi,hs=>by
  rw [List.foldl_cons,ybk l (ds.set s.toNat 0) i (by simpa using hi) (fun t ht=>hs t (yMm _ ht))];have h0:=hs s (yMc ..);by_cases h1:(i:Int)∈l
  ·rw [iP h1,iP (yMm _ h1)]
  ·rw [iN h1];by_cases h2:(i:Int)=s
   ·have:s.toNat=i:=by omega
    rw [iP (by rw [h2];exact yMc ..),this,yGd,List.getElem?_set_self hi];rfl
   ·rw [iN (by simp [h1,h2]),y7J (by omega)]
theorem y9D :∀(l:LI) (ds:LI),(l.foldl (fun ds (s:Int)=>ds.set s.toNat 0) ds).length=ds.length
 | [],_=>rfl
 | s::l,ds=>by rw [List.foldl_cons,y9D];simp
theorem y8b(n:Nat)(tg:LI):(y1w n tg).length=n:=by rw [y1w,y9D];simp
theorem ya4(n:Nat)(tg:LI)(h:∀s∈tg,0≤s)(i:Nat)(hi:i<n):(y1w n tg).getD i 0=if(i:Int)∈tg then 0 else -1:=by
 rw [y1w,ybk tg _ i (by simpa using hi) h,yGd,List.getElem?_replicate,iP hi];rfl
theorem ycR(ds:LI):negs ds≤ds.length:=List.countP_le_length
theorem BOk.start(n:Nat)(tg:LI)(hn:n≤1000000)(h:∀s∈tg,0≤s∧s<n):BOk n (y1w n tg) tg:=by
 have hl:=y8b n tg;refine⟨hl,fun d hd=>?_,h,fun s hs=>?_⟩
 ·obtain ⟨i,hi,rfl⟩:=yGo hd;have h1:=ya4 n tg (fun s hs=>(h s hs).1) i (by omega);rw [yGd,yGe hi,Option.getD_some] at h1;have:=ycR (y1w n tg);rw [h1];split <;> omega
 ·have h1:=h s hs;rw [ya4 n tg (fun s hs=>(h s hs).1) s.toNat (by omega),iP (by rw [Int.toNat_of_nonneg h1.1];exact hs)];exact Int.le_refl 0
theorem BOk.pop{n:Nat}{ds q:LI}{s:Int}(h:BOk n ds (s::q)):BOk n ds q:=⟨h.len,h.lo,fun t ht=>h.qr t (yMm _ ht),fun t ht=>h.nn t (yMm _ ht)⟩
theorem yaM{es:List Ed}{n s:Nat}(h:∀x∈es,0≤x.f∧x.f<n∧0≤x.t∧x.t<(n:Int)):∀p∈inL es s,0≤p∧p<(n:Int):=by
 intro p hp;obtain⟨x,hx,rfl,_⟩:=yfu hp;exact⟨(h x hx).1,(h x hx).2.1⟩
end
section
open Go.Proofs.Tryz Go.RowKit
theorem y7K{n:Int}:∀{p:Option Int} {xs:LI},ym n p xs=0→∀x∈xs,0≤x∧x<n
 | _,[],_,x,hx=>by cases hx
 | p,y::ys,h,x,hx=>by
  rw [ym] at h;split at h
  ·cases h
  ·rename_i h1;split at h
   ·cases h
   ·rcases yMo.1 hx with rfl|h2
    ·omega
    ·exact y7K h x h2
theorem ycb{al:LI}{n:Int}:∀{p:Option Ed} {xs:List Ed},edErr al n p xs=0→∀x∈xs,0≤x.f∧x.f<n∧0≤x.t∧x.t<n
 | _,[],_,x,hx=>by cases hx
 | p,y::ys,h,x,hx=>by
  rw [edErr] at h;split at h
  ·cases h
  ·rename_i h1;split at h
   ·cases h
   ·split at h
    ·cases h
    ·rcases yMo.1 hx with rfl|h2
     ·omega
     ·exact ycb h x h2
structure Aut.Ok (a:Aut):Prop where
 n0:0≤a.n
 n1:a.n≤4096
 ms:∀s∈a.ms,0≤s∧s<a.n
 es:∀x∈a.es,0≤x.f∧x.f<a.n∧0≤x.t∧x.t<a.n
theorem Aut.ok_of{a:Aut}(h:a.err=0):a.Ok:=by
 unfold Aut.err at h;split at h
 ·rename_i h1;rw [h] at h1;cases h1
 ·split at h
  ·cases h
  ·split at h
   ·cases h
   ·split at h
    ·rename_i h1;rw [h] at h1;cases h1
    ·rename_i h1 h2 h3 h4;have h5:ym a.n none a.ms=0:=by simpa using h4
     exact⟨by omega,by omega,y7K h5,ycb h⟩
theorem y9f(aa am ae:Option Addr)(la lm le ca cm ce:Nat)(n:Int)(v:Value)(xs:LI)(w:World)(hr:RdI w v xs)(hl:xs.length≤1000000):
  Calls prog 234 #[.agg #[.slice aa la ca,.int .i64 n,.slice am lm cm,.slice ae le ce],v] w (Ret w fun u _=>u= .int .i64 (ym n none xs)):=by
 go_enter func234,ntmps234
 go_wp2_with (go_at_call 277;((with_reducible refine(ydU _ _ _ _ (hr.mono (by (repeat (first | with_reducible exact Below.refl _ _|with_reducible exact hr|(with_reducible refine yR ?_ hr (by first | omega|(simp;done)|(simp;omega)|(simp at *;omega)))|(with_reducible refine Below.alloc ?_ (by first | omega|(simp;done)|(simp;omega)|(simp at *;omega)) _)|(with_reducible refine Below.drew ?_)|(with_reducible refine Below.setCell ?_ (by first | omega|(simp;done)|(simp;omega)|(simp at *;omega)) _))))) hl).mono ?_);rintro e w1 ⟨rfl,rfl⟩))
 go_ret
 exact⟨_,rfl,rfl,(by (repeat (first | with_reducible exact Below.refl _ _|with_reducible exact hr|(with_reducible refine yR ?_ hr (by first | omega|(simp;done)|(simp;omega)|(simp at *;omega)))|(with_reducible refine Below.alloc ?_ (by first | omega|(simp;done)|(simp;omega)|(simp at *;omega)) _)|(with_reducible refine Below.drew ?_)|(with_reducible refine Below.setCell ?_ (by first | omega|(simp;done)|(simp;omega)|(simp at *;omega)) _))))⟩
theorem box4{w w1:World}{c0 c1 c2 c3:Value}{t:TypeId}(hb:Below (w.alloc (.cells #[c0,c1,c2,c3] t)).heap.size (w.alloc (.cells #[c0,c1,c2,c3] t)) w1):
  w1.cell? ⟨w.heap.size,0,none⟩=some c0∧w1.cell? ⟨w.heap.size,1,none⟩=some c1∧w1.cell? ⟨w.heap.size,2,none⟩=some c2∧w1.cell? ⟨w.heap.size,3,none⟩=some c3∧w.heap.size<w1.heap.size:=
 ⟨keep0 hb (by simp [go_sem]),keep0 hb (by simp [go_sem]),keep0 hb (by simp [go_sem]),keep0 hb (by simp [go_sem]),by have:=hb.size;simp at this;omega⟩
theorem box4'{w w0 w1:World}{c0 c1 c2 c3:Value}(h:w0.cell? ⟨w.heap.size,0,none⟩=some c0∧w0.cell? ⟨w.heap.size,1,none⟩=some c1∧w0.cell? ⟨w.heap.size,2,none⟩=some c2∧w0.cell? ⟨w.heap.size,3,none⟩=some c3∧w.heap.size<w0.heap.size)(hb:Below w0.heap.size w0 w1):
  w1.cell? ⟨w.heap.size,0,none⟩=some c0∧w1.cell? ⟨w.heap.size,1,none⟩=some c1∧w1.cell? ⟨w.heap.size,2,none⟩=some c2∧w1.cell? ⟨w.heap.size,3,none⟩=some c3∧w.heap.size<w1.heap.size:=
 ⟨keep0 hb h.1,keep0 hb h.2.1,keep0 hb h.2.2.1,keep0 hb h.2.2.2.1,Nat.lt_of_lt_of_le h.2.2.2.2 hb.size⟩
def err2(a b:Int):Int:=if a=0 then b else a
theorem yh1(be:Nat)(v:Value)(fl:List Bool)(s:Int)(w:World)(hb:w.cell? ⟨be,0,none⟩=some v)(hf:RdB w v fl)(h0:0≤s)(h1:s<fl.length)(hl:fl.length≤1000000):
  Calls prog 238 #[.int .i64 s,.pointer (some ⟨be,0,none⟩)] w fun e w'=>e= .returned (.bool (fl.getD s.toNat false))∧Below w.heap.size w w':=by
 obtain⟨a,cap,rfl,hr⟩:=hf;obtain⟨b,off,rfl,hc⟩:=hr.at_bool s.toNat (by omega);have hg:fl.getD s.toNat false=fl[s.toNat]:=by rw [yGd,yGe (by omega)];rfl
 rw [hg];clear hg
 go_enter func238,ntmps238
 go_wp2
 go_ret
 exact⟨rfl,Below.refl _ _⟩
theorem yh2(be:Nat)(v:Value)(fl:List Bool)(x:Ed)(w:World)(hb:w.cell? ⟨be,0,none⟩=some v)(hf:RdB w v fl)(h0:0≤x.t)(h1:x.t<fl.length)(hl:fl.length≤1000000):
  Calls prog 239 #[x.val,.pointer (some ⟨be,0,none⟩)] w fun e w'=>e= .returned (.bool (fl.getD x.t.toNat false))∧Below w.heap.size w w':=by
 obtain⟨a,cap,rfl,hr⟩:=hf;obtain⟨b,off,rfl,hc⟩:=hr.at_bool x.t.toNat (by omega);have hbl:=World.block_lt_of_cell? w _ hb;have hbl2:=World.block_lt_of_cell? w _ hc;dsimp only at hbl hbl2;have hg:fl.getD x.t.toNat false=fl[x.t.toNat]:=by rw [yGd,yGe (by omega)];rfl
 rw [hg];clear hg;dsimp only [Ed.val]
 go_enter func239,ntmps239
 go_wp2
 go_ret
 exact⟨rfl,(by (repeat (first | with_reducible exact Below.refl _ _|with_reducible exact hb|(with_reducible refine yR ?_ hb (by first | omega|(simp;done)|(simp;omega)|(simp at *;omega)))|(with_reducible refine Below.alloc ?_ (by first | omega|(simp;done)|(simp;omega)|(simp at *;omega)) _)|(with_reducible refine Below.drew ?_)|(with_reducible refine Below.setCell ?_ (by first | omega|(simp;done)|(simp;omega)|(simp at *;omega)) _))))⟩
structure RBox (w:World) (aa am ae:Option Addr) (la lm le ca cm ce n:Nat) (v44 v47:Value) (F1 F2:List Bool) (l:Array Bool) (u43 u44 u45 u46 u47 u48 u15 u16:Value) (tag:Nat→Nat) (W:World):Prop where
 bel:Below w.heap.size w W
 box:Box4 W tag w.heap.size (.slice aa la ca) (.int .i64 n) (.slice am lm cm) (.slice ae le ce)
 s43:l.getD 0 false=true→u43= .agg #[.slice aa la ca,.int .i64 n,.slice am lm cm,.slice ae le ce]
 s44:l.getD 1 false=true→u44=v44
 s45:l.getD 2 false=true→Row W w.heap.size tag 3 4 1 u45 n (bools F1)
 s46:l.getD 3 false=true→u46= .agg #[.slice aa la ca,.int .i64 n,.slice am lm cm,.slice ae le ce]
 s47:l.getD 4 false=true→u47=v47
 s48:l.getD 5 false=true→Row W w.heap.size tag 4 4 1 u48 n (bools F2)
 s15:l.getD 6 false=true→∃b,u15= .pointer (some ⟨b,0,none⟩)∧Own W w.heap.size tag 1 b #[if l.getD 8 false=true then u45 else .slice none 0 0] 177
 s16:l.getD 7 false=true→∃b,u16= .pointer (some ⟨b,0,none⟩)∧Own W w.heap.size tag 2 b #[if l.getD 9 false=true then u48 else .slice none 0 0] 177
 o8:l.getD 8 false=true→l.getD 2 false=true∧l.getD 6 false=true
 o9:l.getD 9 false=true→l.getD 5 false=true∧l.getD 7 false=true
theorem RBox.start{w:World}{aa am ae:Option Addr}{la lm le ca cm ce n:Nat}{v44 v47:Value}{F1 F2:List Bool}{m:Nat}{u43 u44 u45 u46 u47 u48 u15 u16:Value}{tag:Nat→Nat}{W:World}(hb:Below w.heap.size w W)(hx:Box4 W tag w.heap.size (.slice aa la ca) (.int .i64 n) (.slice am lm cm) (.slice ae le ce)):
  RBox w aa am ae la lm le ca cm ce n v44 v47 F1 F2 (Array.replicate m false) u43 u44 u45 u46 u47 u48 u15 u16 tag W:=by
 have h:∀j,(Array.replicate m false).getD j false=true→False:=by
  intro j;rw [yAd,Array.getElem?_replicate];split <;> simp
 exact⟨hb,hx,fun e=>(h _ e).elim,fun e=>(h _ e).elim,fun e=>(h _ e).elim,fun e=>(h _ e).elim,fun e=>(h _ e).elim,fun e=>(h _ e).elim,fun e=>(h _ e).elim,fun e=>(h _ e).elim,fun e=>(h _ e).elim,fun e=>(h _ e).elim⟩
section
variable{w:World}{aa am ae:Option Addr}{la lm le ca cm ce n:Nat}{v44 v47:Value}{F1 F2:List Bool}{l:Array Bool}{u43 u44 u45 u46 u47 u48 u15 u16:Value}{tag:Nat→Nat}{W W':World}
theorem RBox.op0(hI:RBox w aa am ae la lm le ca cm ce n v44 v47 F1 F2 l u43 u44 u45 u46 u47 u48 u15 u16 tag W)(hl:∀j,j<10→(l.setIfInBounds 0 true).getD j false=(j==0||l.getD j false)):
  RBox w aa am ae la lm le ca cm ce n v44 v47 F1 F2 (l.setIfInBounds 0 true) (.agg #[.slice aa la ca,.int .i64 n,.slice am lm cm,.slice ae le ce]) u44 u45 u46 u47 u48 u15 u16 tag W:=by
 refine⟨hI.bel,hI.box,?_,?_,?_,?_,?_,?_,?_,?_,?_,?_⟩
 ·exact fun _=>rfl
 ·exact fun h=>(hI.s44 (by rwa [up_ne hl 1 (by decide) rfl] at h))
 ·exact fun h=>(hI.s45 (by rwa [up_ne hl 2 (by decide) rfl] at h))
 ·exact fun h=>(hI.s46 (by rwa [up_ne hl 3 (by decide) rfl] at h))
 ·exact fun h=>(hI.s47 (by rwa [up_ne hl 4 (by decide) rfl] at h))
 ·exact fun h=>(hI.s48 (by rwa [up_ne hl 5 (by decide) rfl] at h))
 ·exact fun h=>by
   obtain⟨b,hb,ho⟩:=(hI.s15 (by rwa [up_ne hl 6 (by decide) rfl] at h));rw [up_ne hl 8 (by decide) rfl];exact⟨b,hb,ho⟩
 ·exact fun h=>by
   obtain⟨b,hb,ho⟩:=(hI.s16 (by rwa [up_ne hl 7 (by decide) rfl] at h));rw [up_ne hl 9 (by decide) rfl];exact⟨b,hb,ho⟩
 ·exact fun h=>by
   rw [up_ne hl 8 (by decide) rfl] at h;have:=hI.o8 h;exact⟨by rw [hl 2 (by decide),this.1,Bool.or_true],by rw [hl 6 (by decide),this.2,Bool.or_true]⟩
 ·exact fun h=>by
   rw [up_ne hl 9 (by decide) rfl] at h;have:=hI.o9 h;exact⟨by rw [hl 5 (by decide),this.1,Bool.or_true],by rw [hl 7 (by decide),this.2,Bool.or_true]⟩
theorem RBox.op1(hI:RBox w aa am ae la lm le ca cm ce n v44 v47 F1 F2 l u43 u44 u45 u46 u47 u48 u15 u16 tag W)(hl:∀j,j<10→(l.setIfInBounds 1 true).getD j false=(j==1||l.getD j false)):
  RBox w aa am ae la lm le ca cm ce n v44 v47 F1 F2 (l.setIfInBounds 1 true) u43 v44 u45 u46 u47 u48 u15 u16 tag W:=by
 refine⟨hI.bel,hI.box,?_,?_,?_,?_,?_,?_,?_,?_,?_,?_⟩
 ·exact fun h=>(hI.s43 (by rwa [up_ne hl 0 (by decide) rfl] at h))
 ·exact fun _=>rfl
 ·exact fun h=>(hI.s45 (by rwa [up_ne hl 2 (by decide) rfl] at h))
 ·exact fun h=>(hI.s46 (by rwa [up_ne hl 3 (by decide) rfl] at h))
 ·exact fun h=>(hI.s47 (by rwa [up_ne hl 4 (by decide) rfl] at h))
 ·exact fun h=>(hI.s48 (by rwa [up_ne hl 5 (by decide) rfl] at h))
 ·exact fun h=>by
   obtain⟨b,hb,ho⟩:=(hI.s15 (by rwa [up_ne hl 6 (by decide) rfl] at h));rw [up_ne hl 8 (by decide) rfl];exact⟨b,hb,ho⟩
 ·exact fun h=>by
   obtain⟨b,hb,ho⟩:=(hI.s16 (by rwa [up_ne hl 7 (by decide) rfl] at h));rw [up_ne hl 9 (by decide) rfl];exact⟨b,hb,ho⟩
 ·exact fun h=>by
   rw [up_ne hl 8 (by decide) rfl] at h;have:=hI.o8 h;exact⟨by rw [hl 2 (by decide),this.1,Bool.or_true],by rw [hl 6 (by decide),this.2,Bool.or_true]⟩
 ·exact fun h=>by
   rw [up_ne hl 9 (by decide) rfl] at h;have:=hI.o9 h;exact⟨by rw [hl 5 (by decide),this.1,Bool.or_true],by rw [hl 7 (by decide),this.2,Bool.or_true]⟩
theorem RBox.op3(hI:RBox w aa am ae la lm le ca cm ce n v44 v47 F1 F2 l u43 u44 u45 u46 u47 u48 u15 u16 tag W)(hl:∀j,j<10→(l.setIfInBounds 3 true).getD j false=(j==3||l.getD j false)):
  RBox w aa am ae la lm le ca cm ce n v44 v47 F1 F2 (l.setIfInBounds 3 true) u43 u44 u45 (.agg #[.slice aa la ca,.int .i64 n,.slice am lm cm,.slice ae le ce]) u47 u48 u15 u16 tag W:=by
 refine⟨hI.bel,hI.box,?_,?_,?_,?_,?_,?_,?_,?_,?_,?_⟩
 ·exact fun h=>(hI.s43 (by rwa [up_ne hl 0 (by decide) rfl] at h))
 ·exact fun h=>(hI.s44 (by rwa [up_ne hl 1 (by decide) rfl] at h))
 ·exact fun h=>(hI.s45 (by rwa [up_ne hl 2 (by decide) rfl] at h))
 ·exact fun _=>rfl
 ·exact fun h=>(hI.s47 (by rwa [up_ne hl 4 (by decide) rfl] at h))
 ·exact fun h=>(hI.s48 (by rwa [up_ne hl 5 (by decide) rfl] at h))
 ·exact fun h=>by
   obtain⟨b,hb,ho⟩:=(hI.s15 (by rwa [up_ne hl 6 (by decide) rfl] at h));rw [up_ne hl 8 (by decide) rfl];exact⟨b,hb,ho⟩
 ·exact fun h=>by
   obtain⟨b,hb,ho⟩:=(hI.s16 (by rwa [up_ne hl 7 (by decide) rfl] at h));rw [up_ne hl 9 (by decide) rfl];exact⟨b,hb,ho⟩
 ·exact fun h=>by
   rw [up_ne hl 8 (by decide) rfl] at h;have:=hI.o8 h;exact⟨by rw [hl 2 (by decide),this.1,Bool.or_true],by rw [hl 6 (by decide),this.2,Bool.or_true]⟩
 ·exact fun h=>by
   rw [up_ne hl 9 (by decide) rfl] at h;have:=hI.o9 h;exact⟨by rw [hl 5 (by decide),this.1,Bool.or_true],by rw [hl 7 (by decide),this.2,Bool.or_true]⟩
theorem RBox.op4(hI:RBox w aa am ae la lm le ca cm ce n v44 v47 F1 F2 l u43 u44 u45 u46 u47 u48 u15 u16 tag W)(hl:∀j,j<10→(l.setIfInBounds 4 true).getD j false=(j==4||l.getD j false)):
  RBox w aa am ae la lm le ca cm ce n v44 v47 F1 F2 (l.setIfInBounds 4 true) u43 u44 u45 u46 v47 u48 u15 u16 tag W:=by
 refine⟨hI.bel,hI.box,?_,?_,?_,?_,?_,?_,?_,?_,?_,?_⟩
 ·exact fun h=>(hI.s43 (by rwa [up_ne hl 0 (by decide) rfl] at h))
 ·exact fun h=>(hI.s44 (by rwa [up_ne hl 1 (by decide) rfl] at h))
 ·exact fun h=>(hI.s45 (by rwa [up_ne hl 2 (by decide) rfl] at h))
 ·exact fun h=>(hI.s46 (by rwa [up_ne hl 3 (by decide) rfl] at h))
 ·exact fun _=>rfl
 ·exact fun h=>(hI.s48 (by rwa [up_ne hl 5 (by decide) rfl] at h))
 ·exact fun h=>by
   obtain⟨b,hb,ho⟩:=(hI.s15 (by rwa [up_ne hl 6 (by decide) rfl] at h));rw [up_ne hl 8 (by decide) rfl];exact⟨b,hb,ho⟩
 ·exact fun h=>by
   obtain⟨b,hb,ho⟩:=(hI.s16 (by rwa [up_ne hl 7 (by decide) rfl] at h));rw [up_ne hl 9 (by decide) rfl];exact⟨b,hb,ho⟩
 ·exact fun h=>by
   rw [up_ne hl 8 (by decide) rfl] at h;have:=hI.o8 h;exact⟨by rw [hl 2 (by decide),this.1,Bool.or_true],by rw [hl 6 (by decide),this.2,Bool.or_true]⟩
 ·exact fun h=>by
   rw [up_ne hl 9 (by decide) rfl] at h;have:=hI.o9 h;exact⟨by rw [hl 5 (by decide),this.1,Bool.or_true],by rw [hl 7 (by decide),this.2,Bool.or_true]⟩
theorem RBox.op2(hI:RBox w aa am ae la lm le ca cm ce n v44 v47 F1 F2 l u43 u44 u45 u46 u47 u48 u15 u16 tag W)(hl:∀j,j<10→(l.setIfInBounds 2 true).getD j false=(j==2||l.getD j false)){u:Value}(hb:Below W.heap.size W W')(hown:W'.ownsRow W.heap.size 4 1 u n (bools F1))(hn:l.getD 2 false=false):
  RBox w aa am ae la lm le ca cm ce n v44 v47 F1 F2 (l.setIfInBounds 2 true) u43 u44 u u46 u47 u48 u15 u16 (y8o tag W.heap.size 3) W':=by
 have ht:Turn w.heap.size tag (y8o tag W.heap.size 3) 3 W W':=Turn.call hb;have hsz:=hI.bel.size;refine⟨y2A hI.bel ht hsz,hI.box.turn ht (by decide),?_,?_,?_,?_,?_,?_,?_,?_,?_,?_⟩
 ·exact fun h=>(hI.s43 (by rwa [up_ne hl 0 (by decide) rfl] at h))
 ·exact fun h=>(hI.s44 (by rwa [up_ne hl 1 (by decide) rfl] at h))
 ·exact fun _=>Row.of_call hown hsz
 ·exact fun h=>(hI.s46 (by rwa [up_ne hl 3 (by decide) rfl] at h))
 ·exact fun h=>(hI.s47 (by rwa [up_ne hl 4 (by decide) rfl] at h))
 ·exact fun h=>(hI.s48 (by rwa [up_ne hl 5 (by decide) rfl] at h)).turn ht (by decide)
 ·exact fun h=>by
   obtain⟨b,hb,ho⟩:=hI.s15 (by rwa [up_ne hl 6 (by decide) rfl] at h);rw [up_ne hl 8 (by decide) rfl];have h8:l.getD 8 false=false:=by
    cases h8:l.getD 8 false with
    | false=>rfl
    | true=>rw [(hI.o8 h8).1] at hn;cases hn
   rw [h8] at ho ⊢;exact⟨b,hb,ho.turn ht (by decide)⟩
 ·exact fun h=>by
   obtain⟨b,hb,ho⟩:=(hI.s16 (by rwa [up_ne hl 7 (by decide) rfl] at h));rw [up_ne hl 9 (by decide) rfl];exact⟨b,hb,ho.turn ht (by decide)⟩
 ·exact fun h=>by
   rw [up_ne hl 8 (by decide) rfl] at h;have:=hI.o8 h;exact⟨by rw [hl 2 (by decide),this.1,Bool.or_true],by rw [hl 6 (by decide),this.2,Bool.or_true]⟩
 ·exact fun h=>by
   rw [up_ne hl 9 (by decide) rfl] at h;have:=hI.o9 h;exact⟨by rw [hl 5 (by decide),this.1,Bool.or_true],by rw [hl 7 (by decide),this.2,Bool.or_true]⟩
theorem RBox.op5(hI:RBox w aa am ae la lm le ca cm ce n v44 v47 F1 F2 l u43 u44 u45 u46 u47 u48 u15 u16 tag W)(hl:∀j,j<10→(l.setIfInBounds 5 true).getD j false=(j==5||l.getD j false)){u:Value}(hb:Below W.heap.size W W')(hown:W'.ownsRow W.heap.size 4 1 u n (bools F2))(hn:l.getD 5 false=false):
  RBox w aa am ae la lm le ca cm ce n v44 v47 F1 F2 (l.setIfInBounds 5 true) u43 u44 u45 u46 u47 u u15 u16 (y8o tag W.heap.size 4) W':=by
 have ht:Turn w.heap.size tag (y8o tag W.heap.size 4) 4 W W':=Turn.call hb;have hsz:=hI.bel.size;refine⟨y2A hI.bel ht hsz,hI.box.turn ht (by decide),?_,?_,?_,?_,?_,?_,?_,?_,?_,?_⟩
 ·exact fun h=>(hI.s43 (by rwa [up_ne hl 0 (by decide) rfl] at h))
 ·exact fun h=>(hI.s44 (by rwa [up_ne hl 1 (by decide) rfl] at h))
 ·exact fun h=>(hI.s45 (by rwa [up_ne hl 2 (by decide) rfl] at h)).turn ht (by decide)
 ·exact fun h=>(hI.s46 (by rwa [up_ne hl 3 (by decide) rfl] at h))
 ·exact fun h=>(hI.s47 (by rwa [up_ne hl 4 (by decide) rfl] at h))
 ·exact fun _=>Row.of_call hown hsz
 ·exact fun h=>by
   obtain⟨b,hb,ho⟩:=(hI.s15 (by rwa [up_ne hl 6 (by decide) rfl] at h));rw [up_ne hl 8 (by decide) rfl];exact⟨b,hb,ho.turn ht (by decide)⟩
 ·exact fun h=>by
   obtain⟨b,hb,ho⟩:=hI.s16 (by rwa [up_ne hl 7 (by decide) rfl] at h);rw [up_ne hl 9 (by decide) rfl];have h8:l.getD 9 false=false:=by
    cases h8:l.getD 9 false with
    | false=>rfl
    | true=>rw [(hI.o9 h8).1] at hn;cases hn
   rw [h8] at ho ⊢;exact⟨b,hb,ho.turn ht (by decide)⟩
 ·exact fun h=>by
   rw [up_ne hl 8 (by decide) rfl] at h;have:=hI.o8 h;exact⟨by rw [hl 2 (by decide),this.1,Bool.or_true],by rw [hl 6 (by decide),this.2,Bool.or_true]⟩
 ·exact fun h=>by
   rw [up_ne hl 9 (by decide) rfl] at h;have:=hI.o9 h;exact⟨by rw [hl 5 (by decide),this.1,Bool.or_true],by rw [hl 7 (by decide),this.2,Bool.or_true]⟩
theorem RBox.op6(hI:RBox w aa am ae la lm le ca cm ce n v44 v47 F1 F2 l u43 u44 u45 u46 u47 u48 u15 u16 tag W)(hl:∀j,j<10→(l.setIfInBounds 6 true).getD j false=(j==6||l.getD j false))(hn:l.getD 6 false=false):
  RBox w aa am ae la lm le ca cm ce n v44 v47 F1 F2 (l.setIfInBounds 6 true) u43 u44 u45 u46 u47 u48 (.pointer (some ⟨W.heap.size,0,none⟩)) u16 (tagUp tag W.heap.size 1) (W.alloc (.cells #[.slice none 0 0] 177)):=by
 have ht:Turn w.heap.size tag (tagUp tag W.heap.size 1) 1 W (W.alloc (.cells #[.slice none 0 0] 177)):=Turn.alloc _;have hsz:=hI.bel.size;refine⟨y2A hI.bel ht hsz,hI.box.turn ht (by decide),?_,?_,?_,?_,?_,?_,?_,?_,?_,?_⟩
 ·exact fun h=>(hI.s43 (by rwa [up_ne hl 0 (by decide) rfl] at h))
 ·exact fun h=>(hI.s44 (by rwa [up_ne hl 1 (by decide) rfl] at h))
 ·exact fun h=>(hI.s45 (by rwa [up_ne hl 2 (by decide) rfl] at h)).turn ht (by decide)
 ·exact fun h=>(hI.s46 (by rwa [up_ne hl 3 (by decide) rfl] at h))
 ·exact fun h=>(hI.s47 (by rwa [up_ne hl 4 (by decide) rfl] at h))
 ·exact fun h=>(hI.s48 (by rwa [up_ne hl 5 (by decide) rfl] at h)).turn ht (by decide)
 ·exact fun _=>by
   have h8:l.getD 8 false=false:=by
    cases h8:l.getD 8 false with
    | false=>rfl
    | true=>rw [(hI.o8 h8).2] at hn;cases hn
   rw [up_ne hl 8 (by decide) rfl,h8];exact⟨_,rfl,Own.new W _ _ _ _ _ hsz (y4R _ _ _)⟩
 ·exact fun h=>by
   obtain⟨b,hb,ho⟩:=(hI.s16 (by rwa [up_ne hl 7 (by decide) rfl] at h));rw [up_ne hl 9 (by decide) rfl];exact⟨b,hb,ho.turn ht (by decide)⟩
 ·exact fun h=>by
   rw [up_ne hl 8 (by decide) rfl] at h;have:=hI.o8 h;exact⟨by rw [hl 2 (by decide),this.1,Bool.or_true],by rw [hl 6 (by decide),this.2,Bool.or_true]⟩
 ·exact fun h=>by
   rw [up_ne hl 9 (by decide) rfl] at h;have:=hI.o9 h;exact⟨by rw [hl 5 (by decide),this.1,Bool.or_true],by rw [hl 7 (by decide),this.2,Bool.or_true]⟩
theorem RBox.op7(hI:RBox w aa am ae la lm le ca cm ce n v44 v47 F1 F2 l u43 u44 u45 u46 u47 u48 u15 u16 tag W)(hl:∀j,j<10→(l.setIfInBounds 7 true).getD j false=(j==7||l.getD j false))(hn:l.getD 7 false=false):
  RBox w aa am ae la lm le ca cm ce n v44 v47 F1 F2 (l.setIfInBounds 7 true) u43 u44 u45 u46 u47 u48 u15 (.pointer (some ⟨W.heap.size,0,none⟩)) (tagUp tag W.heap.size 2) (W.alloc (.cells #[.slice none 0 0] 177)):=by
 have ht:Turn w.heap.size tag (tagUp tag W.heap.size 2) 2 W (W.alloc (.cells #[.slice none 0 0] 177)):=Turn.alloc _;have hsz:=hI.bel.size;refine⟨y2A hI.bel ht hsz,hI.box.turn ht (by decide),?_,?_,?_,?_,?_,?_,?_,?_,?_,?_⟩
 ·exact fun h=>(hI.s43 (by rwa [up_ne hl 0 (by decide) rfl] at h))
 ·exact fun h=>(hI.s44 (by rwa [up_ne hl 1 (by decide) rfl] at h))
 ·exact fun h=>(hI.s45 (by rwa [up_ne hl 2 (by decide) rfl] at h)).turn ht (by decide)
 ·exact fun h=>(hI.s46 (by rwa [up_ne hl 3 (by decide) rfl] at h))
 ·exact fun h=>(hI.s47 (by rwa [up_ne hl 4 (by decide) rfl] at h))
 ·exact fun h=>(hI.s48 (by rwa [up_ne hl 5 (by decide) rfl] at h)).turn ht (by decide)
 ·exact fun h=>by
   obtain⟨b,hb,ho⟩:=(hI.s15 (by rwa [up_ne hl 6 (by decide) rfl] at h));rw [up_ne hl 8 (by decide) rfl];exact⟨b,hb,ho.turn ht (by decide)⟩
 ·exact fun _=>by
   have h8:l.getD 9 false=false:=by
    cases h8:l.getD 9 false with
    | false=>rfl
    | true=>rw [(hI.o9 h8).2] at hn;cases hn
   rw [up_ne hl 9 (by decide) rfl,h8];exact⟨_,rfl,Own.new W _ _ _ _ _ hsz (y4R _ _ _)⟩
 ·exact fun h=>by
   rw [up_ne hl 8 (by decide) rfl] at h;have:=hI.o8 h;exact⟨by rw [hl 2 (by decide),this.1,Bool.or_true],by rw [hl 6 (by decide),this.2,Bool.or_true]⟩
 ·exact fun h=>by
   rw [up_ne hl 9 (by decide) rfl] at h;have:=hI.o9 h;exact⟨by rw [hl 5 (by decide),this.1,Bool.or_true],by rw [hl 7 (by decide),this.2,Bool.or_true]⟩
theorem RBox.op8{bx:Nat}(hI:RBox w aa am ae la lm le ca cm ce n v44 v47 F1 F2 l u43 u44 u45 u46 u47 u48 (.pointer (some ⟨bx,0,none⟩)) u16 tag W)(hl:∀j,j<10→(l.setIfInBounds 8 true).getD j false=(j==8||l.getD j false))(h1:l.getD 6 false=true)(h2:l.getD 2 false=true):
  RBox w aa am ae la lm le ca cm ce n v44 v47 F1 F2 (l.setIfInBounds 8 true) u43 u44 u45 u46 u47 u48 (.pointer (some ⟨bx,0,none⟩)) u16 tag (W.setCell ⟨bx,0,none⟩ u45):=by
 obtain⟨b,hb,ho⟩:=hI.s15 h1;cases hb;have ht:Turn w.heap.size tag tag 1 W (W.setCell ⟨bx,0,none⟩ u45):=Turn.setCell ho 0 _;have hsz:=hI.bel.size;refine⟨y2A hI.bel ht hsz,hI.box.turn ht (by decide),?_,?_,?_,?_,?_,?_,?_,?_,?_,?_⟩
 ·exact fun h=>(hI.s43 (by rwa [up_ne hl 0 (by decide) rfl] at h))
 ·exact fun h=>(hI.s44 (by rwa [up_ne hl 1 (by decide) rfl] at h))
 ·exact fun h=>(hI.s45 (by rwa [up_ne hl 2 (by decide) rfl] at h)).turn ht (by decide)
 ·exact fun h=>(hI.s46 (by rwa [up_ne hl 3 (by decide) rfl] at h))
 ·exact fun h=>(hI.s47 (by rwa [up_ne hl 4 (by decide) rfl] at h))
 ·exact fun h=>(hI.s48 (by rwa [up_ne hl 5 (by decide) rfl] at h)).turn ht (by decide)
 ·exact fun _=>by
   refine⟨_,rfl,?_⟩;rw [hl 8 (by decide)];simpa using ho.set 0 u45
 ·exact fun h=>by
   obtain⟨b,hb,ho⟩:=(hI.s16 (by rwa [up_ne hl 7 (by decide) rfl] at h));rw [up_ne hl 9 (by decide) rfl];exact⟨b,hb,ho.turn ht (by decide)⟩
 ·exact fun _=>⟨by rw [hl 2 (by decide),h2,Bool.or_true],by rw [hl 6 (by decide),h1,Bool.or_true]⟩
 ·exact fun h=>by
   rw [up_ne hl 9 (by decide) rfl] at h;have:=hI.o9 h;exact⟨by rw [hl 5 (by decide),this.1,Bool.or_true],by rw [hl 7 (by decide),this.2,Bool.or_true]⟩
theorem RBox.op9{bx:Nat}(hI:RBox w aa am ae la lm le ca cm ce n v44 v47 F1 F2 l u43 u44 u45 u46 u47 u48 u15 (.pointer (some ⟨bx,0,none⟩)) tag W)(hl:∀j,j<10→(l.setIfInBounds 9 true).getD j false=(j==9||l.getD j false))(h1:l.getD 7 false=true)(h2:l.getD 5 false=true):
  RBox w aa am ae la lm le ca cm ce n v44 v47 F1 F2 (l.setIfInBounds 9 true) u43 u44 u45 u46 u47 u48 u15 (.pointer (some ⟨bx,0,none⟩)) tag (W.setCell ⟨bx,0,none⟩ u48):=by
 obtain⟨b,hb,ho⟩:=hI.s16 h1;cases hb;have ht:Turn w.heap.size tag tag 2 W (W.setCell ⟨bx,0,none⟩ u48):=Turn.setCell ho 0 _;have hsz:=hI.bel.size;refine⟨y2A hI.bel ht hsz,hI.box.turn ht (by decide),?_,?_,?_,?_,?_,?_,?_,?_,?_,?_⟩
 ·exact fun h=>(hI.s43 (by rwa [up_ne hl 0 (by decide) rfl] at h))
 ·exact fun h=>(hI.s44 (by rwa [up_ne hl 1 (by decide) rfl] at h))
 ·exact fun h=>(hI.s45 (by rwa [up_ne hl 2 (by decide) rfl] at h)).turn ht (by decide)
 ·exact fun h=>(hI.s46 (by rwa [up_ne hl 3 (by decide) rfl] at h))
 ·exact fun h=>(hI.s47 (by rwa [up_ne hl 4 (by decide) rfl] at h))
 ·exact fun h=>(hI.s48 (by rwa [up_ne hl 5 (by decide) rfl] at h)).turn ht (by decide)
 ·exact fun h=>by
   obtain⟨b,hb,ho⟩:=(hI.s15 (by rwa [up_ne hl 6 (by decide) rfl] at h));rw [up_ne hl 8 (by decide) rfl];exact⟨b,hb,ho.turn ht (by decide)⟩
 ·exact fun _=>by
   refine⟨_,rfl,?_⟩;rw [hl 9 (by decide)];simpa using ho.set 0 u48
 ·exact fun h=>by
   rw [up_ne hl 8 (by decide) rfl] at h;have:=hI.o8 h;exact⟨by rw [hl 2 (by decide),this.1,Bool.or_true],by rw [hl 6 (by decide),this.2,Bool.or_true]⟩
 ·exact fun _=>⟨by rw [hl 5 (by decide),h2,Bool.or_true],by rw [hl 7 (by decide),h1,Bool.or_true]⟩
end
def y6j(B:Nat)(e:Int)(r:Option LI)(u:Value)(w':World):Prop:=
 if e=0 then match r with
  | some xs=>∃v,u= .tuple #[v,.bool true,.int .i64 0]∧RdI w' v xs∧y8u B v
  | none=>u= .tuple #[.slice none 0 0,.bool false,.int .i64 0]
 else u= .tuple #[.slice none 0 0,.bool false,.int .i64 e]
theorem y6j.err{B:Nat}{e:Int}{r:Option LI}{w':World}(h:e≠0):y6j B e r (.tuple #[.slice none 0 0,.bool false,.int .i64 e]) w':=by
 unfold y6j;rw [iN h]
def y4t(a:Aut)(from_:Int)(tg wi:LI):Int:=err2 a.err (if from_<0∨a.n≤from_ then 2 else err2 (ym a.n none tg) (ym a.n none wi))
def y6r(a:Aut)(from_:Int)(tg wi:LI):Option LI:=if hasB wi from_=true then pathF a.n.toNat a.es (hasB tg) (fun x=>hasB wi x.t) from_.toNat else none
def PLoop(e1 e2:Int)(j:Value):Prop:=j= .int .i64 0∨(j= .int .i64 1∧e1=0)∨(j= .int .i64 2∧e1=0∧e2=0)
theorem ya5{n:Nat}{set:LI}{s:Int}(h0:0≤s)(h1:s<n):(flagL n set).getD s.toNat false=hasB set s:=by
 rw [yGd,flagL,List.getElem?_map,List.getElem?_range (by omega)];simp [Int.toNat_of_nonneg h0]
set_option maxHeartbeats 800000 in
theorem yga(v vt vw:Value)(a:Aut)(from_:Int)(tg wi:LI)(w:World)(ha:RdA w v a)(hs:a.small)(ht:RdI w vt tg)(hw:RdI w vw wi)(hlt:tg.length≤1000000)(hlw:wi.length≤1000000):
  Calls prog 156 #[v,.int .i64 from_,vt,vw] w (Ret w (y6j w.heap.size (y4t a from_ tg wi) (y6r a from_ tg wi))):=by
 have ha0:=ha;obtain⟨va,vm,ve,rfl,⟨aa,ca,rfl,hra⟩,⟨am,cm,rfl,hrm⟩,⟨ae,ce,rfl,hre⟩⟩:=ha;have Ht:=Lib.hid ht;have Hw:=Lib.hid hw;obtain⟨at_,ct,rfl,hrt⟩:=ht;obtain⟨aw,cw,rfl,hrw⟩:=hw;have Ha0:=Lib.hid ha0;have Hs:=Lib.hid hs;clear ha0 hs;have hix0:∀w,(Instr.index 162 (.agg #[.slice at_ tg.length ct,.slice aw wi.length cw]) (.int .i64 0)).run prog w= .ok (.slice at_ tg.length ct) w:=fun _=>by kernel_rfl
 have hix1:∀w,(Instr.index 162 (.agg #[.slice at_ tg.length ct,.slice aw wi.length cw]) (.int .i64 1)).run prog w= .ok (.slice aw wi.length cw) w:=fun _=>by kernel_rfl
 go_enter func156,ntmps156
 go_wp2_with fail
 refine(ygJ _ a _ (Ha0.out.mono (by (repeat (first | with_reducible exact Below.refl _ _|with_reducible exact Ha0|(with_reducible refine yR ?_ Ha0 (by first | omega|(simp;done)|(simp;omega)|(simp at *;omega)))|(with_reducible refine Below.alloc ?_ (by first | omega|(simp;done)|(simp;omega)|(simp at *;omega)) _)|(with_reducible refine Below.drew ?_)|(with_reducible refine Below.setCell ?_ (by first | omega|(simp;done)|(simp;omega)|(simp at *;omega)) _))))) Hs.out).mono ?_;rintro e w1 ⟨_,rfl,rfl,hb1⟩;have hW1:Below w.heap.size w w1:=((Below.refl _ _).alloc (yNr _) _).trans (hb1.mono (by simp));have hbx:=box4 hb1;clear hb1;by_cases h1:a.err=0
 ·have hok:=Aut.ok_of h1;have H1:=Lib.hid h1;rw [h1];clear h1;by_cases hf:from_<0∨a.n≤from_
  ·have Hf:=Lib.hid hf;obtain⟨x0,x1,x2,x3,x4⟩:=hbx;by_cases hlt0:from_<0
   all_goals
    try have hge:a.n≤from_:=by omega
    clear hf
    go_wp2_with fail
    refine bodyPost_ret (v:= .tuple #[.slice none 0 0,.bool false,.int .i64 2]) (by simp [results,results156,go_sem]) rfl ⟨_,rfl,?_,hW1⟩;rw [show y4t a from_ tg wi=2 by rw [y4t,err2,iP H1.out,iP Hf.out]];exact y6j.err (by decide)
  ·have hf0:0≤from_:=by omega
   have hf1:from_<a.n:=by omega
   have Hf:=Lib.hid hf;clear hf;have Hes:=Lib.hid hok.es;have d1:decide (from_<0)=false:=by simpa using hf0
   have d2:decide (a.n≤from_)=false:=by simpa using hf1
   have hn0:=hok.n0;have hn1:=hok.n1;have hae:=Hs.out.es;clear hok;obtain⟨x0,x1,x2,x3,x4⟩:=hbx
   go_wp2_with fail
   clear d1 d2
   go_loopw [33] (fun j wr=>PLoop (ym a.n none tg) (ym a.n none wi) j∧Below w.heap.size w wr∧wr.cell? ⟨w.heap.size,0,none⟩=some (.slice aa a.al.length ca)∧wr.cell? ⟨w.heap.size,1,none⟩=some (.int .i64 a.n)∧wr.cell? ⟨w.heap.size,2,none⟩=some (.slice am a.ms.length cm)∧wr.cell? ⟨w.heap.size,3,none⟩=some (.slice ae a.es.length ce)∧w.heap.size<wr.heap.size) (fun j _=>2-(intOf j).toNat)
   case atStart=>exact⟨.inl rfl,hW1,x0,x1,x2,x3,x4⟩
   case round=>
    clear x0 x1 x2 x3 x4 hW1;obtain⟨hj,hB,x0,x1,x2,x3,x4⟩:=hrel;have hbx:=And.intro x0 (And.intro x1 (And.intro x2 (And.intro x3 x4)));have Hbx:=Lib.hid hbx;clear hbx;rcases hj with rfl|⟨rfl,h2⟩|⟨rfl,h2,h3⟩
    ·go_wp2_with fail
     refine(y9f _ _ _ _ _ _ _ _ _ _ _ tg _ (Ht.out.mono hB) hlt).mono ?_;rintro e w2 ⟨_,rfl,rfl,hb2⟩;have hW2:=hB.trans (hb2.mono hB.size);have hbx2:=box4' Hbx.out hb2;clear x0 x1 x2 x3 x4;by_cases h2:ym a.n none tg=0
     ·have H2:=Lib.hid h2;rw [h2];clear h2;obtain⟨x0,x1,x2,x3,x4⟩:=hbx2
      go_wp2_with fail
      go_roundw
      case rel=>exact⟨.inr (.inl ⟨rfl,H2.out⟩),hW2,x0,x1,x2,x3,x4⟩
      case measure=>simp [intOf]
     ·have H2:=Lib.hid h2;have h2':(ym a.n none tg != 0)=true:=by simpa using h2
      clear h2
      go_wp2_with fail
      refine bodyPost_ret (v:= .tuple #[.slice none 0 0,.bool false,.int .i64 (ym a.n none tg)]) (by simp [results,results156,go_sem]) rfl ⟨_,rfl,?_,hW2⟩;rw [show y4t a from_ tg wi=ym a.n none tg by rw [y4t,err2,iP H1.out,iN Hf.out,err2,iN H2.out]];exact y6j.err H2.out
    ·have H2:=Lib.hid h2;clear h2
     go_wp2_with fail
     refine(y9f _ _ _ _ _ _ _ _ _ _ _ wi _ (Hw.out.mono hB) hlw).mono ?_;rintro e w2 ⟨_,rfl,rfl,hb2⟩;have hW2:=hB.trans (hb2.mono hB.size);have hbx2:=box4' Hbx.out hb2;clear x0 x1 x2 x3 x4;by_cases h2:ym a.n none wi=0
     ·have H3:=Lib.hid h2;rw [h2];clear h2;obtain⟨x0,x1,x2,x3,x4⟩:=hbx2
      go_wp2_with fail
      go_roundw
      case rel=>exact⟨.inr (.inr ⟨rfl,H2.out,H3.out⟩),hW2,x0,x1,x2,x3,x4⟩
      case measure=>simp [intOf]
     ·have H3:=Lib.hid h2;have h2':(ym a.n none wi != 0)=true:=by simpa using h2
      clear h2
      go_wp2_with fail
      refine bodyPost_ret (v:= .tuple #[.slice none 0 0,.bool false,.int .i64 (ym a.n none wi)]) (by simp [results,results156,go_sem]) rfl ⟨_,rfl,?_,hW2⟩;rw [show y4t a from_ tg wi=ym a.n none wi by rw [y4t,err2,iP H1.out,iN Hf.out,err2,iP H2.out]];exact y6j.err H3.out
    ·have Herr:Hid (y4t a from_ tg wi=0):=by
      show _=_;rw [y4t,err2,iP H1.out,iN Hf.out,err2,iP h2,h3]
     have htin:=y7K h2;have hwin:=y7K h3;have Htin:=Lib.hid htin;have Hwin:=Lib.hid hwin;clear htin hwin h2 h3;have Hpath:Hid (y6r a from_ tg wi=if hasB wi from_=true then pathF a.n.toNat a.es (hasB tg) (fun x=>hasB wi x.t) from_.toNat else none):=rfl;generalize hn:a.n=an at *;obtain⟨n,rfl⟩:=Int.eq_ofNat_of_zero_le hn0;obtain⟨fr,rfl⟩:=Int.eq_ofNat_of_zero_le hf0;have hn':n≤4096:=by omega
     have hfr:fr<n:=by omega
     have Hn:=Lib.hid hn;clear hn hn0 hn1 hf0 hf1;have hbd:=box4' Hbx.out (y5G wr);obtain⟨y0,y1,y2,y3,y4⟩:=hbd
     go_upto_region 13 with fail
     go_cut [15,16] (fun s15 s16 wx=>∃(b1 b2:Nat) (a1 a2:Option Addr) (c1 c2:Nat),s15= .pointer (some ⟨b1,0,none⟩)∧s16= .pointer (some ⟨b2,0,none⟩)∧Below w.heap.size w wx∧
      wx.cell? ⟨w.heap.size,0,none⟩=some (.slice aa a.al.length ca)∧wx.cell? ⟨w.heap.size,1,none⟩=some (.int .i64 n)∧wx.cell? ⟨w.heap.size,2,none⟩=some (.slice am a.ms.length cm)∧wx.cell? ⟨w.heap.size,3,none⟩=some (.slice ae a.es.length ce)∧w.heap.size<wx.heap.size∧
      wx.cell? ⟨b1,0,none⟩=some (.slice a1 n c1)∧wx.cell? ⟨b2,0,none⟩=some (.slice a2 n c2)∧RdS wx 1 a1 n c1 (bools (flagL n wi))∧RdS wx 1 a2 n c2 (bools (flagL n tg)))
     case first=>
      refine ydT (fun l us W=>∃u43 u44 u45 u46 u47 u48 u15 u16 tag,us= [u43,u44,u45,u46,u47,u48,u15,u16]∧RBox w aa am ae a.al.length a.ms.length a.es.length ca cm ce n (.slice aw wi.length cw) (.slice at_ tg.length ct) (flagL n wi) (flagL n tg) l u43 u44 u45 u46 u47 u48 u15 u16 tag W) [43,44,45,46,47,48,15,16] (by kernel_rfl) (by kernel_rfl) ?_ ?_ ?_
      ·exact ⟨_,_,_,_,_,_,_,_,fun _=>0,rfl,RBox.start hB.drew ⟨rfl,x4,x0,x1,x2,x3⟩⟩
      ·refine Steps.cons rfl ?_ ?_
       ·rintro l us W hl ⟨u43,u44,u45,u46,u47,u48,u15,u16,tag,rfl,hI⟩ hd hn K' hK;have Hl:Hid (∀j,j<10→(l.setIfInBounds 0 true).getD j false=(j==0||l.getD j false)):=hl;have Hn:Hid (l.getD 0 false=false):=hn;have HI:=Lib.hid hI;have HK:=Lib.hid hK;have y1:=hI.box.x0;have y2:=hI.box.x1;have y3:=hI.box.x2;have y4:=hI.box.x3;clear hl hd hn hI hK;refine StepG.mk ?_;simp only [puts,Act.put]
        go_simp
        exact HK.out [.agg #[.slice aa a.al.length ca,.int .i64 n,.slice am a.ms.length cm,.slice ae a.es.length ce],u44,u45,u46,u47,u48,u15,u16] _ _ (by simp [puts,Act.put]) ⟨_,_,_,_,_,_,_,_,_,rfl,HI.out.op0 Hl.out⟩
       refine Steps.cons rfl ?_ ?_
       ·rintro l us W hl ⟨u43,u44,u45,u46,u47,u48,u15,u16,tag,rfl,hI⟩ hd hn K' hK;have Hl:Hid (∀j,j<10→(l.setIfInBounds 1 true).getD j false=(j==1||l.getD j false)):=hl;have Hn:Hid (l.getD 1 false=false):=hn;have HI:=Lib.hid hI;have HK:=Lib.hid hK;clear hl hd hn hI hK;refine StepG.mk ?_;simp only [puts,Act.put]
        go_simp
        exact HK.out [u43,.slice aw wi.length cw,u45,u46,u47,u48,u15,u16] _ _ (by simp [puts,Act.put]) ⟨_,_,_,_,_,_,_,_,_,rfl,HI.out.op1 Hl.out⟩
       refine Steps.cons rfl ?_ ?_
       ·rintro l us W hl ⟨u43,u44,u45,u46,u47,u48,u15,u16,tag,rfl,hI⟩ hd hn K' hK;have Hl:Hid (∀j,j<10→(l.setIfInBounds 2 true).getD j false=(j==2||l.getD j false)):=hl;have Hn:Hid (l.getD 2 false=false):=hn;have HI:=Lib.hid hI;have HK:=Lib.hid hK;have d:l.getD 0 false=true∧l.getD 1 false=true:=by simpa [Region.binds] using hd
        obtain rfl:=hI.s43 d.1;obtain rfl:=hI.s44 d.2;have hB':=hI.bel;clear hl hd hn hI hK d;refine StepG.mk ?_;simp only [puts,Act.put]
        go_simp
        refine(ydi _ _ _ (.slice aw wi.length cw) n wi _ (Hw.out.mono hB') hlw (by omega) Hwin.out).mono ?_;rintro e w3 ⟨v3,rfl,hown3,hb3⟩
        go_simp
        exact HK.out [.agg #[.slice aa a.al.length ca,.int .i64 n,.slice am a.ms.length cm,.slice ae a.es.length ce],.slice aw wi.length cw,v3,u46,u47,u48,u15,u16] _ _ (by simp [puts,Act.put]) ⟨_,_,_,_,_,_,_,_,_,rfl,HI.out.op2 Hl.out hb3 hown3 Hn.out⟩
       refine Steps.cons rfl ?_ ?_
       ·rintro l us W hl ⟨u43,u44,u45,u46,u47,u48,u15,u16,tag,rfl,hI⟩ hd hn K' hK;have Hl:Hid (∀j,j<10→(l.setIfInBounds 3 true).getD j false=(j==3||l.getD j false)):=hl;have Hn:Hid (l.getD 3 false=false):=hn;have HI:=Lib.hid hI;have HK:=Lib.hid hK;have y1:=hI.box.x0;have y2:=hI.box.x1;have y3:=hI.box.x2;have y4:=hI.box.x3;clear hl hd hn hI hK;refine StepG.mk ?_;simp only [puts,Act.put]
        go_simp
        exact HK.out [u43,u44,u45,.agg #[.slice aa a.al.length ca,.int .i64 n,.slice am a.ms.length cm,.slice ae a.es.length ce],u47,u48,u15,u16] _ _ (by simp [puts,Act.put]) ⟨_,_,_,_,_,_,_,_,_,rfl,HI.out.op3 Hl.out⟩
       refine Steps.cons rfl ?_ ?_
       ·rintro l us W hl ⟨u43,u44,u45,u46,u47,u48,u15,u16,tag,rfl,hI⟩ hd hn K' hK;have Hl:Hid (∀j,j<10→(l.setIfInBounds 4 true).getD j false=(j==4||l.getD j false)):=hl;have Hn:Hid (l.getD 4 false=false):=hn;have HI:=Lib.hid hI;have HK:=Lib.hid hK;clear hl hd hn hI hK;refine StepG.mk ?_;simp only [puts,Act.put]
        go_simp
        exact HK.out [u43,u44,u45,u46,.slice at_ tg.length ct,u48,u15,u16] _ _ (by simp [puts,Act.put]) ⟨_,_,_,_,_,_,_,_,_,rfl,HI.out.op4 Hl.out⟩
       refine Steps.cons rfl ?_ ?_
       ·rintro l us W hl ⟨u43,u44,u45,u46,u47,u48,u15,u16,tag,rfl,hI⟩ hd hn K' hK;have Hl:Hid (∀j,j<10→(l.setIfInBounds 5 true).getD j false=(j==5||l.getD j false)):=hl;have Hn:Hid (l.getD 5 false=false):=hn;have HI:=Lib.hid hI;have HK:=Lib.hid hK;have d:l.getD 3 false=true∧l.getD 4 false=true:=by
         simp [Region.binds] at hd;exact⟨by simp [hd],by simp [hd]⟩
        obtain rfl:=hI.s46 d.1;obtain rfl:=hI.s47 d.2;have hB':=hI.bel;clear hl hd hn hI hK d;refine StepG.mk ?_;simp only [puts,Act.put]
        go_simp
        refine(ydi _ _ _ (.slice at_ tg.length ct) n tg _ (Ht.out.mono hB') hlt (by omega) Htin.out).mono ?_;rintro e w3 ⟨v3,rfl,hown3,hb3⟩
        go_simp
        exact HK.out [u43,u44,u45,.agg #[.slice aa a.al.length ca,.int .i64 n,.slice am a.ms.length cm,.slice ae a.es.length ce],.slice at_ tg.length ct,v3,u15,u16] _ _ (by simp [puts,Act.put]) ⟨_,_,_,_,_,_,_,_,_,rfl,HI.out.op5 Hl.out hb3 hown3 Hn.out⟩
       refine Steps.cons rfl ?_ ?_
       ·rintro l us W hl ⟨u43,u44,u45,u46,u47,u48,u15,u16,tag,rfl,hI⟩ hd hn K' hK;have Hl:Hid (∀j,j<10→(l.setIfInBounds 6 true).getD j false=(j==6||l.getD j false)):=hl;have Hn:Hid (l.getD 6 false=false):=hn;have HI:=Lib.hid hI;have HK:=Lib.hid hK;clear hl hd hn hI hK;refine StepG.mk ?_;simp only [puts,Act.put]
        go_simp
        exact HK.out [u43,u44,u45,u46,u47,u48,.pointer (some ⟨W.heap.size,0,none⟩),u16] _ _ (by simp [puts,Act.put]) ⟨_,_,_,_,_,_,_,_,_,rfl,HI.out.op6 Hl.out Hn.out⟩
       refine Steps.cons rfl ?_ ?_
       ·rintro l us W hl ⟨u43,u44,u45,u46,u47,u48,u15,u16,tag,rfl,hI⟩ hd hn K' hK;have Hl:Hid (∀j,j<10→(l.setIfInBounds 7 true).getD j false=(j==7||l.getD j false)):=hl;have Hn:Hid (l.getD 7 false=false):=hn;have HI:=Lib.hid hI;have HK:=Lib.hid hK;clear hl hd hn hI hK;refine StepG.mk ?_;simp only [puts,Act.put]
        go_simp
        exact HK.out [u43,u44,u45,u46,u47,u48,u15,.pointer (some ⟨W.heap.size,0,none⟩)] _ _ (by simp [puts,Act.put]) ⟨_,_,_,_,_,_,_,_,_,rfl,HI.out.op7 Hl.out Hn.out⟩
       refine Steps.cons rfl ?_ ?_
       ·rintro l us W hl ⟨u43,u44,u45,u46,u47,u48,u15,u16,tag,rfl,hI⟩ hd hn K' hK;have Hl:Hid (∀j,j<10→(l.setIfInBounds 8 true).getD j false=(j==8||l.getD j false)):=hl;have Hn:Hid (l.getD 8 false=false):=hn;have HI:=Lib.hid hI;have HK:=Lib.hid hK;have d:l.getD 6 false=true∧l.getD 2 false=true:=by
         simp [Region.binds] at hd;exact⟨by simp [hd],by simp [hd]⟩
        refine Exists.elim (hI.s15 d.1) (fun b hb=>?_);have hb1:=hb.1;have ho:=hb.2;subst hb1;refine Exists.elim (hI.s45 d.2).val (fun a3 h3=>Exists.elim h3 (fun c3 h4=>?_));subst h4;clear hb h3;have q1:=ho.cell 0;have q2:=ho.frozen 0;simp at q1;have D:=Lib.hid d;clear hl hd hn hI hK d ho;refine StepG.mk ?_;simp only [puts,Act.put]
        go_simp
        exact HK.out [u43,u44,.slice a3 n c3,u46,u47,u48,.pointer (some ⟨b,0,none⟩),u16] _ _ (by simp [puts,Act.put]) ⟨_,_,_,_,_,_,_,_,_,rfl,HI.out.op8 Hl.out D.out.1 D.out.2⟩
       refine Steps.cons rfl ?_ ?_
       ·rintro l us W hl ⟨u43,u44,u45,u46,u47,u48,u15,u16,tag,rfl,hI⟩ hd hn K' hK;have Hl:Hid (∀j,j<10→(l.setIfInBounds 9 true).getD j false=(j==9||l.getD j false)):=hl;have Hn:Hid (l.getD 9 false=false):=hn;have HI:=Lib.hid hI;have HK:=Lib.hid hK;have d:l.getD 7 false=true∧l.getD 5 false=true:=by
         simp [Region.binds] at hd;exact⟨by simp [hd],by simp [hd]⟩
        refine Exists.elim (hI.s16 d.1) (fun b hb=>?_);have hb1:=hb.1;have ho:=hb.2;subst hb1;refine Exists.elim (hI.s48 d.2).val (fun a3 h3=>Exists.elim h3 (fun c3 h4=>?_));subst h4;clear hb h3;have q1:=ho.cell 0;have q2:=ho.frozen 0;simp at q1;have D:=Lib.hid d;clear hl hd hn hI hK d ho;refine StepG.mk ?_;simp only [puts,Act.put]
        go_simp
        exact HK.out [u43,u44,u45,u46,u47,.slice a3 n c3,u15,.pointer (some ⟨b,0,none⟩)] _ _ (by simp [puts,Act.put]) ⟨_,_,_,_,_,_,_,_,_,rfl,HI.out.op9 Hl.out D.out.1 D.out.2⟩
       exact Steps.nil (yNr _)
      ·rintro l us W ⟨u43,u44,u45,u46,u47,u48,u15,u16,tag,rfl,hI⟩ hall;have h2:=hI.s45 (hall 2 (by decide));have h5:=hI.s48 (hall 5 (by decide));refine Exists.elim (hI.s15 (hall 6 (by decide))) (fun b1 hb1=>?_);refine Exists.elim (hI.s16 (hall 7 (by decide))) (fun b2 hb2=>?_);have e1:=hb1.1;have e2:=hb2.1;have ho1:=hb1.2;have ho2:=hb2.2;clear hb1 hb2;subst e1;subst e2;rw [iP (hall 8 (by decide))] at ho1;rw [iP (hall 9 (by decide))] at ho2;refine Exists.elim h2.rd (fun a1 g1=>Exists.elim g1 (fun c1 g2=>?_));refine Exists.elim h5.rd (fun a2 g3=>Exists.elim g3 (fun c2 g4=>?_));have e1:=g2.1;have e2:=g4.1;have hr1:=g2.2;have hr2:=g4.2;clear g1 g2 g3 g4;subst e1;subst e2;have HI:=Lib.hid (And.intro hI.bel (And.intro hI.box (And.intro hr1 (And.intro hr2 (And.intro ho1 ho2)))));clear hall h2 h5 hr1 hr2 ho1 ho2 hI;simp only [puts,Act.put,List.setIfInBounds_toArray,List.set_cons_succ,List.set_cons_zero]
       go_wp2_with fail
       go_meet
       obtain⟨g1,g2,g3,g4,g5,g6⟩:=HI.out;exact⟨b1,b2,a1,a2,c1,c2,rfl,rfl,g1,g2.x0,g2.x1,g2.x2,g2.x3,g2.lt,g5.cell 0,g6.cell 0,g3,g4⟩
     case rest=>
      obtain⟨b1,b2,a1,a2,c1,c2,rfl,rfl,hW,q0,q1,q2,q3,q4,k1,k2,hr1,hr2⟩:=hcut;have hfl1:(flagL n wi).length=n:=yaJ n wi;have hfl2:(flagL n tg).length=n:=yaJ n tg;have hR1:RdB wc (.slice a1 n c1) (flagL n wi):=⟨a1,c1,by rw [hfl1],by rw [hfl1];exact hr1⟩;have hR2:RdB wc (.slice a2 n c2) (flagL n tg):=⟨a2,c2,by rw [hfl2],by rw [hfl2];exact hr2⟩;have HR1:=Lib.hid hR1;have HR2:=Lib.hid hR2;have hr1':RdS wc 1 a1 (flagL n wi).length c1 (bools (flagL n wi)):=by rw [hfl1];exact hr1
      obtain⟨bb,off,rfl,hcell⟩:=hr1'.at_bool fr (by omega);have hget:(flagL n wi)[fr]'(by omega)=hasB wi fr:=by
       have:=ya5 (n:=n) (set:=wi) (s:=(fr:Int)) (by omega) (by omega);rw [yTn,yGd,yGe (by omega)] at this;exact this
      rw [hget] at hcell;have Hfl1:=Lib.hid hfl1;have Hfl2:=Lib.hid hfl2;clear hget hfl1 hfl2 hr1' hR1 hR2;cases hin:hasB wi fr with
      | false=>
       have Hin:=Lib.hid hin;rw [hin] at hcell;clear hin
       go_wp2_with fail
       refine bodyPost_ret (v:= .tuple #[.slice none 0 0,.bool false,.int .i64 0]) (by simp [results,results156,go_sem]) rfl ⟨_,rfl,?_,hW⟩;rw [Herr.out,Hpath.out,iN (by rw [Hin.out];decide)];unfold y6j;rw [iP rfl]
      | true=>
       have Hin:=Lib.hid hin;rw [hin] at hcell;clear hin
       go_wp2_with fail
       refine(yea _ _ _ _ _ _ _ n a.es _ (RdE.mono ⟨ae,ce,rfl,hre⟩ hW) hae (by omega) (fun x hx=>⟨(Hes.out x hx).1,(Hes.out x hx).2.1⟩)).mono ?_;rintro e w3 ⟨_,rfl,⟨af,cf,rfl,hrf⟩,hb3⟩;have hW3:=hW.trans (hb3.mono hW.size);have k1':=keep0 hb3 k1;have k2':=keep0 hb3 k2;have HR1':=HR1.out.mono hb3;have HR2':=HR2.out.mono hb3;have HE1:Enters prog 238:=fun _ _=>by kernel_rfl
       have HE2:Enters prog 239:=fun _ _=>by kernel_rfl
       have hEs:=(RdS.mono hre hW3);have H1:Hid (∀(s:Int) (W:World),0≤s→s<n→Below w3.heap.size w3 W→Calls prog 238 (#[.int .i64 s] ++ #[Value.pointer (some ⟨b2,0,none⟩)]) W fun e w'=>e= .returned (.bool (hasB tg s))∧Below W.heap.size W w'):=by
        intro s W h0 h1 hb;have:=yh1 b2 _ (flagL n tg) s W (keep0 hb k2') (HR2'.mono hb) h0 (by rw [Hfl2.out];exact h1) (by rw [Hfl2.out];omega);rw [ya5 h0 h1] at this;exact this
       have H2:Hid (∀(x:Ed) (W:World),x∈a.es→Below w3.heap.size w3 W→Calls prog 239 (#[x.val] ++ #[Value.pointer (some ⟨b1,0,none⟩)]) W fun e w'=>e= .returned (.bool (hasB wi x.t))∧Below W.heap.size W w'):=by
        intro x W hx hb;have hx':=Hes.out x hx;have:=yh2 b1 _ (flagL n wi) x W (keep0 hb k1') (HR1'.mono hb) hx'.2.2.1 (by rw [Hfl1.out];exact hx'.2.2.2) (by rw [Hfl1.out];omega);rw [ya5 hx'.2.2.1 hx'.2.2.2] at this;exact this
       go_wp2_with fail
       refine(yh0 aa am ae af _ _ ca cm ce cf n fr a.es _ _ _ _ (hasB tg) (fun x=>hasB wi x.t) w3 hEs hrf hae (by omega) hfr (fun x hx=>⟨(Hes.out x hx).2.2.1,(Hes.out x hx).2.2.2⟩) HE1 HE2 H1.out H2.out).mono ?_;rintro e w4 ⟨v4,rfl,hp4,hb4⟩;have hW4:=hW3.trans (hb4.mono hW3.size);have Hpath':Hid (y6r a fr tg wi=pathF n a.es (hasB tg) (fun x=>hasB wi x.t) fr):=by
        show _=_;rw [Hpath.out,iP Hin.out];simp only [yTn]
       clear H1 H2 HE1 HE2 k1 k1' k2 k2' HR1' HR2' hEs hb4 hb3;generalize pathF n a.es (hasB tg) (fun x=>hasB wi x.t) fr=r at hp4 Hpath';cases r with
       | none=>
        have hp5:v4= .tuple #[.slice none 0 0,.bool false]:=hp4;subst hp5
        go_wp2_with fail
        refine bodyPost_ret (v:= .tuple #[.slice none 0 0,.bool false,.int .i64 0]) (by simp [results,results156,go_sem]) rfl ⟨_,rfl,?_,hW4⟩;rw [Herr.out,Hpath'.out];unfold y6j;rw [iP rfl]
       | some xs=>
        obtain⟨v5,rfl,hp5,hfr5⟩:=hp4;have Hfr5:=Lib.hid (hfr5.mono hW3.size);clear hfr5;have Hp5:=Lib.hid hp5;obtain⟨a5,c5,rfl,hp6⟩:=hp5;clear hp6
        go_wp2_with fail
        refine bodyPost_ret (v:= .tuple #[.slice a5 xs.length c5,.bool true,.int .i64 0]) (by simp [results,results156,go_sem]) rfl ⟨_,rfl,?_,hW4⟩;rw [Herr.out,Hpath'.out];unfold y6j;rw [iP rfl];exact⟨_,rfl,Hp5.out,Hfr5.out⟩
 ·have H1:=Lib.hid h1;have h1':(a.err != 0)=true:=by simpa using h1
  clear h1
  go_wp2_with fail
  refine bodyPost_ret (v:= .tuple #[.slice none 0 0,.bool false,.int .i64 a.err]) (by simp [results,results156,go_sem]) rfl ⟨_,rfl,?_,hW1⟩;rw [show y4t a from_ tg wi=a.err by rw [y4t,err2,iN H1.out]];exact y6j.err H1.out
end
section
open Go.Proofs.Tryz Go Go.RowKit
variable{T:TypeId}{x:Operand}{j:Int}{kd:IntKind}{α:Type}{f:α→List LV}{U:TypeId}{d:List Nat}{all:List Eff}{N:Nat}
abbrev rEd :Rep (Int×Int×Int):=rP (rK .i64) (rP (rK .i64) (rK .i64))
abbrev AutT :=LI×Int×LI×(List (Int×Int×Int))
def toEd(x:Int×Int×Int):Ed:=⟨x.1,x.2.1,x.2.2⟩
def toAut(p:AutT):Aut:=⟨p.1,p.2.1,p.2.2.1,p.2.2.2.map toEd⟩
theorem ycc{s:Sig}:∀{xs:LI} {cs:List Value},Cells (rK .i64) s cs xs→cs=ints xs
 | [],cs,h=>h
 | x::xs,cs,h=>by
  obtain⟨c,d,rfl,h1,h2⟩:=h;have h1:c= [.int .i64 x]:=h1;rw [h1,ycc h2];rfl
theorem ya6{s:Sig}:∀(xs:LI),Cells (rK .i64) s (ints xs) xs
 | []=>rfl
 | x::xs=>⟨[.int .i64 x],ints xs,rfl,rfl,ya6 xs⟩
theorem ydm{s:Sig}:∀{xs:List (Int×Int×Int)} {cs:List Value},Cells rEd s cs xs→cs=y7h (xs.map toEd)
 | [],cs,h=>h
 | x::xs,cs,h=>by
  obtain⟨c,d,rfl,⟨c1,c2,rfl,h1,d1,d2,rfl,h3,h4⟩,h2⟩:=h;have h1:c1= [.int .i64 x.1]:=h1;have h3:d1= [.int .i64 x.2.1]:=h3;have h4:d2= [.int .i64 x.2.2]:=h4;rw [h1,h3,h4,ydm h2];rfl
theorem RdL.rdI{s:Sig}{a:Option Addr}{c:Nat}{xs:LI}(h:RdL (rK .i64) s a c xs):RdI s.w (.slice a xs.length c) xs:=by
 obtain⟨cs,h1,_,h3⟩:=h;rw [ycc h3] at h1;exact⟨a,c,rfl,h1⟩
theorem RdL.rdE{s:Sig}{a:Option Addr}{c:Nat}{xs:List (Int×Int×Int)}(h:RdL rEd s a c xs):RdE s.w (.slice a xs.length c) (xs.map toEd):=by
 obtain⟨cs,h1,_,h3⟩:=h;rw [ydm h3] at h1;exact⟨a,c,by rw [yLm],by rw [yLm];exact h1⟩
def Sig.nw(s:Sig)(w':World):Sig:=⟨w',fun b=>if b<s.w.heap.size then s.tag b else 0⟩
theorem Sig.nw_mv{s:Sig}{w':World}(h:Below s.w.heap.size s.w w'):Mv No s (s.nw w'):=Below.mv h fun b hb=>iP hb
theorem RdI.rdL{s:Sig}{w':World}{v:Value}{xs:LI}(h:RdI w' v xs)(hf:y8u s.w.heap.size v):∃a c,v= .slice a xs.length c∧RdL (rK .i64) (s.nw w') a c xs:=by
 obtain⟨a,c,rfl,h1⟩:=h;refine⟨a,c,rfl,ints xs,h1,fun ad e _=>?_,ya6 xs⟩;subst e;exact iN (by have:=hf ad _ _ rfl;omega)
def y4H(p0:AutT)(p1:Int)(p2 p3:LI):Option (LI×Bool×Int):=
 if p0.1.length≤1000000∧p0.2.2.1.length≤1000000∧p0.2.2.2.length≤1000000∧p2.length≤1000000∧p3.length≤1000000 then
  if y4t (toAut p0) p1 p2 p3=0 then some (match y6r (toAut p0) p1 p2 p3 with
   | some xs=>(xs,true,0)
   | none=>([],false,0))
  else some ([],false,y4t (toAut p0) p1 p2 p3)
 else none
theorem ycS{s:Sig}{p0:AutT}{p1:Int}{p2 p3:LI}{a1:Option Addr}{c1:Nat}{a2:Option Addr}{c2:Nat}{a3:Option Addr}{c3:Nat}{a4:Option Addr}{c4:Nat}{a5:Option Addr}{c5:Nat}{r:LI×Bool×Int}(h1:RdL (rK .i64) s a1 c1 p0.1)(h2:RdL (rK .i64) s a2 c2 p0.2.2.1)(h3:RdL rEd s a3 c3 p0.2.2.2)(h4:RdL (rK .i64) s a4 c4 p2)(h5:RdL (rK .i64) s a5 c5 p3)(hm:y4H p0 p1 p2 p3=some r):
  Calls prog 156 #[.agg #[.slice a1 p0.1.length c1,.int .i64 p0.2.1,.slice a2 p0.2.2.1.length c2,.slice a3 p0.2.2.2.length c3],.int .i64 p1,.slice a4 p2.length c4,.slice a5 p3.length c5] s.w (RetS No s fun v s'=>∃(a6:Option Addr) (c6:Nat),v= .tuple #[.slice a6 r.1.length c6,.bool r.2.1,.int .i64 r.2.2]∧RdL (rK .i64) s' a6 c6 r.1):=by
 unfold y4H at hm;split at hm
 ·rename_i hc;obtain⟨g1,g2,g3,g4,g5⟩:=hc;refine(yga _ _ _ (toAut p0) p1 p2 p3 s.w ⟨_,_,_,rfl,h1.rdI,h2.rdI,h3.rdE⟩ ⟨g1,g2,by simpa [toAut] using g3⟩ h4.rdI h5.rdI g4 g5).mono fun en w' hh=>?_;obtain⟨u,rfl,hp,hb⟩:=hh;refine⟨u,s.nw w',rfl,rfl,Sig.nw_mv hb,?_⟩;unfold y6j at hp;split at hp
  ·rename_i h0;rw [iP h0] at hm;cases hr:y6r (toAut p0) p1 p2 p3 with
   | none=>
    rw [hr] at hm hp;cases hm;exact⟨none,0,hp,RdL.nil⟩
   | some xs=>
    rw [hr] at hm hp;cases hm;obtain⟨v,rfl,h6,h7⟩:=hp;obtain⟨a,c,rfl,h8⟩:=h6.rdL h7;exact⟨a,c,rfl,h8⟩
  ·rename_i h0;rw [iN h0] at hm;cases hm;exact⟨none,0,hp,RdL.nil⟩
 ·cases hm
theorem ycT{p0:AutT}{p1:Int}{p2 p3:LI}{r:LI×Bool×Int}(hm:y4H p0 p1 p2 p3=some r):Fw prog 156 ⟨0,[]⟩ [.a [lF qI p0.1,lI p0.2.1,lF qI p0.2.2.1,lF qT p0.2.2.2],.i p1,.f qI p2,.f qI p3] [] (.tp [.f qI r.1,.b r.2.1,.i r.2.2]) []:=
 ⟨fun ts β s vs ht _ _ _ h _=>by
  obtain⟨v0,us0,⟨cs,⟨x1,t1,⟨a1,c1,e1,g1⟩,⟨x2,t2,⟨e2,_⟩,⟨x3,t3,⟨a3,c3,e3,g3⟩,⟨x4,t4,⟨a4,c4,e4,g4⟩,e5,e6⟩,e7⟩,e8⟩,e9⟩,e10⟩,⟨v1,us1,⟨f1,_⟩,⟨v2,us2,⟨a5,c5,f2,g5⟩,⟨v3,us3,⟨a6,c6,f3,g6⟩,f4,f5⟩,f6⟩,f7⟩,f8⟩:=h;subst e5 e6 e7 e8 e9 e10 e1 e2 e3 e4 f4 f5 f6 f7 f8 f1 f2 f3;exact Calls.mono (ycS g1 g3 g4 g5 g6 hm) fun en w' ⟨v,s',q1,q2,m,a,c,hv,hr⟩=>⟨v,s',q1,q2,m.no,β,fun _ _=>rfl,⟨_,⟨_,_,⟨a,c,rfl,hr⟩,⟨_,_,⟨rfl,rfl⟩,⟨_,_,⟨rfl,rfl⟩,rfl,rfl⟩,rfl⟩,rfl⟩,hv⟩,fun i o ho=>by simp at ho⟩⟩
section
variable{K:Kx}{C:Cx}{P:Program}{n:Nat}{ops:Array Oper}{σ:Sx}{d:Nat}{ty:TypeId}{pos:String}{af:Array Edge}{g:Option (Nat×Bool)}
theorem O.ia{i:Operand}{k m b off:Nat}(hI:IA P T k m)(hg:Gu ops σ g)(hx:σ.ev x=some (sL (lP b off)))(hi:σ.ev i=some (VL (.int kd j)))(hj:rng j k=some ())(hb:Nat.blt d n=true):Ox K C P n ops ⟨some d,.indexAddr T x i,ty,pos,af,g⟩ σ (F1 d (sL (lP b (off+j.toNat*m)))):=
 Ox.pure fun _ _ _ _ _ _ hd k=>by
  obtain⟨v,h1,b,h2,rfl⟩:=hd.evv hx;exact L.ia hI (hd.gd hg) h1 (hd.evl hi) (yi1 hj) hb (k _ ⟨b,h2,rfl⟩)
theorem yjt{f:Int→LV}{l:List LV}{cs:LI}{off m k:Nat}{v:Int}(hl:(l.drop off).take m=cs.map f)(hv:cs[k]? =some v):l[off+k]? =some (f v):=by
 have h:((l.drop off).take m)[k]? =some (f v):=by rw [hl,List.getElem?_map,hv];rfl
 rw [List.getElem?_take] at h;split at h
 ·rwa [List.getElem?_drop] at h
 ·cases h
theorem O.ldA{l:List LV}{b off e k m:Nat}{v:Int}{cs:LI}(hT:NAg P T)(hg:Gu ops σ g)(hx:σ.ev x=some (sL (lP b e)))(ho:aget σ.ob b=some (.bx ty l))(hl:(l.drop off).take m=cs.map fun z=>lV (.int kd z))(he:e=off+k)(hv:cs[k]? =some v)(hb:Nat.blt d n=true){ty':TypeId}:Ox K C P n ops ⟨some d,.load T x,ty',pos,af,g⟩ σ (F1 d (VL (.int kd v))):=
 O.ld hT hg hx (.B ho) (by rw [he];exact yjt hl hv) hb
end
/-! Common operations, in short. -/
section
variable{K:Kx}{C:Cx}{P:Program}{Φ:Fr}{Q:Exit→Act→World→Prop}{n:Nat}{ops:Array Oper}{os:List Oper}{σ:Sx}{d:Nat}{ty:TypeId}{pos:String}{af:Array Edge}
theorem V.mv{y:SV}(h:(σ.ev x,Nat.blt d n,(F1 d y).ok K σ.n)=(some y,true,true))(h2:V K C Φ P Q n ops os (σ.eff (F1 d y))):V K C Φ P Q n ops (⟨some d,.move x,ty,pos,af,none⟩::os) σ:=by
 simp only [Prod.mk.injEq] at h;exact .op (O.mv .no h.1 h.2.1) h.2.2 h2
theorem V.sa{y:SV}(h:(σ.ev x,Nat.blt d n,(F1 d y).ok K σ.n)=(some y,true,true))(h2:V K C Φ P Q n ops os (σ.eff (F1 d y))):V K C Φ P Q n ops (⟨some d,.assign x,ty,pos,af,none⟩::os) σ:=by
 simp only [Prod.mk.injEq] at h;exact .op (O.as .no h.1 h.2.1) h.2.2 h2
theorem V.bi{op:BinOp}{y:Operand}{k:IntKind}{i:Int}{v:Value}(h:(σ.ev x,σ.ev y,y8v op k i j,Nat.blt d n,(F1 d (VL v)).ok K σ.n)=(some (VL (.int k i)),some (VL (.int k j)),some v,true,true))(h2:V K C Φ P Q n ops os (σ.eff (F1 d (VL v)))):V K C Φ P Q n ops (⟨some d,.binOp op T x y U,ty,pos,af,none⟩::os) σ:=by
 simp only [Prod.mk.injEq] at h;exact .op (O.bi .no h.1 h.2.1 h.2.2.1 h.2.2.2.1) h.2.2.2.2 h2
theorem V.sk{op:Op}{j q:Nat}{b b':Bool}(h:((ops[j]?).bind (·.dst),aget σ.sl q,b',Nat.blt d n,(F1 d (.tp [])).ok K σ.n)=(some q,some (VL (.bool b')),!b,true,true))(h2:V K C Φ P Q n ops os (σ.eff (F1 d (.tp [])))):V K C Φ P Q n ops (⟨some d,op,ty,pos,af,some (j,b)⟩::os) σ:=by
 simp only [Prod.mk.injEq] at h;exact .op (O.skip h.1 h.2.1 h.2.2.1 h.2.2.2.1) h.2.2.2.2 h2
end
def Sx.dr(σ:Sx)(d:List Nat):Sx:=⟨σ.sl,σ.ob.filter fun p=>!(d.any (Nat.beq p.1)),σ.n⟩
theorem yaZ{i:Nat}{o:Ob}:∀{l:List (Nat×Ob)},aget (l.filter fun p=>!(d.any (Nat.beq p.1))) i=some o→aget l i=some o
 | [],h=>h
 | (j,x)::l,h=>by
  rw [List.filter_cons] at h;simp only [aget];split at h
  ·simp only [aget] at h;cases hb:Nat.beq j i with
   | true=>rw [hb] at h;exact h
   | false=>rw [hb] at h;exact yaZ h
  ·rename_i hd;cases hb:Nat.beq j i with
   | true=>
    exfalso;have hm:=(List.mem_filter.1 (y6q h)).2;rw [←yNb hb] at hm;exact hd hm
   | false=>exact yaZ h
section
variable{K:Kx}{C:Cx}{P:Program}{Φ:Fr}{Q:Exit→Act→World→Prop}{n:Nat}{σ:Sx}{fs:List Eff}{A:List (List Nat)}{N:Nat}
theorem Den.okd{k:Nat}{m:List Bool}{j:Nat}{β:Nat→Value}{s:Sig}{e:List (Nat×Value)}(hk:okQ A fs N (σ.dr d) k m=true)(hn:Nat.beq (muK m fs σ.n) j=true)(h:Den K C (mu A fs N σ k (ixs m 0)) β s e):Den K C (muS (σ.dr d) fs m j) β s e:=by
 have hj:(mu A fs N σ k (ixs m 0)).n=j:=by
  show muN fs σ.n (ixs m 0)=j;rw [y6I (fs:=fs) fun i=>by rw [yNz]];exact yNb hn
 simp only [okQ,yAe] at hk;obtain⟨k1,k2,k3⟩:=hk;have ho:∀i o,aget (muO m fs (σ.dr d).ob) i=some o→aget (mu A fs N σ k (ixs m 0)).ob i=some o:=fun i o hx=>by
  show aget (muE A fs N k (ixs m 0) (muF A fs N k σ.ob)) i=some o;rw [ybE (fs:=fs) (fun j hj p hp=>yAt.1 (yAt.1 k1 j hj) p hp) fun i=>by rw [yNz],y9C];rw [y9C] at hx;refine y7d (fun hno x hx=>?_) hx;rcases Bool.or_eq_true_iff.1 (yAt.1 k2 _ (y6q hx)) with g|g
  ·obtain ⟨q,hq,hq2⟩:=List.any_eq_true.1 g;have:q.1=i:=yNb hq2;exact absurd (show (i,q.2)∈_ from by rw [←this];exact hq) (hno q.2)
  ·exact yc9 g (yaZ hx)
 have hs:∀d' x,aget (muM m fs (σ.dr d).sl) d'=some x→aget (mu A fs N σ k (ixs m 0)).sl d'=some x:=fun i o hx=>by
  show aget (muA fs (ixs m 0) (muB A fs N k σ.sl)) i=some o;rw [y8q (fs:=fs) fun i=>by rw [yNz],y7y];rw [y7y] at hx;refine y7d (fun hno x hx=>?_) hx;rcases Bool.or_eq_true_iff.1 (yAt.1 k3 _ (y6q hx)) with g|g
  ·obtain ⟨q,hq,hq2⟩:=List.any_eq_true.1 g;have:q.1=i:=yNb hq2;exact absurd (show (i,q.2)∈_ from by rw [←this];exact hq) (hno q.2)
  ·exact yca g hx
 exact⟨h.ok,h.mv,h.b0,hj▸h.m,fun d x hx=>h.sl d x (hs d x hx),fun i o hx=>h.ob i o (ho i o hx),fun d x hx=>hj▸h.fs d x (hs d x hx),fun i o hx=>hj▸h.fo i o (ho i o hx)⟩
def Wsd(K:Kx)(C:Cx)(P:Program)(n:Nat)(ops:Array Oper)(all:List Eff)(σ:Sx):List (Nat×List Bool×List Nat)→List Eff→List Oper→Prop
 | _,_,[]=>True
 | m::ms,f::fs,o::os=>Ox K C P n ops o (muS (σ.dr m.2.2) all m.2.1 m.1) f∧Wsd K C P n ops all σ ms fs os
 | _,_,_::_=>False
def okKd(A:List (List Nat))(fs:List Eff)(N:Nat)(σ:Sx):Nat→List (Nat×List Bool×List Nat)→Bool
 | _,[]=>true
 | k,m::ms=>okQ A fs N (σ.dr m.2.2) k m.2.1&&okKd A fs N σ (k+1) ms
def nsOd(fs:List Eff)(n:Nat)(ms:List (Nat×List Bool×List Nat)):Bool:=ms.all fun m=>Nat.beq (muK m.2.1 fs n) m.1
theorem Wsd.gg{ops:Array Oper}:∀{l:List Oper} {k:Nat} {ms:List (Nat×List Bool×List Nat)} {fs:List Eff},okKd A all N σ k ms=true→nsOd all σ.n ms=true→Wsd K C P n ops all σ ms fs l→(∀i,all.getD (k+i) noE=fs.getD i noE)→(∀i,A.getD (k+i) []=(ms.map fun m=>ixs m.2.1 0).getD i [])→y7r K C P n ops A all N σ k l
 | [],_,_,_,_,_,_,_,_=>trivial
 | o::os,k,m::ms,f::fs,hk,hn,hw,hf,hA=>by
  simp only [okKd,yAe] at hk;simp only [nsOd,List.all_cons,yAe] at hn;refine⟨?_,Wsd.gg hk.2 hn.2 hw.2 (fun i=>?_) (fun i=>?_)⟩
  ·have h1:=hf 0;have h2:=hA 0;rw [Nat.add_zero] at h1 h2;rw [h1,h2,show(List.map (fun (m:Nat×List Bool×List Nat)=>ixs m.2.1 0) (m::ms)).getD 0 []=ixs m.2.1 0 from rfl];intro Φ Q os β s e hd hc;have hj:(mu A all N σ k (ixs m.2.1 0)).n=m.1:=by
    show muN all σ.n (ixs m.2.1 0)=m.1;rw [y6I (fs:=all) fun i=>by rw [yNz]];exact yNb hn.1
   exact hw.1 Φ Q os β s e (hd.okd hk.1 hn.1) fun β' s' e' a=>hc β' s' e' (by rw [hj];exact a)
  ·have:=hf (i+1);rw [show k+(i+1)=k+1+i by omega] at this;simpa using this
  ·have:=hA (i+1);rw [show k+(i+1)=k+1+i by omega] at this;simpa using this
 | _::_,_,[],_,_,_,hw,_,_=>by cases hw
 | _::_,_,_::_,[],_,_,hw,_,_=>by cases hw
theorem WE.drd{id:Nat}{l:List Oper}(j:Nat)(ms:List (Nat×List Bool×List Nat))(fs:List Eff)(τ:Sx)(hs:Wsd K C P n l.toArray fs σ ms fs l)(hok:(okQ (ms.map fun m=>ixs m.2.1 0) fs l.length σ l.length (List.replicate l.length true)&&(Nat.beq (muK (List.replicate l.length true) fs σ.n) j&&(okKd (ms.map fun m=>ixs m.2.1 0) fs l.length σ 0 ms&&(nsOd fs σ.n ms&&y7M P K (ms.map fun m=>ixs m.2.1 0) fs σ.n l.toArray))))=true)(hτ:τ.is K (muS σ fs (List.replicate l.length true) j) [])(h0:WX K C Φ Q n .normal τ):WE K C Φ P Q n (.region id l.toArray true) σ:=by
 simp only [yAe] at hok;obtain⟨h1,h2,h3,h4,h5⟩:=hok;have hz:∀i,fs.getD (0+i) noE=fs.getD i noE:=fun i=>by rw [yNz]
 refine .draw' (ms.map fun m=>ixs m.2.1 0) fs (Wsd.gg h3 h4 hs hz fun i=>by rw [yNz]) h5 ?_;rw [List.range_eq_range',←y9B];exact fun β s e hd=>h0.sub [] hτ β s e (hd.okK h1 h2)
end
section
variable{α:Type}{r:Rep α}{s s':Sig}{t t' u u':Nat}{T':TypeId}{τ:Nat→Nat}{a:Option Nat}{c:Nat}
theorem MapO.fl{κ β:Type}{kv:κ→Value}{r:Rep β}{m:List (κ×β)}{T2:TypeId}(hr:FlatR r)(h:MapO kv r s t T a c m)(hb:∀b,b<s.w.heap.size→s.tag b=t→s'.w.heap[b]? =s.w.heap[b]? ∧s'.tag b=t'):MapO kv r s' t' T2 a c m:=by
 obtain⟨b,es,clock,h1,h2,h3,h4,h5⟩:=h.is;obtain⟨g1,g2⟩:=hb b (yAs.1 h2).1 h3;exact⟨h.cap0,b,es,clock,h1,g1.trans h2,g2,h4,fun i e p he hp=>hr _ _ _ _ (h5 i e p he hp)⟩
theorem yfv{ks:LI}{k:Int}(h:kidx ks k<ks.length):ks[kidx ks k]=k:=by
 have h2:(k==ks[kidx ks k])=true:=List.findIdx_getElem (p:=fun p=>k==p) (w:=h);exact(beq_iff_eq.1 h2).symm
structure MtbP (r:Rep α) (T':TypeId) (o:Option Int) (m:List (Int×List α)) (s:Sig) (t:Nat) (h:Value) (hs:List (Int×Value)) (τ:Nat→Nat) (a:Option Nat) (c:Nat):Prop where
 e:h= .map a
 out:MapO kvI rVal (sp s t τ) (2*0+1) 0 a c hs
 key:hs.map (·.1)=m.map (·.1)
 nd:(m.map (·.1)).Nodup
 inn:∀(i:Nat) (k:Int) (hd:Value) (ys:List α),hs[i]? =some (k,hd)→m[i]? =some (k,ys)→o≠some k→∃a c,hd= .slice a ys.length c∧RowT r (sp s t τ) (2*(i+1)+1) T' a c ys
variable{m:List (Int×List α)}{hs:List (Int×Value)}{h:Value}{o:Option Int}{k:Int}
theorem MtbP.take(hr:FlatR r)(H:MtbP r T' none m s t h hs τ a c)(k:Int)(hu:u≠t):
  MtbP r T' (some k) m (tkS s t u (kidx (m.map (·.1)) k) τ) t h hs τ a c∧(∃a c,(kget hs k).getD (.slice none 0 0)= .slice a ((kget m k).getD []).length c∧RowT r (tkS s t u (kidx (m.map (·.1)) k) τ) u T' a c ((kget m k).getD []))∧Mv (fun x=>x=u∨x=t) s (tkS s t u (kidx (m.map (·.1)) k) τ):=by
 have hlen:hs.length=m.length:=by have:=congrArg List.length H.key;simpa using this
 obtain⟨i,hi⟩:∃i,i=kidx (m.map (·.1)) k:=⟨_,rfl⟩;rw [←hi];have key:∀j b,j≠i+1→b<(sp s t τ).w.heap.size→(sp s t τ).tag b=2*j+1→(sp (tkS s t u i τ) t τ).w.heap[b]? =(sp s t τ).w.heap[b]? ∧(sp (tkS s t u i τ) t τ).tag b=2*j+1:=fun j b hk _ ht=>by
  obtain⟨q1,q2⟩:=y8z ht;have:(tkS s t u i τ).tag b=t:=by
   show(if s.tag b=t∧τ b=i+1 then u else s.tag b)=t;rw [iN (fun g=>hk (q2.symm.trans g.2)),q1]
  exact⟨rfl,by rw [sp_at this,q2]⟩
 refine⟨⟨H.e,H.out.fl y7N (fun b=>key 0 b (by omega)),H.key,H.nd,fun j k' hd ys g1 g2 g3=>?_⟩,?_,?_⟩
 ·obtain ⟨a,c,e,h5⟩:=H.inn j k' hd ys g1 g2 nofun;refine⟨a,c,e,h5.fl hr fun b=>key (j+1) b fun e=>g3 ?_⟩;have hj:j=i:=Nat.succ.inj e;have hjl:=(yGs.1 g2).1;have h1:kidx (m.map (·.1)) k<(m.map (·.1)).length:=by rw [←hi,←hj];simpa using hjl
  have h2:=yfv h1;have h3:(m.map (·.1))[j]? =some k':=by rw [List.getElem?_map,g2];rfl
  rw [hj,hi,yGe h1,h2] at h3;exact h3
 ·by_cases hlt:i<m.length
  ·have h1:kidx (m.map (·.1)) k<(m.map (·.1)).length:=by rw [←hi];simpa using hlt
   have h2:=yfv h1;have hm:m[i]? =some (k,m[i].2):=by
    rw [yGe hlt];have:m[i].1=k:=by simpa [←hi] using h2
    rw [←this]
   have hh:hs[i]? =some (k,(hs[i]'(by omega)).2):=by
    have hk:(hs.map (·.1))[i]? =some k:=by rw [H.key,List.getElem?_map,hm];rfl
    rw [List.getElem?_map,yGe (by omega)] at hk;have:(hs[i]'(by omega)).1=k:=ySi hk;rw [yGe (by omega)];exact congrArg some (Prod.ext this rfl)
   have e1:kget m k=some m[i].2:=by rw [y8p,←hi,hm];rfl
   have e2:kget hs k=some (hs[i]'(by omega)).2:=by rw [y8p,H.key,←hi,hh];rfl
   obtain⟨a,c,e,h5⟩:=H.inn i k _ _ hh hm nofun;rw [e1,e2];refine⟨a,c,e,h5.fl hr fun b _ ht=>⟨rfl,?_⟩⟩;obtain⟨q1,q2⟩:=y8z ht;exact iP ⟨q1,q2⟩
  ·have e1:kget m k=none:=by rw [y8p,←hi,yGn (by omega)];rfl
   have e2:kget hs k=none:=by rw [y8p,H.key,←hi,yGn (by omega)];rfl
   rw [e1,e2];exact⟨none,0,rfl,RowT.nil⟩
 ·exact ⟨rfl,rfl,rfl,yNr _,fun b _ hn=>⟨rfl,iN fun g=>hn (.inr g.1)⟩⟩
end
section
variable{K:Kx}{C:Cx}{P:Program}{n:Nat}{ops:Array Oper}{σ:Sx}{d q i:Nat}{ty:TypeId}{pos:String}{af:Array Edge}{g:Option (Nat×Bool)}{β:Nat→Value}{s s':Sig}{e:List (Nat×Value)}
variable{α:Type}{r:Rep α}{hr:FlatR r}{T2:TypeId}{o:Option Int}{m:List (Int×List α)}{ys:List α}{k:Int}{T kt et:TypeId}
/-! A call that is lent what it reads, and makes objects that hold no more than cells. -/
def FlatO(o:Ob):Prop:=∀β s t h s2 t2 β2,(∀b,b<s.w.heap.size→s.tag b=t→s2.w.heap[b]? =s.w.heap[b]? ∧s2.tag b=t2)→o.p β s t h→o.p β2 s2 t2 h
theorem FlatO.row{α:Type}{r:Rep α}{T:TypeId}{xs:List α}(hr:FlatR r):FlatO (ROW r T xs):=fun _ _ _ _ _ _ _ hb ⟨a,c,e,h⟩=>⟨a,c,e,h.fl hr hb⟩
def FlatL :List Ob→Prop
 | []=>True
 | o::l=>FlatO o∧FlatL l
theorem FlatL.at :∀{l:List Ob} {i:Nat} {o:Ob},FlatL l→l[i]? =some o→FlatO o
 | [],_,_,_,h=>by cases h
 | _::_,0,_,⟨h1,_⟩,h=>by cases h;exact h1
 | _::_,i+1,_,⟨_,h2⟩,h=>h2.at (i:=i) (by simpa using h)
def FlatS(r:SV):Prop:=∀β s s2 v,r.p β s v→r.p β s2 v
theorem O.caY{f:FuncId}{xs:List Operand}{av ys:List TV}{ob':List Ob}{c:Call}{r r':SV}(ν:List Nat)(l:List (Nat×Ob))(nx:Option Nat)(hF:Fw P f ⟨0,[]⟩ av [] r ob')(hcf:Cf P f)(hc:c.callee= .value (.func f))(hca:c.args=xs.toArray)(hg:Gu ops σ g)(hx:σ.evs xs=some ys)
  (hok:y7q ⟨0,[]⟩ σ.n ν l ob' r=true) (hcv:LnA K C σ ys av) (has:refsT av= []) (hfl:FlatL ob') (hfs:FlatS r) (hO:OutL (fun i=>ν.getD i 0) ob' l) (hr:∀β s v,r.p (fun i=>β (ν.getD i 0)) s v→r'.p β s v) (hb:Nat.blt d n=true):
  Ox K C P n ops ⟨some d,.call c,ty,pos,af,g⟩ σ (callE (some (d,r')) ν l nx):=fun Φ Q os β s e hd k=>by
 obtain⟨vs,h1,h2⟩:=hd.evs hx;have hcall:=hF.is ((List.range ob'.length).map fun i=>C.tg (ν.getD i 0)) (fun i=>β (ν.getD i 0)) ⟨s.w,fun _=>0⟩ vs (by simp) (yZl _) (by simp) (by simp) ((hcv.p hd h2).mono (Le.refl _) fun i hi=>by rw [has] at hi;cases hi) (fun i o h=>by simp at h)
 ·have h4:Calls P f vs.toArray s.w (Lft ⟨0,[]⟩ ((List.range ob'.length).map fun i=>C.tg (ν.getD i 0)) (fun i=>β (ν.getD i 0)) s r ob'):=Calls.mono hcall fun en w' ⟨v,s',a1,a2,m,β',g1,g2,g3⟩=>by
   have m0:∀b,b<s.w.heap.size→s'.w.heap[b]? =s.w.heap[b]? ∧s'.tag b=0:=fun b hb=>m.blk b hb fun⟨i,hi,_⟩=>by cases hi
   refine⟨v,⟨s'.w,fun b=>if b<s.w.heap.size then s.tag b else s'.tag b⟩,a1,a2,⟨m.os,m.tape,m.output,m.size,fun b hb _=>⟨(m0 b hb).1,iP hb⟩⟩,β',g1,hfs _ _ _ _ g2,fun i o ho=>?_⟩;have hi:i<ob'.length:=(yGs.1 ho).1;have htg:((List.range ob'.length).map fun i=>C.tg (ν.getD i 0)).getD i 0=C.tg (ν.getD i 0):=by simp [yGd,hi]
   refine hfl.at ho β' s' _ _ _ _ β' (fun b _ hbt=>⟨rfl,?_⟩) (g3 i o ho);rw [htg] at hbt ⊢;have hp:=hd.ok.tpos (ν.getD i 0);have:¬b<s.w.heap.size:=fun hlt=>by
    have:=(m0 b hlt).2;omega
   show(if b<s.w.heap.size then s.tag b else s'.tag b)=_;rw [iN this,hbt]
  refine L.ca hcf hc hca (hd.gd hg) h1 h4 hb fun v s' m hp=>?_;obtain⟨β'',g1,g2,g2',g3,g4⟩:=y9Z (nx:=nx) hd.ok hok hO m hp;exact k β'' s' _ ⟨g2,g2',g3,fun d' hn=>Env.get_put fun e=>hn r' (by rw [e];rfl),fun d' x' ee=>(by cases ee;exact⟨v,by simp [Env.get],hr _ _ _ g1⟩),g4⟩
end
/-! Drawing regions in which an object is touched more than once. -/
def dropO(zs:List (Nat×Nat))(j:Nat)(f:Eff):List (Nat×Ob):=f.ob.filter fun p=>!(zs.any fun z=>Nat.beq z.1 j&&Nat.beq z.2 p.1)
def muOz(zs:List (Nat×Nat)):List Bool→Nat→List Eff→List (Nat×Ob)→List (Nat×Ob)
 | [],_,_,l=>l
 | b::m,j,fs,l=>match fs with
  | []=>l
  | f::fs=>cond b (dropO zs j f++muOz zs m (j+1) fs l) (muOz zs m (j+1) fs l)
theorem yia{zs:List (Nat×Nat)}{l:List (Nat×Ob)}:∀{m:List Bool} {j:Nat},muOz zs m j [] l=l
 | [],_=>rfl
 | _::_,_=>rfl
theorem ybF{zs:List (Nat×Nat)}{l:List (Nat×Ob)}:∀{m:List Bool} {j:Nat} {fs:List Eff},muOz zs m j fs l=muOz zs m j fs []++l
 | [],_,_=>rfl
 | _::_,_,[]=>rfl
 | b::m,j,f::fs=>by
  simp only [muOz];rw [ybF (m:=m) (fs:=fs)];cases b
  ·rfl
  ·simp only [cond_true,yAa]
theorem ycU{A:List (List Nat)}{fs:List Eff}{k j:Nat}{l:List (Nat×Ob)}{kp:Nat→Bool}:∀{q:List (Nat×Ob)},(∀p,p∈q→okJ A fs N k j p.1=kp p.1)→muC A fs N k j q l=(q.filter fun p=>kp p.1)++l
 | [],_=>rfl
 | p::q,h=>by
  simp only [muC];rw [h p (.head _),ycU fun p hp=>h p (.tail _ hp),List.filter_cons];cases kp p.1 <;> rfl
section
variable{K:Kx}{C:Cx}{P:Program}{Φ:Fr}{Q:Exit→Act→World→Prop}{n:Nat}{σ:Sx}{fs:List Eff}{A:List (List Nat)}{N:Nat}
theorem muE_z{k:Nat}{l:List (Nat×Ob)}{zs:List (Nat×Nat)}:∀{m:List Bool} {j:Nat} {fs:List Eff},(∀j',j'∈ixs m j→∀p,p∈(all.getD j' noE).ob→okJ A all N k j' p.1=!(zs.any fun z=>Nat.beq z.1 j'&&Nat.beq z.2 p.1))→(∀i,all.getD (j+i) noE=fs.getD i noE)→muE A all N k (ixs m j) l=muOz zs m j fs l
 | [],_,_,_,_=>rfl
 | b::m,j,fs,hj,h=>by
  have ih:∀{fs':List Eff},(∀i,all.getD (j+1+i) noE=fs'.getD i noE)→muE A all N k (ixs m (j+1)) l=muOz zs m (j+1) fs' l:=fun h'=>muE_z (fun j' hm=>hj j' (by
   cases b
   ·exact hm
   ·exact .tail _ hm)) h'
  have h0:=h 0;rw [Nat.add_zero] at h0;cases fs with
  | nil=>
   have ih:=ih (fs':=[]) fun i=>by
    have:=h (i+1);rw [show j+(i+1)=j+1+i by omega] at this;simpa using this
   rw [yia] at ih ⊢;cases b
   ·exact ih
   ·have hj:=hj j (.head _);simp only [ixs,cond_true,muE];rw [ycU (kp:=fun i=>!(zs.any fun z=>Nat.beq z.1 j&&Nat.beq z.2 i)) hj,h0,ih];rfl
  | cons f fs=>
   have ih:=ih (fs':=fs) fun i=>by
    have:=h (i+1);rw [show j+(i+1)=j+1+i by omega] at this;simpa using this
   cases b
   ·exact ih
   ·have hj:=hj j (.head _);simp only [ixs,cond_true,muE,muOz];rw [ycU (kp:=fun i=>!(zs.any fun z=>Nat.beq z.1 j&&Nat.beq z.2 i)) hj,h0,ih];rfl
def muZ(σ:Sx)(fs:List Eff)(d:List Nat)(zs:List (Nat×Nat))(m:List Bool)(n:Nat):Sx:=⟨muM m fs σ.sl,muOz zs m 0 fs (σ.dr d).ob,n⟩
def okZ(A:List (List Nat))(fs:List Eff)(N:Nat)(σ:Sx)(k:Nat)(d:List Nat)(zs:List (Nat×Nat))(m:List Bool):Bool:=
  ((ixs m 0).all fun j=>(fs.getD j noE).ob.all fun p=>(okJ A fs N k j p.1 == !(zs.any fun z=>Nat.beq z.1 j&&Nat.beq z.2 p.1))) &&
  (((σ.dr d).ob.all fun p=>(muOz zs m 0 fs []).any (fun q=>Nat.beq q.1 p.1)||okO A fs N k p.1) &&
   (σ.sl.all fun p=>(muM m fs []).any (fun q=>Nat.beq q.1 p.1)||okD A fs N k p.1))
theorem Den.okz{zs:List (Nat×Nat)}{k:Nat}{m:List Bool}{j:Nat}{β:Nat→Value}{s:Sig}{e:List (Nat×Value)}(hk:okZ A fs N σ k d zs m=true)(hn:Nat.beq (muK m fs σ.n) j=true)(h:Den K C (mu A fs N σ k (ixs m 0)) β s e):Den K C (muZ σ fs d zs m j) β s e:=by
 have hj:(mu A fs N σ k (ixs m 0)).n=j:=by
  show muN fs σ.n (ixs m 0)=j;rw [y6I (fs:=fs) fun i=>by rw [yNz]];exact yNb hn
 simp only [okZ,yAe] at hk;obtain⟨k1,k2,k3⟩:=hk;have ho:∀i o,aget (muOz zs m 0 fs (σ.dr d).ob) i=some o→aget (mu A fs N σ k (ixs m 0)).ob i=some o:=fun i o hx=>by
  show aget (muE A fs N k (ixs m 0) (muF A fs N k σ.ob)) i=some o;rw [muE_z (fs:=fs) (zs:=zs) (fun j hj p hp=>by
   have:=yAt.1 (yAt.1 k1 j hj) p hp;exact beq_iff_eq.1 this) fun i=>by rw [yNz],ybF]
  rw [ybF] at hx;refine y7d (fun hno x hx=>?_) hx;rcases Bool.or_eq_true_iff.1 (yAt.1 k2 _ (y6q hx)) with g|g
  ·obtain ⟨q,hq,hq2⟩:=List.any_eq_true.1 g;have:q.1=i:=yNb hq2;exact absurd (show (i,q.2)∈_ from by rw [←this];exact hq) (hno q.2)
  ·exact yc9 g (yaZ hx)
 have hs:∀d' x,aget (muM m fs σ.sl) d'=some x→aget (mu A fs N σ k (ixs m 0)).sl d'=some x:=fun i o hx=>by
  show aget (muA fs (ixs m 0) (muB A fs N k σ.sl)) i=some o;rw [y8q (fs:=fs) fun i=>by rw [yNz],y7y];rw [y7y] at hx;refine y7d (fun hno x hx=>?_) hx;rcases Bool.or_eq_true_iff.1 (yAt.1 k3 _ (y6q hx)) with g|g
  ·obtain ⟨q,hq,hq2⟩:=List.any_eq_true.1 g;have:q.1=i:=yNb hq2;exact absurd (show (i,q.2)∈_ from by rw [←this];exact hq) (hno q.2)
  ·exact yca g hx
 exact⟨h.ok,h.mv,h.b0,hj▸h.m,fun d x hx=>h.sl d x (hs d x hx),fun i o hx=>h.ob i o (ho i o hx),fun d x hx=>hj▸h.fs d x (hs d x hx),fun i o hx=>hj▸h.fo i o (ho i o hx)⟩
def Wsz(K:Kx)(C:Cx)(P:Program)(n:Nat)(ops:Array Oper)(all:List Eff)(σ:Sx):List (Nat×List Bool×List Nat×List (Nat×Nat))→List Eff→List Oper→Prop
 | _,_,[]=>True
 | m::ms,f::fs,o::os=>Ox K C P n ops o (muZ σ all m.2.2.1 m.2.2.2 m.2.1 m.1) f∧Wsz K C P n ops all σ ms fs os
 | _,_,_::_=>False
def okZs(A:List (List Nat))(fs:List Eff)(N:Nat)(σ:Sx):Nat→List (Nat×List Bool×List Nat×List (Nat×Nat))→Bool
 | _,[]=>true
 | k,m::ms=>okZ A fs N σ k m.2.2.1 m.2.2.2 m.2.1&&okZs A fs N σ (k+1) ms
def nsOz(fs:List Eff)(n:Nat)(ms:List (Nat×List Bool×List Nat×List (Nat×Nat))):Bool:=ms.all fun m=>Nat.beq (muK m.2.1 fs n) m.1
theorem Wsz.gg{ops:Array Oper}:∀{l:List Oper} {k:Nat} {ms:List (Nat×List Bool×List Nat×List (Nat×Nat))} {fs:List Eff},okZs A all N σ k ms=true→nsOz all σ.n ms=true→Wsz K C P n ops all σ ms fs l→(∀i,all.getD (k+i) noE=fs.getD i noE)→(∀i,A.getD (k+i) []=(ms.map fun m=>ixs m.2.1 0).getD i [])→y7r K C P n ops A all N σ k l
 | [],_,_,_,_,_,_,_,_=>trivial
 | o::os,k,m::ms,f::fs,hk,hn,hw,hf,hA=>by
  simp only [okZs,yAe] at hk;simp only [nsOz,List.all_cons,yAe] at hn;refine⟨?_,Wsz.gg hk.2 hn.2 hw.2 (fun i=>?_) (fun i=>?_)⟩
  ·have h1:=hf 0;have h2:=hA 0;rw [Nat.add_zero] at h1 h2;rw [h1,h2,show(List.map (fun (m:Nat×List Bool×List Nat×List (Nat×Nat))=>ixs m.2.1 0) (m::ms)).getD 0 []=ixs m.2.1 0 from rfl];intro Φ Q os β s e hd hc;have hj:(mu A all N σ k (ixs m.2.1 0)).n=m.1:=by
    show muN all σ.n (ixs m.2.1 0)=m.1;rw [y6I (fs:=all) fun i=>by rw [yNz]];exact yNb hn.1
   exact hw.1 Φ Q os β s e (hd.okz hk.1 hn.1) fun β' s' e' a=>hc β' s' e' (by rw [hj];exact a)
  ·have:=hf (i+1);rw [show k+(i+1)=k+1+i by omega] at this;simpa using this
  ·have:=hA (i+1);rw [show k+(i+1)=k+1+i by omega] at this;simpa using this
 | _::_,_,[],_,_,_,hw,_,_=>by cases hw
 | _::_,_,_::_,[],_,_,hw,_,_=>by cases hw
theorem WE.drz{id:Nat}{l:List Oper}(j:Nat)(zN:List (Nat×Nat))(ms:List (Nat×List Bool×List Nat×List (Nat×Nat)))(fs:List Eff)(τ:Sx)(hs:Wsz K C P n l.toArray fs σ ms fs l)(hok:(okZ (ms.map fun m=>ixs m.2.1 0) fs l.length σ l.length [] zN (List.replicate l.length true)&&(Nat.beq (muK (List.replicate l.length true) fs σ.n) j&&(okZs (ms.map fun m=>ixs m.2.1 0) fs l.length σ 0 ms&&(nsOz fs σ.n ms&&y7M P K (ms.map fun m=>ixs m.2.1 0) fs σ.n l.toArray))))=true)(hτ:τ.is K (muZ σ fs [] zN (List.replicate l.length true) j) [])(h0:WX K C Φ Q n .normal τ):WE K C Φ P Q n (.region id l.toArray true) σ:=by
 simp only [yAe] at hok;obtain⟨h1,h2,h3,h4,h5⟩:=hok;have hz:∀i,fs.getD (0+i) noE=fs.getD i noE:=fun i=>by rw [yNz]
 refine .draw' (ms.map fun m=>ixs m.2.1 0) fs (Wsz.gg h3 h4 hs hz fun i=>by rw [yNz]) h5 ?_;rw [List.range_eq_range',←y9B];exact fun β s e hd=>h0.sub [] hτ β s e (hd.okz h1 h2)
end
section
variable{Φ:Fr}{P:Program}{Q:Exit→Act→World→Prop}{n:Nat}{ops:Array Oper}{os:List Oper}{e:List (Nat×Value)}{s:Sig}{d:Nat}{ty:TypeId}{pos:String}{af:Array Edge}{g:Option (Nat×Bool)}
structure Ar (P:Program) (T:TypeId) (N:Nat) (E:TypeId) (m:Nat):Prop where
 und:P.underlying T=some (.array N E)
 sz:∀w,(sizeOf E).run P w= .ok m w
theorem Ar.mk'{E:TypeId}{m:Nat}(h:P.underlying T=some (.array N E))(hs:(P.info? E).map (·.size)=some m):Ar P T N E m:=⟨h,fun w=>by
 cases hi:P.info? E with
 | none=>simp [hi] at hs
 | some i=>simp [hi] at hs;simp [sizeOf,typeInfo,hi,hs]⟩
theorem ycd{w:World}{E:TypeId}{m lo hi:Nat}{b off:Nat}(hA:Ar P T N E m){l h:Option Value}(hl:l=none∧lo=0∨∃k,l=some (.int k lo))(hh:h=none∧hi=N∨∃k,h=some (.int k hi))(h1:lo≤hi)(h2:hi≤N):
  (Instr.sliceAt T (.pointer (some ⟨b,off,none⟩)) l h none).run P w= .ok (.slice (some (if N=lo then⟨b,off,none⟩ else Addr.add ⟨b,off,none⟩ (lo*m))) (hi-lo) (N-lo)) w:=by
 have b1:∀k (c:BoundsCode),(Instr.sliceBound (.int k (hi:Int)) N c).run P w= .ok hi w:=fun k c=>by simp [Instr.sliceBound,asIntOf,h2]
 have b2:∀k (c:BoundsCode),(Instr.sliceBound (.int k (lo:Int)) hi c).run P w= .ok lo w:=fun k c=>by simp [Instr.sliceBound,asIntOf,h1]
 have hb:(Instr.sliceBounds false N N l h none).run P w= .ok (lo,hi,N) w:=by
  rcases hl with ⟨rfl,rfl⟩|⟨k,rfl⟩ <;> rcases hh with ⟨rfl,rfl⟩|⟨k',rfl⟩ <;> simp [Instr.sliceBounds,b1,b2]
 simp [Instr.sliceAt,run_underlying hA.und,Instr.sureAddr,hb,hA.sz]
end
section
variable{K:Kx}{C:Cx}{P:Program}{n:Nat}{ops:Array Oper}{σ:Sx}{d:Nat}{ty:TypeId}{pos:String}{af:Array Edge}{g:Option (Nat×Bool)}{β:Nat→Value}{s:Sig}{e:List (Nat×Value)}
def Opt(σ:Sx)(x:Option Operand)(j dflt:Nat):Prop:=match x with
 | none=>j=dflt
 | some y=>∃k,σ.ev y=some (VL (.int k (j:Int)))
theorem O.slA{r:Rep α}{xs:List α}{lo hi:Option Operand}{E T':TypeId}{i j:Nat}{l:List LV}(hA:Ar P T N E r.sz)(hg:Gu ops σ g)(hx:σ.ev x=some (sL (lQ T' l 0)))(hc:Cv r l xs)(hN:xs.length=N)(hm:Nat.ble N 4294967296=true)(hi1:Opt σ lo i 0)(hj1:Opt σ hi j N)(hij:Nat.ble i j=true)(hjN:Nat.ble j N=true)(hb:Nat.blt d n=true):
  Ox K C P n ops ⟨some d,.slice T x lo hi none,ty,pos,af,g⟩ σ (F1 d (sL (lF r ((xs.take j).drop i)))):=
 Ox.pure fun _ _ _ β s _ hd k=>by
  obtain⟨v,h1,b,vs,h2,h3,rfl⟩:=hd.evv hx;have hij':=yNl hij;have hjN':=yNl hjN;have hm':=yNl hm;have hR:RdL r s (some ⟨b,0,none⟩) xs.length xs:=h2.rdL (by simpa using hc β s vs h3) (by simp only [maxLen];omega);have hp:=hR.part (lo:=i) (hi:=j) hij' (by omega);have hl:((xs.take j).drop i).length=j-i:=by rw [List.length_drop,yLt];omega
  refine L.val (hd.gd hg) hb (fun ac ha=>?_) (k _ ⟨_,_,rfl,hp⟩);have hs:=ycd (w:=s.w) (b:=b) (off:=0) (lo:=i) (hi:=j) hA (l:=lo.map ac.eval) (h:=hi.map ac.eval) ?_ ?_ hij' hjN'
  ·simp only [execOp,ha.ev h1,Option.map_none,Sem.run_bind,hs,Result.andThen_ok,Sem.run_pure,hl,hN];by_cases hc:N=i
   ·simp [hc]
   ·simp [hc]
  ·cases lo with
   | none=>exact .inl ⟨rfl,hi1⟩
   | some y=>obtain⟨q,hq⟩:=hi1;exact .inr ⟨q,by simp [ha.ev (hd.evl hq)]⟩
  ·cases hi with
   | none=>exact .inl ⟨rfl,hj1⟩
   | some y=>obtain⟨q,hq⟩:=hj1;exact .inr ⟨q,by simp [ha.ev (hd.evl hq)]⟩
def lVw(i sz k:Nat):LV:=⟨fun β _ v=>∃a n c,β i= .slice a n c∧k≤n∧v= .slice (if c=k then a else a.map (·.add (k*sz))) (n-k) (c-k),[i],none,none,fun hb _ ⟨a,n,c,h,h2⟩=>⟨a,n,c,(hb _ (.head _)).trans h,h2⟩,nofun,nofun,fun⟨_,_,_,_,_,e⟩=>by rw [e];rfl⟩
variable{α:Type}{r:Rep α}{xs zs:List α}{T U T':TypeId}{q k:Nat}
theorem O.slv{lo:Operand}{k':IntKind}(hS:Sl P T U r.sz)(hg:Gu ops σ g)(hx:σ.ev x=some (sL (lH q)))(ho:aget σ.ob q=some (ROW r T' xs))(hj:σ.ev lo=some (VL (.int k' j)))(hz:slc xs j xs.length=some zs)(hb:Nat.blt d n=true):
  Ox K C P n ops ⟨some d,.slice T x (some lo) none none,ty,pos,af,g⟩ σ (F1 d (sL (lVw q r.sz j.toNat))):=
 Ox.pure fun _ _ _ _ _ _ hd k=>by
  obtain⟨a,c,h0,h1,h2⟩:=hd.row hx ho;obtain⟨g0,g1,g2,_⟩:=y9X hz;exact L.slo hS h2 (hd.gd hg) h1 (hd.evl hj) hz hb (k _ ⟨a,_,c,h0,by omega,rfl⟩)
theorem Den.vw(hd:Den K C σ β s e)(hx:σ.ev x=some (sL (lVw q r.sz k)))(ho:aget σ.ob q=some (ROW r T' xs)):∃a c,β q= .slice a xs.length c∧k≤xs.length∧Env.ev e x=some (.slice (if c=k then a else a.map (·.add (k*r.sz))) (xs.length-k) (c-k))∧RowT r s (C.tg q) T' a c xs:=by
 obtain⟨v,h1,a,m,c,h2,h3,rfl⟩:=hd.evv hx;obtain⟨a',c',h4,h5⟩:=hd.ob q _ ho;rw [h2] at h4;simp only [Value.slice.injEq] at h4;obtain⟨rfl,rfl,rfl⟩:=h4;exact⟨a,c,h2,h3,h1,h5⟩
theorem O.lenV{E:TypeId}{m:Nat}(hT:Sl P T E m)(hg:Gu ops σ g)(hx:σ.ev x=some (sL (lVw q r.sz k)))(ho:aget σ.ob q=some (ROW r T' xs))(hb:Nat.blt d n=true):Ox K C P n ops ⟨some d,.call { callee:= .builtin .len,args:= #[x],argTypes:= #[T] },ty,pos,af,g⟩ σ (F1 d (VL (.int .i64 ((xs.length-k:Nat):Int)))):=
 Ox.pure fun _ _ _ _ _ _ hd q=>by
  obtain⟨a,c,_,_,h1,_⟩:=hd.vw hx ho;exact L.len hT (hd.gd hg) h1 hb (q _ ⟨rfl,rfl⟩)
def idxV{α:Type}(xs:List α)(k:Nat)(j:Int):Option α:=if 0≤j then idx xs (k+j) else none
theorem y5d{α:Type}{xs:List α}{k:Nat}{y:α}(h:idxV xs k j=some y):0≤j∧idx xs (k+j)=some y:=by
 unfold idxV at h;split at h
 ·exact ⟨‹_›,h⟩
 ·cases h
theorem O.irV{i:Operand}{y:α}(hS:Sl P T U r.sz)(hg:Gu ops σ g)(hx:σ.ev x=some (sL (lVw q r.sz k)))(ho:aget σ.ob q=some (ROW r T' xs))(hi:σ.ev i=some (VL (.int kd j)))(hy:idxV xs k j=some y)(hb:Nat.blt d n=true):Ox K C P n ops ⟨some d,.indexAddr T x i,ty,pos,af,g⟩ σ (F1 d (sL (lR q r.sz ((k:Int)+j).toNat 0))):=
 Ox.pure fun _ _ _ _ _ _ hd f=>by
  obtain⟨a,c,h0,h3,h1,h2⟩:=hd.vw hx ho;obtain⟨hj0,hy⟩:=y5d hy;obtain⟨g0,g1,_⟩:=y5H hy;obtain⟨cs,k1,k2⟩:=h2;obtain⟨b,off,cap',e',hlt,_,_⟩:=k1.addr (by omega);simp only [Value.slice.injEq,true_and] at e';obtain⟨rfl,rfl⟩:=e';have hcap:xs.length≤c:=by
   rcases k1.2 with ⟨e1,_⟩|⟨_,_,_,_,e1,_,h3,_⟩
   ·simp only [Value.slice.injEq,reduceCtorEq,false_and] at e1
   ·simp only [Value.slice.injEq,true_and] at e1;omega
  rw [iN (by omega)] at h1;simp only [Option.map_some,Addr.add_lit] at h1;have hj:(k+j).toNat=k+j.toNat:=by omega
  refine L.val (hd.gd hg) hb (v:= .pointer (some ⟨b,off+(k:Int).toNat*r.sz+j.toNat*r.sz,none⟩)) (fun ac ha=>?_) (f _ ⟨b,off+(k+j).toNat*r.sz,some ⟨b,off,none⟩,_,c,h0,⟨off,rfl,rfl⟩,?_⟩)
  ·have hlt:j<((xs.length-k:Nat):Int):=by omega
   simp [execOp,Instr.indexAt,ha.ev h1,ha.ev (hd.evl hi),asIntOf,run_underlying hS.und,hS.sz,hj0,hlt,Addr.add_lit]
  ·rw [hj,Nat.add_mul];simp [Nat.add_assoc]
end
structure Zv (P:Program) {α:Type} (r:Rep α) (E:TypeId) (z:α):Prop where
 is:∃v,(P.info? E).bind (·.zero)=some v∧v.cells.toList.all Value.oneCell'=true∧∀s,r.rd s v.cells.toList z
section
variable{Φ:Fr}{P:Program}{Q:Exit→Act→World→Prop}{n:Nat}{ops:Array Oper}{os:List Oper}{e:List (Nat×Value)}{s:Sig}{d:Nat}{ty:TypeId}{pos:String}{af:Array Edge}{g:Option (Nat×Bool)}
variable{α:Type}{r:Rep α}{xs:List α}{T U T':TypeId}{t cap:Nat}{a:Option Addr}
theorem yef(zc:Array Value):∀m,(Builtin.zeroCells zc m).toList=(List.replicate m zc.toList).flatten:=fun m=>by
 apply List.ext_getElem?;intro i;by_cases h0:zc.size=0
 ·have:zc.toList= []:=by simpa using h0
  rw [this];simp [Builtin.zeroCells,h0]
 ·have e1:(List.replicate m zc.toList).flatten.length=m*zc.size:=by simp
  by_cases hi:i<m*zc.size
  ·have:(List.replicate m zc.toList).flatten[i]? =zc.toList[i % zc.size]? :=by
    clear e1
    induction m generalizing i with
    | zero=>simp at hi
    | succ m ih=>
     rw [List.replicate_succ,List.flatten_cons];by_cases hlt:i<zc.size
     ·rw [yAl (by simpa using hlt),Nat.mod_eq_of_lt hlt]
     ·obtain ⟨u,rfl⟩:∃u,i=u+zc.size:=⟨i-zc.size,by omega⟩;rw [yAr (by simp),Array.length_toList,Nat.add_sub_cancel,ih u (by rw [Nat.succ_mul] at hi;omega),Nat.add_mod_right]
   rw [this];have hm:i % zc.size<zc.size:=Nat.mod_lt _ (by omega);simp [Builtin.zeroCells,hi,hm]
  ·rw [yGn (by simp [Builtin.zeroCells];omega),yGn (by rw [e1];omega)]
theorem L.clK{lo:Nat}{z0:α}(hS:Sl P T U r.sz)(hz:Zv P r U z0)(hlo:lo≤xs.length)(hR:RowT r s t T' a cap xs)(ht:Nat.blt 0 t=true)
  (hw:Wt ops e g) (hx:Env.ev e x=some (.slice (if cap=lo then a else a.map (·.add (lo*r.sz))) (xs.length-lo) (cap-lo)))
  (h:∀s',Mv (One t) s s'→RowT r s' t T' a cap (xs.take lo++List.replicate (xs.length-lo) z0)→L Φ P Q n ops os e s'.w):L Φ P Q n ops (⟨none,.call { callee:= .builtin .clear,args:= #[x],argTypes:= #[T] },ty,pos,af,g⟩::os) e s.w:=by
 obtain⟨z,hzv,h1,hr⟩:=hz.is;have hsz:z.cells.toList.length=r.sz:=r.len (hr s);have hzv':∀w,(zeroValue U).run P w= .ok z w:=fun w=>by
  cases hi:P.info? U with
  | none=>simp [hi] at hzv
  | some i=>simp [hi] at hzv;simp [zeroValue,typeInfo,hi,hzv]
 by_cases he:xs.length=lo
 ·have e0:xs.length-lo=0:=by omega
  rw [e0] at hx h;refine L.valN hw (v:= .tuple #[]) (w':=s.w) (fun ac ha=>?_) (h s (Mv.refl _ _) ?_)
  ·have:(Builtin.clear_ #[T] ty #[.slice (if cap=lo then a else a.map (·.add (lo*r.sz))) 0 (cap-lo)]).run P s.w= .ok (.tuple #[]) s.w:=by
    cases (if cap=lo then a else a.map (·.add (lo*r.sz))) <;> simp [Builtin.clear_,run_underlying hS.und]
   simp [execOp,resolve,invoke,builtin,ha.ev hx,this]
  ·rw [←he,List.take_length];simpa using hR
 ·obtain ⟨cs,g1,g2⟩:=hR;have hlen:=g1.1;rcases g1.2 with ⟨e1,e2⟩|⟨b,off,cap',cur,e1,ho,q1,q2,q3,q4⟩
  ·omega
  simp only [Value.slice.injEq] at e1;obtain⟨rfl,_,rfl⟩:=e1;rw [iN (by omega)] at hx;simp only [Option.map_some,Addr.add_lit] at hx;obtain⟨m,hm⟩:∃m,xs.length-lo=m+1:=⟨xs.length-lo-1,by omega⟩;generalize hZ:(List.replicate (m+1) z.cells.toList).flatten=Z;have hZl:Z.length=(m+1)*r.sz:=by rw [←hZ];simp [←hsz]
  have hzc:(Builtin.zeroCells z.cells (m+1)).toList=Z:=by rw [yef,hZ]
  have hall:∀v∈Z,v.oneCell'=true:=fun v hv=>by
   rw [←hZ] at hv;obtain⟨l,hl,hv⟩:=List.mem_flatten.1 hv;rw [List.eq_of_mem_replicate hl] at hv;exact yAt.1 h1 v hv
  have hlm:=Nat.mul_le_mul_right r.sz (show lo+(m+1)≤cap from by omega);rw [Nat.add_mul] at hlm;have hst:=run_storeCells_at P b (off+lo*r.sz) T' Z 0 cur s.w ho.heap (by rw [hZl];omega) hall;simp only [Nat.add_zero] at hst;refine L.valN hw (v:= .tuple #[]) (w':=s.w.setRow b (cur.toList.take (off+lo*r.sz)++Z++cur.toList.drop (off+lo*r.sz+Z.length)).toArray) (fun ac ha=>?_) ?_
  ·have:(Builtin.clear_ #[T] ty #[.slice (some ⟨b,off+lo*r.sz,none⟩) (m+1) (cap-lo)]).run P s.w= .ok (.tuple #[]) (s.w.setRow b (cur.toList.take (off+lo*r.sz)++Z++cur.toList.drop (off+lo*r.sz+Z.length)).toArray):=by
    simp [Builtin.clear_,run_underlying hS.und,hzv',hzc,hst]
   rw [hm] at hx;simp [execOp,resolve,invoke,builtin,ha.ev hx,this]
  ·have hmv:Mv (One t) s ⟨s.w.setRow b (cur.toList.take (off+lo*r.sz)++Z++cur.toList.drop (off+lo*r.sz+Z.length)).toArray,s.tag⟩:=
    ⟨rfl,rfl,rfl,by simp,fun b' hb hn=>⟨setRow_other _ _ _ _ (by rintro rfl;exact hn ho.htag),rfl⟩⟩
   refine h _ hmv ?_;have hle:=hmv.le (show ¬One t 0 from fun e=>by rw [←e] at ht;simp at ht);have hsp:xs.take lo++xs.drop lo=xs:=List.take_append_drop _ _;rw [←hsp] at g2;have hc:=g2.split.1;rw [yLt,Nat.min_eq_left hlo] at hc;have hrep:=Cells.rep (r:=r) (s:=s) (hr s) (m+1);rw [hZ] at hrep;rw [hm];have hll:(xs.take lo++List.replicate (m+1) z0).length=xs.length:=by rw [yLa,yLt,List.length_replicate];omega
   have hcl:cur.toList.length=cur.size:=Array.length_toList;have hxl:xs.length*r.sz=lo*r.sz+(m+1)*r.sz:=by rw [←Nat.add_mul];congr 1;omega
   have hxc:xs.length*r.sz≤cap*r.sz:=Nat.mul_le_mul_right _ q1;refine⟨cs.take (lo*r.sz)++Z,⟨?_,.inr ⟨b,off,cap,_,by rw [hll],⟨setRow_heap _ _ _ _ _ _ ho.heap,ho.htag,ho.base⟩,by rw [hll];exact q1,q2,?_,?_⟩⟩,(Cells.append hc hrep).mono hle⟩
   ·rw [hll,yLa,yLt,hZl];omega
   ·simp only [List.size_toArray,yLa,yLt,List.length_drop,hcl,hZl];omega
   ·rw [hll];apply List.ext_getElem?;intro i;rw [List.getElem?_take];split
    ·rename_i hi;rw [List.getElem?_drop,yAa];have q4':∀i,i<lo*r.sz→(cur.toList)[off+i]? =cs[i]? :=fun i hi=>by rw [←q4,List.getElem?_take,iP (by omega),List.getElem?_drop]
     have hcl':(cs.take (lo*r.sz)).length=lo*r.sz:=by rw [yLt];omega
     by_cases h2:i<lo*r.sz
     ·rw [yAl (by rw [yLt];omega),List.getElem?_take,iP (by omega),yAl (by rw [hcl'];exact h2),List.getElem?_take,iP h2];exact q4' i h2
     ·rw [yAr (by rw [yLt];omega),yLt,hcl,Nat.min_eq_left (by omega),yAl (by omega),yAr (by omega),hcl'];congr 1;omega
    ·rename_i hi;rw [yGn (by rw [yLa,yLt,hZl];omega)]
end
section
variable{K:Kx}{C:Cx}{P:Program}{n:Nat}{ops:Array Oper}{σ:Sx}{ty:TypeId}{pos:String}{af:Array Edge}{g:Option (Nat×Bool)}{α:Type}{r:Rep α}{xs:List α}{T U T':TypeId}{q k:Nat}
theorem O.clV{z0:α}(hS:Sl P T U r.sz)(hz:Zv P r U z0)(hg:Gu ops σ g)(hx:σ.ev x=some (sL (lVw q r.sz k)))(ho:aget σ.ob q=some (ROW r T' xs)):
  Ox K C P n ops ⟨none,.call { callee:= .builtin .clear,args:= #[x],argTypes:= #[T] },ty,pos,af,g⟩ σ (FO q (ROW r T' (xs.take k++List.replicate (xs.length-k) z0))):=fun Φ Q os β s e hd f=>by
 obtain⟨a,c,h0,h3,h1,h2⟩:=hd.vw hx ho;refine L.clK hS hz h3 h2 (by simpa using hd.ok.tpos q) (hd.gd hg) h1 fun s' m h8=>f _ s' _ (Aft.old m ⟨a,c,?_,h8⟩);rw [h0,yLa,yLt,List.length_replicate];congr 1;omega
end
theorem Eqs.pr{P:Program}{e:TypeId}(hu:P.underlying T=some (.array 2 e))(hi:(P.info? e).isSome=true)(he:P.underlying e=some (.int .i64))(hc:P.cellsOf e=1)(hg:∀w,(Go.isAgg e).run P w= .ok false w)(x y:Int×Int):Eqs P T [.int .i64 x.1,.int .i64 x.2] [.int .i64 y.1,.int .i64 y.2] (x==y):=fun w=>by
 obtain⟨i,hi⟩:=Option.isSome_iff_exists.1 hi;have h:=yfl hu hi he hc (funext hg) x y w;unfold kvP at h;constructor
 ·show (do pure (Value.bool (←Op.equal T (.agg #[.int .i64 x.1,.int .i64 x.2]) (.agg #[.int .i64 y.1,.int .i64 y.2])))).run P w=_;rw [Sem.run_bind,h];rfl
 ·show (do pure (Value.bool (!(←Op.equal T (.agg #[.int .i64 x.1,.int .i64 x.2]) (.agg #[.int .i64 y.1,.int .i64 y.2]))))).run P w=_;rw [Sem.run_bind,h];rfl
def kvE(x:Int×Int×Int):Value:= .agg #[.int .i64 x.1,.int .i64 x.2.1,.int .i64 x.2.2]
theorem eqE{k k':Int×Int×Int}(h:(k==k')=true):k=k':=by simpa using h
theorem KE.edge {P : Program} {kt e : TypeId} {f0 f1 f2 : Field} (hu : P.underlying kt = some (.struct #[f0, f1, f2])) (hs : P.stoodInHeld kt = false) (ht : f0.type = e ∧ f1.type = e ∧ f2.type = e) (ho : f0.offset = 0 ∧ f1.offset = 1 ∧ f2.offset = 2) (hn : f0.name ≠ "_" ∧ f1.name ≠ "_" ∧ f2.name ≠ "_")
  (he:P.underlying e=some (.int .i64)) (hg:∀w,(Go.isAgg e).run P w= .ok false w):KE P kt kvE:=by
 have hp:∀(cs:Array Value) (j:Nat) (v:Value) (w:World),cs[j]? =some v→(part e cs j).run P w= .ok v w:=fun cs j v w hv=>by
  simp [part,hg w,hv]
 have hck:∀(em:Bool) (a:Int) (w:World),(Instr.checkKey em 9999 e (.int .i64 a)).run P w= .ok () w:=fun em a w=>by
  unfold Instr.checkKey;simp only [Sem.run_bind,run_underlying he,Result.andThen];rfl
 have hq:∀(a b:Int) (w:World),(Op.equalIn 9999 e (.int .i64 a) (.int .i64 b)).run P w= .ok (a==b) w:=fun a b w=>run_equalIn_int w 9998 e .i64 .i64 a b he;obtain⟨t0,t1,t2⟩:=ht;obtain⟨o0,o1,o2⟩:=ho;obtain⟨n0,n1,n2⟩:=hn;have hf:P.fieldsOf kt= #[f0,f1,f2]:=by simp [Program.fieldsOf,hu]
 have heq:∀(x y:Int×Int×Int) (w:World),(Op.equal kt (kvE x) (kvE y)).run P w= .ok (x==y) w:=fun x y w=>by
  have h1:P.underlying kt=some (.struct (P.fieldsOf kt)):=by rw [hf];exact hu
  show(Op.equalIn (9999+1) kt (kvE x) (kvE y)).run P w=_;unfold kvE;rw [run_equalIn_agg _ 9999 kt _ _ h1 hs,hf];obtain⟨x1,x2,x3⟩:=x;obtain⟨y1,y2,y3⟩:=y;have hb:(((x1,x2,x3):Int×Int×Int)==(y1,y2,y3))=((x1==y1)&&((x2==y2)&&(x3==y3))):=rfl;rw [hb];simp only [Op.eqFields,n0,n1,n2,t0,t1,t2,o0,o1,o2,ne_eq,not_false_eq_true,if_true,Sem.run_bind];have p:∀(a b c:Int) (w:World),(part e #[Value.int .i64 a,Value.int .i64 b,Value.int .i64 c] 0).run P w= .ok (.int .i64 a) w∧(part e #[Value.int .i64 a,Value.int .i64 b,Value.int .i64 c] 1).run P w= .ok (.int .i64 b) w∧(part e #[Value.int .i64 a,Value.int .i64 b,Value.int .i64 c] 2).run P w= .ok (.int .i64 c) w:=fun a b c w=>⟨hp _ 0 _ w rfl,hp _ 1 _ w rfl,hp _ 2 _ w rfl⟩;cases h1:x1==y1 <;> cases h2:x2==y2 <;> cases h3:x3==y3 <;> simp [p,hq,h1,h2,h3]
 refine⟨fun em k w=>?_,fun es ks h k w=>?_,fun k k' w h=>?_⟩
 ·unfold Instr.checkKey;simp only [Sem.run_bind,run_underlying hu,Result.andThen_ok,kvE];have p:∀(a b c:Int) (w:World),(part e #[Value.int .i64 a,Value.int .i64 b,Value.int .i64 c] 0).run P w= .ok (.int .i64 a) w∧(part e #[Value.int .i64 a,Value.int .i64 b,Value.int .i64 c] 1).run P w= .ok (.int .i64 b) w∧(part e #[Value.int .i64 a,Value.int .i64 b,Value.int .i64 c] 2).run P w= .ok (.int .i64 c) w:=fun a b c w=>⟨hp _ 0 _ w rfl,hp _ 1 _ w rfl,hp _ 2 _ w rfl⟩;simp [n0,n1,n2,t0,t1,t2,o0,o1,o2,p,hck]
 ·have hf:∀{es:List MapEntry} {ks:List (Int×Int×Int)} (i0:Nat),KeysG kvE es ks→(Instr.findAsking kt (kvE k) es i0).run P w= .ok ((es[kidx ks k]?).map fun e=>(i0+kidx ks k,e.val)) w:=by
   intro es
   induction es with
   | nil=>
    intro ks i0 h;cases ks with
    | nil=>simp [Instr.findAsking]
    | cons _ _=>exact h.elim
   | cons f es ih=>
    intro ks i0 h;cases ks with
    | nil=>exact h.elim
    | cons p ks=>
     rw [y7L];simp only [Instr.findAsking,h.1,Sem.run_bind,heq,Result.andThen_ok];cases hp:k==p with
     | true=>simp
     | false=>
      simp only [Bool.false_eq_true,if_false];rw [ih (i0+1) h.2,List.getElem?_cons_succ];cases es[kidx ks k]? with
      | none=>rfl
      | some f=>simp only [Option.map_some];rw [show i0+1+kidx ks k=i0+(kidx ks k+1) by omega]
  rw [run_findKey_eq w (by rw [hu])];have:=hf 0 h;simpa using this
 ·have h1:k=k':=eqE h;subst h1;simp [Instr.keyThatStays,Instr.sameBits,kvE]
section
variable{K:Kx}{C:Cx}{P:Program}{n:Nat}{ops:Array Oper}{σ:Sx}{d:Nat}{ty:TypeId}{pos:String}{af:Array Edge}{g:Option (Nat×Bool)}
theorem flatG{m:Nat}(hf:∀x,(f x).length=m):∀{cs:List α} {k:Nat} {y:α} {l:List LV} {off:Nat},cs[k]? =some y→(l.drop off).take (cs.length*m)=cs.flatMap f→(l.drop (off+k*m)).take m=f y
 | [],_,_,_,_,h,_=>by cases h
 | c::cs,0,y,l,off,h,he=>by
  cases h;have:=congrArg (List.take m) he;rw [List.take_take,List.flatMap_cons,List.take_append_of_le_length (by rw [hf];exact yNr _),List.take_of_length_le (l:=f c) (by rw [hf];exact yNr _)] at this;rw [Nat.zero_mul,Nat.add_zero,←this,yLc,Nat.succ_mul,Nat.min_eq_left (by omega)]
 | c::cs,k+1,y,l,off,h,he=>by
  have h2:((l.drop (off+m)).take (cs.length*m))=cs.flatMap f:=by
   have:=congrArg (List.drop m) he;rw [List.flatMap_cons,List.drop_append_of_le_length (by rw [hf];exact yNr _),List.drop_of_length_le (l:=f c) (by rw [hf];exact yNr _),List.nil_append,List.drop_take,List.drop_drop,yLc,Nat.succ_mul,Nat.add_sub_cancel] at this;exact this
  have:=flatG hf (cs:=cs) (k:=k) (y:=y) (l:=l) (off:=off+m) (by simpa using h) h2;rw [←this,Nat.succ_mul];congr 2;omega
theorem ydn{m:Nat}(hf:∀x,(f x).length=m):∀cs:List α,(cs.flatMap f).length=cs.length*m
 | []=>by simp
 | c::cs=>by rw [List.flatMap_cons,yLa,hf,yLc,Nat.succ_mul,ydn hf cs,Nat.add_comm]
theorem O.lgA{l:List LV}{b off e k m:Nat}{cs:List α}{y:α}(hT:Ag P T m)(hf:∀x,(f x).length=m)(hg:Gu ops σ g)(hx:σ.ev x=some (sL (lP b e)))(ho:aget σ.ob b=some (.bx U l))(hl:(l.drop off).take (cs.length*m)=cs.flatMap f)(he:e=off+k*m)(hv:cs[k]? =some y)(hb:Nat.blt d n=true):Ox K C P n ops ⟨some d,.load T x,ty,pos,af,g⟩ σ (F1 d (AG (f y))):=by
 have h2:=flatG hf hv hl;rw [←he] at h2;exact O.lg hT hg hx (.B ho) h2 (hf y) hb
theorem O.ixG{y:Operand}{k':IntKind}{m:Nat}{cs:List α}{z:α}{l:List LV}(hN:Ag P U m)(hu:P.underlying T=some (.array N U))(hf:∀x,(f x).length=m)(hg:Gu ops σ g)(hx:σ.ev x=some (AG l))(hl:l=cs.flatMap f)(hy:σ.ev y=some (VL (.int k' j)))(hc:Nat.beq cs.length N=true)(hv:idx cs j=some z)(hb:Nat.blt d n=true):Ox K C P n ops ⟨some d,.index T x y,ty,pos,af,g⟩ σ (F1 d (AG (f z))):=
 Ox.pure fun _ _ _ β s e hd q=>by
  obtain⟨w,h1,vs,h2,rfl⟩:=hd.ev hx;obtain⟨h0,hk,rfl⟩:=y5H hv;have hc':cs.length=N:=yNb hc;have hlen:cs.length*m=l.length:=by rw [hl,ydn hf]
  have h3:=flatG hf (cs:=cs) (k:=j.toNat) (y:=cs[j.toNat]) (l:=l) (off:=0) (yGe hk) (by rw [List.drop_zero,hlen,List.take_length];exact hl);rw [yNz] at h3;have h4:=(h2.drop (j.toNat*m)).take m;rw [h3] at h4;refine L.val (hd.gd hg) hb (v:= .agg ((vs.drop (j.toNat*m)).take m).toArray) (fun ac ha=>?_) (q _ ⟨_,h4,rfl⟩);have hm:=Nat.mul_le_mul_right m (show j.toNat+1≤cs.length from hk);rw [Nat.succ_mul] at hm;have hvl:=h2.len;have hex:(vs.toArray.extract (j.toNat*m) (j.toNat*m+m))=((vs.drop (j.toNat*m)).take m).toArray:=by
   simp [List.extract_toArray,List.extract_eq_take_drop]
  have hjN:j<(N:Int):=by omega
  simp [execOp,Instr.index,ha.ev h1,ha.ev (hd.evl hy),asIntOf,run_underlying hu,h0,hjN,hN.sz,part,hN.agg,hex]
end
end
end Go.Proofs.YtfdeiphkmjdifaaGreatDoor
namespace Go.Proofs
open Go.Shelf
def Tryz.lays169_ren :Go.Shelf.Ren:=⟨fun|169=>167|n=>n,fun|70=>227|9=>9|0=>0|72=>230|37=>228|127=>320|3=>3|5=>5|n=>n,fun|n=>n⟩
theorem Tryz.lays169 :Go.Proofs.Lays.n169 Tryz.prog Tryz.lays169_ren:={
 mixed:=by kernel_rfl
 f169:=Tryz.func167.trans (congrArg some (by kernel_rfl))
 t0:=Tryz.underlying0
 a0:=Tryz.isAgg0
 z0:=Tryz.sizeOf0
 v0:=Tryz.zeroValue0
 t3:=Tryz.underlying3
 a3:=Tryz.isAgg3
 z3:=Tryz.sizeOf3
 v3:=Tryz.zeroValue3
 t9:=Tryz.underlying9
 a9:=Tryz.isAgg9
 z9:=Tryz.sizeOf9
 v9:=Tryz.zeroValue9
 t37:=Tryz.underlying228
 a37:=Tryz.isAgg228
 z37:=Tryz.sizeOf228
 v37:=Tryz.zeroValue228
 t70:=Tryz.underlying227
 a70:=Tryz.isAgg227
 z70:=Tryz.sizeOf227
 v70:=Tryz.zeroValue227
 t72:=Tryz.underlying230
 a72:=Tryz.isAgg230
 z72:=Tryz.sizeOf230
 v72:=Tryz.zeroValue230
 t127:=Tryz.underlying320
 a127:=Tryz.isAgg320
 z127:=Tryz.sizeOf320
 v127:=Tryz.zeroValue320 }
theorem Tryz.Builder_Extra_169 :Builder.Extra Tryz.prog Tryz.lays169_ren:={
 sizeBuilder:=by kernel_rfl
 liesBuilder:=by kernel_rfl
 t5:=Tryz.underlying5
 a5:=Tryz.isAgg5
 z5:=Tryz.sizeOf5
 v5:=Tryz.zeroValue5
 infoByte:=by kernel_rfl
 cellsByte:=by kernel_rfl
 sizeByte:=by kernel_rfl
 neB5:=by decide }
open Go.RowKit in
theorem Tryz.Builder_String_any(B b:Nat)(l:List UInt8)(w:World)(h:Lib.IsBuilder 230 5 B b (Lib.byteCells l) w)(hBw:B≤w.heap.size):
  Calls Tryz.prog 167 #[.pointer (some ⟨b,0,none⟩)] w fun e w'=>e= .returned (.string ⟨l.toArray⟩)∧Below B w w':=Any.Builder_String_any Tryz.lays169 Tryz.Builder_Extra_169 B b l w h hBw
def Tryz.lays171_ren :Go.Shelf.Ren:=⟨fun|171=>165|243=>245|246=>283|283=>308|284=>309|285=>310|286=>311|129=>178|317=>320|318=>321|319=>322|320=>323|337=>336|338=>337|n=>n,fun|3=>3|9=>9|2=>2|4=>4|171=>385|0=>0|53=>248|37=>228|5=>5|173=>387|212=>397|51=>114|20=>20|213=>398|46=>157|232=>421|233=>422|n=>n,fun|17=>0|18=>1|19=>2|n=>n⟩
theorem Tryz.lays171 :Go.Proofs.Lays.n171 Tryz.prog Tryz.lays171_ren:={
 mixed:=by kernel_rfl
 f129:=Tryz.func178.trans (congrArg some (by kernel_rfl))
 f171:=Tryz.func165.trans (congrArg some (by kernel_rfl))
 f243:=Tryz.func245.trans (congrArg some (by kernel_rfl))
 f246:=Tryz.func283.trans (congrArg some (by kernel_rfl))
 f283:=Tryz.func308.trans (congrArg some (by kernel_rfl))
 f284:=Tryz.func309.trans (congrArg some (by kernel_rfl))
 f285:=Tryz.func310.trans (congrArg some (by kernel_rfl))
 f286:=Tryz.func311.trans (congrArg some (by kernel_rfl))
 f317:=Tryz.func320.trans (congrArg some (by kernel_rfl))
 f318:=Tryz.func321.trans (congrArg some (by kernel_rfl))
 f319:=Tryz.func322.trans (congrArg some (by kernel_rfl))
 f320:=Tryz.func323.trans (congrArg some (by kernel_rfl))
 f337:=Tryz.func336.trans (congrArg some (by kernel_rfl))
 f338:=Tryz.func337.trans (congrArg some (by kernel_rfl))
 t0:=Tryz.underlying0
 a0:=Tryz.isAgg0
 z0:=Tryz.sizeOf0
 v0:=Tryz.zeroValue0
 t2:=Tryz.underlying2
 a2:=Tryz.isAgg2
 z2:=Tryz.sizeOf2
 v2:=Tryz.zeroValue2
 t3:=Tryz.underlying3
 a3:=Tryz.isAgg3
 z3:=Tryz.sizeOf3
 v3:=Tryz.zeroValue3
 t4:=Tryz.underlying4
 a4:=Tryz.isAgg4
 z4:=Tryz.sizeOf4
 v4:=Tryz.zeroValue4
 t5:=Tryz.underlying5
 a5:=Tryz.isAgg5
 z5:=Tryz.sizeOf5
 v5:=Tryz.zeroValue5
 t9:=Tryz.underlying9
 a9:=Tryz.isAgg9
 z9:=Tryz.sizeOf9
 v9:=Tryz.zeroValue9
 t20:=Tryz.underlying20
 a20:=Tryz.isAgg20
 z20:=Tryz.sizeOf20
 v20:=Tryz.zeroValue20
 t37:=Tryz.underlying228
 a37:=Tryz.isAgg228
 z37:=Tryz.sizeOf228
 v37:=Tryz.zeroValue228
 t46:=Tryz.underlying157
 a46:=Tryz.isAgg157
 z46:=Tryz.sizeOf157
 v46:=Tryz.zeroValue157
 t51:=Tryz.underlying114
 a51:=Tryz.isAgg114
 z51:=Tryz.sizeOf114
 v51:=Tryz.zeroValue114
 t53:=Tryz.underlying248
 a53:=Tryz.isAgg248
 z53:=Tryz.sizeOf248
 v53:=Tryz.zeroValue248
 t171:=Tryz.underlying385
 a171:=Tryz.isAgg385
 z171:=Tryz.sizeOf385
 v171:=Tryz.zeroValue385
 t173:=Tryz.underlying387
 a173:=Tryz.isAgg387
 z173:=Tryz.sizeOf387
 v173:=Tryz.zeroValue387
 t212:=Tryz.underlying397
 a212:=Tryz.isAgg397
 z212:=Tryz.sizeOf397
 v212:=Tryz.zeroValue397
 t213:=Tryz.underlying398
 a213:=Tryz.isAgg398
 z213:=Tryz.sizeOf398
 t232:=Tryz.underlying421
 a232:=Tryz.isAgg421
 z232:=Tryz.sizeOf421
 v232:=Tryz.zeroValue421
 t233:=Tryz.underlying422
 a233:=Tryz.isAgg422
 z233:=Tryz.sizeOf422
 v233:=Tryz.zeroValue422
 g17:=by kernel_rfl
 g18:=by kernel_rfl
 g19:=by kernel_rfl }
open Go.RowKit Go.Sort Go.Lib in
theorem Tryz.strconv_Itoa_small(i:Nat)(hi:i<100)(w:World):
  Calls Tryz.prog 165 #[.int .i64 i] w fun e w'=>e= .returned (.string ⟨(Lib.decDigits i).toArray⟩)∧w'=w:=Any.strconv_Itoa_small Tryz.lays171 i hi w
end Go.Proofs
namespace Go.Proofs.YtfdeiphkmjdifaaGreatDoor
section
open Go.Proofs.Tryz Go Go.RowKit
abbrev bT :TypeId:=230
abbrev bE :TypeId:=5
theorem yfw :(prog.info? bT).map (fun i=>i.size)=some 2:=by kernel_rfl
theorem yfx :liesAt prog (prog).depth bT (2/(prog).cellsOf bT) 0 bT 1=true:=by kernel_rfl
theorem ycV :(prog.info? bE).map (fun i=>(i.zero,i.size,i.bytes))=some (some (.int .u8 0),1,1):=by kernel_rfl
theorem ky_tp :(prog).underlying 227=some (.pointer bT):=by kernel_rfl
theorem ky_un :(prog).underlying 356=some .unsafePointer:=by kernel_rfl
/-- Behind copyCheck the builder knows its address. -/
theorem yeg(B b:Nat)(bs:List Value)(w:World)(h:Lib.IsBuilder bT bE B b bs w):
  Calls prog 244 #[.pointer (some ⟨b,0,none⟩)] w fun e w'=>e= .returned (.tuple #[])∧Lib.BuilderAt bT bE B b (.pointer (some ⟨b,0,none⟩)) bs w'∧Below B w w':=by
 obtain⟨j,hj,hjs⟩:=Option.map_eq_some_iff.1 yfw;rcases h with h|h
 ·have h0:=h.cell0;have hsh:=h.shape;have hfz:=h.frozen0
  suffices hh:Calls prog 244 #[.pointer (some ⟨b,0,none⟩)] w fun e w'=>e= .returned (.tuple #[])∧w'=w.setCell ⟨b,0,none⟩ (.pointer (some ⟨b,0,none⟩)) by
   refine hh.mono ?_;rintro e w' ⟨rfl,rfl⟩;exact⟨rfl,h.used _,(Below.refl B w).setCell (p:=⟨b,0,none⟩) h.1 _⟩
  go_enter func244,ntmps244
  go_wp2
  rw [Lib.run_to_unsafe w ⟨b,0,none⟩ ky_tp ky_un hj (by rw [hjs];decide) hsh (Nat.zero_lt_succ 1)];simp only [Result.andThen];rw [Oper.upon_value]
  go_wp2
  rw [run_callFunc_extern func282 (by kernel_rfl) (by kernel_rfl) (by kernel_rfl) (e:=Extern.AbiNoEscape.same) (by kernel_rfl)];rw [Lib.run_noEscape];simp only [Result.andThen];rw [Oper.upon_value]
  go_wp2
  rw [Lib.run_from_unsafe w ⟨b,0,none⟩ ky_un ky_tp hj hsh yfx];simp only [Result.andThen];rw [Oper.upon_value]
  go_wp2
  go_end0
  exact⟨rfl,rfl⟩
 ·have h0:=h.cell0
  suffices hh:Calls prog 244 #[.pointer (some ⟨b,0,none⟩)] w fun e w'=>e= .returned (.tuple #[])∧w'=w by
   refine hh.mono ?_;rintro e w' ⟨rfl,rfl⟩;exact⟨rfl,h,Below.refl B _⟩
  go_enter func244,ntmps244
  go_wp2
  rw [Lib.run_neq_ptr_same w _ ky_tp hj]
  go_wp2
  go_end0
  exact⟨rfl,rfl⟩
theorem yib(B b:Nat)(bs:List Value)(c:Int)(w:World)(h:Lib.IsBuilder bT bE B b bs w)(hlen:bs.length+1≤1000000)(hBw:B≤w.heap.size):
  Calls prog 233 #[.pointer (some ⟨b,0,none⟩),.int .u8 c] w fun e w'=>e= .returned .nilIface∧Lib.BuilderAt bT bE B b (.pointer (some ⟨b,0,none⟩)) (bs++[.int .u8 c]) w'∧Below B w w':=by
 obtain⟨i0,hi,hz0,hz1,hz2⟩:=info_parts ycV
 go_enter func233,ntmps233
 go_wp2_with (go_at_call 244;refine(yeg B b bs _ h).mono ?_)
 rintro e w1 ⟨rfl,h1,hb1⟩;obtain⟨hB,v,hbk,hown,hne⟩:=h1;have c1:w1.cell? ⟨b,1,none⟩=some v:=by rw [Lib.cell_of_heap hbk];rfl
 have hlt:b<w1.heap.size:=(yAs.1 hbk).1;have hsz:=hb1.size
 go_wp2_with (at_builtin;refine wpList_append_own _ rfl _ _ 228 rfl B bE i0 (.int .u8 0) 1 1 underlying228 hi hz0 hz1 hz2 rfl (by decide) _ _ _ rfl (hown.alloc _) ⟨w1.heap.size,0,none⟩ 1 1 [.int .u8 c] rfl rfl ?c1 ?c2 (by unfold maxLen;omega) (by omega) (by simp;omega) ?_)
 case c1=>
  intro j u hj
  match j,hj with
  | 0,hj=>simp at hj;subst hj;simp [Addr.add]
 case c2=>intro u hu;simp at hu;subst hu;rfl
 intro v' w2 hown' hgrow _;have hb2:w2.heap[b]? =some (.cells #[.pointer (some ⟨b,0,none⟩),v] bT (0,0)):=by
  rw [hgrow.block b (by simp;omega) (fun e=>hne e.symm),Lib.alloc_old w1 _ b hlt];exact hbk
 have d1:w2.cell? ⟨b,1,none⟩=some v:=by rw [Lib.cell_of_heap hb2];rfl
 have f1:w2.frozen? ⟨b,1,none⟩=false:=Lib.frozen_of_heap hb2 1;obtain⟨ao,n',cap,rfl⟩:∃ao n' cap,v'= .slice ao n' cap:=by
  rcases hown'.2 with ⟨hv,_⟩|⟨g,cap,cur,hv,_⟩ <;> exact⟨_,_,_,hv⟩
 go_wp2
 go_ret
 refine⟨rfl,Lib.BuilderAt.put (T:=bT) (e:=bE) hB hb2 (bs':=bs++[.int .u8 c]) (by simpa using hown') (by decide),?_⟩;exact((hb1.alloc (by omega) _).grown hgrow (by simp;omega) (fun k hk=>(hown.lt k hk).1)).setCell (p:=⟨b,1,none⟩) hB _
theorem yju(B b:Nat)(bs:List Value)(t:ByteArray)(w:World)(h:Lib.IsBuilder bT bE B b bs w)(hlen:bs.length+t.size≤1000000)(hBw:B≤w.heap.size):
  Calls prog 164 #[.pointer (some ⟨b,0,none⟩),.string t] w fun e w'=>e= .returned (.tuple #[.int .i64 t.size,.nilIface])∧Lib.BuilderAt bT bE B b (.pointer (some ⟨b,0,none⟩)) (bs++Lib.strCells t) w'∧Below B w w':=by
 obtain⟨i0,hi,hz0,hz1,hz2⟩:=info_parts ycV
 go_enter func164,ntmps164
 go_wp2_with (go_at_call 244;refine(yeg B b bs _ h).mono ?_)
 rintro e w1 ⟨rfl,h1,hb1⟩;obtain⟨hB,v,hbk,hown,hne⟩:=h1;have c1:w1.cell? ⟨b,1,none⟩=some v:=by rw [Lib.cell_of_heap hbk];rfl
 have hlt:b<w1.heap.size:=(yAs.1 hbk).1;have hsz:=hb1.size
 go_wp2_with (at_builtin;refine Lib.wpList_append_own_string _ rfl _ _ 228 9 rfl B bE i0 underlying228 underlying9 hi hz0 hz1 hz2 _ _ _ rfl hown t rfl (by unfold maxLen;omega) (by omega) (by omega) ?_)
 intro v' w2 hown' hgrow _;have hb2:w2.heap[b]? =some (.cells #[.pointer (some ⟨b,0,none⟩),v] bT (0,0)):=by
  rw [hgrow.block b hlt (fun e=>hne e.symm)];exact hbk
 have d1:w2.cell? ⟨b,1,none⟩=some v:=by rw [Lib.cell_of_heap hb2];rfl
 have f1:w2.frozen? ⟨b,1,none⟩=false:=Lib.frozen_of_heap hb2 1;obtain⟨ao,n',cap,rfl⟩:∃ao n' cap,v'= .slice ao n' cap:=by
  rcases hown'.2 with ⟨hv,_⟩|⟨g,cap,cur,hv,_⟩ <;> exact⟨_,_,_,hv⟩
 go_wp2
 go_ret2
 refine⟨rfl,Lib.BuilderAt.put (T:=bT) (e:=bE) hB hb2 (bs':=bs++Lib.strCells t) (by simpa [Lib.strCells_length] using hown') (by decide),?_⟩;exact(hb1.grown hgrow (by omega) (fun k hk=>(hown.lt k hk).1)).setCell (p:=⟨b,1,none⟩) hB _
def dig2(u:Nat):List UInt8:=if u<10 then [UInt8.ofNat (48+u)] else [UInt8.ofNat (48+u/10),UInt8.ofNat (48+u % 10)]
theorem yb0{u:Nat}(h:u<100):Lib.decDigits u=dig2 u:=by
 unfold dig2;split
 ·exact Lib.decDigits_one ‹_›
 ·exact Lib.decDigits_two ‹_› h
theorem y8C(u:Nat):(dig2 u).length≤2:=by unfold dig2;split <;> simp
def keyB :LI→List UInt8
 | []=> []
 | x::xs=>dig2 x.toNat++32::keyB xs
theorem ydo :∀(xs:LI) (x:Int),keyB (xs++[x])=keyB xs++dig2 x.toNat++[32]
 | [],x=>by simp [keyB]
 | y::ys,x=>by rw [List.cons_append,keyB,ydo ys x,keyB];simp
theorem yeh :∀(xs:LI),(keyB xs).length≤3*xs.length
 | []=>by simp [keyB]
 | x::xs=>by have h1:=yeh xs;have h2:=y8C x.toNat;simp only [keyB,yLa,yLc];omega
def y4d(p0:LI):Option ByteArray:=if(p0.all fun x=>decide (0≤x∧x<100))=true∧p0.length≤1000 then some ⟨(keyB p0).toArray⟩ else none
theorem yjv(a:Option Addr)(c:Nat)(xs:LI)(w:World)(hr:RdS w 1 a xs.length c (ints xs))(hx:∀x∈xs,0≤x∧x<100)(hl:xs.length≤1000):
  Calls prog 153 #[.slice a xs.length c] w fun e w'=>e= .returned (.string ⟨(keyB xs).toArray⟩)∧Below w.heap.size w w':=by
 have Hx:=Lib.hid hx;clear hx
 go_enter func153,ntmps153
 go_wp2
 go_loopw [8] (fun i wr=>∃k:Nat,k≤xs.length∧i= .int .i64 k∧Lib.IsBuilder bT bE w.heap.size w.heap.size (Lib.byteCells (keyB (xs.take k))) wr∧Below w.heap.size w wr) (fun i _=>xs.length-(intOf i).toNat)
 case atStart=>exact⟨0,yZl _,rfl,Lib.fresh_isBuilder bT bE w,(Below.refl _ w).alloc (yNr _) _⟩
 case round=>
  obtain⟨k,hk,rfl,hI,hbw⟩:=hrel;by_cases hlt:k<xs.length
  ·obtain ⟨b,off,rfl,hc0⟩:=hr.at_int k hlt;have hc:=keep0 hbw hc0;have hsz:=hbw.size;obtain⟨n,hn⟩:∃n:Nat,xs[k]=n:=⟨xs[k].toNat,by have:=Hx.out _ (yGm hlt);omega⟩;have hn100:n<100:=by have:=Hx.out _ (yGm hlt);omega
   rw [hn] at hc;have hkl:=yeh (xs.take k);rw [yLt,Nat.min_eq_left hk] at hkl;have hd2:=y8C n
   go_wp2_with (go_at_call 165;refine(Tryz.strconv_Itoa_small n hn100 _).mono ?_)
   rintro e W0 ⟨rfl,rfl⟩
   go_wp2_with (go_at_call 164;refine(yju w.heap.size w.heap.size _ _ _ hI (by rw [Lib.byteCells_length,yb0 hn100];simp [ByteArray.size];omega) hsz).mono ?_)
   rintro e W1 ⟨rfl,h1,b1⟩
   go_wp2_with (go_at_call 233;refine(yib w.heap.size w.heap.size _ _ _ (.inr h1) (by rw [yLa,Lib.byteCells_length,Lib.strCells_length,yb0 hn100];simp [ByteArray.size];omega) (Nat.le_trans hsz b1.size)).mono ?_)
   rintro e W2 ⟨rfl,h2,b2⟩
   go_wp2
   go_roundw
   case rel=>
    refine⟨k+1,by omega,by go_num,.inr ?_,(hbw.trans b1).trans b2⟩;rw [y5y xs k hlt,ydo,hn,Lib.byteCells_append,Lib.byteCells_append];rw [yb0 hn100] at h2;exact h2
   case measure=>simp [intOf];omega
  ·have hke:k=xs.length:=by omega
   subst hke;rw [List.take_length] at hI
   go_wp2_with (go_at_call 167;refine(Tryz.Builder_String_any w.heap.size w.heap.size _ _ hI hbw.size).mono ?_)
   rintro e W1 ⟨rfl,b1⟩
   go_wp2
   go_ret
   exact⟨rfl,hbw.trans b1⟩
theorem yce{s:Sig}{p0:LI}{a1:Option Addr}{c1:Nat}{r:ByteArray}(h1:RdL (rK .i64) s a1 c1 p0)(hm:y4d p0=some r):
  Calls prog 153 #[.slice a1 p0.length c1] s.w (RetS No s fun v s'=>v= .string r):=by
 unfold y4d at hm;split at hm
 ·rename_i hc;cases hm;obtain⟨g1,g2⟩:=hc;obtain⟨a,c,he,h2⟩:=h1.rdI;cases he;refine(yjv _ _ p0 s.w h2 (fun x hx=>by simpa using yAt.1 g1 x hx) g2).mono fun en w' hh=>?_;obtain⟨rfl,hb⟩:=hh;exact⟨_,s.nw w',rfl,rfl,Sig.nw_mv hb,rfl⟩
 ·cases hm
end
section
open Go.Proofs.Tryz Go Go.RowKit Go.Lib
section
variable{P:Program}(w:World)
theorem ycf(t u ty e:TypeId)(i:TypeInfo)(ht:P.underlying t=some (.slice e))(hu:P.underlying u=some .string)(hi:P.info? e=some i)(hz:i.zero=some (.int .u8 0))
  (hsize:i.size=1) (hby:i.bytes=1) (v:Value) (n:Nat) (xs:List Value) (hown:w.ownsRow 0 e 1 v n xs) (s:ByteArray) (h63:n+s.size≤maxLen) (hbytes:n+s.size≤140737488355328):
  ∃v' w',(Builtin.append_ #[t,u] ty #[v,.string s]).run P w= .ok v' w'∧w'.ownsRow 0 e 1 v' (n+s.size) (xs++strCells s)∧w.grownBy w' v.ownBlock∧(v'.ownBlock=v.ownBlock∨v'.ownBlock=some w.heap.size):=by
 have hxl:xs.length=n:=by simpa using hown.1
 rcases hown.2 with ⟨rfl,rfl⟩|⟨g,cap,cur,rfl,hbg,hg,hnc,hcm,hcs,htake⟩
 ·obtain ⟨v',w',h1,h2,h3,h4⟩:=run_append_own_string (P:=P) w w.heap.size t u ty e i ht hu hi hz hsize hby (.slice none 0 0) 0 xs ⟨hown.1,.inl ⟨rfl,rfl⟩⟩ s h63 hbytes (yNr _);refine⟨v',w',h1,⟨h2.1,?_⟩,h3,?_⟩
  ·rcases h2.2 with h|⟨g,cap,cur,q⟩
   ·exact .inl h
   ·exact .inr ⟨g,cap,cur,q.1,yZl _,q.2.2⟩
  ·by_cases hm:s.size=0
   ·rw [h4.2 ⟨rfl,hm⟩];exact .inl rfl
   ·have hx:xs= []:=yLz hxl;subst hx;have hr:=run_append_nil_string (P:=P) w t u ty e i (.int .u8 0) ht hu hi hz s (by omega) (by simp only [maxLen] at h63;omega) (by rw [hby];omega);rw [h1] at hr;injection hr with e1 e2;rw [e1];exact .inr rfl
 ·by_cases hroom:n+s.size≤cap
  ·obtain ⟨v',w',h1,h2,h3,h4⟩:=run_append_own_string (P:=P) w 0 t u ty e i ht hu hi hz hsize hby _ n xs hown s h63 hbytes (yZl _);refine⟨v',w',h1,h2,h3,.inl ?_⟩;have hr:=run_append_room_string (P:=P) w t u ty e i ht hu hi hsize g n cap cur hg s hroom (by simp at hcs;omega);rw [h1] at hr;injection hr with e1 e2;rw [e1];rfl
  ·obtain ⟨v',w',h1,h2,h3,h4⟩:=run_append_own_string (P:=P) w 0 t u ty e i ht hu hi hz hsize hby _ n xs hown s h63 hbytes (yZl _);refine⟨v',w',h1,h2,h3,.inr ?_⟩;have holds:∀j u,xs[j]? =some u→w.cell? ((⟨g,0,none⟩:Addr).add j)=some u:=hown.cells (g:=g) rfl;have hr:=run_append_grow_string (P:=P) w t u ty e i (.int .u8 0) ht hu hi hz ⟨g,0,none⟩ n cap xs (by rw [hsize];simpa using hxl) holds s (by omega) (by simp only [maxLen] at h63;omega) (by rw [hby];exact growslice_fits (by omega) (by omega));rw [h1] at hr;injection hr with e1 e2;rw [e1];rfl
theorem yaN{ops:Array Oper}{rest:List Oper}{o:Oper}{a:Act}{Q:Exit→Act→World→Prop}(hgd:o.guard=none)(sl x:Operand)(t u:TypeId)
  (ho:o.op= .call { callee:= .builtin .append,args:= #[sl,x],argTypes:= #[t,u] })
  (e:TypeId) (i:TypeInfo) (ht:P.underlying t=some (.slice e)) (hu:P.underlying u=some .string) (hi:P.info? e=some i) (hz:i.zero=some (.int .u8 0))
  (hsize:i.size=1) (hby:i.bytes=1) (v:Value) (n:Nat) (xs:List Value) (hs:a.eval sl=v) (hown:w.ownsRow 0 e 1 v n xs) (s:ByteArray) (hx:a.eval x= .string s) (h63:n+s.size≤maxLen) (hbytes:n+s.size≤140737488355328)
  (h:∀v' w',w'.ownsRow 0 e 1 v' (n+s.size) (xs++strCells s)→w.grownBy w' v.ownBlock→(v'.ownBlock=v.ownBlock∨v'.ownBlock=some w.heap.size)→wpList P ops Q rest (a.put o.dst v') w'):wpList P ops Q (o::rest) a w:=by
 refine wpList_plain hgd fun K hK=>?_;obtain⟨v',w',hr,h2,h3,h4⟩:=ycf (P:=P) w t u o.type e i ht hu hi hz hsize hby v n xs hown s h63 hbytes;unfold Oper.wp execOp;simp only [ho,resolve,invoke,builtin,Sem.run_bind,Sem.run_pure,Result.andThen_ok,List.map_toArray,List.map_cons,List.map_nil,hs,hx,hr];exact hK _ _ (h v' w' h2 h3 h4)
end
def SbP(s:Sig)(t b:Nat)(z:ByteArray):Prop:=∃p v,(p= .pointer none∨p= .pointer (some ⟨b,0,none⟩))∧s.w.heap[b]? =some (.cells #[p,v] bT (0,0))∧s.tag b=t∧s.w.ownsRow 0 bE 1 v z.size (strCells z)∧∀g,v.ownBlock=some g→g≠b∧s.tag g=t
theorem y8D{w w':World}{e:TypeId}{v:Value}{n:Nat}{xs:List Value}(h:w.ownsRow 0 e 1 v n xs)(hb:∀g,v.ownBlock=some g→w'.heap[g]? =w.heap[g]?):w'.ownsRow 0 e 1 v n xs:=
 ⟨h.1,h.2.imp id fun⟨g,cap,cur,e1,h1,h2,h3⟩=>⟨g,cap,cur,e1,h1,(hb g (by rw [e1];rfl)).trans h2,h3⟩⟩
theorem ya7{w:World}{e:TypeId}{v:Value}{n:Nat}{xs:List Value}(h:w.ownsRow 0 e 1 v n xs){g:Nat}(hg:v.ownBlock=some g):g<w.heap.size:=by
 rcases h.2 with ⟨rfl,_⟩|⟨g',cap,cur,rfl,_,h2,_⟩
 ·cases hg
 ·cases hg;exact(yAs.1 h2).1
def SBL(z:ByteArray):Ob:= .hp ⟨fun s t h=>∃b,h= .pointer (some ⟨b,0,none⟩)∧SbP s t b z,lU,
 fun {s s' t _ S} m ht _ ⟨b,e,p,v,h1,h2,h3,h4,h5⟩=>by
  have hb:∀k,k<s.w.heap.size→s.tag k=t→s'.w.heap[k]? =s.w.heap[k]? ∧s'.tag k=t:=fun k hk e=>by
   obtain⟨g1,g2⟩:=m.blk k hk (by rw [e];exact ht);exact⟨g1,g2.trans e⟩
  obtain⟨g1,g2⟩:=hb b (yAs.1 h2).1 h3;refine⟨b,e,p,v,h1,g1.trans h2,g2,y8D h4 fun g hg=>(hb g (ya7 h4 hg) (h5 g hg).2).1,fun g hg=>⟨(h5 g hg).1,(hb g (ya7 h4 hg) (h5 g hg).2).2⟩⟩,
 fun _ hw ht ⟨b,e,p,v,h1,h2,h3,h4,h5⟩=>⟨b,e,p,v,h1,by rw [hw];exact h2,ht _ h3,by rw [hw];exact h4,fun g hg=>⟨(h5 g hg).1,ht _ (h5 g hg).2⟩⟩,
 fun⟨b,e,_⟩ _=>by rw [e];rfl⟩
theorem yic(b:Nat)(p v:Value)(w:World)(hp:p= .pointer none∨p= .pointer (some ⟨b,0,none⟩))(hbk:w.heap[b]? =some (.cells #[p,v] bT (0,0))):
  Calls prog 244 #[.pointer (some ⟨b,0,none⟩)] w fun e w'=>e= .returned (.tuple #[])∧w'.heap[b]? =some (.cells #[.pointer (some ⟨b,0,none⟩),v] bT (0,0))∧(∀k,k≠b→w'.heap[k]? =w.heap[k]?)∧w'.heap.size=w.heap.size∧w'.os=w.os∧w'.tape=w.tape∧w'.output=w.output:=by
 obtain⟨j,hj,hjs⟩:=Option.map_eq_some_iff.1 yfw;have h0:w.cell? ⟨b,0,none⟩=some p:=by simp [World.cell?,hbk]
 have hsh:w.shape? b=some (bT,2):=by simp [World.shape?,hbk]
 have hfz:w.frozen? ⟨b,0,none⟩=false:=by simp [World.frozen?,hbk]
 rcases hp with rfl|rfl
 ·suffices hh:Calls prog 244 #[.pointer (some ⟨b,0,none⟩)] w fun e w'=>e= .returned (.tuple #[])∧w'=w.setCell ⟨b,0,none⟩ (.pointer (some ⟨b,0,none⟩)) by
   refine hh.mono ?_;rintro e w' ⟨rfl,rfl⟩;refine⟨rfl,by simp [World.setCell,Array.getElem?_modify,hbk],fun k hk=>?_,by simp [World.setCell],rfl,rfl,rfl⟩;exact Below.heap_setCell _ _ _ _ hk
  clear hbk
  go_enter func244,ntmps244
  go_wp2
  rw [Lib.run_to_unsafe w ⟨b,0,none⟩ ky_tp ky_un hj (by rw [hjs];decide) hsh (Nat.zero_lt_succ 1)];simp only [Result.andThen];rw [Oper.upon_value]
  go_wp2
  rw [run_callFunc_extern func282 (by kernel_rfl) (by kernel_rfl) (by kernel_rfl) (e:=Extern.AbiNoEscape.same) (by kernel_rfl)];rw [Lib.run_noEscape];simp only [Result.andThen];rw [Oper.upon_value]
  go_wp2
  rw [Lib.run_from_unsafe w ⟨b,0,none⟩ ky_un ky_tp hj hsh yfx];simp only [Result.andThen];rw [Oper.upon_value]
  go_wp2
  go_end0
  exact⟨rfl,rfl⟩
 ·suffices hh:Calls prog 244 #[.pointer (some ⟨b,0,none⟩)] w fun e w'=>e= .returned (.tuple #[])∧w'=w by
   refine hh.mono ?_;rintro e w' ⟨rfl,rfl⟩;exact⟨rfl,hbk,fun _ _=>rfl,rfl,rfl,rfl,rfl⟩
  clear hbk
  go_enter func244,ntmps244
  go_wp2
  rw [Lib.run_neq_ptr_same w _ ky_tp hj]
  go_wp2
  go_end0
  exact⟨rfl,rfl⟩
theorem yjw(b:Nat)(p v:Value)(w:World)(hp:p= .pointer none∨p= .pointer (some ⟨b,0,none⟩))(hbk:w.heap[b]? =some (.cells #[p,v] bT (0,0)))(n:Nat)(xs:List Value)(hown:w.ownsRow 0 bE 1 v n xs)(hne:v.ownBlock≠some b)(t:ByteArray)(hlen:n+t.size≤1000000):
  Calls prog 164 #[.pointer (some ⟨b,0,none⟩),.string t] w fun e w'=>e= .returned (.tuple #[.int .i64 t.size,.nilIface])∧∃v',w'.heap[b]? =some (.cells #[.pointer (some ⟨b,0,none⟩),v'] bT (0,0))∧w'.ownsRow 0 bE 1 v' (n+t.size) (xs++strCells t)∧(v'.ownBlock=v.ownBlock∨v'.ownBlock=some w.heap.size)∧
   (∀k,k<w.heap.size→k≠b→v.ownBlock≠some k→w'.heap[k]? =w.heap[k]?)∧w.heap.size≤w'.heap.size∧w'.os=w.os∧w'.tape=w.tape∧w'.output=w.output:=by
 obtain⟨i0,hi,hz0,hz1,hz2⟩:=info_parts ycV;have Hbk:=Lib.hid hbk;clear hbk;have Hown:=Lib.hid hown;clear hown;have Hp:=Lib.hid hp;clear hp
 go_enter func164,ntmps164
 go_wp2_with (go_at_call 244;refine(yic b p v _ Hp.out Hbk.out).mono ?_)
 rintro e w1 ⟨rfl,hbk1,hk1,hsz1,ho1,ht1,hu1⟩;have hown1:w1.ownsRow 0 bE 1 v n xs:=y8D Hown.out fun g hg=>hk1 g fun e=>hne (by rw [hg,e]);have c1:w1.cell? ⟨b,1,none⟩=some v:=by rw [Lib.cell_of_heap hbk1];rfl
 have hlt:b<w1.heap.size:=(yAs.1 hbk1).1;have Hbk1:=Lib.hid hbk1;clear hbk1;have Hown1:=Lib.hid hown1;clear hown1;have Hk1:=Lib.hid hk1;clear hk1;have Hsz1:=Lib.hid hsz1;clear hsz1
 go_wp2_with (at_builtin;refine yaN _ rfl _ _ 228 9 rfl bE i0 underlying228 underlying9 hi hz0 hz1 hz2 _ n xs rfl Hown1.out t rfl (by unfold maxLen;omega) (by omega) ?_)
 intro v' w2 hown' hgrow hblk;have hb2:w2.heap[b]? =some (.cells #[.pointer (some ⟨b,0,none⟩),v] bT (0,0)):=by
  rw [hgrow.block b hlt (fun e=>hne e.symm)];exact Hbk1.out
 have d1:w2.cell? ⟨b,1,none⟩=some v:=by rw [Lib.cell_of_heap hb2];rfl
 have f1:w2.frozen? ⟨b,1,none⟩=false:=Lib.frozen_of_heap hb2 1;obtain⟨ao,n',cap,rfl⟩:∃ao n' cap,v'= .slice ao n' cap:=by
  rcases hown'.2 with ⟨hv,_⟩|⟨g,cap,cur,hv,_⟩ <;> exact⟨_,_,_,hv⟩
 go_wp2
 go_ret2
 have hne':(Value.slice ao n' cap).ownBlock≠some b:=by
  rcases hblk with h|h
  ·rw [h];exact hne
  ·rw [h];intro e;cases e;omega
 refine⟨rfl,.slice ao n' cap,by simp [World.setCell,Array.getElem?_modify,hb2],y8D hown' fun g hg=>Below.heap_setCell _ _ _ _ fun e=>hne' (by rw [hg,e]),by rw [Hsz1.out] at hblk;exact hblk,fun k hk hkb hkv=>?_,?_,?_,?_,?_⟩
 ·rw [Below.heap_setCell _ _ _ _ hkb,hgrow.block k (by rw [Hsz1.out];exact hk) (fun e=>hkv e.symm),Hk1.out k hkb]
 ·have h1:=hgrow.size;have h2:=Hsz1.out;simp only [World.setCell,Array.size_modify];omega
 ·exact hgrow.os.trans ho1
 ·exact hgrow.tape.trans ht1
 ·exact hgrow.output.trans hu1
theorem ykm :(prog).underlying 320=some (.pointer bE):=by kernel_rfl
theorem yid :(prog).cellsOf bE=1:=by kernel_rfl
set_option maxHeartbeats 1000000 in
/-- The text of a builder; its row is of no use any more. -/
theorem yh3(b:Nat)(p:Value)(l:List UInt8)(g cap:Nat)(cur:Array Value)(w:World)(hbk:w.heap[b]? =some (.cells #[p,.slice (some ⟨g,0,none⟩) l.length cap] bT (0,0)))(hg:w.heap[g]? =some (.cells cur bE (0,0)))(hnc:l.length≤cap)(hcm:cap≤maxLen)(hcs:cur.size=cap)(htake:cur.toList.take l.length=Lib.byteCells l)(h0:l≠ []):
  Calls prog 167 #[.pointer (some ⟨b,0,none⟩)] w fun e w'=>e= .returned (.string ⟨l.toArray⟩)∧w'=w.drew.freeze ⟨g,0,none⟩ l.length:=by
 have hl0:l.length≠0:=by simpa using h0
 have c1:w.drew.cell? ⟨b,1,none⟩=some (.slice (some ⟨g,0,none⟩) l.length cap):=by
  have:w.drew.heap[b]? =some (.cells #[p,.slice (some ⟨g,0,none⟩) l.length cap] bT (0,0)):=hbk;rw [Lib.cell_of_heap this];rfl
 have hSD:(Builtin.unsafeSliceData_ #[228] 320 #[.slice (some ⟨g,0,none⟩) l.length cap]).run prog w.drew= .ok (.pointer (some ⟨g,0,none⟩)) w.drew:=
  Lib.run_unsafeSliceData_row _ _ _ _ _ _ (by omega)
 have hUS:(Builtin.unsafeString_ #[320,3] 9 #[.pointer (some ⟨g,0,none⟩),.int .i64 l.length]).run prog w.drew= .ok (.string ⟨l.toArray⟩) (w.drew.freeze ⟨g,0,none⟩ l.length):=by
  refine Lib.run_unsafeString_row w.drew 320 3 9 bE ykm yid g cur.size (by have hg':w.drew.heap[g]? =some (.cells cur bE (0,0)):=hg;simp [World.shape?,hg']) l h0 (by omega) (by unfold maxLen at hcm;omega) ?_;intro j x hx;have hj:j<l.length:=(yGs.1 hx).1;have h2:cur.toList[j]? =some (.int .u8 x.toNat):=by
   have:(cur.toList.take l.length)[j]? =(Lib.byteCells l)[j]? :=by rw [htake]
   rw [List.getElem?_take,iP hj] at this;rw [this];simp [Lib.byteCells,hx]
  have hg':w.drew.heap[g]? =some (.cells cur bE (0,0)):=hg;rw [Addr.add_lit,Lib.cell_of_heap hg',yNz,←Array.getElem?_toList,h2]
 clear htake hg hbk;have mixed:(prog).follows .mixedOrders=true:=by kernel_rfl
 go_enter func167,ntmps167
 go_wp2
 go_region_o
 all_goals (go_wp2;go_ret;exact⟨rfl,rfl⟩)
theorem yfb(w:World)(a:Addr)(n:Nat):w.heap.size≤(w.drew.freeze a n).heap.size:=by
 unfold World.freeze;split
 ·exact yNr _
 ·show w.heap.size≤(w.heap.modify _ _).size;simp
/-! As functions of the data. -/
def yy(p0 p1:ByteArray):Option ByteArray:=if p0.size+p1.size≤1000000 then some (p0++p1) else none
def y3K(p0:ByteArray):Option ByteArray:=if p0.size≠0 then some p0 else none
def y5e(p0:Int):Option ByteArray:=if 0≤p0∧p0<100 then some ⟨(dig2 p0.toNat).toArray⟩ else none
theorem yei(z t:ByteArray):strCells (z++t)=strCells z++strCells t:=by
 simp [strCells,ByteArray.data_append]
theorem y3H{p0 p1 r:ByteArray}(hm:yy p0 p1=some r):Fw prog 164 ⟨1,[0]⟩ [.h 0,.o (lV (.string p1))] [SBL p0] .u [SBL r]:=
 ⟨fun ts β s vs ht _ _ hp ⟨v,us,h,⟨v2,us2,h2,hu,e3⟩,e2⟩ ho=>by
  have hu:us2= []:=hu;subst hu;subst e3;subst e2;obtain⟨rfl,_⟩:=h2;obtain⟨t,rfl⟩:∃t,ts= [t]:=by
   match ts,ht with
   | [t],_=>exact⟨t,rfl⟩
  obtain⟨b,e,p,q,h1,h2,h3,h4,h5⟩:=ho 0 _ rfl;have hv:v= .pointer (some ⟨b,0,none⟩):=h.1.trans e;subst hv;unfold yy at hm;split at hm
  ·rename_i hlen;cases hm;have hb:b<s.w.heap.size:=(yAs.1 h2).1;have h3:s.tag b=t:=h3;have h5:∀g,q.ownBlock=some g→g≠b∧s.tag g=t:=h5;refine Calls.mono (yjw b p q s.w h1 h2 p0.size _ h4 (fun e=>(h5 b e).1 rfl) p1 hlen) fun en w' ⟨e1,v',k1,k2,k3,k4,k5,k6,k7,k8⟩=>⟨_,⟨w',fun k=>if k<s.w.heap.size then s.tag k else t⟩,rfl,e1,⟨k6,k7,k8,k5,fun k hk hn=>⟨k4 k hk (fun e=>hn ⟨0,.head _,by rw [e,h3];rfl⟩) fun e=>hn ⟨0,.head _,by rw [(h5 k e).2];rfl⟩,iP hk⟩⟩,β,fun _ _=>rfl,trivial,fun i o ho'=>?_⟩
   match i,ho' with
   | 0,ho'=>
    cases ho';refine⟨b,e,_,v',.inr rfl,k1,(iP hb).trans h3,by rw [ByteArray.size_append,yei];exact k2,fun g hg=>?_⟩;rcases k3 with k|k
    ·rw [k] at hg;exact⟨(h5 g hg).1,(iP (ya7 h4 hg)).trans (h5 g hg).2⟩
    ·rw [k] at hg;cases hg;exact⟨by omega,iN (Nat.lt_irrefl _)⟩
  ·cases hm⟩
theorem y8c{p0 r:ByteArray}(hm:y3K p0=some r):Fw prog 167 ⟨1,[0]⟩ [.h 0] [SBL p0] (sL (lV (.string r))) [.u]:=
 ⟨fun ts β s vs ht _ _ hp ⟨v,us,h,hu,e2⟩ ho=>by
  have hu:us= []:=hu;subst hu;subst e2;obtain⟨t,rfl⟩:∃t,ts= [t]:=by
   match ts,ht with
   | [t],_=>exact⟨t,rfl⟩
  obtain⟨b,e,p,q,h1,h2,h3,h4,h5⟩:=ho 0 _ rfl;have hv:v= .pointer (some ⟨b,0,none⟩):=h.1.trans e;subst hv;unfold y3K at hm;split at hm
  ·rename_i hlen;cases hm;rcases h4.2 with ⟨rfl,h0⟩|⟨g,cap,cur,rfl,_,k2,k3,k4,k5,k6⟩
   ·exact absurd h0 hlen
   have h5:=h5 g rfl;have hbc:strCells p0=Lib.byteCells p0.data.toList:=rfl;have hpl:p0.size=p0.data.toList.length:=by rw [Array.length_toList];rfl
   rw [hpl] at h2 k3;refine Calls.mono (yh3 b p p0.data.toList g cap cur s.w h2 k2 k3 k4 (by omega) (by rw [←hpl,←hbc,←k6,Nat.mul_one]) (fun h=>hlen (by rw [hpl,h];rfl))) fun en w' ⟨e1,e2⟩=>⟨_,⟨w',s.tag⟩,rfl,e1,⟨by rw [e2];unfold World.freeze;split <;> rfl,by rw [e2];unfold World.freeze;split <;> rfl,by rw [e2];unfold World.freeze;split <;> rfl,by rw [e2];exact yfb _ _ _,fun k hk hn=>⟨?_,rfl⟩⟩,β,fun _ _=>rfl,⟨by simp,rfl⟩,fun i o ho'=>?_⟩
   ·have hkg:¬g=k:=fun e=>hn ⟨0,.head _,by rw [←e,h5.2];rfl⟩;rw [e2];unfold World.freeze;split
    ·rfl
    ·show (s.w.heap.modify g _)[k]? =_;rw [Array.getElem?_modify,iN hkg]
   ·match i,ho' with
    | 0,ho'=>cases ho';trivial
  ·exact absurd hm (by simp)⟩
theorem y8E{p0:Int}{r:ByteArray}(hm:y5e p0=some r):Fw prog 165 ⟨0,[]⟩ [.i p0] [] (sL (lV (.string r))) []:=
 ⟨fun ts β s vs ht _ _ hp ⟨v,us,h,hu,e2⟩ ho=>by
  have hu:us= []:=hu;subst hu;subst e2;obtain⟨rfl,_⟩:=h;unfold y5e at hm;split at hm
  ·rename_i hc;cases hm;obtain⟨n,rfl⟩:∃n:Nat,p0=n:=⟨p0.toNat,by omega⟩;refine Calls.mono (Tryz.strconv_Itoa_small n (by omega) s.w) fun en w' ⟨e1,e2⟩=>⟨_,s,e2,e1,Mv.refl _ _,β,fun _ _=>rfl,⟨?_,rfl⟩,fun i o ho'=>by cases ho'⟩;rw [yb0 (by omega)];rfl
  ·cases hm⟩
/-! Operations on texts. -/
section
variable{K:Kx}{C:Cx}{P:Program}{n:Nat}{ops:Array Oper}{σ:Sx}{d:Nat}{ty:TypeId}{pos:String}{af:Array Edge}{g:Option (Nat×Bool)}
theorem O.sad{T U:TypeId}{x y:Operand}{a b:ByteArray}(hg:Gu ops σ g)(hx:σ.ev x=some (VL (.string a)))(hy:σ.ev y=some (VL (.string b)))(hl:a.size+b.size≤1000000)(hb:Nat.blt d n=true):Ox K C P n ops ⟨some d,.binOp .add T x y U,ty,pos,af,g⟩ σ (F1 d (VL (.string (a++b)))):=
 Ox.pure fun _ _ _ _ _ _ hd k=>L.val (hd.gd hg) hb (fun ac ha=>by
  simp [execOp,eqGuard,binOp,Op.stringOp,ha.ev (hd.evl hx),ha.ev (hd.evl hy)];omega) (k _ ⟨rfl,rfl⟩)
theorem O.alS(i:Nat)(hi:Nat.ble σ.n i=true)(hz:(P.info? bT).bind (·.zero)=some (.agg #[.pointer none,.slice none 0 0]))(hg:Gu ops σ g)(hb:Nat.blt d n=true):Ox K C P n ops ⟨some d,.alloc bT,ty,pos,af,g⟩ σ (FN d i (lH i) (SBL ⟨#[]⟩)):=fun Φ Q os β s e hd k=>
 L.al (C.tg i) hz rfl (hd.gd hg) hb fun b s' m h5=>k _ s' _ (Aft.new (h:= .pointer (some ⟨b,0,none⟩)) hi m.no (lH_at rfl) ⟨b,rfl,.pointer none,.slice none 0 0,.inl rfl,h5.heap,h5.htag,World.ownsRow_nil _ _ _ _,fun g hg=>by cases hg⟩)
end
end
section
open Go.Proofs.Tryz Go Go.RowKit
variable{c:Call}{α:Type}{xs:List α}{r:Rep α}{T T':TypeId}{f:FuncId}{ob:List Ob}{x y:Operand}{U:TypeId}{k:Nat}{j:Int}{z:α}{ms1:List (Nat×List Bool)}{fs1:List Eff}{av:List TV}{ob':List Ob}{S:TypeId}{off:Nat}{K:Kx}{C:Cx}{P:Program}{n:Nat}{fn:Func}{op:Op}{q:Nat}{ops:Array Oper}{d:Nat}{ty:TypeId}{pos:String}{af:Array Edge}
def rRaw(n:Nat):Rep (List Value):=⟨n,fun _ cs v=>cs=v∧cs.length=n∧∀u∈cs,u.oneCell'=true,fun h=>h.2.1,fun _ h=>h,fun h=>h.2.2⟩
theorem y6s(n:Nat):FlatR (rRaw n):=fun _ _ _ _ h=>h
def Rl{α:Type}(r:Rep α)(s:Sig):List (List Value)→List α→Prop
 | [],[]=>True
 | v::vs,x::xs=>r.rd s v x∧Rl r s vs xs
 | _,_=>False
def Rll{α:Type}(r:Rep α)(s:Sig):List (List (List Value))→List (List α)→Prop
 | [],[]=>True
 | v::vs,x::xs=>Rl r s v x∧Rll r s vs xs
 | _,_=>False
section
variable{α:Type}{r:Rep α}{s s' s0:Sig}
theorem Rl.len :∀{vs:List (List Value)} {xs:List α},Rl r s vs xs→vs.length=xs.length
 | [],[],_=>rfl
 | _::_,_::_,h=>congrArg (· + 1) (Rl.len h.2)
 | [],_::_,h=>h.elim
 | _::_,[],h=>h.elim
theorem Rl.mono(hl:Le s s'):∀{vs:List (List Value)} {xs:List α},Rl r s vs xs→Rl r s' vs xs
 | [],[],_=>trivial
 | _::_,_::_,h=>⟨r.mono hl h.1,Rl.mono hl h.2⟩
 | [],_::_,h=>h.elim
 | _::_,[],h=>h.elim
theorem Rll.len :∀{vs:List (List (List Value))} {xs:List (List α)},Rll r s vs xs→vs.length=xs.length
 | [],[],_=>rfl
 | _::_,_::_,h=>congrArg (· + 1) (Rll.len h.2)
 | [],_::_,h=>h.elim
 | _::_,[],h=>h.elim
theorem Rll.mono(hl:Le s s'):∀{vs:List (List (List Value))} {xs:List (List α)},Rll r s vs xs→Rll r s' vs xs
 | [],[],_=>trivial
 | _::_,_::_,h=>⟨Rl.mono hl h.1,Rll.mono hl h.2⟩
 | [],_::_,h=>h.elim
 | _::_,[],h=>h.elim
theorem Rll.get :∀{vs:List (List (List Value))} {xs:List (List α)},Rll r s vs xs→∀{i:Nat} {ys:List α},xs[i]? =some ys→∃v,vs[i]? =some v∧Rl r s v ys
 | v::_,_::_,h,0,ys,e=>by cases e;exact⟨v,rfl,h.1⟩
 | _::_,_::_,h,i+1,ys,e=>by
  obtain⟨v,h1,h2⟩:=Rll.get h.2 (i:=i) (by simpa using e);exact⟨v,by simpa using h1,h2⟩
 | [],[],_,_,_,e=>by cases e
 | [],_::_,h,_,_,_=>h.elim
 | _::_,[],h,_,_,_=>h.elim
theorem Rll.set{v:List (List Value)}{ys:List α}(hv:Rl r s v ys):∀{vs:List (List (List Value))} {xs:List (List α)} (i:Nat),Rll r s vs xs→Rll r s (vs.set i v) (xs.set i ys)
 | [],[],_,_=>trivial
 | _::_,_::_,0,h=>⟨hv,h.2⟩
 | _::_,_::_,i+1,h=>⟨h.1,Rll.set hv i h.2⟩
 | [],_::_,_,h=>h.elim
 | _::_,[],_,h=>h.elim
theorem Rll.rep :∀n,Rll r s (List.replicate n []) (List.replicate n ([]:List α))
 | 0=>trivial
 | n+1=>⟨trivial,Rll.rep n⟩
theorem Cells.raw :∀{cs:List Value} {xs:List α},Cells r s cs xs→∃vs,Cells (rRaw r.sz) s0 cs vs∧Rl r s vs xs
 | _,[],h=>⟨[],h,trivial⟩
 | _,x::xs,⟨c,d,e,h1,h2⟩=>by
  obtain⟨vs,h3,h4⟩:=Cells.raw h2;exact⟨c::vs,⟨c,d,e,⟨rfl,r.len h1,r.one h1⟩,h3⟩,h1,h4⟩
theorem Cells.unraw :∀{cs:List Value} {vs:List (List Value)} {xs:List α},Cells (rRaw r.sz) s0 cs vs→Rl r s vs xs→Cells r s cs xs
 | _,[],[],h,_=>h
 | _,v::vs,x::xs,⟨c,d,e,h1,h2⟩,h3=>⟨c,d,e,by have e1:c=v:=h1.1;rw [e1];exact h3.1,Cells.unraw h2 h3.2⟩
 | _,[],_::_,_,h=>h.elim
 | _,_::_,[],_,h=>h.elim
theorem RdL.unraw{a:Option Addr}{c:Nat}{vs:List (List Value)}{xs:List α}(h:RdL (rRaw r.sz) s a c vs)(hr:Rl r s vs xs):RdL r s a c xs:=by
 obtain⟨cs,h1,h2,h3⟩:=h;have hl:=hr.len;exact⟨cs,by rw [←hl];exact h1,h2,h3.unraw hr⟩
theorem Cells.unrawL :∀{cs:List Value} {vs:List (List (List Value))} {xs:List (List α)},Cells (rL (rRaw r.sz)) s cs vs→Rll r s vs xs→Cells (rL r) s cs xs
 | _,[],[],h,_=>h
 | _,v::vs,x::xs,⟨c,d,e,⟨a,k,e1,h1⟩,h2⟩,h3=>⟨c,d,e,⟨a,k,by rw [e1,h3.1.len],h1.unraw h3.1⟩,Cells.unrawL h2 h3.2⟩
 | _,[],_::_,_,h=>h.elim
 | _,_::_,[],_,h=>h.elim
end
def TAM{α:Type}(r:Rep α)(T T':TypeId)(o:Option Nat)(xss:List (List α)):Ob:= .hp ⟨fun s t h=>∃vss,Rll r s vss xss∧∃hs τ a c,TabP (rRaw r.sz) T T' o vss s t h hs τ a c,fzTb r xss o,
 fun m ht h0 ⟨vss,h1,hs,τ,a,c,h⟩=>⟨vss,h1.mono (m.le h0),hs,τ,a,c,h.to (y6s _) fun b hb e=>by
  obtain⟨g1,g2⟩:=m.blk b hb (by rw [e];exact ht);exact⟨g1,g2.trans e⟩⟩,
 fun hl hw ht ⟨vss,h1,hs,τ,a,c,h⟩=>⟨vss,h1.mono hl,hs,τ,a,c,h.to (y6s _) fun b _ e=>⟨by rw [hw],ht b e⟩⟩,
 fun {s h} ⟨vss,h1,hs,τ,a,c,h2⟩ β=>by
  have h3:=h2.fz (β:=β);cases o with
  | some _=>exact h3
  | none=>
   obtain⟨a,c,e,cs,k1,k2,k3⟩:=h3;have hl:=h1.len;exact⟨a,c,by rw [e,hl],cs,by rw [←hl];exact k1,k2,k3.unrawL h1⟩⟩
theorem fTm{xss:List (List α)}:∀q,TAM r T T' none xss= .hp q→q.fz.refs= []:=fun q e=>by cases e;rfl
section
variable{K:Kx}{C:Cx}{P:Program}{n:Nat}{ops:Array Oper}{σ:Sx}{d q i:Nat}{ty:TypeId}{pos:String}{af:Array Edge}{g:Option (Nat×Bool)}{β β':Nat→Value}{s s':Sig}{e e':List (Nat×Value)}
theorem Aft.conv{f f':Eff}{n:Nat}(h:Aft C f' n β β' s s' e e')(hd:f.dst=f'.dst)(hk:f.ob.map (·.1)=f'.ob.map (·.1))(ho:∀i o,(i,o)∈f.ob→o.p β' s' (C.tg i) (β' i)):Aft C f n β β' s s' e e':=by
 have key:∀{l l':List (Nat×Ob)} {i:Nat},l.map (·.1)=l'.map (·.1)→(∀o,(i,o)∉l)→∀o,(i,o)∉l':=fun {l l' i} e h o hm=>by
  have:i∈l'.map (·.1):=yMp.2 ⟨_,hm,rfl⟩;rw [←e] at this;obtain⟨⟨j,o2⟩,h1,rfl⟩:=yMp.1 this;exact h o2 h1
 have key2:∀{l l':List (Nat×Ob)} {i:Nat} {o:Ob},l.map (·.1)=l'.map (·.1)→(i,o)∈l'→∃o,(i,o)∈l:=fun {l l' i o} e hm=>by
  have:i∈l'.map (·.1):=yMp.2 ⟨_,hm,rfl⟩;rw [←e] at this;obtain⟨⟨j,o2⟩,h1,rfl⟩:=yMp.1 this;exact⟨o2,h1⟩
 exact⟨h.hd,fun i hi=>h.hn i (key hk hi),h.mv.weak fun t ⟨i,o,hm,e⟩=>by obtain⟨o2,h2⟩:=key2 hk hm;exact⟨i,o2,h2,e⟩,fun d hh=>h.sl d fun x=>by rw [←hd];exact hh x,fun d x hh=>h.dst d x (by rw [←hd];exact hh),ho⟩
theorem Den.tam{T1 T2:TypeId}{o:Option Nat}{xss:List (List α)}(hd:Den K C σ β s e)(ho:aget σ.ob q=some (TAM r T1 T2 o xss)):∃vss,Rll r s vss xss∧Den K C ⟨σ.sl,(q,TAB (y6s r.sz) T1 T2 o vss)::σ.ob,σ.n⟩ β s e:=by
 obtain⟨vss,h1,h2⟩:=hd.ob q _ ho;refine⟨vss,h1,hd.ok,hd.mv,hd.b0,hd.m,hd.sl,fun i o' h=>?_,hd.fs,fun i o' h=>?_⟩
 ·rcases yf h with ⟨rfl,rfl⟩|⟨_,h⟩
  ·exact h2
  ·exact hd.ob i o' h
 ·rcases yf h with ⟨rfl,rfl⟩|⟨_,h⟩
  ·exact ⟨(hd.fo _ _ ho).1,fun j hj=>by cases hj⟩
  ·exact hd.fo i o' h
theorem ev_ob{ob:List (Nat×Ob)}{m:Nat}:(⟨σ.sl,ob,m⟩:Sx).ev x=σ.ev x:=by cases x <;> rfl
theorem gu_ob{ob:List (Nat×Ob)}{m:Nat}(h:Gu ops σ g):Gu ops ⟨σ.sl,ob,m⟩ g:=by
 cases g with
 | none=>trivial
 | some p=>exact h
theorem ycW{l:List (Nat×α)}{x:α}:aget ((q,x)::l) q=some x:=by simp only [aget,Nat.beq_refl,cond_true]
variable{α:Type}{r:Rep α}{T1 T2:TypeId}{o:Option Nat}{xss zss:List (List α)}{ys:List α}
theorem yfy{vss:List (List (List Value))}{J:Int}(h:Rll r s vss xss)(hy:idx xss J=some ys):∃vs,idx vss J=some vs∧Rl r s vs ys:=by
 obtain⟨h0,hk,rfl⟩:=y5H hy;obtain⟨v,h1,h2⟩:=h.get (yGe hk);exact⟨v,by unfold idx;rw [iP h0,h1],h2⟩
theorem O.mkN{by_:Nat}{k k':IntKind}(r:Rep α)(T2:TypeId)(i:Nat)(hU:P.underlying T=some (.slice U))(hZ:Zr P rVal U by_ (.slice none 0 0))(hby:Nat.ble by_ 32768=true)(hi:Nat.ble σ.n i=true)(hg:Gu ops σ g)(hx:σ.ev x=some (VL (.int k j)))(hy:σ.ev y=some (VL (.int k' j)))(hl:mkL j ([]:List α)=some xss)(hb:Nat.blt d n=true):
  Ox K C P n ops ⟨some d,.makeSlice T x y,ty,pos,af,g⟩ σ (FN d i (lH i) (TAM r U T2 none xss)):=fun Φ Q os β s e hd k=>by
 obtain⟨h0,h1,h2⟩:=ybx hl;refine O.mkT (y6s r.sz) T2 i hU hZ hby hi hg hx hy (ygx h0 h1) hb Φ Q os β s e hd fun β' s' e' af=>k β' s' e' (af.conv rfl rfl fun j o hm=>?_);rcases yMo.1 hm with e1|hm
 ·cases e1;have:=af.ob _ _ (.head _);exact⟨_,by rw [h2];exact Rll.rep _,this⟩
 ·cases hm
theorem O.irN{i:Operand}{k:IntKind}{y:List α}(hS:Sl P T U 1)(hg:Gu ops σ g)(hx:σ.ev x=some (sL (lH q)))(ho:aget σ.ob q=some (TAM r T1 T2 o xss))(hi:σ.ev i=some (VL (.int k j)))(hy:idx xss j=some y)(hb:Nat.blt d n=true):Ox K C P n ops ⟨some d,.indexAddr T x i,ty,pos,af,g⟩ σ (F1 d (sL (lR q 1 j.toNat 0))):=fun Φ Q os β s e hd f=>by
 obtain⟨vss,h1,hd2⟩:=hd.tam ho;obtain⟨vs,h2,_⟩:=yfy h1 hy;exact O.irT hS (gu_ob hg) (ev_ob.trans hx) ycW (ev_ob.trans hi) h2 hb Φ Q os β s e hd2 f
theorem O.ldN(i:Nat)(hT:NAg P T)(hi:Nat.ble σ.n i=true)(hg:Gu ops σ g)(hx:σ.ev x=some (sL (lR q 1 j.toNat 0)))(ho:aget σ.ob q=some (TAM r T1 T2 none xss))(hy:idx xss j=some ys)(hb:Nat.blt d n=true):
  Ox K C P n ops ⟨some d,.load T x,ty,pos,af,g⟩ σ (FT d i q (lH i) (ROW r T2 ys) (TAM r T1 T2 (some j.toNat) xss)):=fun Φ Q os β s e hd f=>by
 obtain⟨vss,h1,hd2⟩:=hd.tam ho;obtain⟨vs,h2,h3⟩:=yfy h1 hy;refine O.ldT (σ:=⟨σ.sl,(q,TAB (y6s r.sz) T1 T2 none vss)::σ.ob,σ.n⟩) i hT hi (gu_ob hg) (ev_ob.trans hx) ycW h2 hb Φ Q os β s e hd2 fun β' s' e' af=>f β' s' e' (af.conv rfl rfl fun j' o' hm=>?_);have hl:Le s s':=af.mv.le (Eff.T0 hd.ok);rcases yMo.1 hm with e1|hm
 ·cases e1;obtain⟨a,c,e2,cs,k1,k2⟩:=af.ob _ _ (.head _);have hlen:=h3.len;exact⟨a,c,by rw [e2,hlen],cs,by rw [←hlen];exact k1,k2.unraw (h3.mono hl)⟩
 ·rcases yMo.1 hm with e1|hm
  ·cases e1;exact⟨vss,h1.mono hl,af.ob _ _ (.tail _ (.head _))⟩
  ·cases hm
theorem O.stN{J:Int}(hT:∀w,(sizeOf T).run P w= .ok 1 w)(hg:Gu ops σ g)(hx:σ.ev x=some (sL (lR q 1 J.toNat 0)))(ho:aget σ.ob q=some (TAM r T1 T2 o xss))(hu:upd xss J ys=some zss)(hy:σ.ev y=some (sL (lH i)))(hoi:aget σ.ob i=some (ROW r T2 ys))(hqi:Nat.beq q i=false)(hk:∀k,o=some k→k=J.toNat):
  Ox K C P n ops ⟨none,.store T x y,ty,pos,af,g⟩ σ ⟨none,[(q,TAM r T1 T2 none zss),(i,.u)],none⟩:=fun Φ Q os β s e hd f=>by
 obtain⟨vss,h1,hd2⟩:=hd.tam ho;obtain⟨a,c,e2,cs,k1,k2⟩:=hd.ob i _ hoi;obtain⟨vs,k3,k4⟩:=k2.raw (s0:=s);have hlen:=k4.len;obtain⟨g0,g1,rfl⟩:=y9Y hu;have hd3:Den K C ⟨σ.sl,(i,ROW (rRaw r.sz) T2 vs)::(q,TAB (y6s r.sz) T1 T2 o vss)::σ.ob,σ.n⟩ β s e:=by
  refine⟨hd2.ok,hd2.mv,hd2.b0,hd2.m,hd2.sl,fun j o' h=>?_,hd2.fs,fun j o' h=>?_⟩
  ·rcases yf h with ⟨rfl,rfl⟩|⟨_,h⟩
   ·exact ⟨a,c,by rw [e2,hlen],cs,by rw [hlen];exact k1,k3⟩
   ·exact hd2.ob j o' h
  ·rcases yf h with ⟨rfl,rfl⟩|⟨_,h⟩
   ·exact ⟨(hd.fo _ _ hoi).1,fun j hj=>by cases hj⟩
   ·exact hd2.fo j o' h
 have hiq:Nat.beq i q=false:=nbeq fun e=>by rw [e,Nat.beq_refl] at hqi;cases hqi
 refine O.stT (hr:=y6s r.sz) (T1:=T1) hT (gu_ob hg) (ev_ob.trans hx) (o:=o) (xss:=vss) (ys:=vs) (zss:=vss.set J.toNat vs) ?_ ?_ (ev_ob.trans hy) ycW hqi hk Φ Q os β s e hd3 fun β' s' e' af=>f β' s' e' (af.conv rfl rfl fun j' o' hm=>?_)
 ·simp only [aget,hiq,cond_false,Nat.beq_refl,cond_true]
 ·unfold upd;rw [iP ⟨g0,by rw [h1.len];omega⟩]
 ·have hl:Le s s':=af.mv.le (Eff.T0 hd.ok);rcases yMo.1 hm with e1|hm
  ·cases e1;exact⟨_,(h1.mono hl).set (k4.mono hl) _,af.ob _ _ (.head _)⟩
  ·rcases yMo.1 hm with e1|hm
   ·cases e1;trivial
   ·cases hm
end
section
variable{K:Kx}{C:Cx}{P:Program}{n:Nat}{ops:Array Oper}{σ:Sx}{d:Nat}{ty:TypeId}{pos:String}{af:Array Edge}{g:Option (Nat×Bool)}
theorem All2.map{f:α→LV}{β:Nat→Value}{s:Sig}:∀{xs:List α} {vs:List Value},All2 β s (xs.map f) vs→vs.length=xs.length∧∀(k:Nat) (x:α),xs[k]? =some x→∃v,vs[k]? =some v∧(f x).p β s v
 | [],vs,h=>by rw [show vs= [] from h];exact⟨rfl,fun k x h=>by simp at h⟩
 | x::xs,vs,⟨v,us,h1,h2,e⟩=>by
  subst e;obtain⟨h3,h4⟩:=All2.map h2;refine⟨by simp [h3],fun k y hk=>?_⟩;cases k with
  | zero=>cases hk;exact⟨v,rfl,h1⟩
  | succ k=>obtain⟨u,h5,h6⟩:=h4 k y (by simpa using hk);exact⟨u,by simpa using h5,h6⟩
theorem O.ixL{f:α→LV}{k':IntKind}{m:Nat}(hN:NAg P U)(hu:P.underlying T=some (.array m U))(hg:Gu ops σ g)(hx:σ.ev x=some (AG (xs.map f)))(hy:σ.ev y=some (VL (.int k' j)))(hl:Nat.beq xs.length m=true)(hv:idx xs j=some z)(hb:Nat.blt d n=true):Ox K C P n ops ⟨some d,.index T x y,ty,pos,af,g⟩ σ (F1 d (sL (f z))):=
 Ox.pure fun _ _ _ β s e hd q=>by
  obtain⟨w,h1,vs,h2,rfl⟩:=hd.ev hx;obtain⟨h0,hk,rfl⟩:=y5H hv;have hm:xs.length=m:=yNb hl;obtain⟨h3,h4⟩:=All2.map h2;obtain⟨v,h5,h6⟩:=h4 j.toNat xs[j.toNat] (yGe hk);refine L.val (hd.gd hg) hb (v:=v) (fun ac ha=>?_) (q _ h6);have hjm:j<(m:Int):=by omega
  simp [execOp,Instr.index,ha.ev h1,ha.ev (hd.evl hy),asIntOf,run_underlying hu,h0,hjm,hN.sz,part,hN.agg,h5]
def sadd(a b:ByteArray):Option ByteArray:=if a.size+b.size≤1000000 then some (a++b) else none
theorem O.sad2{a b z:ByteArray}(hg:Gu ops σ g)(hx:σ.ev x=some (VL (.string a)))(hy:σ.ev y=some (VL (.string b)))(hz:sadd a b=some z)(hb:Nat.blt d n=true):Ox K C P n ops ⟨some d,.binOp .add T x y U,ty,pos,af,g⟩ σ (F1 d (VL (.string z))):=by
 unfold sadd at hz;split at hz
 ·rename_i h;cases hz;exact O.sad hg hx hy h hb
 ·cases hz
theorem O.lenM{κ γ:Type}{kv:κ→Value}{r:Rep γ}{m:List (κ×γ)}{kt et:TypeId}(hu:P.underlying T=some (.map kt et))(hg:Gu ops σ g)(hx:Rm K C σ x kv r m)(hb:Nat.blt d n=true):Ox K C P n ops ⟨some d,.call { callee:= .builtin .len,args:= #[x],argTypes:= #[T] },ty,pos,af,g⟩ σ (F1 d (VL (.int .i64 (m.length:Int)))):=
 Ox.pure fun _ _ _ β s e hd q=>by
  obtain⟨a,h1,h2⟩:=hx β s e hd;refine L.val (hd.gd hg) hb (v:= .int .i64 (m.length:Int)) (fun ac ha=>?_) (q _ ⟨rfl,rfl⟩);rcases h2 with ⟨rfl,rfl⟩|⟨t,T2,cap,h3⟩
  ·simp [execOp,resolve,ha.ev h1,Builtin.len_,run_underlying hu,invoke,builtin,goInt]
  ·obtain ⟨b,es,clock,rfl,h5,_,h6,_⟩:=h3.is;have hgo:(getObj b).run P s.w= .ok (.map es.toArray clock) s.w:=by simp [getObj,Sem.run,h5]
   have hl:es.length=m.length:=by rw [h6.len,yLm]
   simp [execOp,resolve,ha.ev h1,Builtin.len_,run_underlying hu,invoke,builtin,goInt,hgo,hl]
end
section
variable{K:Kx}{C:Cx}{Φ:Fr}{P:Program}{Q:Exit→Act→World→Prop}{n:Nat}{σ:Sx}
theorem WE.join6{A B D G H A2:Type}{x' y':Code}(J:A→B→D→G→H→A2→Prop)(F:A→B→D→G→H→A2→Sx)(hy:∀a0 a1 a2 a3 a4 a5,J a0 a1 a2 a3 a4 a5→WE K C Φ P Q n y' (F a0 a1 a2 a3 a4 a5))(h:(∀a0 a1 a2 a3 a4 a5,J a0 a1 a2 a3 a4 a5→WX K C Φ (Exit.then (y'.wpIn Φ.f 2 P Q) Q) n .normal (F a0 a1 a2 a3 a4 a5))→WE K C Φ P (Exit.then (y'.wpIn Φ.f 2 P Q) Q) n x' σ):WE K C Φ P Q n (.seq x' y') σ:=WE.seq (h fun a0 a1 a2 a3 a4 a5 j=>WX.seqN (hy a0 a1 a2 a3 a4 a5 j))
end
theorem I3{p:(Nat→Value)→Sig→Value→Prop}:∀β s v,p β s v→p β s v:=fun _ _ _ h=>h
theorem I4{p:(Nat→Value)→Sig→Nat→Value→Prop}:∀β s t v,p β s t v→p β s t v:=fun _ _ _ _ h=>h
section
variable{K:Kx}{C:Cx}{Φ:Fr}{P:Program}{Q:Exit→Act→World→Prop}{n:Nat}{σ:Sx}{β:Nat→Value}{s:Sig}{e:List (Nat×Value)}
theorem All2.mvb{i m:Nat}(hb:∀j,j<m→(upB β m (β i)) j=β j):∀{l:List LV} {vs:List Value} (k:Nat),l[k]? =some (lH i)→(∀j,j∈refsL l→j<m)→All2 β s l vs→All2 (upB β m (β i)) s (l.set k (lH m)) vs
 | [],_,_,h,_,_=>by cases h
 | x::l,_,0,h,hr,⟨v,us,h1,h2,e⟩=>by
  cases h;exact⟨v,us,⟨h1.1.trans y6V.symm,h1.2⟩,h2.mono (Le.refl _) fun j hj=>hb j (hr j (yMr _ hj)),e⟩
 | x::l,_,k+1,h,hr,⟨v,us,h1,h2,e⟩=>⟨v,us,x.mono (fun j hj=>hb j (hr j (yMl _ hj))) (Le.refl _) h1,All2.mvb hb k (by simpa using h) (fun j hj=>hr j (yMr _ hj)) h2,e⟩
theorem Den.mvb{i b:Nat}{o:HO}{l:List LV}(ho:aget σ.ob i=some (.hp o))(hbx:aget σ.ob b=some (.bx T l))(hk:l[k]? =some (lH i))(hm:K.may i=true)(hd:Den K C σ β s e):
  Den K C ⟨σ.sl,(σ.n,.hp o)::(b,.bx T (l.set k (lH σ.n)))::(i,.u)::σ.ob,σ.n+1⟩ (upB β σ.n (β i)) (s.re (C.tg i) (C.tg σ.n)) e:=by
 have hkm:=hd.m;have hi:=(hd.fo _ _ ho).1;have hib:b≠i:=fun e=>by subst e;rw [ho] at hbx;cases hbx
 have hb:∀j,j<σ.n→(upB β σ.n (β i)) j=β j:=fun j hj=>y6i (by omega);have hmv:=Sig.re_mv (t:=C.tg i) (t':=C.tg σ.n) s;have h0:¬One (C.tg i) 0:=fun e=>by have:0=C.tg i:=e;have:=hd.ok.tpos i;omega
 have hl:=hmv.le h0;refine⟨hd.ok,hd.mv.trans (hmv.one (hd.ok.up hm)),fun j hj=>(hb j (by omega)).trans (hd.b0 j hj),by show K.m≤σ.n+1;omega,fun d x hx=>?_,fun j q hq=>?_,fun d x hx j hj=>?_,fun j q hq=>?_⟩
 ·obtain ⟨v,g1,g2⟩:=hd.sl d x hx;exact⟨v,g1,SV.mono hl (fun j hj=>hb j (hd.fs d x hx j hj)) g2⟩
 ·rcases yf hq with ⟨rfl,rfl⟩|⟨hn1,hq⟩
  ·have:=hd.ob _ _ ho;rw [y6V];exact o.mvt hl rfl (fun b hb=>by show(if s.tag b=C.tg i then C.tg σ.n else s.tag b)=_;rw [iP hb]) this
  ·rcases yf hq with ⟨rfl,rfl⟩|⟨hn2,hq⟩
   ·obtain ⟨bk,vs,e1,e2,e3⟩:=hd.ob _ _ hbx;refine⟨bk,vs,by rw [hb b (hd.fo _ _ hbx).1];exact e1,e2.mv hmv fun e=>hib (hd.ok.inj e),?_⟩;exact All2.mono hl (fun _ _=>rfl) (All2.mvb hb k hk (hd.fo _ _ hbx).2 e3)
   ·rcases yf hq with ⟨rfl,rfl⟩|⟨hn3,hq⟩
    ·trivial
    ·rw [hb j (hd.fo _ _ hq).1];exact Ob.mv hmv (fun e=>hn3 (hd.ok.inj e).symm) h0 (fun i hi=>hb i ((hd.fo _ _ hq).2 i hi)) (hd.ob j q hq)
 ·have:=hd.fs d x hx j hj;show j<σ.n+1;omega
 ·show j<σ.n+1∧∀i,i∈q.refs→i<σ.n+1;rcases yf hq with ⟨rfl,rfl⟩|⟨hn1,hq⟩
  ·exact ⟨by omega,fun j hj=>by cases hj⟩
  ·rcases yf hq with ⟨rfl,rfl⟩|⟨hn2,hq⟩
   ·exact ⟨by have:=(hd.fo _ _ hbx).1;omega,ya1 k (hd.fo _ _ hbx).2⟩
   ·rcases yf hq with ⟨rfl,rfl⟩|⟨hn3,hq⟩
    ·exact ⟨by omega,fun j hj=>by cases hj⟩
    ·exact ⟨by have:=(hd.fo _ _ hq).1;omega,fun i hi=>by have:=(hd.fo _ _ hq).2 i hi;omega⟩
theorem WE.mvb{c:Code}(i b k:Nat){o:HO}{l:List LV}(ho:aget σ.ob i=some (.hp o))(hbx:aget σ.ob b=some (.bx T l))(hk:l[k]? =some (lH i))(hm:K.may i=true)(h:WE K C Φ P Q n c ⟨σ.sl,(σ.n,.hp o)::(b,.bx T (l.set k (lH σ.n)))::(i,.u)::σ.ob,σ.n+1⟩):WE K C Φ P Q n c σ:=fun β s e hd=>h (upB β σ.n (β i)) (s.re (C.tg i) (C.tg σ.n)) e (hd.mvb ho hbx hk hm)
end
@[reducible] def tT :Nat→List Bool
 | 0=> []
 | n+1=>oT::tT n
@[reducible] def tA :Nat→List Bool→List Bool
 | 0,l=>l
 | n+1,l=>oT::tA n l
@[reducible] def fA :Nat→List Bool→List Bool
 | 0,l=>l
 | n+1,l=>oF::fA n l
theorem yfz{f2:List Eff}{l:List (Nat×SV)}:∀{m:List Bool} {f1:List Eff},m.length≤f1.length→muM m (f1++f2) l=muM m f1 l
 | [],_,_=>rfl
 | _::_,[],h=>absurd h (Nat.not_succ_le_zero _)
 | b::m,f::fs,h=>by
  have:=yfz (f2:=f2) (l:=l) (m:=m) (f1:=fs) (Nat.le_of_succ_le_succ h);simp only [List.cons_append,muM,this]
theorem yfA{f2:List Eff}{l:List (Nat×Ob)}:∀{m:List Bool} {f1:List Eff},m.length≤f1.length→muO m (f1++f2) l=muO m f1 l
 | [],_,_=>rfl
 | _::_,[],h=>absurd h (Nat.not_succ_le_zero _)
 | b::m,f::fs,h=>by
  have:=yfA (f2:=f2) (l:=l) (m:=m) (f1:=fs) (Nat.le_of_succ_le_succ h);simp only [List.cons_append,muO,this]
def lenOk(k:Nat)(ms:List (Nat×List Bool)):Bool:=ms.all fun m=>Nat.ble m.2.length k
section
variable{K:Kx}{C:Cx}{P:Program}{n:Nat}{ops:Array Oper}{σ:Sx}
theorem Wst.pre{all f2:List Eff}:∀{l:List Oper} {ms:List (Nat×List Bool)} {fs:List Eff},lenOk all.length ms=true→Wst K C P n ops all σ ms fs l→Wst K C P n ops (all++f2) σ ms fs l
 | [],ms,fs,_,_=>by cases ms <;> cases fs <;> trivial
 | o::os,m::ms,f::fs,hm,h=>by
  simp only [lenOk,List.all_cons,yAe] at hm;have hl:=yNl hm.1;refine⟨?_,Wst.pre hm.2 h.2⟩;have:muS σ (all++f2) m.2 m.1=muS σ all m.2 m.1:=by unfold muS;rw [yfz hl,yfA hl]
  rw [this];exact h.1
 | _::_,[],_,_,h=>by cases h
 | _::_,_::_,[],_,h=>by cases h
theorem Wst.app{all:List Eff}:∀{l l2:List Oper} {ms ms2:List (Nat×List Bool)} {fs fs2:List Eff},ms.length=l.length→fs.length=l.length→Wst K C P n ops all σ ms fs l→Wst K C P n ops all σ ms2 fs2 l2→Wst K C P n ops all σ (ms++ms2) (fs++fs2) (l++l2)
 | [],_,[],_,[],_,_,_,_,h2=>h2
 | o::os,_,m::ms,_,f::fs,_,h,h',h1,h2=>⟨h1.1,Wst.app (Nat.succ.inj h) (Nat.succ.inj h') h1.2 h2⟩
 | [],_,_::_,_,_,_,h,_,_,_=>by cases h
 | [],_,[],_,_::_,_,_,h,_,_=>by cases h
 | _::_,_,[],_,_,_,h,_,_,_=>by cases h
 | _::_,_,_::_,_,[],_,_,h,_,_=>by cases h
def preOk(k N:Nat)(ms:List (Nat×List Bool))(fs:List Eff):Bool:=Nat.ble k N&&(Nat.beq ms.length k&&(Nat.beq fs.length k&&lenOk fs.length ms))
theorem Wst.fin{l:List Oper}{ms2:List (Nat×List Bool)}{fs2:List Eff}(hp:Wst K C P n ops fs1 σ ms1 fs1 (l.take k))(h2:Wst K C P n ops (fs1++fs2) σ ms2 fs2 (l.drop k))(hk:preOk k l.length ms1 fs1=true):Wst K C P n ops (fs1++fs2) σ (ms1++ms2) (fs1++fs2) l:=by
 simp only [preOk,yAe] at hk;obtain⟨h0,h1,h3,h4⟩:=hk;have h0:=yNl h0;have h1:=yNb h1;have h3:=yNb h3;have:=Wst.app (l:=l.take k) (l2:=l.drop k) (by rw [yLt];omega) (by rw [yLt];omega) (hp.pre (f2:=fs2) h4) h2;rwa [List.take_append_drop] at this
theorem Wst.mid{l:List Oper}{j:Nat}{ms2:List (Nat×List Bool)}{fs2:List Eff}(hp:Wst K C P n ops fs1 σ ms1 fs1 (l.take k))(h2:Wst K C P n ops (fs1++fs2) σ ms2 fs2 ((l.take j).drop k))(hk:(Nat.ble k j&&preOk k l.length ms1 fs1)=true):Wst K C P n ops (fs1++fs2) σ (ms1++ms2) (fs1++fs2) (l.take j):=by
 rw [yAe] at hk;have hkj:=yNl hk.1;have hk:=hk.2;simp only [preOk,yAe] at hk;obtain⟨h0,h1,h3,h4⟩:=hk;have h0:=yNl h0;have h1:=yNb h1;have h3:=yNb h3;have e:l.take k=(l.take j).take k:=by rw [List.take_take,Nat.min_eq_left hkj]
 rw [e] at hp;have hl:(l.take j).length≥k:=by rw [yLt];omega
 have:=Wst.app (l:=(l.take j).take k) (l2:=(l.take j).drop k) (by rw [yLt];omega) (by rw [yLt];omega) (hp.pre (f2:=fs2) h4) h2;rwa [List.take_append_drop] at this
end
section
variable{K:Kx}{C:Cx}{Φ:Fr}{P:Program}{Q:Exit→Act→World→Prop}{n:Nat}{σ:Sx}
theorem WE.drP{id:Nat}{l:List Oper}(k:Nat)(ms:List (Nat×List Bool))(fs:List Eff)(hs:Wst K C P n l.toArray fs σ ms fs (l.take k))(h:Wst K C P n l.toArray fs σ ms fs (l.take k)→WE K C Φ P Q n (.region id l.toArray true) σ):WE K C Φ P Q n (.region id l.toArray true) σ:=h hs
theorem WE.drX{id:Nat}{l:List Oper}(hp:Wst K C P n l.toArray fs1 σ ms1 fs1 (l.take k))(j:Nat)(ms:List (Nat×List Bool))(fs:List Eff)(hs:Wst K C P n l.toArray (fs1++fs) σ ms fs ((l.take j).drop k))(hk:(Nat.ble k j&&preOk k l.length ms1 fs1)=true)(h:Wst K C P n l.toArray (fs1++fs) σ (ms1++ms) (fs1++fs) (l.take j)→WE K C Φ P Q n (.region id l.toArray true) σ):WE K C Φ P Q n (.region id l.toArray true) σ:=h (hp.mid hs hk)
theorem WE.drF{id:Nat}{l:List Oper}(hp:Wst K C P n l.toArray fs1 σ ms1 fs1 (l.take k))(ms:List (Nat×List Bool))(fs:List Eff)(τ:Sx)(hs:Wst K C P n l.toArray (fs1++fs) σ ms fs (l.drop k))(hok:(preOk k l.length ms1 fs1&&(smp (fs1++fs) σ&&(nsOk (fs1++fs) σ.n (ms1++ms)&&y7M P K ((ms1++ms).map fun m=>ixs m.2 0) (fs1++fs) σ.n l.toArray)))=true)(hτ:τ.is K (muS σ (fs1++fs) (List.replicate l.length true) (muK (List.replicate l.length true) (fs1++fs) σ.n)) [])(h0:WX K C Φ Q n .normal τ):WE K C Φ P Q n (.region id l.toArray true) σ:=by
 obtain⟨h1,h2⟩:=Bool.and_eq_true_iff.1 hok;exact .drw (ms1++ms) (fs1++fs) τ (hp.fin hs h1) h2 hτ h0
end
section
variable{K:Kx}{C:Cx}{P:Program}{n:Nat}{ops:Array Oper}{σ:Sx}{g:Option (Nat×Bool)}{d:Nat}{ty:TypeId}{pos:String}{af:Array Edge}
theorem All3.app{β:Nat→Value}{s:Sig}:∀{l l':List TV} {vs us:List Value},All3 β s l vs→All3 β s l' us→All3 β s (l++l') (vs++us)
 | [],_,_,_,h,h2=>by rw [show _= [] from h];exact h2
 | _::_,_,_,_,⟨v,us,h1,h2,e⟩,h3=>⟨v,_,h1,h2.app h3,by rw [e];rfl⟩
theorem O.caW{xs:List Operand}{K':Kx}{ys:List TV}{l0:List LV}{r r':SV}(ν:List Nat)(l:List (Nat×Ob))(nx:Option Nat)(hF:Fw P f K' av ob r ob')(hcf:Cf P f)(hv:σ.ev x=some (sL (lZ f l0)))(hc:c.callee= .value x)(hca:c.args=xs.toArray)(hg:Gu ops σ g)(hx:σ.evs xs=some ys)
  (ha:ys++l0.map (fun x=>⟨false,[x]⟩)=av.map (TV.ren fun i=>ν.getD i 0)) (hok:y7q K' σ.n ν l ob' r=true) (hol:ob.length=K'.m) (hI:inG σ.ob (fun i=>ν.getD i 0) 0 ob=inS (fun i=>ν.getD i 0) ob) (hO:OutL (fun i=>ν.getD i 0) ob' l) (hr:∀β s v,r.p (fun i=>β (ν.getD i 0)) s v→r'.p β s v) (hb:Nat.blt d n=true):
  Ox K C P n ops ⟨some d,.call c,ty,pos,af,g⟩ σ (callE (some (d,r')) ν l nx):=fun Φ Q os β s e hd k=>by
 obtain⟨v,h0,vs0,h4,rfl⟩:=hd.evv hv;obtain⟨vs,h1,h2⟩:=hd.evs hx;have h3:All3 β s (av.map (TV.ren fun i=>ν.getD i 0)) (vs++vs0):=ha▸h2.app (All3.of2 h4);have h5:=ybB hd hF hok (fun _ _ _ h=>h.ren') (InL.of hI) hol h3;rw [show (vs++vs0).toArray= #[]++vs.toArray++vs0.toArray by simp] at h5;refine L.fvc hcf hc hca (hd.gd hg) h0 h1 h5 hb fun v s' m hp=>?_;obtain⟨β'',g1,g2,g2',g3,g4⟩:=y9Z (nx:=nx) hd.ok hok hO m hp;exact k β'' s' _ ⟨g2,g2',g3,fun d' hn=>Env.get_put fun e=>hn r' (by rw [e];rfl),fun d' x' ee=>(by cases ee;exact⟨v,by simp [Env.get],hr _ _ _ g1⟩),g4⟩
theorem WX.ou{Φ:Fr}{Q:Exit→Act→World→Prop}{x:Exit}(i:Nat)(hi:Nat.blt i σ.n=true)(h:WX K C Φ Q n x ⟨σ.sl,(i,.u)::σ.ob,σ.n⟩):WX K C Φ Q n x σ:=fun β s e hd=>h β s e ⟨hd.ok,hd.mv,hd.b0,hd.m,hd.sl,fun j q hq=>by
 rcases yf hq with ⟨rfl,rfl⟩|⟨_,hq⟩
 ·trivial
 ·exact hd.ob j q hq,hd.fs,fun j q hq=>by
 rcases yf hq with ⟨rfl,rfl⟩|⟨_,hq⟩
 ·exact ⟨by simpa using hi,fun k hk=>by cases hk⟩
 ·exact hd.fo j q hq⟩
end
section
variable{K:Kx}{C:Cx}{P:Program}{Φ:Fr}{Q:Exit→Act→World→Prop}{n:Nat}{ops:Array Oper}{os:List Oper}{σ:Sx}{d:Nat}{ty:TypeId}{pos:String}{af:Array Edge}
theorem V.fa{f o i:Nat}(hF:FA P S f o)(h:(σ.ev x,Nat.blt d n,(F1 d (sL (lP i (off+o)))).ok K σ.n)=(some (sL (lP i off)),true,true))(h2:V K C Φ P Q n ops os (σ.eff (F1 d (sL (lP i (off+o)))))):V K C Φ P Q n ops (⟨some d,.fieldAddr S x f,ty,pos,af,none⟩::os) σ:=by
 simp only [Prod.mk.injEq] at h;exact .op (O.faP hF .no h.1 h.2.1) h.2.2 h2
theorem V.fe{y:α}{f o:Nat}(hF:FA P S f o)(h:(σ.ev x,Nat.blt d n,(F1 d (sL (lE r y (off+o)))).ok K σ.n)=(some (sL (lE r y off)),true,true))(h2:V K C Φ P Q n ops os (σ.eff (F1 d (sL (lE r y (off+o)))))):V K C Φ P Q n ops (⟨some d,.fieldAddr S x f,ty,pos,af,none⟩::os) σ:=by
 simp only [Prod.mk.injEq] at h;exact .op (O.faE hF .no h.1 h.2.1) h.2.2 h2
theorem V.fq{f o:Nat}{l:List LV}(hF:FA P S f o)(h:(σ.ev x,Nat.blt d n,(F1 d (sL (lQ T l (off+o)))).ok K σ.n)=(some (sL (lQ T l off)),true,true))(h2:V K C Φ P Q n ops os (σ.eff (F1 d (sL (lQ T l (off+o)))))):V K C Φ P Q n ops (⟨some d,.fieldAddr S x f,ty,pos,af,none⟩::os) σ:=by
 simp only [Prod.mk.injEq] at h;exact .op (O.faQ hF .no h.1 h.2.1) h.2.2 h2
theorem V.lb{y:LV}{l:List LV}{i:Nat}(hT:NAg P T)(h:(σ.ev x,aget σ.ob i,l[off]?,Nat.blt d n,(F1 d (sL y)).ok K σ.n)=(some (sL (lP i off)),some (.bx T' l),some y,true,true))(h2:V K C Φ P Q n ops os (σ.eff (F1 d (sL y)))):V K C Φ P Q n ops (⟨some d,.load T x,ty,pos,af,none⟩::os) σ:=by
 simp only [Prod.mk.injEq] at h;exact .op (O.ld hT .no h.1 (.B h.2.1) h.2.2.1 h.2.2.2.1) h.2.2.2.2 h2
theorem V.le{y:LV}{l:List LV}(hT:NAg P T)(hl:Lv r z l)(h:(σ.ev x,l[off]?,Nat.blt d n,(F1 d (sL y)).ok K σ.n)=(some (sL (lE r z off)),some y,true,true))(h2:V K C Φ P Q n ops os (σ.eff (F1 d (sL y)))):V K C Φ P Q n ops (⟨some d,.load T x,ty,pos,af,none⟩::os) σ:=by
 simp only [Prod.mk.injEq] at h;exact .op (O.ld hT .no h.1 (.E hl) h.2.1 h.2.2.1) h.2.2.2 h2
theorem V.lq{y:LV}{l:List LV}(hT:NAg P T)(h:(σ.ev x,l[off]?,Nat.blt d n,(F1 d (sL y)).ok K σ.n)=(some (sL (lQ T' l off)),some y,true,true))(h2:V K C Φ P Q n ops os (σ.eff (F1 d (sL y)))):V K C Φ P Q n ops (⟨some d,.load T x,ty,pos,af,none⟩::os) σ:=by
 simp only [Prod.mk.injEq] at h;exact .op (O.ld hT .no h.1 .Q h.2.1 h.2.2.1) h.2.2.2 h2
theorem V.st{i o m:Nat}{l:List LV}{v:TV}(hT:∀w,(sizeOf T).run P w= .ok m w)(h:(σ.ev x,aget σ.ob i,σ.ev y,v.l.length,Nat.ble (o+m) l.length,(FO i (.bx T' (stL l o v.l))).ok K σ.n)=(some (sL (lP i o)),some (.bx T' l),some (.v v),m,true,true))(h2:V K C Φ P Q n ops os (σ.eff (FO i (.bx T' (stL l o v.l))))):V K C Φ P Q n ops (⟨none,.store T x y,ty,pos,af,none⟩::os) σ:=by
 simp only [Prod.mk.injEq] at h;exact .op (O.st hT .no h.1 h.2.1 h.2.2.1 h.2.2.2.1 h.2.2.2.2.1) h.2.2.2.2.2 h2
theorem V.ln{E:TypeId}{m:Nat}(hT:Sl P T E m)(h:(σ.ev x,Nat.blt d n,(F1 d (VL (.int .i64 (xs.length:Int)))).ok K σ.n)=(some (sL (lF r xs)),true,true))(h2:V K C Φ P Q n ops os (σ.eff (F1 d (VL (.int .i64 (xs.length:Int)))))):V K C Φ P Q n ops (⟨some d,.call { callee:= .builtin .len,args:= #[x],argTypes:= #[T] },ty,pos,af,none⟩::os) σ:=by
 simp only [Prod.mk.injEq] at h;exact .op (O.len hT .no h.1 h.2.1) h.2.2 h2
theorem V.ex{l:List TV}{i:Nat}{y:TV}(h:(σ.ev x,l[i]?,Nat.blt d n,(F1 d (.v y)).ok K σ.n)=(some (.tp l),some y,true,true))(h2:V K C Φ P Q n ops os (σ.eff (F1 d (.v y)))):V K C Φ P Q n ops (⟨some d,.extract x i,ty,pos,af,none⟩::os) σ:=by
 simp only [Prod.mk.injEq] at h;exact .op (O.ex .no h.1 h.2.1 h.2.2.1) h.2.2.2 h2
theorem V.al{z:Value}(i:Nat)(hz:(P.info? T).bind (·.zero)=some z)(h:(Nat.ble σ.n i,z.cells.toList.all Value.oneCell',Nat.blt d n,(FN d i (lP i 0) (.bx T (z.cells.toList.map lV))).ok K σ.n)=(true,true,true,true))(h2:V K C Φ P Q n ops os (σ.eff (FN d i (lP i 0) (.bx T (z.cells.toList.map lV))))):V K C Φ P Q n ops (⟨some d,.alloc T,ty,pos,af,none⟩::os) σ:=by
 simp only [Prod.mk.injEq] at h;exact .op (O.al i h.1 hz h.2.1 .no h.2.2.1) h.2.2.2 h2
theorem V.bo{y:TV}(i:Nat)(h:(Nat.ble σ.n i,σ.ev x,ltA σ.n (refsL y.l),Nat.blt d n,(FN d i (lP i 0) (.bx T y.l)).ok K σ.n)=(true,some (.v y),true,true,true))(h2:V K C Φ P Q n ops os (σ.eff (FN d i (lP i 0) (.bx T y.l)))):V K C Φ P Q n ops (⟨some d,.box T x,ty,pos,af,none⟩::os) σ:=by
 simp only [Prod.mk.injEq] at h;exact .op (O.box i h.1 .no h.2.1 h.2.2.1 h.2.2.2.1) h.2.2.2.2 h2
theorem V.ix{i:Operand}{k:IntKind}{y:α}(hS:Sl P T U r.sz)(hy:idx xs j=some y)(h:(σ.ev x,σ.ev i,Nat.blt d n,(F1 d (sL (lE r y 0))).ok K σ.n)=(some (sL (lF r xs)),some (VL (.int k j)),true,true))(h2:V K C Φ P Q n ops os (σ.eff (F1 d (sL (lE r y 0))))):V K C Φ P Q n ops (⟨some d,.indexAddr T x i,ty,pos,af,none⟩::os) σ:=by
 simp only [Prod.mk.injEq] at h;exact .op (O.ix hS .no h.1 h.2.1 hy h.2.2.1) h.2.2.2 h2
theorem V.c0{xs:List Operand}{r:SV}(hF:Fw P f ⟨0,[]⟩ av [] r [])(hcf:Cf P f)(h:(c.callee,c.args,σ.evs xs,r.refs,Nat.blt d n,(F1 d r).ok K σ.n)=(.value (.func f),xs.toArray,some av,[],true,true))(h2:V K C Φ P Q n ops os (σ.eff (F1 d r))):V K C Φ P Q n ops (⟨some d,.call c,ty,pos,af,none⟩::os) σ:=by
 simp only [Prod.mk.injEq] at h;exact .op (O.ca0 hF hcf h.1 h.2.1 .no h.2.2.1 h.2.2.2.1 h.2.2.2.2.1) h.2.2.2.2.2 h2
theorem V.pT{z:Operand}{v:SV}(h:(σ.ev x,σ.ev y,Nat.blt d n,(F1 d v).ok K σ.n)=(some (VL (.bool true)),some v,true,true))(h2:V K C Φ P Q n ops os (σ.eff (F1 d v))):V K C Φ P Q n ops (⟨some d,.pick x y z,ty,pos,af,none⟩::os) σ:=by
 simp only [Prod.mk.injEq] at h;exact .op (O.pkT .no h.1 rfl h.2.1 h.2.2.1) h.2.2.2 h2
theorem V.pF{z:Operand}{v:SV}(h:(σ.ev x,σ.ev z,Nat.blt d n,(F1 d v).ok K σ.n)=(some (VL (.bool false)),some v,true,true))(h2:V K C Φ P Q n ops os (σ.eff (F1 d v))):V K C Φ P Q n ops (⟨some d,.pick x y z,ty,pos,af,none⟩::os) σ:=by
 simp only [Prod.mk.injEq] at h;exact .op (O.pkF .no h.1 rfl h.2.1 h.2.2.1) h.2.2.2 h2
theorem V.lg{p:LV}{l:List LV}{m:Nat}(l':List LV)(hT:Ag P T m)(hx:σ.ev x=some (sL p))(ha:At K C σ p l off)(h:((l.drop off).take m,l'.length,Nat.blt d n,(F1 d (AG l')).ok K σ.n)=(l',m,true,true))(h2:V K C Φ P Q n ops os (σ.eff (F1 d (AG l')))):V K C Φ P Q n ops (⟨some d,.load T x,ty,pos,af,none⟩::os) σ:=by
 simp only [Prod.mk.injEq] at h;exact .op (O.lg hT .no hx ha h.1 h.2.1 h.2.2.1) h.2.2.2 h2
theorem V.bu{pl:List (Nat×Nat)}{z:List Value}{xs:List (Nat×Operand)}{ps:List (Nat×List LV)}(l:List LV)(hP:Pl P T pl z)(h:(z.all Value.oneCell',σ.evp xs,fillS pl (z.map lV) ps,Nat.blt d n,(F1 d (AG l)).ok K σ.n)=(true,some ps,some l,true,true))(h2:V K C Φ P Q n ops os (σ.eff (F1 d (AG l)))):V K C Φ P Q n ops (⟨some d,.build T xs.toArray,ty,pos,af,none⟩::os) σ:=by
 simp only [Prod.mk.injEq] at h;exact .op (O.bu hP h.1 .no h.2.1 h.2.2.1 h.2.2.2.1) h.2.2.2.2 h2
theorem V.ns{y:Code}(h:WE K C Φ P Q n y σ):V K C Φ P (Exit.then (y.wpIn Φ.f 2 P Q) Q) n ops [] σ:= .nil (.seqN h)
theorem V.nr{id:Nat}{l:List Oper}{y:Code}(h:V K C Φ P (Exit.then (y.wpIn Φ.f 2 P Q) Q) n l.toArray l σ):V K C Φ P (Exit.then ((Code.seq (.region id l.toArray false) y).wpIn Φ.f 2 P Q) Q) n ops [] σ:= .nil (.seqN (.seq (.reg h)))
theorem WE.sr{id:Nat}{l:List Oper}{y:Code}(h:V K C Φ P (Exit.then (y.wpIn Φ.f 2 P Q) Q) n l.toArray l σ):WE K C Φ P Q n (.seq (.region id l.toArray false) y) σ:= .seq (.reg h)
theorem V.an{z:SV}{y:Code}(h:(σ.ev x,Nat.blt d n,(F1 d z).ok K σ.n)=(some z,true,true))(h2:WE K C Φ P Q n y (σ.eff (F1 d z))):V K C Φ P (Exit.then (y.wpIn Φ.f 2 P Q) Q) n ops (⟨some d,.assign x,ty,pos,af,none⟩::[]) σ:= .sa h (.ns h2)
theorem WE.cc{β:Type}{c:Operand}{x y:Code}{t:Bool}{A B:Option β}{r:β}(hm:(if t=true then A else B)=some r)(hx:σ.ev c=some (VL (.bool t)))(h1:A=some r→WE K C Φ P Q n x σ)(h2:B=some r→WE K C Φ P Q n y σ):WE K C Φ P Q n (.cond c x y) σ:=by
 rcases ifS hm with ⟨h,hm⟩|⟨h,hm⟩
 ·exact .cT hx h (h1 hm)
 ·exact .cF hx h (h2 hm)
end
theorem WX.rr{σ:Sx}{rs:List ResultVar}{l:List TV}{r:SV}(ρ:List Nat)(hr:fn.results=rs.toArray)(hv:Rw P σ rs l)(hok:endOk K ob'.length ρ=true)(hc:∀β s v,(retS l).p β s v→r.p (fun i=>β (ρ.getD i i)) s v)(hE:EndL σ (fun i=>ρ.getD i i) 0 ob'):WX K C Fr.o (bodyPost P fn (Fin K C P r ob')) n .ret σ:= .rt ρ (.inl rfl) hr hv hok hc hE
theorem Fw.mk2{r:SV}{c:Code}(hf:P.funcs[f]? =some fn)(hn:fn.ntmps=n)(h0:(fn.body,Nat.ble av.length n,ob.length)=(some c,true,K.m))(h:∀C:Cx,WE K C Fr.o P (bodyPost P fn (Fin K C P r ob')) n c ⟨Env.of3 0 av,Env.ofO 0 ob,K.m⟩)(h1:(ltA K.m (refsT av),ob.all (fun o=>ltA K.m o.refs))=(true,true)):Fw P f K av ob r ob':=by
 simp only [Prod.mk.injEq] at h0 h1;exact .mk' hf h0.1 hn h0.2.1 h0.2.2 h h1.1 h1.2
theorem oj{a b:α}(h:some a=some b):b=a:=(oi h).symm
@[reducible] def rwI(xs:LI):Ob:=ROW qI 3 xs
abbrev CF(f:FuncId):Prop:=Cf prog f
abbrev FAb(S:TypeId)(f o:Nat):Prop:=FA prog S f o
theorem cM (h : P.funcs[f]? = some fn)(hn : ((fn.name == "runtime.NumGoroutine"), fn.body.isNone) = (false, false)) : Cf P f := by
 simp only [Prod.mk.injEq] at hn;exact .mk h hn.1 hn.2
theorem fAm{fs:Array Field}(f o m:Nat){fd:Field}(h:P.underlying S=some (.struct fs))(hf:(fs[f]?,fd.offset)=(some fd,o))(hs:(Nat.blt 0 m,(P.info? fd.type).map (·.size))=(true,some m)):FA P S f o:=by
 simp only [Prod.mk.injEq] at hf hs;exact .mk h hf.1 hf.2 ⟨m,yNl hs.1,hs.2⟩
abbrev F0(f:FuncId)(av:List TV)(ob:List Ob)(r:SV)(ob':List Ob):Prop:=Fw prog f ⟨0,[]⟩ av ob r ob'
section
variable{K:Kx}{C:Cx}{P:Program}{Φ:Fr}{Q:Exit→Act→World→Prop}{n:Nat}{ops:Array Oper}{os:List Oper}{σ:Sx}{d:Nat}{ty:TypeId}{pos:String}{af:Array Edge}{j s:Nat}{b:Bool}
theorem V.no{i:Bool}(h:(σ.ev x,Nat.blt d n,(F1 d (VL (.bool (!i)))).ok K σ.n)=(some (VL (.bool i)),true,true))(h2:V K C Φ P Q n ops os (σ.eff (F1 d (VL (.bool (!i)))))):V K C Φ P Q n ops (⟨some d,.unOp .not T x,ty,pos,af,none⟩::os) σ:=by
 simp only [Prod.mk.injEq] at h;exact .op (O.not .no h.1 h.2.1) h.2.2 h2
theorem V.su(h:((ops[j]?).bind (·.dst),aget σ.sl q,Nat.blt d n,(F1 d (.tp [])).ok K σ.n)=(some q,some (.tp []),true,true))(h2:V K C Φ P Q n ops os (σ.eff (F1 d (.tp [])))):V K C Φ P Q n ops (⟨some d,op,ty,pos,af,some (j,b)⟩::os) σ:=by
 simp only [Prod.mk.injEq] at h;exact .op (O.skipU h.1 h.2.1 h.2.2.1) h.2.2.2 h2
theorem V.lh{E:TypeId}{m i:Nat}(hT:Sl P T E m)(h:(σ.ev x,aget σ.ob i,Nat.blt d n,(F1 d (VL (.int .i64 (xs.length:Int)))).ok K σ.n)=(some (sL (lH i)),some (ROW r U xs),true,true))(h2:V K C Φ P Q n ops os (σ.eff (F1 d (VL (.int .i64 (xs.length:Int)))))):V K C Φ P Q n ops (⟨some d,.call { callee:= .builtin .len,args:= #[x],argTypes:= #[T] },ty,pos,af,none⟩::os) σ:=by
 simp only [Prod.mk.injEq] at h;exact .op (O.lenH hT .no h.1 h.2.1 h.2.2.1) h.2.2.2 h2
theorem V.mg{y:SV}(h:((ops[j]?).bind (·.dst),aget σ.sl s,σ.ev x,Nat.blt d n,(F1 d y).ok K σ.n)=(some s,some (VL (.bool b)),some y,true,true))(h2:V K C Φ P Q n ops os (σ.eff (F1 d y))):V K C Φ P Q n ops (⟨some d,.move x,ty,pos,af,some (j,b)⟩::os) σ:=by
 simp only [Prod.mk.injEq] at h;exact .op (O.mv (.mk h.1 h.2.1) h.2.2.1 h.2.2.2.1) h.2.2.2.2 h2
theorem V.bg{op:BinOp}{k:IntKind}{i i':Int}{v:Value}(h:((ops[j]?).bind (·.dst),aget σ.sl s,σ.ev x,σ.ev y,y8v op k i i',Nat.blt d n,(F1 d (VL v)).ok K σ.n)=(some s,some (VL (.bool b)),some (VL (.int k i)),some (VL (.int k i')),some v,true,true))(h2:V K C Φ P Q n ops os (σ.eff (F1 d (VL v)))):V K C Φ P Q n ops (⟨some d,.binOp op T x y U,ty,pos,af,some (j,b)⟩::os) σ:=by
 simp only [Prod.mk.injEq] at h;exact .op (O.bi (.mk h.1 h.2.1) h.2.2.1 h.2.2.2.1 h.2.2.2.2.1 h.2.2.2.2.2.1) h.2.2.2.2.2.2 h2
theorem V.lbg{y:LV}{l:List LV}{i:Nat}(hT:NAg P T)(h:((ops[j]?).bind (·.dst),aget σ.sl s,σ.ev x,aget σ.ob i,l[off]?,Nat.blt d n,(F1 d (sL y)).ok K σ.n)=(some s,some (VL (.bool b)),some (sL (lP i off)),some (.bx T' l),some y,true,true))(h2:V K C Φ P Q n ops os (σ.eff (F1 d (sL y)))):V K C Φ P Q n ops (⟨some d,.load T x,ty,pos,af,some (j,b)⟩::os) σ:=by
 simp only [Prod.mk.injEq] at h;exact .op (O.ld hT (.mk h.1 h.2.1) h.2.2.1 (.B h.2.2.2.1) h.2.2.2.2.1 h.2.2.2.2.2.1) h.2.2.2.2.2.2 h2
theorem V.leg{y:LV}{l:List LV}(hT:NAg P T)(hl:Lv r z l)(h:((ops[j]?).bind (·.dst),aget σ.sl s,σ.ev x,l[off]?,Nat.blt d n,(F1 d (sL y)).ok K σ.n)=(some s,some (VL (.bool b)),some (sL (lE r z off)),some y,true,true))(h2:V K C Φ P Q n ops os (σ.eff (F1 d (sL y)))):V K C Φ P Q n ops (⟨some d,.load T x,ty,pos,af,some (j,b)⟩::os) σ:=by
 simp only [Prod.mk.injEq] at h;exact .op (O.ld hT (.mk h.1 h.2.1) h.2.2.1 (.E hl) h.2.2.2.1 h.2.2.2.2.1) h.2.2.2.2.2 h2
theorem V.fag{f o i:Nat}(hF:FA P S f o)(h:((ops[j]?).bind (·.dst),aget σ.sl s,σ.ev x,Nat.blt d n,(F1 d (sL (lP i (off+o)))).ok K σ.n)=(some s,some (VL (.bool b)),some (sL (lP i off)),true,true))(h2:V K C Φ P Q n ops os (σ.eff (F1 d (sL (lP i (off+o)))))):V K C Φ P Q n ops (⟨some d,.fieldAddr S x f,ty,pos,af,some (j,b)⟩::os) σ:=by
 simp only [Prod.mk.injEq] at h;exact .op (O.faP hF (.mk h.1 h.2.1) h.2.2.1 h.2.2.2.1) h.2.2.2.2 h2
theorem V.bf(zs:List α){T E m:Nat}{z:List Value}{xs:List (Nat×Operand)}{ps:List (Nat×List LV)}{l:List LV}(hB:Bs P T E m z)(h1:(z.all Value.oneCell',Nat.ble (k*m) 16777216,σ.evp xs,Nat.blt 0 (k*m),fillS (plK m k 0) (List.replicate k (z.map lV)).flatten ps)=(true,true,some ps,true,some l))(hc:Cv r l zs)(h:(zs.length,Nat.ble k 4294967296,Nat.blt d n,(F1 d (sL (lF r zs))).ok K σ.n)=(k,true,true,true))(h2:V K C Φ P Q n ops os (σ.eff (F1 d (sL (lF r zs))))):V K C Φ P Q n ops (⟨some d,.buildSlice T k xs.toArray,ty,pos,af,none⟩::os) σ:=by
 simp only [Prod.mk.injEq] at h h1;exact .op (O.bsF hB h1.1 h1.2.1 .no h1.2.2.1 h1.2.2.2.1 h1.2.2.2.2 hc h.1 h.2.1 h.2.2.1) h.2.2.2 h2
theorem V.cm{xs:List Operand}{K':Kx}{r r':SV}(ν:List Nat)(l:List (Nat×Ob))(nx:Option Nat)(hF:Fw P f K' av ob r ob')(hcf:Cf P f)(h:(c.callee,c.args,σ.evs xs,y7q K' σ.n ν l ob' r,ob.length,inG σ.ob (fun i=>ν.getD i 0) 0 ob,Nat.blt d n,(callE (some (d,r')) ν l nx).ok K σ.n)=(.value (.func f),xs.toArray,some (av.map (TV.ren fun i=>ν.getD i 0)),true,K'.m,inS (fun i=>ν.getD i 0) ob,true,true))(hO:OutL (fun i=>ν.getD i 0) ob' l)(hr:(fun β=>r.p (fun i=>β (ν.getD i 0)))=r'.p)(h2:V K C Φ P Q n ops os (σ.eff (callE (some (d,r')) ν l nx))):V K C Φ P Q n ops (⟨some d,.call c,ty,pos,af,none⟩::os) σ:=by
 simp only [Prod.mk.injEq] at h;exact .op (O.ca ν l nx hF hcf h.1 h.2.1 .no h.2.2.1 h.2.2.2.1 h.2.2.2.2.1 h.2.2.2.2.2.1 hO (fun β s v e=>cast (congrFun (congrFun (congrFun hr β) s) v) e) h.2.2.2.2.2.2.1) h.2.2.2.2.2.2.2 h2
theorem V.ap{ys zs:List α}{by_ j:Nat}(i:Nat)(hU:P.underlying T=some (.slice U))(hE:El P U r.sz by_)(hx:σ.ev x=some (sL (lH j)))(h:(Nat.ble by_ 32768,Nat.ble σ.n i,aget σ.ob j,Nat.blt d n,(FS d j i (lH i) (ROW r U zs)).ok K σ.n)=(true,true,some (ROW r U xs),true,true))(hy:Ry K C σ y r ys)(hl:app xs ys=some zs)(h2:V K C Φ P Q n ops os (σ.eff (FS d j i (lH i) (ROW r U zs)))):V K C Φ P Q n ops (⟨some d,.call { callee:= .builtin .append,args:= #[x,y],argTypes:= #[T,T] },ty,pos,af,none⟩::os) σ:=by
 simp only [Prod.mk.injEq] at h;exact .op (O.ap i hU hE h.1 h.2.1 .no hx h.2.2.1 hy hl h.2.2.2.1) h.2.2.2.2 h2
theorem V.s2{op':Op}{d':Nat}{ty':TypeId}{pos':String}{af':Array Edge}{j j' q':Nat}{b b' b1 b1':Bool}(h:((ops[j]?).bind (·.dst),aget σ.sl q,b',Nat.blt d n,(F1 d (.tp [])).ok K σ.n)=(some q,some (VL (.bool b')),!b,true,true))(h':((ops[j']?).bind (·.dst),aget (σ.eff (F1 d (.tp []))).sl q',b1',Nat.blt d' n,(F1 d' (.tp [])).ok K (σ.eff (F1 d (.tp []))).n)=(some q',some (VL (.bool b1')),!b1,true,true))(h2:V K C Φ P Q n ops os ((σ.eff (F1 d (.tp []))).eff (F1 d' (.tp [])))):V K C Φ P Q n ops (⟨some d,op,ty,pos,af,some (j,b)⟩::⟨some d',op',ty',pos',af',some (j',b1)⟩::os) σ:= .sk h (.sk h' h2)
theorem WE.sv{id:Nat}{z:SV}{l:List Oper}{y:Code}(h:(σ.ev x,Nat.blt d n,(F1 d z).ok K σ.n)=(some z,true,true))(h2:V K C Φ P (Exit.then (y.wpIn Φ.f 2 P Q) Q) n (⟨some d,.move x,ty,pos,af,none⟩::l).toArray l (σ.eff (F1 d z))):WE K C Φ P Q n (.seq (.region id (⟨some d,.move x,ty,pos,af,none⟩::l).toArray false) y) σ:= .sr (.mv h h2)
theorem WE.sn{y:Code}(h:WE K C Φ P Q n y σ):WE K C Φ P (Exit.then (y.wpIn Φ.f 2 P Q) Q) n .skip σ:= .skip (.seqN h)
theorem WE.xx{J J':Act→World→Prop}{id:Nat}(h:WX K C Φ Q n (.exit id) σ):WE K C Φ P (Exit.then J (Exit.then J' Q)) n (.exit id) σ:= .exit (.seqX (.seqX h))
theorem V.s0{τ:Sx}(h:V K C Φ P Q n ops os τ)(hs:τ.is K σ []):V K C Φ P Q n ops os σ:=h.sub [] hs
theorem WX.s0{x:Exit}{τ:Sx}(h:WX K C Φ Q n x τ)(hs:τ.is K σ []):WX K C Φ Q n x σ:=h.sub [] hs
end
theorem WX.r0{σ:Sx}{rs:List ResultVar}{l:List TV}{r:SV}(hr:fn.results=rs.toArray)(hv:Rw P σ rs l)(hok:endOk K 0 []=true)(hc:(retS l).p=r.p):WX K C Fr.o (bodyPost P fn (Fin K C P r [])) n .ret σ:= .rr [] hr hv hok (fun β s v h=>cast (congrFun (congrFun (congrFun hc β) s) v) h) trivial
theorem zK{σ:Sx}{j:Nat}{b b':Bool}(h:((ops[j]?).bind (·.dst),aget σ.sl q,b',Nat.blt d n)=(some q,some (VL (.bool b')),!b,true)):Ox K C P n ops ⟨some d,op,ty,pos,af,some (j,b)⟩ σ (F1 d (.tp [])):=by
 simp only [Prod.mk.injEq] at h;exact O.skip h.1 h.2.1 h.2.2.1 h.2.2.2
theorem zM{σ:Sx}{y:SV}(h:(σ.ev x,Nat.blt d n)=(some y,true)):Ox K C P n ops ⟨some d,.move x,ty,pos,af,none⟩ σ (F1 d y):=by
 simp only [Prod.mk.injEq] at h;exact O.mv .no h.1 h.2
theorem zB{σ:Sx}{i:Nat}{l:List LV}{y:LV}(hT:NAg P T)(h:(σ.ev x,aget σ.ob i,l[off]?,Nat.blt d n)=(some (sL (lP i off)),some (.bx U l),some y,true)):Ox K C P n ops ⟨some d,.load T x,ty,pos,af,none⟩ σ (F1 d (sL y)):=by
 simp only [Prod.mk.injEq] at h;exact O.ld hT .no h.1 (.B h.2.1) h.2.2.1 h.2.2.2
end
end Go.Proofs.YtfdeiphkmjdifaaGreatDoor
namespace Go.Proofs
open Go.Shelf
def Tryz.lays189_ren :Go.Shelf.Ren:=⟨fun|189=>60|125=>107|257=>136|128=>177|129=>178|294=>209|295=>210|296=>211|297=>212|298=>213|299=>214|216=>215|300=>216|301=>217|328=>271|329=>255|330=>256|331=>272|332=>273|215=>138|343=>305|n=>n,fun|28=>26|3=>3|46=>157|0=>0|51=>114|53=>248|4=>4|183=>241|182=>240|131=>129|5=>5|9=>9|218=>326|222=>330|228=>361|229=>288|n=>n,fun|n=>n⟩
theorem Tryz.lays189 :Go.Proofs.Lays.n189 Tryz.prog Tryz.lays189_ren:={
 mixed:=by kernel_rfl
 f125:=Tryz.func107.trans (congrArg some (by kernel_rfl))
 f128:=Tryz.func177.trans (congrArg some (by kernel_rfl))
 f129:=Tryz.func178.trans (congrArg some (by kernel_rfl))
 f189:=Tryz.func60.trans (congrArg some (by kernel_rfl))
 f215:=Tryz.func138.trans (congrArg some (by kernel_rfl))
 f216:=Tryz.func215.trans (congrArg some (by kernel_rfl))
 f257:=Tryz.func136.trans (congrArg some (by kernel_rfl))
 f294:=Tryz.func209.trans (congrArg some (by kernel_rfl))
 f295:=Tryz.func210.trans (congrArg some (by kernel_rfl))
 f296:=Tryz.func211.trans (congrArg some (by kernel_rfl))
 f297:=Tryz.func212.trans (congrArg some (by kernel_rfl))
 f298:=Tryz.func213.trans (congrArg some (by kernel_rfl))
 f299:=Tryz.func214.trans (congrArg some (by kernel_rfl))
 f300:=Tryz.func216.trans (congrArg some (by kernel_rfl))
 f301:=Tryz.func217.trans (congrArg some (by kernel_rfl))
 f328:=Tryz.func271.trans (congrArg some (by kernel_rfl))
 f329:=Tryz.func255.trans (congrArg some (by kernel_rfl))
 f330:=Tryz.func256.trans (congrArg some (by kernel_rfl))
 f331:=Tryz.func272.trans (congrArg some (by kernel_rfl))
 f332:=Tryz.func273.trans (congrArg some (by kernel_rfl))
 f343:=Tryz.func305.trans (congrArg some (by kernel_rfl))
 t0:=Tryz.underlying0
 a0:=Tryz.isAgg0
 z0:=Tryz.sizeOf0
 v0:=Tryz.zeroValue0
 t3:=Tryz.underlying3
 a3:=Tryz.isAgg3
 z3:=Tryz.sizeOf3
 v3:=Tryz.zeroValue3
 t4:=Tryz.underlying4
 a4:=Tryz.isAgg4
 z4:=Tryz.sizeOf4
 v4:=Tryz.zeroValue4
 t5:=Tryz.underlying5
 a5:=Tryz.isAgg5
 z5:=Tryz.sizeOf5
 v5:=Tryz.zeroValue5
 t9:=Tryz.underlying9
 a9:=Tryz.isAgg9
 z9:=Tryz.sizeOf9
 v9:=Tryz.zeroValue9
 t28:=Tryz.underlying26
 a28:=Tryz.isAgg26
 z28:=Tryz.sizeOf26
 v28:=Tryz.zeroValue26
 t46:=Tryz.underlying157
 a46:=Tryz.isAgg157
 z46:=Tryz.sizeOf157
 v46:=Tryz.zeroValue157
 t51:=Tryz.underlying114
 a51:=Tryz.isAgg114
 z51:=Tryz.sizeOf114
 v51:=Tryz.zeroValue114
 t53:=Tryz.underlying248
 a53:=Tryz.isAgg248
 z53:=Tryz.sizeOf248
 v53:=Tryz.zeroValue248
 t131:=Tryz.underlying129
 a131:=Tryz.isAgg129
 z131:=Tryz.sizeOf129
 v131:=Tryz.zeroValue129
 t182:=Tryz.underlying240
 a182:=Tryz.isAgg240
 z182:=Tryz.sizeOf240
 v182:=Tryz.zeroValue240
 t183:=Tryz.underlying241
 a183:=Tryz.isAgg241
 z183:=Tryz.sizeOf241
 v183:=Tryz.zeroValue241
 t218:=Tryz.underlying326
 a218:=Tryz.isAgg326
 z218:=Tryz.sizeOf326
 v218:=Tryz.zeroValue326
 t222:=Tryz.underlying330
 a222:=Tryz.isAgg330
 z222:=Tryz.sizeOf330
 v222:=Tryz.zeroValue330
 t228:=Tryz.underlying361
 a228:=Tryz.isAgg361
 z228:=Tryz.sizeOf361
 v228:=Tryz.zeroValue361
 t229:=Tryz.underlying288
 a229:=Tryz.isAgg288
 z229:=Tryz.sizeOf288
 v229:=Tryz.zeroValue288 }
open Go.RowKit Go.Sort Go.Lib in
theorem Tryz.slices_Sort_int(blk off cap:Nat)(zs:List Int)(w:World)(hH:Holds (Value.int .i64) w blk off zs.toArray)(hblk:blk<w.heap.size)(hsz:zs.length<4611686018427387904):
  Calls Tryz.prog 60 #[.slice (some ⟨blk,off,none⟩) zs.length cap] w fun e w'=>e= .returned (.tuple #[])∧∃n os,w'=grow (putRow (Value.int .i64) (Sort.ahead w n) blk off (zs.mergeSort fun x y=>decide (x≤y)).toArray) os:=Any.slices_Sort_int Tryz.lays189 blk off cap zs w hH hblk hsz
open Go.RowKit Go.Sort Go.Lib in
theorem Tryz.slices_Sort_int_none(p:Option Addr)(cap:Nat)(w:World):
  Calls Tryz.prog 60 #[.slice p 0 cap] w fun e w'=>e= .returned (.tuple #[])∧w'=w:=Any.slices_Sort_int_none Tryz.lays189 p cap w
end Go.Proofs
